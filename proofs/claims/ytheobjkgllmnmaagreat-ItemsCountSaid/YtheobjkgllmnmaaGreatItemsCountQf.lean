/-
  No statement is proved in this text. It holds a part of what the proof of ItemsCount needs.
-/
import Derived.Test.YtheobjkgllmnmaaGreatItemsCountQe
namespace Go.Proofs.YtheobjkgllmnmaaGreat
set_option maxRecDepth 100000
set_option linter.unusedVariables false
set_option linter.unusedSimpArgs false
section
open Go.RowKit
def Z1v (l:(List (List Int))):Tv:=.av (oL l)
abbrev VD (b:AF):List Cl:=[.i b.Layers,.i b.Outline.Kind,lst 7 AG.c b.Outline.Edges,.i b.Outline.R,lst 7 AE.c b.Parts,lst 2 A1.c b.Nets,vN,vN,vN,vN,vN,vN,vN,vN,vN]
def Z1w (b:AF):Blk:=.cells (VD b) 41
abbrev NP (b:AF):List Cl:=[.i b.Layers,.i b.Outline.Kind,lst 7 AG.c b.Outline.Edges,.i b.Outline.R,lst 7 AE.c b.Parts,lst 2 A1.c b.Nets,lst 6 AO.c [],lst 8 As.c [],lst 8 A0.c [],lst 5 Bb.c [],lst 4 Am.c [],lst 2 B8.c [],lst 20 BC.c [],lst 3 B4.c [],lst 3 Dw.c []]
abbrev Gp (b:AF):=AF.mk b.Layers b.Outline b.Parts b.Nets [] [] [] [] [] [] [] [] []
abbrev OZ:List Av:=[.one (.ptr 1000 0),.one (.ptr 1001 0)]
def Z1x (b:AF) (l:(List (List Int))):FuncId×List Av×Ef:=(95,(OZ:List Av).map (FM 1000 1000 1001 22),wqV 1000 22 [6,7,8,9,10,11,12,13,14] (NP b) 41 (.cells [lst 1 (fun x=>[.i x]) (AX l 4),.i 0] 117) (.av (.one (.s (CQ (Gp b) (AD.mk (AX l 4) 0)).1))) (.cells (AD.c (CQ (Gp b) (AD.mk (AX l 4) 0)).2) 117))
abbrev Z1y (b:AF) (l:(List (List Int))):AD:=(CQ (AF.mk b.Layers b.Outline b.Parts b.Nets [] [] [] [] [] [] [] [] []) (AD.mk (AX l 4) 0)).2
def Z1z (b:AF) (l:(List (List Int))):Tv:=.av (.one (.s (CQ (Gp b) (AD.mk (AX l 4) 0)).1))
def Z1A (b:AF) (l:(List (List Int))):FuncId×List Av×Ef:=(42,(OY:List Av).map (Bz 1000 22),wrI 22 (.cells (AD.c (Z1y b l)) 117) (tI (AA (Z1y b l) 6).1) (.cells (AD.c (AA (Z1y b l) 6).2) 117))
def Z1B (b:AF) (l:(List (List Int))):Blk:=.cells (AD.c (AA (Z1y b l) 6).2) 117
abbrev E2:List Av:=[.one (.ptr 1000 0),.one (.i 3)]
def Z1C (l:(List (List Int))):FuncId×List Av×Ef:=(42,(E2:List Av).map (Bz 1000 75),wrI 75 (.cells [lst 1 (fun x=>[.i x]) (AX l 5),.i 0] 117) (tI (AA (AD.mk (AX l 5) 0) 3).1) (.cells (AD.c (AA (AD.mk (AX l 5) 0) 3).2) 117))
def Z1D (l:(List (List Int))):Tv:=tI (AA (AD.mk (AX l 5) 0) 3).1
def Z1E (l:(List (List Int))):Blk:=.cells (AD.c (AA (AD.mk (AX l 5) 0) 3).2) 117
abbrev KY (l:List (List Int)):=AA (AD.mk (AX l 6) 0) 3
def Z1F (l:(List (List Int))):FuncId×List Av×Ef:=(42,(E2:List Av).map (Bz 1000 189),wrI 189 (.cells [lst 1 (fun x=>[.i x]) (AX l 6),.i 0] 117) (tI (KY l).1) (.cells (AD.c (KY l).2) 117))
def Z1G (l:(List (List Int))):Blk:=.cells (AD.c (KY l).2) 117
abbrev KK (b:AF):=AF.mk b.Layers b.Outline b.Parts [] [] [] [] [] [] [] [] [] []
abbrev OW (b:AF) (types:List AM):List Av:=[.agg (jX b),.one (Fw types),.one (.ptr 1000 0)]
def Z1H (b:AF) (types:(List AM)) (l:(List (List Int))):FuncId×List Av×Ef:=(97,((OW b types):List Av).map (Bz 1000 189),wrI 189 (.cells (AD.c (KY l).2) 117) (.av (.agg (AB.c (Bs (KK b) types (KY l).2).1))) (.cells (AD.c (Bs (KK b) types (KY l).2).2) 117))
abbrev Z1I (b:AF) (types:(List AM)) (l:(List (List Int))):AD:=(Bs (AF.mk b.Layers b.Outline b.Parts [] [] [] [] [] [] [] [] [] []) types (AA (AD.mk (AX l 6) 0) 3).2).2
def Z1J (b:AF) (types:(List AM)) (l:(List (List Int))):AB:=(Bs (AF.mk b.Layers b.Outline b.Parts [] [] [] [] [] [] [] [] [] []) types (AA (AD.mk (AX l 6) 0) 3).2).1
def Z1K (b:AF) (types:(List AM)) (l:(List (List Int))):FuncId×List Av×Ef:=(42,(E2:List Av).map (Bz 1000 189),wrI 189 (.cells (AD.c (Z1I b types l)) 117) (tI (AA (Z1I b types l) 3).1) (.cells (AD.c (AA (Z1I b types l) 3).2) 117))
def Z1L (b:AF) (types:(List AM)) (l:(List (List Int))):AQ:=Fk (Ad.mk (Z1J b types l).X (Z1J b types l).Y (W64 ((Z1J b types l).X+30)) (W64 ((Z1J b types l).Y+20)))
abbrev Z1M (l:(List (List Int))) (b:AF) (types:(List AM)):AD:=bif decide (((AA (AD.mk (AX l 6) 0) 3).1:Int)=0) then (AA (Z1I b types l) 3).2 else (AA (AD.mk (AX l 6) 0) 3).2
def Z1N (l:(List (List Int))) (b:AF) (types:(List AM)):(List Bb):=bif decide (((AA (AD.mk (AX l 6) 0) 3).1:Int)=0) then [Bb.mk 41 (AA (Z1I b types l) 3).1 (Z1L b types l)] else []
def Z1O (l:(List (List Int))) (b:AF) (types:(List AM)):FuncId×List Av×Ef:=(42,(E2:List Av).map (Bz 1000 189),wrI 189 (.cells (AD.c (Z1M l b types)) 117) (tI (AA (Z1M l b types) 3).1) (.cells (AD.c (AA (Z1M l b types) 3).2) 117))
def Z1P (l:(List (List Int))) (b:AF) (types:(List AM)):Tv:=tB (decide (((AA (Z1M l b types) 3).1:Int)=0))
def Z1Q (l:(List (List Int))) (b:AF) (types:(List AM)):Blk:=.cells (AD.c (AA (Z1M l b types) 3).2) 117
def Z1R (b:AF) (types:(List AM)) (l:(List (List Int))):FuncId×List Av×Ef:=(97,((OW b types):List Av).map (Bz 1000 189),wrI 189 (.cells (AD.c (AA (Z1M l b types) 3).2) 117) (.av (.agg (AB.c (Bs (KK b) types (AA (Z1M l b types) 3).2).1))) (.cells (AD.c (Bs (KK b) types (AA (Z1M l b types) 3).2).2) 117))
abbrev Z1S (b:AF) (types:(List AM)) (l:(List (List Int))):AD:=(Bs (AF.mk b.Layers b.Outline b.Parts [] [] [] [] [] [] [] [] [] []) types (AA (Z1M l b types) 3).2).2
def Z1T (b:AF) (types:(List AM)) (l:(List (List Int))):AB:=(Bs (AF.mk b.Layers b.Outline b.Parts [] [] [] [] [] [] [] [] [] []) types (AA (Z1M l b types) 3).2).1
def Z1U (b:AF) (types:(List AM)) (l:(List (List Int))):FuncId×List Av×Ef:=(42,(HY:List Av).map (Bz 1000 189),wrI 189 (.cells (AD.c (Z1S b types l)) 117) (tI (AA (Z1S b types l) 4).1) (.cells (AD.c (AA (Z1S b types l) 4).2) 117))
def Z1V (b:AF) (types:(List AM)) (l:(List (List Int))):AG:=Ez (Z1T b types l) (AB.mk (W64 ((Z1T b types l).X+25)) (W64 ((Z1T b types l).Y+10)))
def Z1W:Blk:=.row 8 ([]:List A0).length (AP A0.c ([]:List A0)) 97
def Z1X (AU:List A0):Blk:=.row 8 AU.length (AP A0.c AU) 97
def Z1Y:Blk:=.row 8 ([]:List As).length (AP As.c ([]:List As)) 133
def Z1Z (AN:List As):Blk:=.row 8 AN.length (AP As.c AN) 133
def Z20:Blk:=.row 6 ([]:List AO).length (AP AO.c ([]:List AO)) 131
def Z21 (b:AF):Blk:=.cells [.i b.Layers,.i b.Outline.Kind,lst 7 AG.c b.Outline.Edges,.i b.Outline.R,lst 7 AE.c b.Parts,lst 2 A1.c b.Nets,.own 100000 6 ([]:List AO).length,vN,vN,vN,vN,vN,vN,vN,vN] 41
abbrev Sy (b:AF) (AL:List AO):List Cl:=[.i b.Layers,.i b.Outline.Kind,lst 7 AG.c b.Outline.Edges,.i b.Outline.R,lst 7 AE.c b.Parts,lst 2 A1.c b.Nets,.own 100000 6 AL.length,vN,vN,vN,vN,vN,vN,vN,vN]
def Z22 (b:AF) (AL:List AO):Blk:=.cells (Sy b AL) 41
def Z23 (AL:List AO):Blk:=.row 6 AL.length (AP AO.c AL) 131
abbrev FS:List Av:=[.one (.ptr 1000 0),.one (.i 2)]
def Z24 (v6:AD):FuncId×List Av×Ef:=(42,(FS:List Av).map (Bz 1000 22),wrI 22 (.cells (AD.c v6) 117) (tI (AA v6 2).1) (.cells (AD.c (AA v6 2).2) 117))
abbrev ID (v6:AD):=AA (AA v6 2).2 4
def Z25 (v6:AD):FuncId×List Av×Ef:=(42,(HY:List Av).map (Bz 1000 22),wrI 22 (.cells (AD.c (AA v6 2).2) 117) (tI (ID v6).1) (.cells (AD.c (ID v6).2) 117))
def Z26 (b:AF) (types:(List AM)) (v6:AD):FuncId×List Av×Ef:=(97,((OW b types):List Av).map (Bz 1000 22),wrI 22 (.cells (AD.c (ID v6).2) 117) (.av (.agg (AB.c (Bs (KK b) types (ID v6).2).1))) (.cells (AD.c (Bs (KK b) types (ID v6).2).2) 117))
abbrev Z27 (b:AF) (types:(List AM)) (v6:AD):AD:=(Bs (AF.mk b.Layers b.Outline b.Parts [] [] [] [] [] [] [] [] [] []) types (AA (AA v6 2).2 4).2).2
def Z28 (b:AF) (types:(List AM)) (v6:AD):AB:=(Bs (AF.mk b.Layers b.Outline b.Parts [] [] [] [] [] [] [] [] [] []) types (AA (AA v6 2).2 4).2).1
def Z29 (b:AF) (types:(List AM)) (v6:AD):FuncId×List Av×Ef:=(97,((OW b types):List Av).map (Bz 1000 22),wrI 22 (.cells (AD.c (Z27 b types v6)) 117) (.av (.agg (AB.c (Bs (KK b) types (Z27 b types v6)).1))) (.cells (AD.c (Bs (KK b) types (Z27 b types v6)).2) 117))
abbrev Z2a (b:AF) (types:(List AM)) (v6:AD):AD:=(Bs (AF.mk b.Layers b.Outline b.Parts [] [] [] [] [] [] [] [] [] []) types (Z27 b types v6)).2
def Z2b (b:AF) (types:(List AM)) (v6:AD):AB:=(Bs (AF.mk b.Layers b.Outline b.Parts [] [] [] [] [] [] [] [] [] []) types (Z27 b types v6)).1
abbrev MY (b:AF) (types:List AM) (v6:AD):=CR (Z28 b types v6) (Z2b b types v6) (Z2a b types v6)
def Z2c (b:AF) (types:(List AM)) (v6:AD):FuncId×List Av×Ef:=(96,([.agg (AB.c (Z28 b types v6)),.agg (AB.c (Z2b b types v6)),.one (.ptr 1000 0)]:List Av).map (Bz 1000 22),wrI 22 (.cells (AD.c (Z2a b types v6)) 117) (.av (.one (lst 7 AG.c (MY b types v6).1))) (.cells (AD.c (MY b types v6).2) 117))
abbrev Z2d (b:AF) (types:(List AM)) (v6:AD):AD:=(CR (Z28 b types v6) (Z2b b types v6) (Z2a b types v6)).2
abbrev VE (v9:Int) (v7:ByteArray) (v6:AD) (b:AF) (types:List AM):=[AO.mk (W64 (11+v9)) v7 (W64 (1+(AA v6 2).1)) (AQ.mk 1 (MY b types v6).1 (W64 (3+(ID v6).1)))]
def Z2e (AL:List AO) (v9:Int) (v7:ByteArray) (v6:AD) (b:AF) (types:(List AM)):Blk:=.row 6 (AL++(VE v9 v7 v6 b types)).length (AP AO.c (AL++(VE v9 v7 v6 b types))) 131
abbrev Y5 (b:AF) (AL:List AO) (v9:Int) (v7:ByteArray) (v6:AD) (types:List AM):List Cl:=[.i b.Layers,.i b.Outline.Kind,lst 7 AG.c b.Outline.Edges,.i b.Outline.R,lst 7 AE.c b.Parts,lst 2 A1.c b.Nets,.own 66 6 (AL++[AO.mk (W64 (11+v9)) v7 (W64 (1+(AA v6 2).1)) (AQ.mk 1 (MY b types v6).1 (W64 (3+(ID v6).1)))]).length,vN,vN,vN,vN,vN,vN,vN,vN]
def Z2f (b:AF) (AL:List AO) (v9:Int) (v7:ByteArray) (v6:AD) (types:(List AM)):Blk:=.cells (Y5 b AL v9 v7 v6 types) 41
def Z2g (b:AF) (types:(List AM)) (v6:AD):FuncId×List Av×Ef:=(95,(OZ:List Av).map (FM 1000 1000 1001 22),wqV 1000 22 [6,7,8,9,10,11,12,13,14] (NP b) 41 (.cells (AD.c (Z2d b types v6)) 117) (.av (.one (.s (CQ (Gp b) (Z2d b types v6)).1))) (.cells (AD.c (CQ (Gp b) (Z2d b types v6)).2) 117))
abbrev Z2h (b:AF) (types:(List AM)) (v6:AD):AD:=(CQ (AF.mk b.Layers b.Outline b.Parts b.Nets [] [] [] [] [] [] [] [] []) (Z2d b types v6)).2
def Z2i (b:AF) (types:(List AM)) (v6:AD):Tv:=.av (.one (.s (CQ (Gp b) (Z2d b types v6)).1))
def Z2j (b:AF) (types:(List AM)) (v6:AD):Blk:=.cells (AD.c (Z2h b types v6)) 117
def Z2k (b:AF) (v6':AD):FuncId×List Av×Ef:=(95,(OZ:List Av).map (FM 1000 1000 1001 75),wqV 1000 75 [6,7,8,9,10,11,12,13,14] (NP b) 41 (.cells (AD.c v6') 117) (.av (.one (.s (CQ (Gp b) v6').1))) (.cells (AD.c (CQ (Gp b) v6').2) 117))
abbrev Z2l (b:AF) (v6':AD):AD:=(CQ (AF.mk b.Layers b.Outline b.Parts b.Nets [] [] [] [] [] [] [] [] []) v6').2
def Z2m (b:AF) (types:(List AM)) (v6':AD):FuncId×List Av×Ef:=(97,((OW b types):List Av).map (Bz 1000 75),wrI 75 (.cells (AD.c (Z2l b v6')) 117) (.av (.agg (AB.c (Bs (KK b) types (Z2l b v6')).1))) (.cells (AD.c (Bs (KK b) types (Z2l b v6')).2) 117))
abbrev Z2n (b:AF) (types:(List AM)) (v6':AD):AD:=(Bs (AF.mk b.Layers b.Outline b.Parts [] [] [] [] [] [] [] [] [] []) types (Z2l b v6')).2
def Z2o (b:AF) (types:(List AM)) (v6':AD):AB:=(Bs (AF.mk b.Layers b.Outline b.Parts [] [] [] [] [] [] [] [] [] []) types (Z2l b v6')).1
abbrev Kc:List Av:=[.one (.ptr 1000 0),.one (.i 5)]
def Z2p (b:AF) (types:(List AM)) (v6':AD):FuncId×List Av×Ef:=(42,(Kc:List Av).map (Bz 1000 75),wrI 75 (.cells (AD.c (Z2n b types v6')) 117) (tI (AA (Z2n b types v6') 5).1) (.cells (AD.c (AA (Z2n b types v6') 5).2) 117))
def Z2q (b:AF) (types:(List AM)) (v6':AD):FuncId×List Av×Ef:=(42,(E2:List Av).map (Bz 1000 75),wrI 75 (.cells (AD.c (AA (Z2n b types v6') 5).2) 117) (tI (AA (AA (Z2n b types v6') 5).2 3).1) (.cells (AD.c (AA (AA (Z2n b types v6') 5).2 3).2) 117))
abbrev Z2r (b:AF) (types:(List AM)) (v6':AD):AD:=(AA (AA (Z2n b types v6') 5).2 3).2
def Z2s (b:AF) (types:(List AM)) (v6':AD):Blk:=.cells (AD.c (Z2r b types v6')) 117
abbrev nE (v11:Int) (b:AF) (v6':AD) (types:List AM):=[As.mk (W64 (21+v11)) (CQ (Gp b) v6').1 (Z2o b types v6') (W64 (6+(AA (Z2n b types v6') 5).1)) (W64 (4+(W64 (2*(AA (AA (Z2n b types v6') 5).2 3).1)))) 1 2]
abbrev nJ (v11:Int) (b:AF) (v6':AD) (types:List AM):=(nE v11 b v6' types)
abbrev nS (v11:Int) (b:AF) (v6':AD) (types:List AM):=(nJ v11 b v6' types)
abbrev oP (v11:Int) (b:AF) (v6':AD) (types:List AM):=(nS v11 b v6' types)
abbrev pA (v11:Int) (b:AF) (v6':AD) (types:List AM):=(oP v11 b v6' types)
abbrev pV (v11:Int) (b:AF) (v6':AD) (types:List AM):=(pA v11 b v6' types)
abbrev Rp (v11:Int) (b:AF) (v6':AD) (types:List AM):=(pV v11 b v6' types)
def Z2t (AN:List As) (v11:Int) (b:AF) (v6':AD) (types:(List AM)):Blk:=.row 8 (AN++(Rp v11 b v6' types)).length (AP As.c (AN++(Rp v11 b v6' types))) 133
def Z2u (b:AF) (AL:List AO) (AN:List As) (v11:Int) (v6':AD) (types:(List AM)):Blk:=.cells [.i b.Layers,.i b.Outline.Kind,lst 7 AG.c b.Outline.Edges,.i b.Outline.R,lst 7 AE.c b.Parts,lst 2 A1.c b.Nets,.own 100000 6 AL.length,.own 108 8 (AN++(Rp v11 b v6' types)).length,vN,vN,vN,vN,vN,vN,vN] 41
def Z2v (v6':AD):FuncId×List Av×Ef:=(42,(E2:List Av).map (Bz 1000 75),wrI 75 (.cells (AD.c v6') 117) (tI (AA v6' 3).1) (.cells (AD.c (AA v6' 3).2) 117))
def Z2w (v6'':AD):FuncId×List Av×Ef:=(42,(Up:List Av).map (Bz 1000 75),wrI 75 (.cells (AD.c v6'') 117) (tI (AA v6'' 12).1) (.cells (AD.c (AA v6'' 12).2) 117))
abbrev E5 (v6'':AD):=AA (AA v6'' 12).2 12
def Z2x (v6'':AD):FuncId×List Av×Ef:=(42,(Up:List Av).map (Bz 1000 75),wrI 75 (.cells (AD.c (AA v6'' 12).2) 117) (tI (E5 v6'').1) (.cells (AD.c (E5 v6'').2) 117))
def Z2y (v6'':AD):FuncId×List Av×Ef:=(42,(OY:List Av).map (Bz 1000 75),wrI 75 (.cells (AD.c (E5 v6'').2) 117) (tI (AA (E5 v6'').2 6).1) (.cells (AD.c (AA (E5 v6'').2 6).2) 117))
abbrev Z2z (v6'':AD):AD:=(AA (AA (AA v6'' 12).2 12).2 6).2
def Z2A (v6'':AD):FuncId×List Av×Ef:=(42,(Kc:List Av).map (Bz 1000 75),wrI 75 (.cells (AD.c (Z2z v6'')) 117) (tI (AA (Z2z v6'') 5).1) (.cells (AD.c (AA (Z2z v6'') 5).2) 117))
abbrev JT (b:AF) (v6'':AD):=CQ (Gp b) (AA (Z2z v6'') 5).2
def Z2B (b:AF) (v6'':AD):FuncId×List Av×Ef:=(95,(OZ:List Av).map (FM 1000 1000 1001 75),wqV 1000 75 [6,7,8,9,10,11,12,13,14] (NP b) 41 (.cells (AD.c (AA (Z2z v6'') 5).2) 117) (.av (.one (.s (JT b v6'').1))) (.cells (AD.c (JT b v6'').2) 117))
abbrev Z2C (b:AF) (v6'':AD):AD:=(CQ (AF.mk b.Layers b.Outline b.Parts b.Nets [] [] [] [] [] [] [] [] []) (AA (Z2z v6'') 5).2).2
abbrev GE (b:AF) (v6'':AD):=AA (Z2C b v6'') 2
def Z2D (b:AF) (v6'':AD):FuncId×List Av×Ef:=(42,(FS:List Av).map (Bz 1000 75),wrI 75 (.cells (AD.c (Z2C b v6'')) 117) (tI (GE b v6'').1) (.cells (AD.c (GE b v6'').2) 117))
abbrev JS (b:AF) (v6'':AD):=AA (GE b v6'').2 3
def Z2E (b:AF) (v6'':AD):FuncId×List Av×Ef:=(42,(E2:List Av).map (Bz 1000 75),wrI 75 (.cells (AD.c (GE b v6'').2) 117) (tI (JS b v6'').1) (.cells (AD.c (JS b v6'').2) 117))
abbrev Z2F (b:AF) (v6'':AD):AD:=(AA (AA (Z2C b v6'') 2).2 3).2
abbrev GD (b:AF) (v6'':AD):=AA (Z2F b v6'') 2
def Z2G (b:AF) (v6'':AD):FuncId×List Av×Ef:=(42,(FS:List Av).map (Bz 1000 75),wrI 75 (.cells (AD.c (Z2F b v6'')) 117) (tI (GD b v6'').1) (.cells (AD.c (GD b v6'').2) 117))
abbrev JR (b:AF) (v6'':AD):=AA (GD b v6'').2 4
def Z2H (b:AF) (v6'':AD):FuncId×List Av×Ef:=(42,(HY:List Av).map (Bz 1000 75),wrI 75 (.cells (AD.c (GD b v6'').2) 117) (tI (JR b v6'').1) (.cells (AD.c (JR b v6'').2) 117))
abbrev Z2I (b:AF) (v6'':AD):AD:=(AA (AA (Z2F b v6'') 2).2 4).2
abbrev E8 (b:AF) (v6'':AD):=AA (Z2I b v6'') 6
def Z2J (b:AF) (v6'':AD):FuncId×List Av×Ef:=(42,(OY:List Av).map (Bz 1000 75),wrI 75 (.cells (AD.c (Z2I b v6'')) 117) (tI (E8 b v6'').1) (.cells (AD.c (E8 b v6'').2) 117))
abbrev Ho (v6'':AD):=[Ad.mk (AA v6'' 12).1 (AA (AA v6'' 12).2 12).1 (W64 ((W64 ((AA v6'' 12).1+1))+(AA (AA (AA v6'' 12).2 12).2 6).1)) (W64 ((W64 ((AA (AA v6'' 12).2 12).1+1))+(AA (Z2z v6'') 5).1))]
def Z2K (v12:Int) (b:AF) (v6'':AD):Blk:=.cells [.i (W64 (31+v12)),.s (JT b v6'').1,.i (W64 (1+(GE b v6'').1)),.i (W64 (20+(W64 (5*(JS b v6'').1)))),.i (GD b v6'').1,.i (([0,0,5,9]:List Int).getD (JR b v6'').1.toNat 0),.i (W64 (4+(E8 b v6'').1)),.own 158 4 ((Ho v6'').length)] 97
def Z2L (v6'':AD):Blk:=.row 4 ((Ho v6'').length) (AP Ad.c (Ho v6'')) 90
def Z2M (b:AF) (v6'':AD):FuncId×List Av×Ef:=(42,(E2:List Av).map (Bz 1000 75),wrI 75 (.cells (AD.c (E8 b v6'').2) 117) (tI (AA (E8 b v6'').2 3).1) (.cells (AD.c (AA (E8 b v6'').2 3).2) 117))
abbrev Z2N (b:AF) (v6'':AD):AD:=(AA (AA (Z2I b v6'') 6).2 3).2
def Z2O (b:AF) (v6'':AD):Blk:=.cells (AD.c (Z2N b v6'')) 117
abbrev oM (v6'':AD):=[Ad.mk (W64 ((AA v6'' 12).1-2)) (E5 v6'').1 (W64 ((AA v6'' 12).1+1)) (W64 ((E5 v6'').1+2))]
abbrev oY (v6'':AD):=(oM v6'')
abbrev pO (v6'':AD):=(oY v6'')
abbrev VC (v6'':AD):=(pO v6'')
def Z2P (v6'':AD):Blk:=.row 4 ((Ho v6'')++(VC v6'')).length (AP Ad.c ((Ho v6'')++(VC v6''))) 90
def Z2Q (b:AF) (v6'':AD):(List Ad):=bif decide (((AA (AA (Z2I b v6'') 6).2 3).1:Int)=0) then ([Ad.mk (AA v6'' 12).1 (AA (AA v6'' 12).2 12).1 (W64 ((W64 ((AA v6'' 12).1+1))+(AA (AA (AA v6'' 12).2 12).2 6).1)) (W64 ((W64 ((AA (AA v6'' 12).2 12).1+1))+(AA (Z2z v6'') 5).1))]++[Ad.mk (W64 ((AA v6'' 12).1-2)) (AA (AA v6'' 12).2 12).1 (W64 ((AA v6'' 12).1+1)) (W64 ((AA (AA v6'' 12).2 12).1+2))]) else [Ad.mk (AA v6'' 12).1 (AA (AA v6'' 12).2 12).1 (W64 ((W64 ((AA v6'' 12).1+1))+(AA (AA (AA v6'' 12).2 12).2 6).1)) (W64 ((W64 ((AA (AA v6'' 12).2 12).1+1))+(AA (Z2z v6'') 5).1))]
abbrev Rs (v12:Int) (b:AF) (v6'':AD):=[A0.mk (W64 (31+v12)) (CQ (Gp b) (AA (Z2z v6'') 5).2).1 (W64 (1+(GE b v6'').1)) (W64 (20+(W64 (5*(AA (GE b v6'').2 3).1)))) (GD b v6'').1 (([0,0,5,9]:List Int).getD (AA (GD b v6'').2 4).1.toNat 0) (W64 (4+(AA (Z2I b v6'') 6).1)) (Z2Q b v6'')]
def Z2R (AU:List A0) (v12:Int) (b:AF) (v6'':AD):Blk:=.row 8 (AU++(Rs v12 b v6'')).length (AP A0.c (AU++(Rs v12 b v6''))) 97
def Z2S (b:AF) (AL:List AO) (v9:Int) (v7:ByteArray) (v6:AD) (types:(List AM)):Blk:=.cells [.i b.Layers,.i b.Outline.Kind,lst 7 AG.c b.Outline.Edges,.i b.Outline.R,lst 7 AE.c b.Parts,lst 2 A1.c b.Nets,.own 100000 6 (AL++(VE v9 v7 v6 b types)).length,vN,vN,vN,vN,vN,vN,vN,vN] 41
def Z2T (b:AF) (AL:List AO):Blk:=.cells [.i b.Layers,.i b.Outline.Kind,lst 7 AG.c b.Outline.Edges,.i b.Outline.R,lst 7 AE.c b.Parts,lst 2 A1.c b.Nets,.own 100000 6 AL.length,.own 100001 8 ([]:List As).length,vN,vN,vN,vN,vN,vN,vN] 41
abbrev Sz (b:AF) (AL:List AO) (AN:List As):List Cl:=[.i b.Layers,.i b.Outline.Kind,lst 7 AG.c b.Outline.Edges,.i b.Outline.R,lst 7 AE.c b.Parts,lst 2 A1.c b.Nets,.own 100000 6 AL.length,.own 100001 8 AN.length,vN,vN,vN,vN,vN,vN,vN]
def Z2U (b:AF) (AL:List AO) (AN:List As):Blk:=.cells (Sz b AL AN) 41
def Z2V (b:AF) (AL:List AO) (AN:List As) (AU:List A0) (v12:Int) (v6'':AD):Blk:=.cells [.i b.Layers,.i b.Outline.Kind,lst 7 AG.c b.Outline.Edges,.i b.Outline.R,lst 7 AE.c b.Parts,lst 2 A1.c b.Nets,.own 100000 6 AL.length,.own 100001 8 AN.length,.own 183 8 (AU++(Rs v12 b v6'')).length,vN,vN,vN,vN,vN,vN] 41
def Z2W (b:AF) (AL:List AO) (AN:List As) (v11:Int) (v6':AD) (types:(List AM)):Blk:=.cells [.i b.Layers,.i b.Outline.Kind,lst 7 AG.c b.Outline.Edges,.i b.Outline.R,lst 7 AE.c b.Parts,lst 2 A1.c b.Nets,.own 100000 6 AL.length,.own 100001 8 (AN++(Rp v11 b v6' types)).length,vN,vN,vN,vN,vN,vN,vN] 41
def Z2X (b:AF) (AL:List AO) (AN:List As):Blk:=.cells [.i b.Layers,.i b.Outline.Kind,lst 7 AG.c b.Outline.Edges,.i b.Outline.R,lst 7 AE.c b.Parts,lst 2 A1.c b.Nets,.own 100000 6 AL.length,.own 100001 8 AN.length,.own 100002 8 ([]:List A0).length,vN,vN,vN,vN,vN,vN] 41
abbrev pY (b:AF) (AL:List AO) (AN:List As) (AU:List A0):List Cl:=[.i b.Layers,.i b.Outline.Kind,lst 7 AG.c b.Outline.Edges,.i b.Outline.R,lst 7 AE.c b.Parts,lst 2 A1.c b.Nets,.own 100000 6 AL.length,.own 100001 8 AN.length,.own 100002 8 AU.length,vN,vN,vN,vN,vN,vN]
abbrev QA (b:AF) (AL:List AO) (AN:List As) (AU:List A0):List Cl:=(pY b AL AN AU)
def Z2Y (b:AF) (AL:List AO) (AN:List As) (AU:List A0):Blk:=.cells (QA b AL AN AU) 41
abbrev eN (b:AF) (AL:List AO) (AN:List As) (AU:List A0) (l:List (List Int)) (types:List AM):List Cl:=[.i b.Layers,.i b.Outline.Kind,lst 7 AG.c b.Outline.Edges,.i b.Outline.R,lst 7 AE.c b.Parts,lst 2 A1.c b.Nets,.own 100000 6 AL.length,.own 100001 8 AN.length,.own 100002 8 AU.length,lst 5 Bb.c (Z1N l b types),vN,vN,vN,vN,vN]
abbrev lM (b:AF) (AL:List AO) (AN:List As) (AU:List A0) (l:List (List Int)) (types:List AM):List Cl:=(eN b AL AN AU l types)
abbrev lS (b:AF) (AL:List AO) (AN:List As) (AU:List A0) (l:List (List Int)) (types:List AM):List Cl:=(lM b AL AN AU l types)
abbrev mE (b:AF) (AL:List AO) (AN:List As) (AU:List A0) (l:List (List Int)) (types:List AM):List Cl:=(lS b AL AN AU l types)
abbrev mH (b:AF) (AL:List AO) (AN:List As) (AU:List A0) (l:List (List Int)) (types:List AM):List Cl:=(mE b AL AN AU l types)
abbrev mT (b:AF) (AL:List AO) (AN:List As) (AU:List A0) (l:List (List Int)) (types:List AM):List Cl:=(mH b AL AN AU l types)
abbrev nC (b:AF) (AL:List AO) (AN:List As) (AU:List A0) (l:List (List Int)) (types:List AM):List Cl:=(mT b AL AN AU l types)
abbrev nK (b:AF) (AL:List AO) (AN:List As) (AU:List A0) (l:List (List Int)) (types:List AM):List Cl:=(nC b AL AN AU l types)
abbrev nX (b:AF) (AL:List AO) (AN:List As) (AU:List A0) (l:List (List Int)) (types:List AM):List Cl:=(nK b AL AN AU l types)
abbrev oN (b:AF) (AL:List AO) (AN:List As) (AU:List A0) (l:List (List Int)) (types:List AM):List Cl:=(nX b AL AN AU l types)
abbrev pD (b:AF) (AL:List AO) (AN:List As) (AU:List A0) (l:List (List Int)) (types:List AM):List Cl:=(oN b AL AN AU l types)
abbrev pU (b:AF) (AL:List AO) (AN:List As) (AU:List A0) (l:List (List Int)) (types:List AM):List Cl:=(pD b AL AN AU l types)
abbrev qE (b:AF) (AL:List AO) (AN:List As) (AU:List A0) (l:List (List Int)) (types:List AM):List Cl:=(pU b AL AN AU l types)
abbrev zzc84 (b:AF) (AL:List AO) (AN:List As) (AU:List A0) (l:List (List Int)) (types:List AM):List Cl:=(qE b AL AN AU l types)
def Z2Z (b:AF) (AL:List AO) (AN:List As) (AU:List A0) (l:(List (List Int))) (types:(List AM)):Blk:=.cells (zzc84 b AL AN AU l types) 41
def Z30 (v12:Int) (b:AF) (v6'':AD):Blk:=.cells [.i (W64 (31+v12)),.s (JT b v6'').1,.i (W64 (1+(GE b v6'').1)),.i (W64 (20+(W64 (5*(JS b v6'').1)))),.i (GD b v6'').1,.i (([0,0,5,9]:List Int).getD (JR b v6'').1.toNat 0),.i (W64 (4+(E8 b v6'').1)),.own 100003 4 ((Ho v6'')++(VC v6'')).length] 97
def Z31 (v12:Int) (b:AF) (v6'':AD):Blk:=.cells [.i (W64 (31+v12)),.s (JT b v6'').1,.i (W64 (1+(GE b v6'').1)),.i (W64 (20+(W64 (5*(JS b v6'').1)))),.i (GD b v6'').1,.i (([0,0,5,9]:List Int).getD (JR b v6'').1.toNat 0),.i (W64 (4+(E8 b v6'').1)),.own 100003 4 ((Ho v6'').length)] 97
def Z32 (b:AF) (AL:List AO) (AN:List As) (AU:List A0) (v12:Int) (v6'':AD):Blk:=.cells [.i b.Layers,.i b.Outline.Kind,lst 7 AG.c b.Outline.Edges,.i b.Outline.R,lst 7 AE.c b.Parts,lst 2 A1.c b.Nets,.own 100000 6 AL.length,.own 100001 8 AN.length,.own 100002 8 (AU++(Rs v12 b v6'')).length,vN,vN,vN,vN,vN,vN] 41
def CH (b:AF) (types:(List AM)) (l:(List (List Int))) (AL:List AO) (v6:AD) (v7:ByteArray) (v9:Int) (AN:List As) (v6':AD) (v11:Int) (K0:List AO->AD->ByteArray->Int->AF) (K1:List As->AD->Int->AF):Nat->List A0->AD->Int->AF
 | 0,_,_,_=>default
 | n2+1,AU,v6'',v12=>bif decide ((v12:Int)<(AA v6' 3).1) then ((CH b types l AL v6 v7 v9 AN v6' v11 K0 K1 n2) (AU++[A0.mk (W64 (31+v12)) (CQ (AF.mk b.Layers b.Outline b.Parts b.Nets [] [] [] [] [] [] [] [] []) (AA (Z2z v6'') 5).2).1 (W64 (1+(AA (Z2C b v6'') 2).1)) (W64 (20+(W64 (5*(AA (AA (Z2C b v6'') 2).2 3).1)))) (AA (Z2F b v6'') 2).1 (([0,0,5,9]:List Int).getD (AA (AA (Z2F b v6'') 2).2 4).1.toNat 0) (W64 (4+(AA (Z2I b v6'') 6).1)) (Z2Q b v6'')]) (Z2N b v6'') (v12+1)) else (bif decide (((AA (Z1M l b types) 3).1:Int)=0) then (AF.mk b.Layers b.Outline b.Parts b.Nets AL AN AU (Z1N l b types) [Am.mk 51 (AQ.mk 1 [Z1V b types l] (W64 (3+(AA (Z1S b types l) 4).1)))] [] [] [] []) else (AF.mk b.Layers b.Outline b.Parts b.Nets AL AN AU (Z1N l b types) [] [] [] [] []))
def CP (b:AF) (types:(List AM)) (l:(List (List Int))) (AL:List AO) (v6:AD) (v7:ByteArray) (v9:Int) (K0:List AO->AD->ByteArray->Int->AF):Nat->List As->AD->Int->AF
 | 0,_,_,_=>default
 | n1+1,AN,v6',v11=>bif decide ((v11:Int)<(AA (AD.mk (AX l 5) 0) 3).1) then ((CP b types l AL v6 v7 v9 K0 n1) (AN++[As.mk (W64 (21+v11)) (CQ (AF.mk b.Layers b.Outline b.Parts b.Nets [] [] [] [] [] [] [] [] []) v6').1 (Z2o b types v6') (W64 (6+(AA (Z2n b types v6') 5).1)) (W64 (4+(W64 (2*(AA (AA (Z2n b types v6') 5).2 3).1)))) 1 2]) (Z2r b types v6') (v11+1)) else (CH b types l AL v6 v7 v9 AN v6' v11 K0 (CP b types l AL v6 v7 v9 K0 n1) (((AA v6' 3).1-0).toNat+1) ([]:List A0) (AA v6' 3).2 0)
def B5 (b:AF) (types:(List AM)) (l:(List (List Int))):Nat->List AO->AD->ByteArray->Int->AF
 | 0,_,_,_,_=>default
 | n0+1,AL,v6,v7,v9=>bif decide ((v9:Int)<(AA (Z1y b l) 6).1) then ((B5 b types l n0) (AL++[AO.mk (W64 (11+v9)) v7 (W64 (1+(AA v6 2).1)) (AQ.mk 1 (CR (Z28 b types v6) (Z2b b types v6) (Z2a b types v6)).1 (W64 (3+(AA (AA v6 2).2 4).1)))]) (Z2h b types v6) (CQ (AF.mk b.Layers b.Outline b.Parts b.Nets [] [] [] [] [] [] [] [] []) (Z2d b types v6)).1 (v9+1)) else (CP b types l AL v6 v7 v9 (B5 b types l n0) (((AA (AD.mk (AX l 5) 0) 3).1-0).toNat+1) ([]:List As) (AA (AD.mk (AX l 5) 0) 3).2 0)
def BN (b:AF) (types:(List AM)) (l:(List (List Int))):AF:=B5 b types l (((AA (Z1y b l) 6).1-0).toNat+1) ([]:List AO) (AA (Z1y b l) 6).2 (CQ (AF.mk b.Layers b.Outline b.Parts b.Nets [] [] [] [] [] [] [] [] []) (AD.mk (AX l 4) 0)).1 0
abbrev Mi (b:AF) (types:List AM) (l:List (List Int)):List Cl:=[.i 51,.i 1,.list true 7 1 (Ay 7 1 (AG.c (Z1V b types l))),.i (W64 (3+(AA (Z1S b types l) 4).1))]
abbrev JZ (types:List AM) (l:List (List Int)) (v6':AD) (v12:Int):List (Nat×Tv):=[(0,tP 1000 0),(BI types),(2,Z1v l),(6,tP 75 0),(8,tI (AA v6' 3).1),(12,tI v12),(16,tP 16 0)]
abbrev Ew (v6':AD):Nat×Tv:=(8,tI (AA v6' 3).1)
abbrev Rm (types:List AM) (l:List (List Int)) (b:AF):List (Nat×Tv):=[(0,tP 1000 0),(BI types),(2,Z1v l),(6,tP 22 0),(7,Z1z b l),(8,tI (AA (Z1y b l) 6).1),(9,tI 0)]
abbrev Gm (b:AF) (l:List (List Int)):Nat×Tv:=(8,tI (AA (Z1y b l) 6).1)
abbrev Ri (types:List AM) (l:List (List Int)):List (Nat×Tv):=[(0,tP 1000 0),(BI types),(2,Z1v l),(6,tP 75 0),(8,Z1D l),(11,tI 0)]
abbrev MX (types:List AM):List (Nat×Tv):=[(0,tP 1000 0),(BI types),(6,tP 189 0)]
abbrev ZW (v6'':AD):List Cl:=[.i (AA v6'' 12).1,.i (E5 v6'').1,.i (W64 ((W64 ((AA v6'' 12).1+1))+(AA (E5 v6'').2 6).1)),.i (W64 ((W64 ((E5 v6'').1+1))+(AA (Z2z v6'') 5).1))]
abbrev OR (v6':AD):Nat×Blk:=(75,.cells (AD.c (AA v6' 3).2) 117)
abbrev RW (types:List AM) (l:List (List Int)) (v6':AD):List (Nat×Tv):=[(0,tP 1000 0),(BI types),(2,Z1v l),(6,tP 75 0),(Ew v6'),(12,tI 0)]
abbrev RS (types:List AM) (l:List (List Int)) (b:AF):List (Nat×Tv):=[(0,tP 1000 0),(BI types),(6,tP 189 0),(220,Z1P l b types)]
theorem au5 {p:Prop} (h:p:=by repeat (first | with_reducible assumption | exact Cn (DV hll _) | with_reducible refine Bc ?_ | with_reducible refine Ee ?_ | with_reducible refine Dp ?_ | with_reducible refine DG ?_  | with_reducible refine Cu ?_ ?_)):p:=h
set_option maxHeartbeats 2000000 in
theorem VW  (b:AF) (types:(List AM)) (l:(List (List Int))) (hb:(b.Parts.length:Int)<=1000000) (ht:(types.length:Int)<=1000000) (hg:OB b types) (hn:1<=(b.Nets.length:Int)/\(b.Nets.length:Int)<=1000000) (hl:(l.length:Int)<=9223372036854775807) (hll:∀ x∈l,(x.length:Int)<=9223372036854775807):Wr Tryz.prog 44 1000 [.one (.ptr 1000 0),.one (lst 3 AM.c types),.one (lst 1 (fun x=>[lst 1 (fun x=>[.i x]) x]) l)] (.cells [.i b.Layers,.i b.Outline.Kind,lst 7 AG.c b.Outline.Edges,.i b.Outline.R,lst 7 AE.c b.Parts,lst 2 A1.c b.Nets,vN,vN,vN,vN,vN,vN,vN,vN,vN] 41) (.tup []) (.cells [.i (BN b types l).Layers,.i (BN b types l).Outline.Kind,lst 7 AG.c (BN b types l).Outline.Edges,.i (BN b types l).Outline.R,lst 7 AE.c (BN b types l).Parts,lst 2 A1.c (BN b types l).Nets,lst 6 AO.c (BN b types l).Tracks,lst 8 As.c (BN b types l).Vias,lst 8 A0.c (BN b types l).Pours,lst 5 Bb.c (BN b types l).Keeps,lst 4 Am.c (BN b types l).Slots,vN,vN,vN,vN] 41):=by
 refine Hp Tryz.func44 rfl kr kr kr kr fun W0 M0 X hX => ?_
 refine AC<|rc [(20,Cy l 4)] [Ak (Cy l 4).2.1] ⟨[(0,tP 1000 0),(BI types),(2,Z1v l),(6,tP 22 0)],[(22,.cells [lst 1 (fun x=>[.i x]) (AX l 4),.i 0] 117),(1000,Z1w b)]⟩ (.cons (Fz l 4 au10) .nil) (.cons rfl .nil)<|AJ<|AC ?_
 refine rc [(25,(Z1x b l))] [Ak (Z1x b l).2.1,Blk.cells (VD b) 41=Blk.cells (Py [6,7,8,9,10,11,12,13,14] 0 (VD b) (NP b)) 41,BJ (.cells [lst 1 (fun x=>[.i x]) (AX l 4),.i 0] 117)] ⟨[(0,tP 1000 0),(BI types),(2,Z1v l),(6,tP 22 0),(7,Z1z b l)],[(22,.cells (AD.c (Z1y b l)) 117),(1000,Z1w b)]⟩ (.cons (Iv (B0:=fun vs=>[.i b.Layers,.i b.Outline.Kind,lst 7 AG.c b.Outline.Edges,.i b.Outline.R,lst 7 AE.c b.Parts,lst 2 A1.c b.Nets,.val (vs 6),.val (vs 7),.val (vs 8),.val (vs 9),.val (vs 10),.val (vs 11),.val (vs 12),.val (vs 13),.val (vs 14)]) (fun _ _=>kr) kr rfl rfl kr (fun vs=>by kernel_rfl) (fun vs=>by kernel_rfl) (fun vs=>R2 (AF.mk b.Layers b.Outline b.Parts b.Nets [] [] [] [] [] [] [] [] []) (AD.mk (AX l 4) 0) vs au5 (by omega))) .nil) (.cons rfl (.cons rfl (.cons rfl .nil)))<|AJ<|AC ?_
 refine rc [(27,(Z1A b l))] [Ak (Z1A b l).2.1,BJ (.cells (AD.c (Z1y b l)) 117)] ⟨[(0,tP 1000 0),(BI types),(2,Z1v l),(6,tP 22 0),(7,Z1z b l),(Gm b l)],[(22,Z1B b l),(1000,Z1w b)]⟩ (.cons (Ae (fun _ _=>kr) kr kr (Bf (Z1y b l) 6 au5 au8)) .nil) (.cons rfl (.cons rfl .nil))<|AJ ?_
 refine AC<|AC ?_
 refine rn ⟨(Rm types l b),[(22,Z1B b l),(1000,Z1w b)]⟩<|AY ?_
 refine Ba (Cv.trans (Ca (⟨(Rm types l b),[(100000,.row 6 0 (fun _ _=>default) 131),(22,Z1B b l),(1000,.cells [.i b.Layers,.i b.Outline.Kind,lst 7 AG.c b.Outline.Edges,.i b.Outline.R,lst 7 AE.c b.Parts,lst 2 A1.c b.Nets,.own 100000 6 0,vN,vN,vN,vN,vN,vN,vN,vN] 41)]⟩) 100000 6 (fun _ _=>default) 131 [] [(1000,[6])] (K:=[1000]) hX rfl kr kr) (Cv.trans (BT (⟨(Rm types l b),[(100000,Z20),(22,Z1B b l),(1000,Z21 b)]⟩) lr (.cons ⟨rfl,Ap 131 (CZ 6 (fun _ _=>default) AO.c)⟩ (.cons ⟨rfl,.refl _⟩ (.cons ⟨rfl,.cells _ (rr (rr (rr (rr (rr (rr (.cons (.own _ _ au2) (rr (rr (rr (rr (rr (rr (rr (rr .nil)))))))))))))))⟩ .nil)))) (Cv.trans (BD [0,1,2,6,7,8,9] [22,1000,100000] (⟨(Rm types l b),[(22,Z1B b l),(1000,Z21 b),(100000,Z20)]⟩) kr) (Cv.refl _)))) ?_
 refine BS (ι:=Nat×List AO×AD×ByteArray×Int) (fun x=>⟨[(0,tP 1000 0),(BI types),(2,Z1v l),(6,tP 22 0),(7,tO (.s x.2.2.2.1)),(Gm b l),(9,tI x.2.2.2.2)],[(22,.cells (AD.c x.2.2.1) 117),(1000,.cells [.i b.Layers,.i b.Outline.Kind,lst 7 AG.c b.Outline.Edges,.i b.Outline.R,lst 7 AE.c b.Parts,lst 2 A1.c b.Nets,.own 100000 6 x.2.1.length,vN,vN,vN,vN,vN,vN,vN,vN] 41),(100000,.row 6 x.2.1.length (AP AO.c x.2.1) 131)]⟩) (fun x=>((AA (Z1y b l) 6).1-x.2.2.2.2).toNat<x.1/\(Bo x.2.2.1/\0<=x.2.2.2.2/\(x.2.2.2.2<=(AA (Z1y b l) 6).1\/x.2.2.2.2=0)/\(x.2.1.length:Int)<=0+1*(x.2.2.2.2-0))/\B5 b types l x.1 x.2.1 x.2.2.1 x.2.2.2.1 x.2.2.2.2=BN b types l) (fun x=>x.1) ?_ (((AA (Z1y b l) 6).1-0).toNat+1,([]:List AO),(AA (Z1y b l) 6).2,(CQ (AF.mk b.Layers b.Outline b.Parts b.Nets [] [] [] [] [] [] [] [] []) (AD.mk (AX l 4) 0)).1,0) ⟨Nat.lt_succ_self _,⟨(by show Bo ((AA (Z1y b l) 6).2);repeat (first | with_reducible assumption | exact Cn (DV hll _) | with_reducible refine Bc ?_ | with_reducible refine Ee ?_ | with_reducible refine Dp ?_ | with_reducible refine DG ?_  | with_reducible refine Cu ?_ ?_)),ax0,ax0,ax0⟩,(by simp only [BN,cond_true,cond_false])⟩
 rintro ⟨n0,AL,v6,v7,v9⟩ ⟨hn,hinv,hF⟩
 have hm0:=hn;have hinv0:=hinv;have hF0:=hF;try dsimp only at hm0 hinv0 hF0
 clear hn hinv hF
 cases n0 with
 | zero=>exact absurd hm0 (Nat.not_lt_zero _)
 | succ n0 =>
  have hi0_0:=hinv0.1
  refine AC<|AC ?_
  refine rn ⟨[(0,tP 1000 0),(BI types),(2,Z1v l),(6,tP 22 0),(7,tO (.s v7)),(Gm b l),(9,tI v9),(30,tB (decide ((v9:Int)<(AA (Z1y b l) 6).1)))],[(22,.cells (AD.c v6) 117),(1000,Z22 b AL),(100000,Z23 AL)]⟩ ?_
  refine Ab _ rfl (fun h1 => ?_) (fun h1 => ?_)
  ·have g1:=oT h1
   have k1:=SP g1 (by decide) (by decide)
   refine Af<|AJ ?_
   refine AC<|AY<|AC ?_
   refine rc [(37,(Z24 v6))] [Ak (Z24 v6).2.1,BJ (.cells (AD.c v6) 117)] ⟨[(0,tP 1000 0),(BI types),(2,Z1v l),(6,tP 22 0),(Gm b l),(9,tI v9),(10,tP 10 0)],[(10,.cells [.i (W64 (11+v9)),.s v7,.i (W64 (1+(AA v6 2).1)),.i 0,vN,.i 0] 131),(22,.cells (AD.c (AA v6 2).2) 117),(1000,Z22 b AL),(100000,Z23 AL)]⟩ (.cons (Ae (fun _ _=>kr) kr kr (Bf v6 2 au5 au8)) .nil) (.cons rfl (.cons rfl .nil))<|AJ<|AC ?_
   refine dw [] [(41,(Z25 v6)),(48,ceI [.agg (Sy b AL),.one (Fw types),.one (.ptr 22 0)] (Z26 b types v6)),(54,ceI [.agg (Sy b AL),.one (Fw types),.one (.ptr 22 0)] (Z29 b types v6)),(56,(Z2c b types v6))] [Ak (Z25 v6).2.1,BJ (.cells (AD.c (AA v6 2).2) 117),Ak (ceI [.agg (Sy b AL),.one (lst 3 AM.c types),.one (.ptr 22 0)] (Z26 b types v6)).2.1,BJ (.cells (AD.c (AA (AA v6 2).2 4).2) 117),Ak (ceI [.agg (Sy b AL),.one (lst 3 AM.c types),.one (.ptr 22 0)] (Z29 b types v6)).2.1,BJ (.cells (AD.c (Z27 b types v6)) 117),Ak (Z2c b types v6).2.1,BJ (.cells (AD.c (Z2a b types v6)) 117)] ⟨[(0,tP 1000 0),(BI types),(2,Z1v l),(6,tP 22 0),(Gm b l),(9,tI v9),(10,tP 10 0)],[(10,.cells [.i (W64 (11+v9)),.s v7,.i (W64 (1+(AA v6 2).1)),.i 1,lst 7 AG.c (MY b types v6).1,.i (W64 (3+(ID v6).1))] 131),(22,.cells (AD.c (Z2d b types v6)) 117),(1000,Z22 b AL),(100000,Z23 AL)]⟩ (.cons (Ae (fun _ _=>kr) kr kr (Bf (AA v6 2).2 4 au5 au8)) (.cons (DE (Ae (fun _ _=>kr) kr kr (LP (AF.mk b.Layers b.Outline b.Parts [] [] [] [] [] [] [] [] [] []) types (AA (AA v6 2).2 4).2 au5 (by omega) (by omega) (by assumption))) (.cons (.agg (rr (rr (rr (rr (rr (.cons (.any _) (.cons (.any _) (.cons (.any _) (.cons (.any _) (.cons (.any _) (.cons (.any _) (.cons (.any _) (.cons (.any _) (.cons (.any _) (.cons (.any _) .nil)))))))))))))))) (.cons (AvE.refl _) (.cons (AvE.refl _) .nil)))) (.cons (DE (Ae (fun _ _=>kr) kr kr (LP (AF.mk b.Layers b.Outline b.Parts [] [] [] [] [] [] [] [] [] []) types (Z27 b types v6) au5 (by omega) (by omega) (by assumption))) (.cons (.agg (rr (rr (rr (rr (rr (.cons (.any _) (.cons (.any _) (.cons (.any _) (.cons (.any _) (.cons (.any _) (.cons (.any _) (.cons (.any _) (.cons (.any _) (.cons (.any _) (.cons (.any _) .nil)))))))))))))))) (.cons (AvE.refl _) (.cons (AvE.refl _) .nil)))) (.cons (Ae (fun _ _=>kr) kr kr (Z5 (Z28 b types v6) (Z2b b types v6) (Z2a b types v6) au5)) .nil)))) (.cons rfl (.cons rfl (.cons rfl (.cons rfl (.cons rfl (.cons rfl (.cons rfl (.cons rfl .nil))))))))<|AJ<|AC ?_
   refine dw [] [] [AL.length=AL.length,AL.length+1<=maxLen,(AL.length+1)*72<=140737488355328] ⟨[(0,tP 1000 0),(BI types),(2,Z1v l),(6,tP 22 0),(Gm b l),(9,tI v9)],[(22,.cells (AD.c (Z2d b types v6)) 117),(66,.row 6 (AL.length+1) (fun i_ j_=>if i_<AL.length then (AP AO.c AL) i_ j_ else (Ay 6 1 [.i (W64 (11+v9)),.s v7,.i (W64 (1+(AA v6 2).1)),.i 1,lst 7 AG.c (MY b types v6).1,.i (W64 (3+(ID v6).1))]) (i_-AL.length) j_) 131),(1000,.cells [.i b.Layers,.i b.Outline.Kind,lst 7 AG.c b.Outline.Edges,.i b.Outline.R,lst 7 AE.c b.Parts,lst 2 A1.c b.Nets,.own 66 6 (AL.length+1),vN,vN,vN,vN,vN,vN,vN,vN] 41)]⟩ .nil (.cons rfl (.cons au3 (.cons au3 .nil)))<|AJ ?_
   refine Ba (Cv.trans (BT (⟨[(0,tP 1000 0),(BI types),(2,Z1v l),(6,tP 22 0),(Gm b l),(9,tI v9)],[(22,.cells (AD.c (Z2d b types v6)) 117),(66,Z2e AL v9 v7 v6 b types),(1000,Z2f b AL v9 v7 v6 types)]⟩) lr (.cons ⟨rfl,.refl _⟩ (.cons ⟨rfl,Ap 131 (BZ (BM 6 AO.c AL) (Aw (c:=AO.c) (xs:=([AO.mk (W64 (11+v9)) v7 (W64 (1+(AA v6 2).1)) (AQ.mk 1 (CR (Z28 b types v6) (Z2b b types v6) (Z2a b types v6)).1 (W64 (3+(AA (AA v6 2).2 4).1)))]:List AO)) rfl kr))⟩ (.cons ⟨rfl,.cells _ (rr (rr (rr (rr (rr (rr (.cons (.own _ _ au2) (rr (rr (rr (rr (rr (rr (rr (rr .nil)))))))))))))))⟩ .nil)))) (Cv.refl _)) ?_
   refine rc [(71,(Z2g b types v6))] [Ak (Z2g b types v6).2.1,Blk.cells (Y5 b AL v9 v7 v6 types) 41=Blk.cells (Py [6,7,8,9,10,11,12,13,14] 0 (Y5 b AL v9 v7 v6 types) (NP b)) 41,BJ (.cells (AD.c (Z2d b types v6)) 117)] ⟨[(0,tP 1000 0),(BI types),(2,Z1v l),(6,tP 22 0),(7,Z2i b types v6),(Gm b l),(9,tI v9)],[(22,Z2j b types v6),(66,Z2e AL v9 v7 v6 b types),(1000,Z2f b AL v9 v7 v6 types)]⟩ (.cons (Iv (B0:=fun vs=>[.i b.Layers,.i b.Outline.Kind,lst 7 AG.c b.Outline.Edges,.i b.Outline.R,lst 7 AE.c b.Parts,lst 2 A1.c b.Nets,.val (vs 6),.val (vs 7),.val (vs 8),.val (vs 9),.val (vs 10),.val (vs 11),.val (vs 12),.val (vs 13),.val (vs 14)]) (fun _ _=>kr) kr rfl rfl kr (fun vs=>by kernel_rfl) (fun vs=>by kernel_rfl) (fun vs=>R2 (AF.mk b.Layers b.Outline b.Parts b.Nets [] [] [] [] [] [] [] [] []) (Z2d b types v6) vs au5 (by omega))) .nil) (.cons rfl (.cons rfl (.cons rfl .nil)))<|Be<|AJ ?_
   refine rg ⟨[(0,tP 1000 0),(BI types),(2,Z1v l),(6,tP 22 0),(7,Z2i b types v6),(Gm b l),(9,tI (W64 (v9+1)))],[(22,Z2j b types v6),(66,Z2e AL v9 v7 v6 b types),(1000,Z2f b AL v9 v7 v6 types)]⟩ ?_
   (try rw [(show W64 (v9+1)=v9+1 from An (by omega) au6)])
   refine AJ ?_
   refine ⟨(n0,AL++[AO.mk (W64 (11+v9)) v7 (W64 (1+(AA v6 2).1)) (AQ.mk 1 (CR (Z28 b types v6) (Z2b b types v6) (Z2a b types v6)).1 (W64 (3+(AA (AA v6 2).2 4).1)))],Z2h b types v6,(CQ (AF.mk b.Layers b.Outline b.Parts b.Nets [] [] [] [] [] [] [] [] []) (Z2d b types v6)).1,v9+1),⟨?_,?_,(by rw [<- hF0];simp only [B5,h1,cond_true,cond_false])⟩,Nat.lt_succ_self _,Cv.trans (BR (⟨[(0,tP 1000 0),(BI types),(2,Z1v l),(6,tP 22 0),(7,Z2i b types v6),(Gm b l),(9,tI (v9+1))],[(22,Z2j b types v6),(100000,Z2e AL v9 v7 v6 b types),(1000,Z2S b AL v9 v7 v6 types)]⟩) 66 100000 (K:=[1000]) hX rfl rfl kr kr) (Cv.trans (BD [0,1,2,6,7,8,9] [22,1000,100000] (⟨[(0,tP 1000 0),(BI types),(2,Z1v l),(6,tP 22 0),(7,Z2i b types v6),(Gm b l),(9,tI (v9+1))],[(22,Z2j b types v6),(1000,Z2S b AL v9 v7 v6 types),(100000,Z2e AL v9 v7 v6 b types)]⟩) kr) (BB kr))⟩
   ·show ((AA (Z1y b l) 6).1-(v9+1)).toNat<n0;omega
   ·exact ⟨(by show Bo (Z2h b types v6);repeat (first | with_reducible assumption | exact Cn (DV hll _) | with_reducible refine Bc ?_ | with_reducible refine Ee ?_ | with_reducible refine Dp ?_ | with_reducible refine DG ?_  | with_reducible refine Cu ?_ ?_)),ax0,ax0,ax0⟩
  ·have g1:=oF h1
   refine BV<|BE ?_
   refine BE<|BW ?_
   refine AJ<|AC ?_
   refine rc [(73,Cy l 5)] [Ak (Cy l 5).2.1] ⟨[(0,tP 1000 0),(BI types),(2,Z1v l),(6,tP 75 0)],[(75,.cells [lst 1 (fun x=>[.i x]) (AX l 5),.i 0] 117),(1000,Z22 b AL),(100000,Z23 AL)]⟩ (.cons (Fz l 5 au10) .nil) (.cons rfl .nil)<|AJ<|AC ?_
   refine rc [(77,(Z1C l))] [Ak (Z1C l).2.1,BJ (.cells [lst 1 (fun x=>[.i x]) (AX l 5),.i 0] 117)] ⟨[(0,tP 1000 0),(BI types),(2,Z1v l),(6,tP 75 0),(8,Z1D l)],[(75,Z1E l),(1000,Z22 b AL),(100000,Z23 AL)]⟩ (.cons (Ae (fun _ _=>kr) kr kr (Bf (AD.mk (AX l 5) 0) 3 au5 au8)) .nil) (.cons rfl (.cons rfl .nil))<|AJ ?_
   refine AC<|AC ?_
   refine rn ⟨(Ri types l),[(75,Z1E l),(1000,Z22 b AL),(100000,Z23 AL)]⟩<|AY ?_
   refine Ba (Cv.trans (Ca (⟨(Ri types l),[(100001,.row 8 0 (fun _ _=>default) 133),(75,Z1E l),(1000,.cells [.i b.Layers,.i b.Outline.Kind,lst 7 AG.c b.Outline.Edges,.i b.Outline.R,lst 7 AE.c b.Parts,lst 2 A1.c b.Nets,.own 100000 6 AL.length,.own 100001 8 0,vN,vN,vN,vN,vN,vN,vN] 41),(100000,Z23 AL)]⟩) 100001 8 (fun _ _=>default) 133 [] [(1000,[7])] (K:=[1000]) hX rfl kr kr) (Cv.trans (BT (⟨(Ri types l),[(100001,Z1Y),(75,Z1E l),(1000,Z2T b AL),(100000,Z23 AL)]⟩) lr (.cons ⟨rfl,Ap 133 (CZ 8 (fun _ _=>default) As.c)⟩ (.cons ⟨rfl,.refl _⟩ (.cons ⟨rfl,.cells _ (rr (rr (rr (rr (rr (rr (rr (.cons (.own _ _ au2) (rr (rr (rr (rr (rr (rr (rr .nil)))))))))))))))⟩ lr)))) (Cv.trans (BD [0,1,2,6,8,11] [75,1000,100000,100001] (⟨(Ri types l),[(75,Z1E l),(1000,Z2T b AL),(100000,Z23 AL),(100001,Z1Y)]⟩) kr) (Cv.refl _)))) ?_
   refine BS (ι:=Nat×List As×AD×Int) (fun x=>⟨[(0,tP 1000 0),(BI types),(2,Z1v l),(6,tP 75 0),(8,Z1D l),(11,tI x.2.2.2)],[(75,.cells (AD.c x.2.2.1) 117),(1000,.cells [.i b.Layers,.i b.Outline.Kind,lst 7 AG.c b.Outline.Edges,.i b.Outline.R,lst 7 AE.c b.Parts,lst 2 A1.c b.Nets,.own 100000 6 AL.length,.own 100001 8 x.2.1.length,vN,vN,vN,vN,vN,vN,vN] 41),(100000,Z23 AL),(100001,.row 8 x.2.1.length (AP As.c x.2.1) 133)]⟩) (fun x=>((AA (AD.mk (AX l 5) 0) 3).1-x.2.2.2).toNat<x.1/\(Bo x.2.2.1/\0<=x.2.2.2/\(x.2.2.2<=(AA (AD.mk (AX l 5) 0) 3).1\/x.2.2.2=0)/\(x.2.1.length:Int)<=0+1*(x.2.2.2-0))/\CP b types l AL v6 v7 v9 (B5 b types l n0) x.1 x.2.1 x.2.2.1 x.2.2.2=BN b types l) (fun x=>x.1) ?_ (((AA (AD.mk (AX l 5) 0) 3).1-0).toNat+1,([]:List As),(AA (AD.mk (AX l 5) 0) 3).2,0) ⟨Nat.lt_succ_self _,⟨(by show Bo ((AA (AD.mk (AX l 5) 0) 3).2);repeat (first | with_reducible assumption | exact Cn (DV hll _) | with_reducible refine Bc ?_ | with_reducible refine Ee ?_ | with_reducible refine Dp ?_ | with_reducible refine DG ?_  | with_reducible refine Cu ?_ ?_)),ax0,ax0,ax0⟩,(by rw [<- hF0];simp only [B5,h1,cond_true,cond_false])⟩
   rintro ⟨n1,AN,v6',v11⟩ ⟨hn,hinv,hF⟩
   have hm1:=hn;have hinv1:=hinv;have hF1:=hF;try dsimp only at hm1 hinv1 hF1
   clear hn hinv hF
   cases n1 with
   | zero=>exact absurd hm1 (Nat.not_lt_zero _)
   | succ n1 =>
    have hi1_0:=hinv1.1
    refine AC<|AC ?_
    refine rn ⟨[(0,tP 1000 0),(BI types),(2,Z1v l),(6,tP 75 0),(8,Z1D l),(11,tI v11),(80,tB (decide ((v11:Int)<(AA (AD.mk (AX l 5) 0) 3).1)))],[(75,.cells (AD.c v6') 117),(1000,Z2U b AL AN),(100000,Z23 AL),(100001,Z1Z AN)]⟩ ?_
    refine Ab _ rfl (fun h2 => ?_) (fun h2 => ?_)
    ·have g2:=oT h2
     have k2:=SP g2 (by decide) (by decide)
     refine Af<|AJ ?_
     refine AC<|AY ?_
     refine dw [] [(92,(Z2k b v6')),(98,ceI [.agg (Sz b AL AN),.one (Fw types),.one (.ptr 75 0)] (Z2m b types v6')),(100,(Z2p b types v6')),(103,(Z2q b types v6'))] [Ak (Z2k b v6').2.1,Blk.cells (Sz b AL AN) 41=Blk.cells (Py [6,7,8,9,10,11,12,13,14] 0 (Sz b AL AN) (NP b)) 41,BJ (.cells (AD.c v6') 117),Ak (ceI [.agg (Sz b AL AN),.one (lst 3 AM.c types),.one (.ptr 75 0)] (Z2m b types v6')).2.1,BJ (.cells (AD.c (Z2l b v6')) 117),Ak (Z2p b types v6').2.1,BJ (.cells (AD.c (Z2n b types v6')) 117),Ak (Z2q b types v6').2.1,BJ (.cells (AD.c (AA (Z2n b types v6') 5).2) 117),AN.length=AN.length,AN.length+1<=maxLen,(AN.length+1)*72<=140737488355328] ⟨[(0,tP 1000 0),(BI types),(2,Z1v l),(6,tP 75 0),(8,Z1D l),(11,tI v11)],[(75,Z2s b types v6'),(108,.row 8 (AN.length+1) (fun i_ j_=>if i_<AN.length then (AP As.c AN) i_ j_ else (Ay 8 1 [.i (W64 (21+v11)),.s (CQ (Gp b) v6').1,.i (Z2o b types v6').X,.i (Z2o b types v6').Y,.i (W64 (6+(AA (Z2n b types v6') 5).1)),.i (W64 (4+(W64 (2*(AA (AA (Z2n b types v6') 5).2 3).1)))),.i 1,.i 2]) (i_-AN.length) j_) 133),(1000,.cells [.i b.Layers,.i b.Outline.Kind,lst 7 AG.c b.Outline.Edges,.i b.Outline.R,lst 7 AE.c b.Parts,lst 2 A1.c b.Nets,.own 100000 6 AL.length,.own 108 8 (AN.length+1),vN,vN,vN,vN,vN,vN,vN] 41),(100000,Z23 AL)]⟩ (.cons (Iv (B0:=fun vs=>[.i b.Layers,.i b.Outline.Kind,lst 7 AG.c b.Outline.Edges,.i b.Outline.R,lst 7 AE.c b.Parts,lst 2 A1.c b.Nets,.val (vs 6),.val (vs 7),.val (vs 8),.val (vs 9),.val (vs 10),.val (vs 11),.val (vs 12),.val (vs 13),.val (vs 14)]) (fun _ _=>kr) kr rfl rfl kr (fun vs=>by kernel_rfl) (fun vs=>by kernel_rfl) (fun vs=>R2 (AF.mk b.Layers b.Outline b.Parts b.Nets [] [] [] [] [] [] [] [] []) v6' vs au5 (by omega))) (.cons (DE (Ae (fun _ _=>kr) kr kr (LP (AF.mk b.Layers b.Outline b.Parts [] [] [] [] [] [] [] [] [] []) types (Z2l b v6') au5 (by omega) (by omega) (by assumption))) (.cons (.agg (rr (rr (rr (rr (rr (.cons (.any _) (.cons (.any _) (.cons (.any _) (.cons (.any _) (.cons (.any _) (.cons (.any _) (.cons (.any _) (.cons (.any _) (.cons (.any _) (.cons (.any _) .nil)))))))))))))))) (.cons (AvE.refl _) (.cons (AvE.refl _) .nil)))) (.cons (Ae (fun _ _=>kr) kr kr (Bf (Z2n b types v6') 5 au5 au8)) (.cons (Ae (fun _ _=>kr) kr kr (Bf (AA (Z2n b types v6') 5).2 3 au5 au8)) .nil)))) (.cons rfl (.cons rfl (.cons rfl (.cons rfl (.cons rfl (.cons rfl (.cons rfl (.cons rfl (.cons rfl (.cons rfl (.cons au3 (.cons au3 .nil))))))))))))<|Be<|AJ ?_
     refine Ba (Cv.trans (BT (⟨[(0,tP 1000 0),(BI types),(2,Z1v l),(6,tP 75 0),(8,Z1D l),(11,tI v11)],[(75,Z2s b types v6'),(108,Z2t AN v11 b v6' types),(1000,Z2u b AL AN v11 v6' types),(100000,Z23 AL)]⟩) lr (.cons ⟨rfl,.refl _⟩ (.cons ⟨rfl,Ap 133 (BZ (BM 8 As.c AN) (Aw (c:=As.c) (xs:=([As.mk (W64 (21+v11)) (CQ (AF.mk b.Layers b.Outline b.Parts b.Nets [] [] [] [] [] [] [] [] []) v6').1 (Z2o b types v6') (W64 (6+(AA (Z2n b types v6') 5).1)) (W64 (4+(W64 (2*(AA (AA (Z2n b types v6') 5).2 3).1)))) 1 2]:List As)) rfl kr))⟩ (.cons ⟨rfl,.cells _ (rr (rr (rr (rr (rr (rr (rr (.cons (.own _ _ au2) (rr (rr (rr (rr (rr (rr (rr .nil)))))))))))))))⟩ lr)))) (Cv.refl _)) ?_
     refine rg ⟨[(0,tP 1000 0),(BI types),(2,Z1v l),(6,tP 75 0),(8,Z1D l),(11,tI (W64 (v11+1)))],[(75,Z2s b types v6'),(108,Z2t AN v11 b v6' types),(1000,Z2u b AL AN v11 v6' types),(100000,Z23 AL)]⟩ ?_
     (try rw [(show W64 (v11+1)=v11+1 from An (by omega) au6)])
     refine AJ ?_
     refine ⟨(n1,AN++[As.mk (W64 (21+v11)) (CQ (AF.mk b.Layers b.Outline b.Parts b.Nets [] [] [] [] [] [] [] [] []) v6').1 (Z2o b types v6') (W64 (6+(AA (Z2n b types v6') 5).1)) (W64 (4+(W64 (2*(AA (AA (Z2n b types v6') 5).2 3).1)))) 1 2],Z2r b types v6',v11+1),⟨?_,?_,(by rw [<- hF1];simp only [CP,h2,cond_true,cond_false])⟩,Nat.lt_succ_self _,Cv.trans (BR (⟨[(0,tP 1000 0),(BI types),(2,Z1v l),(6,tP 75 0),(8,Z1D l),(11,tI (v11+1))],[(75,Z2s b types v6'),(100001,Z2t AN v11 b v6' types),(1000,Z2W b AL AN v11 v6' types),(100000,Z23 AL)]⟩) 108 100001 (K:=[1000]) hX rfl rfl kr kr) (Cv.trans (BD [0,1,2,6,8,11] [75,1000,100000,100001] (⟨[(0,tP 1000 0),(BI types),(2,Z1v l),(6,tP 75 0),(8,Z1D l),(11,tI (v11+1))],[(75,Z2s b types v6'),(1000,Z2W b AL AN v11 v6' types),(100000,Z23 AL),(100001,Z2t AN v11 b v6' types)]⟩) kr) (BB kr))⟩
     ·show ((AA (AD.mk (AX l 5) 0) 3).1-(v11+1)).toNat<n1;omega
     ·exact ⟨(by show Bo (Z2r b types v6');repeat (first | with_reducible assumption | exact Cn (DV hll _) | with_reducible refine Bc ?_ | with_reducible refine Ee ?_ | with_reducible refine Dp ?_ | with_reducible refine DG ?_  | with_reducible refine Cu ?_ ?_)),ax0,ax0,ax0⟩
    ·have g2:=oF h2
     refine BV<|BE ?_
     refine BE<|BW ?_
     refine AJ<|AC ?_
     refine rc [(112,(Z2v v6'))] [Ak (Z2v v6').2.1,BJ (.cells (AD.c v6') 117)] ⟨[(0,tP 1000 0),(BI types),(2,Z1v l),(6,tP 75 0),(Ew v6')],[(OR v6'),(1000,Z2U b AL AN),(100000,Z23 AL),(100001,Z1Z AN)]⟩ (.cons (Ae (fun _ _=>kr) kr kr (Bf v6' 3 au5 au8)) .nil) (.cons rfl (.cons rfl .nil))<|AJ ?_
     refine AC<|AC ?_
     refine rn ⟨(RW types l v6'),[(OR v6'),(1000,Z2U b AL AN),(100000,Z23 AL),(100001,Z1Z AN)]⟩<|AY ?_
     refine Ba (Cv.trans (Ca (⟨(RW types l v6'),[(100002,.row 8 0 (fun _ _=>default) 97),(OR v6'),(1000,.cells [.i b.Layers,.i b.Outline.Kind,lst 7 AG.c b.Outline.Edges,.i b.Outline.R,lst 7 AE.c b.Parts,lst 2 A1.c b.Nets,.own 100000 6 AL.length,.own 100001 8 AN.length,.own 100002 8 0,vN,vN,vN,vN,vN,vN] 41),(100000,Z23 AL),(100001,Z1Z AN)]⟩) 100002 8 (fun _ _=>default) 97 [] [(1000,[8])] (K:=[1000]) hX rfl kr kr) (Cv.trans (BT (⟨(RW types l v6'),[(100002,Z1W),(OR v6'),(1000,Z2X b AL AN),(100000,Z23 AL),(100001,Z1Z AN)]⟩) lr (.cons ⟨rfl,Ap 97 (CZ 8 (fun _ _=>default) A0.c)⟩ (.cons ⟨rfl,.refl _⟩ (.cons ⟨rfl,.cells _ (rr (rr (rr (rr (rr (rr (rr (rr (.cons (.own _ _ au2) (rr (rr (rr (rr (rr (rr .nil)))))))))))))))⟩ lr)))) (Cv.trans (BD [0,1,2,6,8,12] [75,1000,100000,100001,100002] (⟨(RW types l v6'),[(OR v6'),(1000,Z2X b AL AN),(100000,Z23 AL),(100001,Z1Z AN),(100002,Z1W)]⟩) kr) (Cv.refl _)))) ?_
     refine BS (ι:=Nat×List A0×AD×Int) (fun x=>⟨[(0,tP 1000 0),(BI types),(2,Z1v l),(6,tP 75 0),(Ew v6'),(12,tI x.2.2.2)],[(75,.cells (AD.c x.2.2.1) 117),(1000,.cells [.i b.Layers,.i b.Outline.Kind,lst 7 AG.c b.Outline.Edges,.i b.Outline.R,lst 7 AE.c b.Parts,lst 2 A1.c b.Nets,.own 100000 6 AL.length,.own 100001 8 AN.length,.own 100002 8 x.2.1.length,vN,vN,vN,vN,vN,vN] 41),(100000,Z23 AL),(100001,Z1Z AN),(100002,.row 8 x.2.1.length (AP A0.c x.2.1) 97)]⟩) (fun x=>((AA v6' 3).1-x.2.2.2).toNat<x.1/\(Bo x.2.2.1/\0<=x.2.2.2/\(x.2.2.2<=(AA v6' 3).1\/x.2.2.2=0)/\(x.2.1.length:Int)<=0+1*(x.2.2.2-0))/\CH b types l AL v6 v7 v9 AN v6' v11 (B5 b types l n0) (CP b types l AL v6 v7 v9 (B5 b types l n0) n1) x.1 x.2.1 x.2.2.1 x.2.2.2=BN b types l) (fun x=>x.1) ?_ (((AA v6' 3).1-0).toNat+1,([]:List A0),(AA v6' 3).2,0) ⟨Nat.lt_succ_self _,⟨(by show Bo ((AA v6' 3).2);repeat (first | with_reducible assumption | exact Cn (DV hll _) | with_reducible refine Bc ?_ | with_reducible refine Ee ?_ | with_reducible refine Dp ?_ | with_reducible refine DG ?_  | with_reducible refine Cu ?_ ?_)),ax0,ax0,ax0⟩,(by rw [<- hF1];simp only [CP,h2,cond_true,cond_false])⟩
     rintro ⟨n2,AU,v6'',v12⟩ ⟨hn,hinv,hF⟩
     have hm2:=hn;have hinv2:=hinv;have hF2:=hF;try dsimp only at hm2 hinv2 hF2
     clear hn hinv hF
     cases n2 with
     | zero=>exact absurd hm2 (Nat.not_lt_zero _)
     | succ n2 =>
      have hi2_0:=hinv2.1
      refine AC<|AC ?_
      refine rn ⟨[(0,tP 1000 0),(BI types),(2,Z1v l),(6,tP 75 0),(Ew v6'),(12,tI v12),(115,tB (decide ((v12:Int)<(AA v6' 3).1)))],[(75,.cells (AD.c v6'') 117),(1000,Z2Y b AL AN AU),(100000,Z23 AL),(100001,Z1Z AN),(100002,Z1X AU)]⟩ ?_
      refine Ab _ rfl (fun h3 => ?_) (fun h3 => ?_)
      ·have g3:=oT h3
       have k3:=SP g3 (by decide) (by decide)
       refine Af<|AJ ?_
       refine AC<|AY<|AC ?_
       refine rc [(119,(Z2w v6'')),(121,(Z2x v6''))] [Ak (Z2w v6'').2.1,BJ (.cells (AD.c v6'') 117),Ak (Z2x v6'').2.1,BJ (.cells (AD.c (AA v6'' 12).2) 117)] ⟨[(0,tP 1000 0),(BI types),(2,Z1v l),(6,tP 75 0),(Ew v6'),(12,tI v12),(13,tI (AA v6'' 12).1),(14,tI (E5 v6'').1)],[(75,.cells (AD.c (E5 v6'').2) 117),(1000,Z2Y b AL AN AU),(100000,Z23 AL),(100001,Z1Z AN),(100002,Z1X AU)]⟩ (.cons (Ae (fun _ _=>kr) kr kr (Bf v6'' 12 au5 au8)) (.cons (Ae (fun _ _=>kr) kr kr (Bf (AA v6'' 12).2 12 au5 au8)) .nil)) (.cons rfl (.cons rfl (.cons rfl (.cons rfl .nil))))<|AJ<|AC ?_
       refine rc [(127,(Z2y v6'')),(132,(Z2A v6''))] [Ak (Z2y v6'').2.1,BJ (.cells (AD.c (AA (AA v6'' 12).2 12).2) 117),Ak (Z2A v6'').2.1,BJ (.cells (AD.c (Z2z v6'')) 117)] ⟨[(0,tP 1000 0),(BI types),(2,Z1v l),(6,tP 75 0),(Ew v6'),(12,tI v12),(13,tI (AA v6'' 12).1),(14,tI (E5 v6'').1),(15,tP 15 0)],[(15,.cells (ZW v6'') 90),(75,.cells (AD.c (AA (Z2z v6'') 5).2) 117),(1000,Z2Y b AL AN AU),(100000,Z23 AL),(100001,Z1Z AN),(100002,Z1X AU)]⟩ (.cons (Ae (fun _ _=>kr) kr kr (Bf (AA (AA v6'' 12).2 12).2 6 au5 au8)) (.cons (Ae (fun _ _=>kr) kr kr (Bf (Z2z v6'') 5 au5 au8)) .nil)) (.cons rfl (.cons rfl (.cons rfl (.cons rfl .nil))))<|AJ<|AC ?_
       refine dw [158] [(139,(Z2B b v6'')),(141,(Z2D b v6'')),(144,(Z2E b v6'')),(148,(Z2G b v6'')),(151,(Z2H b v6'')),(155,(Z2J b v6''))] [Ak (Z2B b v6'').2.1,Blk.cells (QA b AL AN AU) 41=Blk.cells (Py [6,7,8,9,10,11,12,13,14] 0 (QA b AL AN AU) (NP b)) 41,BJ (.cells (AD.c (AA (Z2z v6'') 5).2) 117),Ak (Z2D b v6'').2.1,BJ (.cells (AD.c (Z2C b v6'')) 117),Ak (Z2E b v6'').2.1,BJ (.cells (AD.c (AA (Z2C b v6'') 2).2) 117),Ak (Z2G b v6'').2.1,BJ (.cells (AD.c (Z2F b v6'')) 117),Ak (Z2H b v6'').2.1,BJ (.cells (AD.c (AA (Z2F b v6'') 2).2) 117),0<=((AA (AA (Z2F b v6'') 2).2 4).1:Int)/\((AA (AA (Z2F b v6'') 2).2 4).1:Int)<((4:Nat):Int),Ak (Z2J b v6'').2.1,BJ (.cells (AD.c (Z2I b v6'')) 117)] ⟨[(0,tP 1000 0),(BI types),(2,Z1v l),(6,tP 75 0),(Ew v6'),(12,tI v12),(13,tI (AA v6'' 12).1),(14,tI (E5 v6'').1),(16,tP 16 0)],[(16,.cells [.i (W64 (31+v12)),.s (JT b v6'').1,.i (W64 (1+(GE b v6'').1)),.i (W64 (20+(W64 (5*(JS b v6'').1)))),.i (GD b v6'').1,.i (([0,0,5,9]:List Int).getD (JR b v6'').1.toNat 0),.i (W64 (4+(E8 b v6'').1)),.own 158 4 1] 97),(75,.cells (AD.c (E8 b v6'').2) 117),(158,.row 4 1 (Ay 4 1 (ZW v6'')) 90),(1000,Z2Y b AL AN AU),(100000,Z23 AL),(100001,Z1Z AN),(100002,Z1X AU)]⟩ (.cons (Iv (B0:=fun vs=>[.i b.Layers,.i b.Outline.Kind,lst 7 AG.c b.Outline.Edges,.i b.Outline.R,lst 7 AE.c b.Parts,lst 2 A1.c b.Nets,.val (vs 6),.val (vs 7),.val (vs 8),.val (vs 9),.val (vs 10),.val (vs 11),.val (vs 12),.val (vs 13),.val (vs 14)]) (fun _ _=>kr) kr rfl rfl kr (fun vs=>by kernel_rfl) (fun vs=>by kernel_rfl) (fun vs=>R2 (AF.mk b.Layers b.Outline b.Parts b.Nets [] [] [] [] [] [] [] [] []) (AA (Z2z v6'') 5).2 vs au5 (by omega))) (.cons (Ae (fun _ _=>kr) kr kr (Bf (Z2C b v6'') 2 au5 au8)) (.cons (Ae (fun _ _=>kr) kr kr (Bf (AA (Z2C b v6'') 2).2 3 au5 au8)) (.cons (Ae (fun _ _=>kr) kr kr (Bf (Z2F b v6'') 2 au5 au8)) (.cons (Ae (fun _ _=>kr) kr kr (Bf (AA (Z2F b v6'') 2).2 4 au5 au8)) (.cons (Ae (fun _ _=>kr) kr kr (Bf (Z2I b v6'') 6 au5 au8)) .nil)))))) (.cons rfl (.cons rfl (.cons rfl (.cons rfl (.cons rfl (.cons rfl (.cons rfl (.cons rfl (.cons rfl (.cons rfl (.cons rfl (.cons (by first | exact J0 _ _ _ (by decide) (by decide) (by decide) | decide | omega) (.cons rfl (.cons rfl .nil))))))))))))))<|AJ ?_
       refine Ba (Cv.trans (BT (⟨[(0,tP 1000 0),(BI types),(2,Z1v l),(6,tP 75 0),(Ew v6'),(12,tI v12),(13,tI (AA v6'' 12).1),(14,tI (E5 v6'').1),(16,tP 16 0)],[(16,Z2K v12 b v6''),(75,.cells (AD.c (E8 b v6'').2) 117),(158,Z2L v6''),(1000,Z2Y b AL AN AU),(100000,Z23 AL),(100001,Z1Z AN),(100002,Z1X AU)]⟩) lr (.cons ⟨rfl,.cells _ (rr (rr (rr (rr (rr (rr (rr (.cons (.own _ _ au2) .nil))))))))⟩ (.cons ⟨rfl,.refl _⟩ (.cons ⟨rfl,Ap 90 (Aw (c:=Ad.c) (xs:=([Ad.mk (AA v6'' 12).1 (AA (AA v6'' 12).2 12).1 (W64 ((W64 ((AA v6'' 12).1+1))+(AA (AA (AA v6'' 12).2 12).2 6).1)) (W64 ((W64 ((AA (AA v6'' 12).2 12).1+1))+(AA (Z2z v6'') 5).1))]:List Ad)) rfl kr)⟩ lr)))) (Cv.refl _))<|AC<|AC ?_
       refine rc [(161,(Z2M b v6''))] [Ak (Z2M b v6'').2.1,BJ (.cells (AD.c (AA (Z2I b v6'') 6).2) 117)] ⟨[(0,tP 1000 0),(BI types),(2,Z1v l),(6,tP 75 0),(Ew v6'),(12,tI v12),(13,tI (AA v6'' 12).1),(14,tI (E5 v6'').1),(16,tP 16 0),(162,tB (decide (((AA (E8 b v6'').2 3).1:Int)=0)))],[(16,Z2K v12 b v6''),(75,Z2O b v6''),(158,Z2L v6''),(1000,Z2Y b AL AN AU),(100000,Z23 AL),(100001,Z1Z AN),(100002,Z1X AU)]⟩ (.cons (Ae (fun _ _=>kr) kr kr (Bf (AA (Z2I b v6'') 6).2 3 au5 au8)) .nil) (.cons rfl (.cons rfl .nil))<|AJ ?_
       refine Bu (⟨[(0,tP 1000 0),(BI types),(2,.av (oL l)),(6,tP 75 0),(Ew v6'),(12,tI v12),(16,tP 16 0)],[(16,.cells [.i (W64 (31+v12)),.s (JT b v6'').1,.i (W64 (1+(GE b v6'').1)),.i (W64 (20+(W64 (5*(JS b v6'').1)))),.i (GD b v6'').1,.i (([0,0,5,9]:List Int).getD (JR b v6'').1.toNat 0),.i (W64 (4+(E8 b v6'').1)),.own 100003 4 (Z2Q b v6'').length] 97),(75,.cells (AD.c (Z2N b v6'')) 117),(1000,.cells (QA b AL AN AU) 41),(100000,.row 6 AL.length (AP AO.c AL) 131),(100001,.row 8 AN.length (AP As.c AN) 133),(100002,.row 8 AU.length (AP A0.c AU) 97),(100003,.row 4 (Z2Q b v6'').length (AP Ad.c (Z2Q b v6'')) 90)]⟩) ?_ ?_
       ·refine Ab _ rfl (fun h4 => ?_) (fun h4 => ?_)
        ·have g4:=oT h4
         refine rc [] [[Ad.mk (AA v6'' 12).1 (AA (AA v6'' 12).2 12).1 (W64 ((W64 ((AA v6'' 12).1+1))+(AA (AA (AA v6'' 12).2 12).2 6).1)) (W64 ((W64 ((AA (AA v6'' 12).2 12).1+1))+(AA (Z2z v6'') 5).1))].length=[Ad.mk (AA v6'' 12).1 (AA (AA v6'' 12).2 12).1 (W64 ((W64 ((AA v6'' 12).1+1))+(AA (AA (AA v6'' 12).2 12).2 6).1)) (W64 ((W64 ((AA (AA v6'' 12).2 12).1+1))+(AA (Z2z v6'') 5).1))].length,([Ad.mk (AA v6'' 12).1 (AA (AA v6'' 12).2 12).1 (W64 ((W64 ((AA v6'' 12).1+1))+(AA (AA (AA v6'' 12).2 12).2 6).1)) (W64 ((W64 ((AA (AA v6'' 12).2 12).1+1))+(AA (Z2z v6'') 5).1))].length)+1<=maxLen,(([Ad.mk (AA v6'' 12).1 (AA (AA v6'' 12).2 12).1 (W64 ((W64 ((AA v6'' 12).1+1))+(AA (AA (AA v6'' 12).2 12).2 6).1)) (W64 ((W64 ((AA (AA v6'' 12).2 12).1+1))+(AA (Z2z v6'') 5).1))].length)+1)*32<=140737488355328] ⟨(JZ types l v6' v12),[(16,.cells [.i (W64 (31+v12)),.s (CQ (Gp b) (AA (Z2z v6'') 5).2).1,.i (W64 (1+(AA (Z2C b v6'') 2).1)),.i (W64 (20+(W64 (5*(AA (AA (Z2C b v6'') 2).2 3).1)))),.i (AA (Z2F b v6'') 2).1,.i (([0,0,5,9]:List Int).getD (AA (AA (Z2F b v6'') 2).2 4).1.toNat 0),.i (W64 (4+(AA (Z2I b v6'') 6).1)),.own 174 4 (((Ho v6'').length)+1)] 97),(75,Z2O b v6''),(174,.row 4 (((Ho v6'').length)+1) (fun i_ j_=>if i_<((Ho v6'').length) then (AP Ad.c (Ho v6'')) i_ j_ else (Ay 4 1 [.i (W64 ((AA v6'' 12).1-2)),.i (E5 v6'').1,.i (W64 ((AA v6'' 12).1+1)),.i (W64 ((E5 v6'').1+2))]) (i_-((Ho v6'').length)) j_) 90),(1000,Z2Y b AL AN AU),(100000,Z23 AL),(100001,Z1Z AN),(100002,Z1X AU)]⟩ .nil (.cons rfl (.cons au3 (.cons au3 .nil)))<|AJ ?_
         refine Cv.trans (BT (⟨(JZ types l v6' v12),[(16,.cells [.i (W64 (31+v12)),.s (CQ (Gp b) (AA (Z2z v6'') 5).2).1,.i (W64 (1+(AA (Z2C b v6'') 2).1)),.i (W64 (20+(W64 (5*(AA (AA (Z2C b v6'') 2).2 3).1)))),.i (AA (Z2F b v6'') 2).1,.i (([0,0,5,9]:List Int).getD (AA (AA (Z2F b v6'') 2).2 4).1.toNat 0),.i (W64 (4+(AA (Z2I b v6'') 6).1)),.own 174 4 ((Ho v6'')++[Ad.mk (W64 ((AA v6'' 12).1-2)) (E5 v6'').1 (W64 ((AA v6'' 12).1+1)) (W64 ((E5 v6'').1+2))]).length] 97),(75,Z2O b v6''),(174,Z2P v6''),(1000,Z2Y b AL AN AU),(100000,Z23 AL),(100001,Z1Z AN),(100002,Z1X AU)]⟩) lr (.cons ⟨rfl,.cells _ (rr (rr (rr (rr (rr (rr (rr (.cons (.own _ _ au2) .nil))))))))⟩ (.cons ⟨rfl,.refl _⟩ (.cons ⟨rfl,Ap 90 (BZ (BM 4 Ad.c [Ad.mk (AA v6'' 12).1 (AA (AA v6'' 12).2 12).1 (W64 ((W64 ((AA v6'' 12).1+1))+(AA (AA (AA v6'' 12).2 12).2 6).1)) (W64 ((W64 ((AA (AA v6'' 12).2 12).1+1))+(AA (Z2z v6'') 5).1))]) (Aw (c:=Ad.c) (xs:=([Ad.mk (W64 ((AA v6'' 12).1-2)) (AA (AA v6'' 12).2 12).1 (W64 ((AA v6'' 12).1+1)) (W64 ((AA (AA v6'' 12).2 12).1+2))]:List Ad)) rfl kr))⟩ lr)))) (Cv.trans (BR (⟨(JZ types l v6' v12),[(16,Z30 v12 b v6''),(75,Z2O b v6''),(100003,Z2P v6''),(1000,Z2Y b AL AN AU),(100000,Z23 AL),(100001,Z1Z AN),(100002,Z1X AU)]⟩) 174 100003 (K:=[1000]) hX rfl rfl kr kr) (Cv.trans (BD [0,1,2,6,8,12,16] [16,75,1000,100000,100001,100002,100003] (⟨(JZ types l v6' v12),[(16,Z30 v12 b v6''),(75,Z2O b v6''),(1000,Z2Y b AL AN AU),(100000,Z23 AL),(100001,Z1Z AN),(100002,Z1X AU),(100003,Z2P v6'')]⟩) kr) (BB ?_)))
         first | rfl | (simp only [h4,Z2Q,cond_true,cond_false] <;> rfl)
        ·have g4:=oF h4
         refine Af<|AJ ?_
         refine Cv.trans (BD [0,1,2,6,8,12,16] [16,75,158,1000,100000,100001,100002] (⟨(JZ types l v6' v12),[(16,Z2K v12 b v6''),(75,Z2O b v6''),(158,Z2L v6''),(1000,Z2Y b AL AN AU),(100000,Z23 AL),(100001,Z1Z AN),(100002,Z1X AU)]⟩) kr) (Cv.trans (BR (⟨(JZ types l v6' v12),[(16,Z31 v12 b v6''),(75,Z2O b v6''),(100003,Z2L v6''),(1000,Z2Y b AL AN AU),(100000,Z23 AL),(100001,Z1Z AN),(100002,Z1X AU)]⟩) 158 100003 (K:=[1000]) hX rfl rfl kr kr) (Cv.trans (BD [0,1,2,6,8,12,16] [16,75,1000,100000,100001,100002,100003] (⟨(JZ types l v6' v12),[(16,Z31 v12 b v6''),(75,Z2O b v6''),(1000,Z2Y b AL AN AU),(100000,Z23 AL),(100001,Z1Z AN),(100002,Z1X AU),(100003,Z2L v6'')]⟩) kr) (BB ?_)))
         first | rfl | (simp only [h4,Z2Q,cond_true,cond_false] <;> rfl)
       refine Ba (Cv.trans (Dn (⟨(JZ types l v6' v12),[(16,.cells [.i (W64 (31+v12)),.s (CQ (Gp b) (AA (Z2z v6'') 5).2).1,.i (W64 (1+(AA (Z2C b v6'') 2).1)),.i (W64 (20+(W64 (5*(AA (AA (Z2C b v6'') 2).2 3).1)))),.i (AA (Z2F b v6'') 2).1,.i (([0,0,5,9]:List Int).getD (AA (AA (Z2F b v6'') 2).2 4).1.toNat 0),.i (W64 (4+(AA (Z2I b v6'') 6).1)),lst 4 Ad.c (Z2Q b v6'')] 97),(75,Z2O b v6''),(1000,Z2Y b AL AN AU),(100000,Z23 AL),(100001,Z1Z AN),(100002,Z1X AU)]⟩) 100003 4 (Z2Q b v6'').length (AP Ad.c (Z2Q b v6'')) 90 (K:=[1000]) hX kr kr (.cons ⟨rfl,rfl⟩ .nil) kr) (Cv.refl _)) ?_
       refine dw [] [] [AU.length=AU.length,AU.length+1<=maxLen,(AU.length+1)*88<=140737488355328] ⟨[(0,tP 1000 0),(BI types),(2,Z1v l),(6,tP 75 0),(Ew v6'),(12,tI v12)],[(75,Z2O b v6''),(183,.row 8 (AU.length+1) (fun i_ j_=>if i_<AU.length then (AP A0.c AU) i_ j_ else (Ay 8 1 [.i (W64 (31+v12)),.s (JT b v6'').1,.i (W64 (1+(GE b v6'').1)),.i (W64 (20+(W64 (5*(JS b v6'').1)))),.i (GD b v6'').1,.i (([0,0,5,9]:List Int).getD (JR b v6'').1.toNat 0),.i (W64 (4+(E8 b v6'').1)),lst 4 Ad.c (Z2Q b v6'')]) (i_-AU.length) j_) 97),(1000,.cells [.i b.Layers,.i b.Outline.Kind,lst 7 AG.c b.Outline.Edges,.i b.Outline.R,lst 7 AE.c b.Parts,lst 2 A1.c b.Nets,.own 100000 6 AL.length,.own 100001 8 AN.length,.own 183 8 (AU.length+1),vN,vN,vN,vN,vN,vN] 41),(100000,Z23 AL),(100001,Z1Z AN)]⟩ .nil (.cons rfl (.cons au3 (.cons au3 .nil)))<|Be<|AJ ?_
       refine Ba (Cv.trans (BT (⟨[(0,tP 1000 0),(BI types),(2,Z1v l),(6,tP 75 0),(Ew v6'),(12,tI v12)],[(75,Z2O b v6''),(183,Z2R AU v12 b v6''),(1000,Z2V b AL AN AU v12 v6''),(100000,Z23 AL),(100001,Z1Z AN)]⟩) lr (.cons ⟨rfl,.refl _⟩ (.cons ⟨rfl,Ap 97 (BZ (BM 8 A0.c AU) (Aw (c:=A0.c) (xs:=([A0.mk (W64 (31+v12)) (CQ (AF.mk b.Layers b.Outline b.Parts b.Nets [] [] [] [] [] [] [] [] []) (AA (Z2z v6'') 5).2).1 (W64 (1+(AA (Z2C b v6'') 2).1)) (W64 (20+(W64 (5*(AA (AA (Z2C b v6'') 2).2 3).1)))) (AA (Z2F b v6'') 2).1 (([0,0,5,9]:List Int).getD (AA (AA (Z2F b v6'') 2).2 4).1.toNat 0) (W64 (4+(AA (Z2I b v6'') 6).1)) (Z2Q b v6'')]:List A0)) rfl kr))⟩ (.cons ⟨rfl,.cells _ (rr (rr (rr (rr (rr (rr (rr (rr (.cons (.own _ _ au2) (rr (rr (rr (rr (rr (rr .nil)))))))))))))))⟩ lr)))) (Cv.refl _)) ?_
       refine rg ⟨[(0,tP 1000 0),(BI types),(2,Z1v l),(6,tP 75 0),(Ew v6'),(12,tI (W64 (v12+1)))],[(75,Z2O b v6''),(183,Z2R AU v12 b v6''),(1000,Z2V b AL AN AU v12 v6''),(100000,Z23 AL),(100001,Z1Z AN)]⟩ ?_
       (try rw [(show W64 (v12+1)=v12+1 from An (by omega) au6)])
       refine AJ ?_
       refine ⟨(n2,AU++[A0.mk (W64 (31+v12)) (CQ (AF.mk b.Layers b.Outline b.Parts b.Nets [] [] [] [] [] [] [] [] []) (AA (Z2z v6'') 5).2).1 (W64 (1+(AA (Z2C b v6'') 2).1)) (W64 (20+(W64 (5*(AA (AA (Z2C b v6'') 2).2 3).1)))) (AA (Z2F b v6'') 2).1 (([0,0,5,9]:List Int).getD (AA (AA (Z2F b v6'') 2).2 4).1.toNat 0) (W64 (4+(AA (Z2I b v6'') 6).1)) (Z2Q b v6'')],Z2N b v6'',v12+1),⟨?_,?_,(by rw [<- hF2];simp only [CH,h3,cond_true,cond_false])⟩,Nat.lt_succ_self _,Cv.trans (BR (⟨[(0,tP 1000 0),(BI types),(2,Z1v l),(6,tP 75 0),(Ew v6'),(12,tI (v12+1))],[(75,Z2O b v6''),(100002,Z2R AU v12 b v6''),(1000,Z32 b AL AN AU v12 v6''),(100000,Z23 AL),(100001,Z1Z AN)]⟩) 183 100002 (K:=[1000]) hX rfl rfl kr kr) (Cv.trans (BD [0,1,2,6,8,12] [75,1000,100000,100001,100002] (⟨[(0,tP 1000 0),(BI types),(2,Z1v l),(6,tP 75 0),(Ew v6'),(12,tI (v12+1))],[(75,Z2O b v6''),(1000,Z32 b AL AN AU v12 v6''),(100000,Z23 AL),(100001,Z1Z AN),(100002,Z2R AU v12 b v6'')]⟩) kr) (BB kr))⟩
       ·show ((AA v6' 3).1-(v12+1)).toNat<n2;omega
       ·exact ⟨(by show Bo (Z2N b v6'');repeat (first | with_reducible assumption | exact Cn (DV hll _) | with_reducible refine Bc ?_ | with_reducible refine Ee ?_ | with_reducible refine Dp ?_ | with_reducible refine DG ?_  | with_reducible refine Cu ?_ ?_)),ax0,ax0,ax0⟩
      ·have g3:=oF h3
       refine BV<|BE ?_
       refine BE<|BW ?_
       refine AJ<|AC ?_
       refine rc [(187,Cy l 6)] [Ak (Cy l 6).2.1] ⟨(MX types),[(189,.cells [lst 1 (fun x=>[.i x]) (AX l 6),.i 0] 117),(1000,Z2Y b AL AN AU),(100000,Z23 AL),(100001,Z1Z AN),(100002,Z1X AU)]⟩ (.cons (Fz l 6 au10) .nil) (.cons rfl .nil)<|AJ ?_
       refine AC<|AC ?_
       refine rc [(191,(Z1F l))] [Ak (Z1F l).2.1,BJ (.cells [lst 1 (fun x=>[.i x]) (AX l 6),.i 0] 117)] ⟨[(0,tP 1000 0),(BI types),(6,tP 189 0),(192,tB (decide (((KY l).1:Int)=0)))],[(189,Z1G l),(1000,Z2Y b AL AN AU),(100000,Z23 AL),(100001,Z1Z AN),(100002,Z1X AU)]⟩ (.cons (Ae (fun _ _=>kr) kr kr (Bf (AD.mk (AX l 6) 0) 3 au5 au8)) .nil) (.cons rfl (.cons rfl .nil))<|AJ ?_
       refine Bu (⟨(MX types),[(189,.cells (AD.c (Z1M l b types)) 117),(1000,.cells [.i b.Layers,.i b.Outline.Kind,lst 7 AG.c b.Outline.Edges,.i b.Outline.R,lst 7 AE.c b.Parts,lst 2 A1.c b.Nets,.own 100000 6 AL.length,.own 100001 8 AN.length,.own 100002 8 AU.length,lst 5 Bb.c (Z1N l b types),vN,vN,vN,vN,vN] 41),(100000,.row 6 AL.length (AP AO.c AL) 131),(100001,.row 8 AN.length (AP As.c AN) 133),(100002,.row 8 AU.length (AP A0.c AU) 97)]⟩) ?_ ?_
       ·refine Ab _ rfl (fun h4 => ?_) (fun h4 => ?_)
        ·have g4:=oT h4
         refine AC<|rc [(198,ceI [.agg (QA b AL AN AU),.one (Fw types),.one (.ptr 189 0)] (Z1H b types l))] [Ak (ceI [.agg (QA b AL AN AU),.one (lst 3 AM.c types),.one (.ptr 189 0)] (Z1H b types l)).2.1,BJ (.cells (AD.c (AA (AD.mk (AX l 6) 0) 3).2) 117)] ⟨[(0,tP 1000 0),(BI types),(6,tP 189 0),(17,tP 17 0)],[(17,.cells (AB.c (Z1J b types l)) 66),(189,.cells (AD.c (Z1I b types l)) 117),(1000,Z2Y b AL AN AU),(100000,Z23 AL),(100001,Z1Z AN),(100002,Z1X AU)]⟩ (.cons (DE (Ae (fun _ _=>kr) kr kr (LP (AF.mk b.Layers b.Outline b.Parts [] [] [] [] [] [] [] [] [] []) types (AA (AD.mk (AX l 6) 0) 3).2 au5 (by omega) (by omega) (by assumption))) (.cons (.agg (rr (rr (rr (rr (rr (.cons (.any _) (.cons (.any _) (.cons (.any _) (.cons (.any _) (.cons (.any _) (.cons (.any _) (.cons (.any _) (.cons (.any _) (.cons (.any _) (.cons (.any _) .nil)))))))))))))))) (.cons (AvE.refl _) (.cons (AvE.refl _) .nil)))) .nil) (.cons rfl (.cons rfl .nil))<|AJ ?_
         refine dw [] [(201,(Z1K b types l)),(213,Hh (Ad.mk (Z1J b types l).X (Z1J b types l).Y (W64 ((Z1J b types l).X+30)) (W64 ((Z1J b types l).Y+20))))] [Ak (Z1K b types l).2.1,BJ (.cells (AD.c (Z1I b types l)) 117),Ak (Hh (Ad.mk (Z1J b types l).X (Z1J b types l).Y (W64 ((Z1J b types l).X+30)) (W64 ((Z1J b types l).Y+20)))).2.1] ⟨(MX types),[(189,.cells (AD.c (AA (Z1I b types l) 3).2) 117),(1000,.cells [.i b.Layers,.i b.Outline.Kind,lst 7 AG.c b.Outline.Edges,.i b.Outline.R,lst 7 AE.c b.Parts,lst 2 A1.c b.Nets,.own 100000 6 AL.length,.own 100001 8 AN.length,.own 100002 8 AU.length,.list true 5 1 (Ay 5 1 [.i 41,.i (AA (Z1I b types l) 3).1,.i (Z1L b types l).Kind,lst 7 AG.c (Z1L b types l).Edges,.i (Z1L b types l).R]),vN,vN,vN,vN,vN] 41),(100000,Z23 AL),(100001,Z1Z AN),(100002,Z1X AU)]⟩ (.cons (Ae (fun _ _=>kr) kr kr (Bf (Z1I b types l) 3 au5 au8)) (.cons (SD (Ad.mk (Z1J b types l).X (Z1J b types l).Y (W64 ((Z1J b types l).X+30)) (W64 ((Z1J b types l).Y+20)))) .nil)) (.cons rfl (.cons rfl (.cons rfl .nil)))<|AJ ?_
         refine Cv.trans (BT (⟨(MX types),[(189,.cells (AD.c (AA (Z1I b types l) 3).2) 117),(1000,.cells [.i b.Layers,.i b.Outline.Kind,lst 7 AG.c b.Outline.Edges,.i b.Outline.R,lst 7 AE.c b.Parts,lst 2 A1.c b.Nets,.own 100000 6 AL.length,.own 100001 8 AN.length,.own 100002 8 AU.length,lst 5 Bb.c [Bb.mk 41 (AA (Z1I b types l) 3).1 (Z1L b types l)],vN,vN,vN,vN,vN] 41),(100000,Z23 AL),(100001,Z1Z AN),(100002,Z1X AU)]⟩) lr (.cons ⟨rfl,.refl _⟩ (.cons ⟨rfl,.cells _ (rr (rr (rr (rr (rr (rr (rr (rr (rr (.cons (Bm true (Aw (c:=Bb.c) (xs:=([Bb.mk 41 (AA (Z1I b types l) 3).1 (Z1L b types l)]:List Bb)) rfl kr)) (rr (rr (rr (rr (rr .nil)))))))))))))))⟩ lr))) (BB ?_)
         first | rfl | (simp only [h4,Z1M,Z1N,cond_true,cond_false] <;> rfl)
        ·have g4:=oF h4
         refine Af<|AJ ?_
         refine Cv.trans (BD [0,1,6] [189,1000,100000,100001,100002] (⟨(MX types),[(189,Z1G l),(1000,Z2Y b AL AN AU),(100000,Z23 AL),(100001,Z1Z AN),(100002,Z1X AU)]⟩) kr) (Cv.trans (BT (⟨(MX types),[(189,Z1G l),(1000,.cells [.i b.Layers,.i b.Outline.Kind,lst 7 AG.c b.Outline.Edges,.i b.Outline.R,lst 7 AE.c b.Parts,lst 2 A1.c b.Nets,.own 100000 6 AL.length,.own 100001 8 AN.length,.own 100002 8 AU.length,lst 5 Bb.c [],vN,vN,vN,vN,vN] 41),(100000,Z23 AL),(100001,Z1Z AN),(100002,Z1X AU)]⟩) lr (.cons ⟨rfl,.refl _⟩ (.cons ⟨rfl,.cells _ (rr (rr (rr (rr (rr (rr (rr (rr (rr (.cons (Cr 5 Bb.c) (rr (rr (rr (rr (rr .nil)))))))))))))))⟩ lr))) (BB ?_))
         first | rfl | (simp only [h4,Z1M,Z1N,cond_true,cond_false] <;> rfl)
       refine AC<|rc [(219,(Z1O l b types))] [Ak (Z1O l b types).2.1,BJ (.cells (AD.c (Z1M l b types)) 117)] ⟨(RS types l b),[(189,Z1Q l b types),(1000,Z2Z b AL AN AU l types),(100000,Z23 AL),(100001,Z1Z AN),(100002,Z1X AU)]⟩ (.cons (Ae (fun _ _=>kr) kr kr (Bf (Z1M l b types) 3 au5 au8)) .nil) (.cons rfl (.cons rfl .nil))<|AJ ?_
       refine Ab _ rfl (fun h4 => ?_) (fun h4 => ?_)
       ·have g4:=oT h4
        refine AC<|rc [(226,ceI [.agg [.i b.Layers,.i b.Outline.Kind,lst 7 AG.c b.Outline.Edges,.i b.Outline.R,lst 7 AE.c b.Parts,lst 2 A1.c b.Nets,.own 100000 6 AL.length,.own 100001 8 AN.length,.own 100002 8 AU.length,lst 5 Bb.c (Z1N l b types),vN,vN,vN,vN,vN],.one (Fw types),.one (.ptr 189 0)] (Z1R b types l))] [Ak (ceI [.agg [.i b.Layers,.i b.Outline.Kind,lst 7 AG.c b.Outline.Edges,.i b.Outline.R,lst 7 AE.c b.Parts,lst 2 A1.c b.Nets,.own 100000 6 AL.length,.own 100001 8 AN.length,.own 100002 8 AU.length,lst 5 Bb.c (Z1N l b types),vN,vN,vN,vN,vN],.one (lst 3 AM.c types),.one (.ptr 189 0)] (Z1R b types l)).2.1,BJ (.cells (AD.c (AA (Z1M l b types) 3).2) 117)] ⟨[(0,tP 1000 0),(6,tP 189 0),(18,tP 18 0)],[(18,.cells (AB.c (Z1T b types l)) 66),(189,.cells (AD.c (Z1S b types l)) 117),(1000,Z2Z b AL AN AU l types),(100000,Z23 AL),(100001,Z1Z AN),(100002,Z1X AU)]⟩ (.cons (DE (Ae (fun _ _=>kr) kr kr (LP (AF.mk b.Layers b.Outline b.Parts [] [] [] [] [] [] [] [] [] []) types (AA (Z1M l b types) 3).2 au5 (by omega) (by omega) (by assumption))) (.cons (.agg (rr (rr (rr (rr (rr (.cons (.any _) (.cons (.any _) (.cons (.any _) (.cons (.any _) (.cons (.any _) (.cons (.any _) (.cons (.any _) (.cons (.any _) (.cons (.any _) (.cons (.any _) .nil)))))))))))))))) (.cons (AvE.refl _) (.cons (AvE.refl _) .nil)))) .nil) (.cons rfl (.cons rfl .nil))<|AJ ?_
        refine dw [] [(229,(Z1U b types l)),(239,Cb (Z1T b types l) (AB.mk (W64 ((Z1T b types l).X+25)) (W64 ((Z1T b types l).Y+10))))] [Ak (Z1U b types l).2.1,BJ (.cells (AD.c (Z1S b types l)) 117),Ak (Cb (Z1T b types l) (AB.mk (W64 ((Z1T b types l).X+25)) (W64 ((Z1T b types l).Y+10)))).2.1] ⟨[],[(1000,.cells [.i b.Layers,.i b.Outline.Kind,lst 7 AG.c b.Outline.Edges,.i b.Outline.R,lst 7 AE.c b.Parts,lst 2 A1.c b.Nets,.own 100000 6 AL.length,.own 100001 8 AN.length,.own 100002 8 AU.length,lst 5 Bb.c (Z1N l b types),.list true 4 1 (Ay 4 1 (Mi b types l)),vN,vN,vN,vN] 41),(100000,Z23 AL),(100001,Z1Z AN),(100002,Z1X AU)]⟩ (.cons (Ae (fun _ _=>kr) kr kr (Bf (Z1S b types l) 4 au5 au8)) (.cons (Fy (Z1T b types l) (AB.mk (W64 ((Z1T b types l).X+25)) (W64 ((Z1T b types l).Y+10)))) .nil)) (.cons rfl (.cons rfl (.cons rfl .nil))) ?_
        exact ⟨_,Cv.trans (Dn (⟨[],[(1000,.cells [.i b.Layers,.i b.Outline.Kind,lst 7 AG.c b.Outline.Edges,.i b.Outline.R,lst 7 AE.c b.Parts,lst 2 A1.c b.Nets,lst 6 AO.c AL,.own 100001 8 AN.length,.own 100002 8 AU.length,lst 5 Bb.c (Z1N l b types),.list true 4 1 (Ay 4 1 (Mi b types l)),vN,vN,vN,vN] 41),(100001,Z1Z AN),(100002,Z1X AU)]⟩) 100000 6 AL.length (AP AO.c AL) 131 (K:=[1000]) hX kr kr (.cons ⟨rfl,rfl⟩ .nil) kr) (Cv.trans (Dn (⟨[],[(1000,.cells [.i b.Layers,.i b.Outline.Kind,lst 7 AG.c b.Outline.Edges,.i b.Outline.R,lst 7 AE.c b.Parts,lst 2 A1.c b.Nets,lst 6 AO.c AL,lst 8 As.c AN,.own 100002 8 AU.length,lst 5 Bb.c (Z1N l b types),.list true 4 1 (Ay 4 1 (Mi b types l)),vN,vN,vN,vN] 41),(100002,Z1X AU)]⟩) 100001 8 AN.length (AP As.c AN) 133 (K:=[1000]) hX kr kr (.cons ⟨rfl,rfl⟩ .nil) kr) (Cv.trans (Dn (⟨[],[(1000,.cells [.i b.Layers,.i b.Outline.Kind,lst 7 AG.c b.Outline.Edges,.i b.Outline.R,lst 7 AE.c b.Parts,lst 2 A1.c b.Nets,lst 6 AO.c AL,lst 8 As.c AN,lst 8 A0.c AU,lst 5 Bb.c (Z1N l b types),.list true 4 1 (Ay 4 1 (Mi b types l)),vN,vN,vN,vN] 41)]⟩) 100002 8 AU.length (AP A0.c AU) 97 (K:=[1000]) hX kr kr (.cons ⟨rfl,rfl⟩ .nil) kr) (Cv.refl _))),.inr rfl,.tup [],by kernel_rfl,⟨Al rfl,.cells [.i b.Layers,.i b.Outline.Kind,lst 7 AG.c b.Outline.Edges,.i b.Outline.R,lst 7 AE.c b.Parts,lst 2 A1.c b.Nets,lst 6 AO.c AL,lst 8 As.c AN,lst 8 A0.c AU,lst 5 Bb.c (Z1N l b types),.list true 4 1 (Ay 4 1 (Mi b types l)),vN,vN,vN,vN] 41,by kernel_rfl,Sl (y:=.cells [.i b.Layers,.i b.Outline.Kind,lst 7 AG.c b.Outline.Edges,.i b.Outline.R,lst 7 AE.c b.Parts,lst 2 A1.c b.Nets,lst 6 AO.c AL,lst 8 As.c AN,lst 8 A0.c AU,lst 5 Bb.c (Z1N l b types),lst 4 Am.c [Am.mk 51 (AQ.mk 1 [Z1V b types l] (W64 (3+(AA (Z1S b types l) 4).1)))],vN,vN,vN,vN] 41) (.cells _ (rr (rr (rr (rr (rr (rr (rr (rr (rr (rr (.cons (Bm true (FU (c:=Am.c) (xs:=([Am.mk 51 (AQ.mk 1 [Z1V b types l] (W64 (3+(AA (Z1S b types l) 4).1)))]:List Am)) (y:=[(Mi b types l)]) (z:=[[.i 51,.i 1,lst 7 AG.c [Z1V b types l],.i (W64 (3+(AA (Z1S b types l) 4).1))]]) rfl kr kr (.cons (rr (rr (.cons (Bm true (Aw (c:=AG.c) (xs:=([Z1V b types l]:List AG)) rfl kr)) (rr .nil)))) .nil))) (rr (rr (rr (rr .nil)))))))))))))))) (by rw [<- hF2];first | (simp only [CH,h3,h4,cond_true,cond_false];done) | (simp only [CH,h3,h4,cond_true,cond_false];kernel_rfl))⟩⟩
       ·have g4:=oF h4
        refine Af ?_
        exact ⟨_,Cv.trans (Dn (⟨(RS types l b),[(189,Z1Q l b types),(1000,.cells [.i b.Layers,.i b.Outline.Kind,lst 7 AG.c b.Outline.Edges,.i b.Outline.R,lst 7 AE.c b.Parts,lst 2 A1.c b.Nets,lst 6 AO.c AL,.own 100001 8 AN.length,.own 100002 8 AU.length,lst 5 Bb.c (Z1N l b types),vN,vN,vN,vN,vN] 41),(100001,Z1Z AN),(100002,Z1X AU)]⟩) 100000 6 AL.length (AP AO.c AL) 131 (K:=[1000]) hX kr kr (.cons ⟨rfl,rfl⟩ .nil) kr) (Cv.trans (Dn (⟨(RS types l b),[(189,Z1Q l b types),(1000,.cells [.i b.Layers,.i b.Outline.Kind,lst 7 AG.c b.Outline.Edges,.i b.Outline.R,lst 7 AE.c b.Parts,lst 2 A1.c b.Nets,lst 6 AO.c AL,lst 8 As.c AN,.own 100002 8 AU.length,lst 5 Bb.c (Z1N l b types),vN,vN,vN,vN,vN] 41),(100002,Z1X AU)]⟩) 100001 8 AN.length (AP As.c AN) 133 (K:=[1000]) hX kr kr (.cons ⟨rfl,rfl⟩ .nil) kr) (Cv.trans (Dn (⟨(RS types l b),[(189,Z1Q l b types),(1000,.cells [.i b.Layers,.i b.Outline.Kind,lst 7 AG.c b.Outline.Edges,.i b.Outline.R,lst 7 AE.c b.Parts,lst 2 A1.c b.Nets,lst 6 AO.c AL,lst 8 As.c AN,lst 8 A0.c AU,lst 5 Bb.c (Z1N l b types),vN,vN,vN,vN,vN] 41)]⟩) 100002 8 AU.length (AP A0.c AU) 97 (K:=[1000]) hX kr kr (.cons ⟨rfl,rfl⟩ .nil) kr) (Cv.refl _))),.inr rfl,.tup [],by kernel_rfl,⟨Al rfl,.cells [.i b.Layers,.i b.Outline.Kind,lst 7 AG.c b.Outline.Edges,.i b.Outline.R,lst 7 AE.c b.Parts,lst 2 A1.c b.Nets,lst 6 AO.c AL,lst 8 As.c AN,lst 8 A0.c AU,lst 5 Bb.c (Z1N l b types),vN,vN,vN,vN,vN] 41,by kernel_rfl,Sl (y:=.cells [.i b.Layers,.i b.Outline.Kind,lst 7 AG.c b.Outline.Edges,.i b.Outline.R,lst 7 AE.c b.Parts,lst 2 A1.c b.Nets,lst 6 AO.c AL,lst 8 As.c AN,lst 8 A0.c AU,lst 5 Bb.c (Z1N l b types),lst 4 Am.c [],vN,vN,vN,vN] 41) (.cells _ (rr (rr (rr (rr (rr (rr (rr (rr (rr (rr (.cons (Cr 4 Am.c) (rr (rr (rr (rr .nil)))))))))))))))) (by rw [<- hF2];first | (simp only [CH,h3,h4,cond_true,cond_false];done) | (simp only [CH,h3,h4,cond_true,cond_false];kernel_rfl))⟩⟩
end
section
open Go.RowKit
structure Lv (b:AF) (B:AF):Prop where
 lay:B.Layers=b.Layers
 out:B.Outline=b.Outline
 par:B.Parts=b.Parts
 net:B.Nets=b.Nets
 trk:(B.Tracks.length:Int)<=6
 edg:∀ t∈B.Tracks,(t.Shape.Edges.length:Int)<=2
 via:(B.Vias.length:Int)<=3
 pou:(B.Pours.length:Int)<=3
 kee:(B.Keeps.length:Int)<=1
 slo:(B.Slots.length:Int)<=1
theorem gU {b B C:AF} {c:Bool} (h:Lv b B) (k:Lv b C):Lv b (bif c then B else C):=by cases c <;> assumption
theorem SB {α:Type} {c:Bool} {x:α}:((bif c then [x] else []:List α).length:Int)<=1:=by cases c <;> simp
theorem Qt (a c:AB) (d:AD):((CR a c d).1.length:Int)<=2:=by
 unfold CR
 generalize (bif _ then _ else false:Bool)=q
 cases q with
 | true=>simp
 | false =>
  simp only [cond_false]
  cases decide (((AA d 4).1:Int)=3) <;> simp
theorem Wu (b:AF) (types:List AM) (l:List (List Int)) (v1:List AO) (v6:AD) (v7:ByteArray) (v9:Int) (v2:List As) (v6':AD) (v11:Int) (K0:List AO->AD->ByteArray->Int->AF) (K1:List As->AD->Int->AF) (h1:(v1.length:Int)<=6) (he:∀ t∈v1,(t.Shape.Edges.length:Int)<=2) (h2:(v2.length:Int)<=3):∀ (n:Nat) (v:List A0) (d:AD) (k:Int),0<=k->(v.length:Int)<=k->k<=3->((AA v6' 3).1-k).toNat<n->Lv b (CH b types l v1 v6 v7 v9 v2 v6' v11 K0 K1 n v d k)
 | 0,v,d,k,_,_,_,h=>absurd h (Nat.not_lt_zero _)
 | n+1,v,d,k,k0,kv,k3,h=>by
  unfold CH
  have hb:=C7 v6' 3 (by decide) (by decide)
  by_cases hc:k<(AA v6' 3).1
  ·simp only [hc,decide_true,cond_true]
   exact Wu b types l v1 v6 v7 v9 v2 v6' v11 K0 K1 h1 he h2 n _ _ _ (by omega) (by simp only [List.length_append,List.length_cons,List.length_nil];omega) (by omega) (by omega)
  ·simp only [hc,decide_false,cond_false]
   have hv:(v.length:Int)<=3:=by omega
   repeat (first | exact ⟨rfl,rfl,rfl,rfl,h1,he,h2,hv,SB,SB⟩ | exact ⟨rfl,rfl,rfl,rfl,h1,he,h2,hv,SB,(by simp:((([_]:List Am).length:Nat):Int)<=1)⟩ | exact ⟨rfl,rfl,rfl,rfl,h1,he,h2,hv,SB,(by simp:((([]:List Am).length:Nat):Int)<=1)⟩ | refine gU ?_ ?_)
theorem Wv (b:AF) (types:List AM) (l:List (List Int)) (v1:List AO) (v6:AD) (v7:ByteArray) (v9:Int) (K0:List AO->AD->ByteArray->Int->AF) (h1:(v1.length:Int)<=6) (he:∀ t∈v1,(t.Shape.Edges.length:Int)<=2):∀ (n:Nat) (v:List As) (d:AD) (k:Int),0<=k->(v.length:Int)<=k->k<=3->((AA (AD.mk (AX l 5) 0) 3).1-k).toNat<n->Lv b (CP b types l v1 v6 v7 v9 K0 n v d k)
 | 0,v,d,k,_,_,_,h=>absurd h (Nat.not_lt_zero _)
 | n+1,v,d,k,k0,kv,k3,h=>by
  unfold CP
  have hb:=C7 (AD.mk (AX l 5) 0) 3 (by decide) (by decide)
  by_cases hc:k<(AA (AD.mk (AX l 5) 0) 3).1
  ·simp only [hc,decide_true,cond_true]
   exact Wv b types l v1 v6 v7 v9 K0 h1 he n _ _ _ (by omega) (by simp only [List.length_append,List.length_cons,List.length_nil];omega) (by omega) (by omega)
  ·simp only [hc,decide_false,cond_false]
   exact Wu b types l v1 v6 v7 v9 v d k K0 _ h1 he (by omega) _ _ _ 0 (by omega) (by simp) (by omega) (by omega)
theorem Ww (b:AF) (types:List AM) (l:List (List Int)):∀ (n:Nat) (v:List AO) (d:AD) (s:ByteArray) (k:Int),0<=k->(v.length:Int)<=k->k<=6->(∀ t∈v,(t.Shape.Edges.length:Int)<=2)->((AA (Z1y b l) 6).1-k).toNat<n->Lv b (B5 b types l n v d s k)
 | 0,v,d,s,k,_,_,_,_,h=>absurd h (Nat.not_lt_zero _)
 | n+1,v,d,s,k,k0,kv,k3,he,h=>by
  unfold B5
  have hb:=C7 (Z1y b l) 6 (by decide) (by decide)
  by_cases hc:k<(AA (Z1y b l) 6).1
  ·simp only [hc,decide_true,cond_true]
   refine Ww b types l n _ _ _ _ (by omega) (by simp only [List.length_append,List.length_cons,List.length_nil];omega) (by omega) (fun t ht => ?_) (by omega)
   rcases List.mem_append.1 ht with ht | ht
   ·exact he t ht
   ·rw [List.mem_singleton.1 ht];exact Qt _ _ _
  ·simp only [hc,decide_false,cond_false]
   exact Wv b types l v d s k _ (by omega) he _ _ _ 0 (by omega) (by simp) (by omega) (by omega)
theorem HB (b:AF) (types:List AM) (l:List (List Int)):Lv b (BN b types l):=by
 have hb:=C7 (Z1y b l) 6 (by decide) (by decide)
 unfold BN
 exact Ww b types l _ _ _ _ 0 (by omega) (by simp) (by omega) (fun t ht=>by cases ht) (by omega)
end
section
open Go.RowKit
def AK:Ec:=Ec.mk 1 (⟨#[]⟩) 0 (Ad.mk 0 0 0 0) (OpL.mk 0 (fun _ _=>default))
def CB:FuncId×List Av×Ef:=(99,[],.val [] (.av (.agg (Ec.c AK))))
abbrev Rk:List Cl:=[.i 1,.s (⟨#[]⟩),.i 0,.i 0,.i 0,.i 0,.i 0,vN]
theorem X3  : Bk Tryz.prog 99 (CB ).2.1 (.av (.agg (Ec.c AK))):=by
 refine AV Tryz.func99 rfl kr kr fun W0 M0 => ?_
 refine AC<|rn ⟨[(0,tP 0 0)],[(0,.cells [.i 0,.s (⟨#[]⟩),.i 0,.i 0,.i 0,.i 0,.i 0,vN] 145)]⟩<|AC ?_
 refine rn ⟨[(0,tP 0 0)],[(0,.cells Rk 145)]⟩<|Ag ?_
 exact ⟨_,Cv.refl _,.inl rfl,.av (.agg Rk),by kernel_rfl,D3 (y:=.av (.agg [.i 1,.s (⟨#[]⟩),.i 0,.i 0,.i 0,.i 0,.i 0,opL (OpL.mk 0 (fun _ _=>default))])) (.av (.agg (rr (rr (rr (rr (rr (rr (rr (.cons (.nil _ _) .nil)))))))))) (by rfl)⟩
theorem EQ  : Az Tryz.prog (CB ).1 (CB ).2.1 (CB ).2.2:=AW (fun _ _=>kr) fun _=>X3
def Z33:Blk:=.cells [.i 0,.s (⟨#[]⟩),.i 0,.i 0,.i 0,.i 0,.i 0,vN] 145
abbrev GG (d:AD):Blk:=.cells (AD.c (AA d 9).2) 117
def Z34 (d:AD):FuncId×List Av×Ef:=(42,([.one (.ptr 1000 0),.one (.i 9)]:List Av).map (Bz 1000 1000),wrI 1000 (HS d) (tI (AA d 9).1) (GG d))
abbrev IE (d:AD):=AA (AA d 9).2 2
def Z35 (d:AD):FuncId×List Av×Ef:=(42,(FS:List Av).map (Bz 1000 1000),wrI 1000 (GG d) (tI (IE d).1) (.cells (AD.c (IE d).2) 117))
def Z36 (d:AD):Blk:=.cells (AD.c (IE d).2) 117
def Z37 (d:AD):FuncId×List Av×Ef:=(42,(Kc:List Av).map (Bz 1000 1000),wrI 1000 (GG d) (tI (AA (AA d 9).2 5).1) (.cells (AD.c (AA (AA d 9).2 5).2) 117))
def Z38 (d:AD):FuncId×List Av×Ef:=(42,(E2:List Av).map (Bz 1000 1000),wrI 1000 (GG d) (tI (AA (AA d 9).2 3).1) (.cells (AD.c (AA (AA d 9).2 3).2) 117))
def Z39 (d:AD):FuncId×List Av×Ef:=(42,(OY:List Av).map (Bz 1000 1000),wrI 1000 (GG d) (tI (AA (AA d 9).2 6).1) (.cells (AD.c (AA (AA d 9).2 6).2) 117))
def Z3a (d:AD):FuncId×List Av×Ef:=(42,(HY:List Av).map (Bz 1000 1000),wrI 1000 (.cells (AD.c (IE d).2) 117) (tI (AA (IE d).2 4).1) (.cells (AD.c (AA (IE d).2 4).2) 117))
abbrev Z3b (d:AD):AD:=(AA (AA (AA d 9).2 2).2 4).2
def BQ (d:AD):(Ec×AD):=bif decide (((AA d 9).1:Int)=0) then (Ec.mk 2 (([({ data := #[78,49] }:ByteArray),({ data := #[71,78,68] }:ByteArray)]:List ByteArray).getD (AA (AA d 9).2 2).1.toNat ⟨#[]⟩) 0 (Ad.mk 0 0 0 0) (OpL.mk 0 (fun _ _=>default)),(AA (AA d 9).2 2).2) else (bif decide (((AA d 9).1:Int)=1) then (Ec.mk 3 ({ data := #[112,111,119,101,114] }:ByteArray) 0 (Ad.mk 0 0 0 0) (OpL.mk 0 (fun _ _=>default)),(AA d 9).2) else (bif decide (((AA d 9).1:Int)=2) then (Ec.mk 4 (⟨#[]⟩) (W64 (1+(AA (AA d 9).2 5).1)) (Ad.mk 0 0 0 0) (OpL.mk 0 (fun _ _=>default)),(AA (AA d 9).2 5).2) else (bif decide (((AA d 9).1:Int)=3) then (Ec.mk 5 (⟨#[]⟩) (W64 (1+(AA (AA d 9).2 2).1)) (Ad.mk 0 0 0 0) (OpL.mk 0 (fun _ _=>default)),(AA (AA d 9).2 2).2) else (bif decide (((AA d 9).1:Int)=4) then (Ec.mk 6 (⟨#[]⟩) (W64 (1+(AA (AA d 9).2 3).1)) (Ad.mk 0 0 0 0) (OpL.mk 0 (fun _ _=>default)),(AA (AA d 9).2 3).2) else (bif decide (((AA d 9).1:Int)=5) then (Ec.mk 7 (⟨#[]⟩) 0 (Ad.mk 0 0 (W64 (100+(W64 (50*(AA (AA d 9).2 6).1)))) 400) (OpL.mk 0 (fun _ _=>default)),(AA (AA d 9).2 6).2) else (bif decide (((AA d 9).1:Int)=6) then (Ec.mk 8 (⟨#[]⟩) 0 (Ad.mk 0 0 0 0) (OpL.mk 1 (Ay 8 1 [.i 5,.s (⟨#[]⟩),.i (W64 (1+(AA (AA d 9).2 2).1)),.i 0,.i 0,.i 0,.i 0,vN])),(AA (AA d 9).2 2).2) else (bif decide (((AA d 9).1:Int)=7) then (Ec.mk (W64 (9+(AA (AA d 9).2 2).1)) (⟨#[]⟩) 0 (Ad.mk 0 0 0 0) (OpL.mk 2 (Ay 8 2 [.i 4,.s (⟨#[]⟩),.i (W64 (1+(AA (AA (AA d 9).2 2).2 4).1)),.i 0,.i 0,.i 0,.i 0,vN,.i 2,.s ({ data := #[71,78,68] }:ByteArray),.i 0,.i 0,.i 0,.i 0,.i 0,vN])),Z3b d) else (Ec.mk 1 (⟨#[]⟩) 0 (Ad.mk 0 0 0 0) (OpL.mk 0 (fun _ _=>default)),(AA d 9).2))))))))
abbrev pF (d:AD):List Cl:=[.i 5,.s (⟨#[]⟩),.i (W64 (1+(AA (AA d 9).2 2).1)),.i 0,.i 0,.i 0,.i 0,vN]
abbrev Ro (d:AD):List Cl:=(pF d)
abbrev Gs (d:AD):Nat×Blk:=(1000,.cells (AD.c (AA d 9).2) 117)
abbrev ZO (d:AD):List Cl:=[.i 7,.s (⟨#[]⟩),.i 0,.i 0,.i 0,.i (W64 (100+(W64 (50*(AA (AA d 9).2 6).1)))),.i 400,vN]
abbrev JD (d:AD):Nat×Tv:=(4,tI (AA d 9).1)
abbrev ZG (d:AD):List Cl:=[.i 4,.s (⟨#[]⟩),.i (W64 (1+(AA (AA d 9).2 5).1)),.i 0,.i 0,.i 0,.i 0,vN]
abbrev ZF (d:AD):List Cl:=[.i 6,.s (⟨#[]⟩),.i (W64 (1+(AA (AA d 9).2 3).1)),.i 0,.i 0,.i 0,.i 0,vN]
abbrev ZC (d:AD):List Cl:=[.i 8,.s (⟨#[]⟩),.i 0,.i 0,.i 0,.i 0,.i 0,.list true 8 1 (Ay 8 1 (Ro d))]
theorem Wm  (d:AD) (hd:Bo d):Wr Tryz.prog 100 1000 [.one (.ptr 1000 0)] (.cells (AD.c d) 117) (.av (.agg (Ec.c (BQ d).1))) (.cells (AD.c (BQ d).2) 117):=by
 refine Hp Tryz.func100 rfl kr kr kr kr fun W0 M0 X hX => ?_
 refine AC<|rn ⟨[(0,tP 1000 0),(2,tP 2 0)],[(2,Z33),(JL d)]⟩ ?_
 refine AC<|AC ?_
 refine rc [(4,(Z34 d))] [Ak (Z34 d).2.1,BJ (HS d)] ⟨[(0,tP 1000 0),(2,tP 2 0),(JD d)],[(2,Z33),(Gs d)]⟩ (.cons (Ae (fun _ _=>kr) kr kr (Bf d 9 au5 au8)) .nil) (.cons rfl (.cons rfl .nil))<|AJ ?_
 refine AY<|AC ?_
 refine rn ⟨[(0,tP 1000 0),(2,tP 2 0),(JD d),(5,tB (decide (((AA d 9).1:Int)=0)))],[(2,Z33),(Gs d)]⟩ ?_
 refine Ab _ rfl (fun h1 => ?_) (fun h1 => ?_)
 ·have g1:=oT h1
  refine AC<|rc [(9,(Z35 d))] [Ak (Z35 d).2.1,BJ (GG d),0<=((AA (AA d 9).2 2).1:Int)/\((AA (AA d 9).2 2).1:Int)<((2:Nat):Int)] ⟨[(2,tP 2 0)],[(2,.cells [.i 2,.s (([({ data := #[78,49] }:ByteArray),({ data := #[71,78,68] }:ByteArray)]:List ByteArray).getD (IE d).1.toNat ⟨#[]⟩),.i 0,.i 0,.i 0,.i 0,.i 0,vN] 145),(1000,Z36 d)]⟩ (.cons (Ae (fun _ _=>kr) kr kr (Bf (AA d 9).2 2 au5 au8)) .nil) (.cons rfl (.cons rfl (.cons (by first | exact J0 _ _ _ (by decide) (by decide) (by decide) | decide | omega) .nil)))<|AJ ?_
  refine Ag<|CO<|Bd ?_
  exact ⟨_,Cv.refl _,.inl rfl,.av (.agg [.i 2,.s (([({ data := #[78,49] }:ByteArray),({ data := #[71,78,68] }:ByteArray)]:List ByteArray).getD (AA (AA d 9).2 2).1.toNat ⟨#[]⟩),.i 0,.i 0,.i 0,.i 0,.i 0,vN]),by kernel_rfl,⟨D3 (y:=.av (.agg [.i 2,.s (([({ data := #[78,49] }:ByteArray),({ data := #[71,78,68] }:ByteArray)]:List ByteArray).getD (AA (AA d 9).2 2).1.toNat ⟨#[]⟩),.i 0,.i 0,.i 0,.i 0,.i 0,opL (OpL.mk 0 (fun _ _=>default))])) (.av (.agg (rr (rr (rr (rr (rr (rr (rr (.cons (.nil _ _) .nil)))))))))) (by unfold BQ;rw [h1];rfl),.cells (AD.c (AA (AA d 9).2 2).2) 117,by kernel_rfl,Dh (by unfold BQ;rw [h1];kernel_rfl)⟩⟩
 ·have g1:=oF h1
  refine AC<|rn ⟨[(0,tP 1000 0),(2,tP 2 0),(JD d),(13,tB (decide (((AA d 9).1:Int)=1)))],[(2,Z33),(Gs d)]⟩ ?_
  refine Ab _ rfl (fun h2 => ?_) (fun h2 => ?_)
  ·have g2:=oT h2
   refine AC<|rn ⟨[(2,tP 2 0)],[(2,.cells [.i 3,.s ({ data := #[112,111,119,101,114] }:ByteArray),.i 0,.i 0,.i 0,.i 0,.i 0,vN] 145),(Gs d)]⟩ ?_
   refine Ag<|CO<|Bd ?_
   exact ⟨_,Cv.refl _,.inl rfl,.av (.agg [.i 3,.s ({ data := #[112,111,119,101,114] }:ByteArray),.i 0,.i 0,.i 0,.i 0,.i 0,vN]),by kernel_rfl,⟨D3 (y:=.av (.agg [.i 3,.s ({ data := #[112,111,119,101,114] }:ByteArray),.i 0,.i 0,.i 0,.i 0,.i 0,opL (OpL.mk 0 (fun _ _=>default))])) (.av (.agg (rr (rr (rr (rr (rr (rr (rr (.cons (.nil _ _) .nil)))))))))) (by unfold BQ;rw [h1,h2];rfl),.cells (AD.c (AA d 9).2) 117,by kernel_rfl,Dh (by unfold BQ;rw [h1,h2];kernel_rfl)⟩⟩
  ·have g2:=oF h2
   refine AC<|rn ⟨[(0,tP 1000 0),(2,tP 2 0),(JD d),(16,tB (decide (((AA d 9).1:Int)=2)))],[(2,Z33),(Gs d)]⟩ ?_
   refine Ab _ rfl (fun h3 => ?_) (fun h3 => ?_)
   ·have g3:=oT h3
    refine AC<|rc [(19,(Z37 d))] [Ak (Z37 d).2.1,BJ (GG d)] ⟨[(2,tP 2 0)],[(2,.cells (ZG d) 145),(1000,.cells (AD.c (AA (AA d 9).2 5).2) 117)]⟩ (.cons (Ae (fun _ _=>kr) kr kr (Bf (AA d 9).2 5 au5 au8)) .nil) (.cons rfl (.cons rfl .nil))<|AJ ?_
    refine Ag<|CO<|Bd ?_
    exact ⟨_,Cv.refl _,.inl rfl,.av (.agg (ZG d)),by kernel_rfl,⟨D3 (y:=.av (.agg [.i 4,.s (⟨#[]⟩),.i (W64 (1+(AA (AA d 9).2 5).1)),.i 0,.i 0,.i 0,.i 0,opL (OpL.mk 0 (fun _ _=>default))])) (.av (.agg (rr (rr (rr (rr (rr (rr (rr (.cons (.nil _ _) .nil)))))))))) (by unfold BQ;rw [h1,h2,h3];rfl),.cells (AD.c (AA (AA d 9).2 5).2) 117,by kernel_rfl,Dh (by unfold BQ;rw [h1,h2,h3];kernel_rfl)⟩⟩
   ·have g3:=oF h3
    refine AC<|rn ⟨[(0,tP 1000 0),(2,tP 2 0),(JD d),(22,tB (decide (((AA d 9).1:Int)=3)))],[(2,Z33),(Gs d)]⟩ ?_
    refine Ab _ rfl (fun h4 => ?_) (fun h4 => ?_)
    ·have g4:=oT h4
     refine AC<|rc [(25,(Z35 d))] [Ak (Z35 d).2.1,BJ (GG d)] ⟨[(2,tP 2 0)],[(2,.cells (Ro d) 145),(1000,Z36 d)]⟩ (.cons (Ae (fun _ _=>kr) kr kr (Bf (AA d 9).2 2 au5 au8)) .nil) (.cons rfl (.cons rfl .nil))<|AJ ?_
     refine Ag<|CO<|Bd ?_
     exact ⟨_,Cv.refl _,.inl rfl,.av (.agg (Ro d)),by kernel_rfl,⟨D3 (y:=.av (.agg [.i 5,.s (⟨#[]⟩),.i (W64 (1+(AA (AA d 9).2 2).1)),.i 0,.i 0,.i 0,.i 0,opL (OpL.mk 0 (fun _ _=>default))])) (.av (.agg (rr (rr (rr (rr (rr (rr (rr (.cons (.nil _ _) .nil)))))))))) (by unfold BQ;rw [h1,h2,h3,h4];rfl),.cells (AD.c (AA (AA d 9).2 2).2) 117,by kernel_rfl,Dh (by unfold BQ;rw [h1,h2,h3,h4];kernel_rfl)⟩⟩
    ·have g4:=oF h4
     refine AC<|rn ⟨[(0,tP 1000 0),(2,tP 2 0),(JD d),(28,tB (decide (((AA d 9).1:Int)=4)))],[(2,Z33),(Gs d)]⟩ ?_
     refine Ab _ rfl (fun h5 => ?_) (fun h5 => ?_)
     ·have g5:=oT h5
      refine AC<|rc [(31,(Z38 d))] [Ak (Z38 d).2.1,BJ (GG d)] ⟨[(2,tP 2 0)],[(2,.cells (ZF d) 145),(1000,.cells (AD.c (AA (AA d 9).2 3).2) 117)]⟩ (.cons (Ae (fun _ _=>kr) kr kr (Bf (AA d 9).2 3 au5 au8)) .nil) (.cons rfl (.cons rfl .nil))<|AJ ?_
      refine Ag<|CO<|Bd ?_
      exact ⟨_,Cv.refl _,.inl rfl,.av (.agg (ZF d)),by kernel_rfl,⟨D3 (y:=.av (.agg [.i 6,.s (⟨#[]⟩),.i (W64 (1+(AA (AA d 9).2 3).1)),.i 0,.i 0,.i 0,.i 0,opL (OpL.mk 0 (fun _ _=>default))])) (.av (.agg (rr (rr (rr (rr (rr (rr (rr (.cons (.nil _ _) .nil)))))))))) (by unfold BQ;rw [h1,h2,h3,h4,h5];rfl),.cells (AD.c (AA (AA d 9).2 3).2) 117,by kernel_rfl,Dh (by unfold BQ;rw [h1,h2,h3,h4,h5];kernel_rfl)⟩⟩
     ·have g5:=oF h5
      refine AC<|rn ⟨[(0,tP 1000 0),(2,tP 2 0),(JD d),(34,tB (decide (((AA d 9).1:Int)=5)))],[(2,Z33),(Gs d)]⟩ ?_
      refine Ab _ rfl (fun h6 => ?_) (fun h6 => ?_)
      ·have g6:=oT h6
       refine AC<|rc [(37,(Z39 d))] [Ak (Z39 d).2.1,BJ (GG d)] ⟨[(2,tP 2 0)],[(2,.cells (ZO d) 145),(1000,.cells (AD.c (AA (AA d 9).2 6).2) 117)]⟩ (.cons (Ae (fun _ _=>kr) kr kr (Bf (AA d 9).2 6 au5 au8)) .nil) (.cons rfl (.cons rfl .nil))<|AJ ?_
       refine Ag<|CO<|Bd ?_
       exact ⟨_,Cv.refl _,.inl rfl,.av (.agg (ZO d)),by kernel_rfl,⟨D3 (y:=.av (.agg [.i 7,.s (⟨#[]⟩),.i 0,.i 0,.i 0,.i (W64 (100+(W64 (50*(AA (AA d 9).2 6).1)))),.i 400,opL (OpL.mk 0 (fun _ _=>default))])) (.av (.agg (rr (rr (rr (rr (rr (rr (rr (.cons (.nil _ _) .nil)))))))))) (by unfold BQ;rw [h1,h2,h3,h4,h5,h6];rfl),.cells (AD.c (AA (AA d 9).2 6).2) 117,by kernel_rfl,Dh (by unfold BQ;rw [h1,h2,h3,h4,h5,h6];kernel_rfl)⟩⟩
      ·have g6:=oF h6
       refine AC<|rn ⟨[(0,tP 1000 0),(2,tP 2 0),(JD d),(42,tB (decide (((AA d 9).1:Int)=6)))],[(2,Z33),(Gs d)]⟩ ?_
       refine Ab _ rfl (fun h7 => ?_) (fun h7 => ?_)
       ·have g7:=oT h7
        refine AC<|rc [(45,(Z35 d))] [Ak (Z35 d).2.1,BJ (GG d)] ⟨[(2,tP 2 0)],[(2,.cells (ZC d) 145),(1000,Z36 d)]⟩ (.cons (Ae (fun _ _=>kr) kr kr (Bf (AA d 9).2 2 au5 au8)) .nil) (.cons rfl (.cons rfl .nil))<|AJ ?_
        refine Ag<|CO<|Bd ?_
        exact ⟨_,Cv.refl _,.inl rfl,.av (.agg (ZC d)),by kernel_rfl,⟨D3 (y:=.av (.agg [.i 8,.s (⟨#[]⟩),.i 0,.i 0,.i 0,.i 0,.i 0,opL (OpL.mk 1 (Ay 8 1 (Ro d)))])) (.av (.agg (rr (rr (rr (rr (rr (rr (rr (.cons (.list true false _ _ _ _ (fun _ _ _ _=>.refl _) (fun h=>by cases h)) .nil)))))))))) (by unfold BQ;rw [h1,h2,h3,h4,h5,h6,h7];rfl),.cells (AD.c (AA (AA d 9).2 2).2) 117,by kernel_rfl,Dh (by unfold BQ;rw [h1,h2,h3,h4,h5,h6,h7];kernel_rfl)⟩⟩
       ·have g7:=oF h7
        refine AC<|rn ⟨[(0,tP 1000 0),(2,tP 2 0),(50,tB (decide (((AA d 9).1:Int)=7)))],[(2,Z33),(Gs d)]⟩ ?_
        refine Ab _ rfl (fun h8 => ?_) (fun h8 => ?_)
        ·have g8:=oT h8
         refine AC<|rc [(53,(Z35 d)),(56,(Z3a d))] [Ak (Z35 d).2.1,BJ (GG d),Ak (Z3a d).2.1,BJ (.cells (AD.c (AA (AA d 9).2 2).2) 117)] ⟨[(2,tP 2 0)],[(2,.cells [.i (W64 (9+(IE d).1)),.s (⟨#[]⟩),.i 0,.i 0,.i 0,.i 0,.i 0,.list true 8 2 (Ay 8 2 [.i 4,.s (⟨#[]⟩),.i (W64 (1+(AA (IE d).2 4).1)),.i 0,.i 0,.i 0,.i 0,vN,.i 2,.s ({ data := #[71,78,68] }:ByteArray),.i 0,.i 0,.i 0,.i 0,.i 0,vN])] 145),(1000,.cells (AD.c (Z3b d)) 117)]⟩ (.cons (Ae (fun _ _=>kr) kr kr (Bf (AA d 9).2 2 au5 au8)) (.cons (Ae (fun _ _=>kr) kr kr (Bf (AA (AA d 9).2 2).2 4 au5 au8)) .nil)) (.cons rfl (.cons rfl (.cons rfl (.cons rfl .nil))))<|AJ ?_
         refine Ag<|CO<|Bd ?_
         exact ⟨_,Cv.refl _,.inl rfl,.av (.agg [.i (W64 (9+(AA (AA d 9).2 2).1)),.s (⟨#[]⟩),.i 0,.i 0,.i 0,.i 0,.i 0,.list true 8 2 (Ay 8 2 [.i 4,.s (⟨#[]⟩),.i (W64 (1+(AA (AA (AA d 9).2 2).2 4).1)),.i 0,.i 0,.i 0,.i 0,vN,.i 2,.s ({ data := #[71,78,68] }:ByteArray),.i 0,.i 0,.i 0,.i 0,.i 0,vN])]),by kernel_rfl,⟨D3 (y:=.av (.agg [.i (W64 (9+(AA (AA d 9).2 2).1)),.s (⟨#[]⟩),.i 0,.i 0,.i 0,.i 0,.i 0,opL (OpL.mk 2 (Ay 8 2 [.i 4,.s (⟨#[]⟩),.i (W64 (1+(AA (AA (AA d 9).2 2).2 4).1)),.i 0,.i 0,.i 0,.i 0,vN,.i 2,.s ({ data := #[71,78,68] }:ByteArray),.i 0,.i 0,.i 0,.i 0,.i 0,vN]))])) (.av (.agg (rr (rr (rr (rr (rr (rr (rr (.cons (.list true false _ _ _ _ (fun _ _ _ _=>.refl _) (fun h=>by cases h)) .nil)))))))))) (by unfold BQ;rw [h1,h2,h3,h4,h5,h6,h7,h8];rfl),.cells (AD.c (Z3b d)) 117,by kernel_rfl,Dh (by unfold BQ;rw [h1,h2,h3,h4,h5,h6,h7,h8];kernel_rfl)⟩⟩
        ·have g8:=oF h8
         refine Af<|Be ?_
         refine AJ<|AC ?_
         refine rn ⟨[(2,tP 2 0)],[(2,.cells Rk 145),(Gs d)]⟩<|Ag ?_
         exact ⟨_,Cv.refl _,.inl rfl,.av (.agg Rk),by kernel_rfl,⟨D3 (y:=.av (.agg [.i 1,.s (⟨#[]⟩),.i 0,.i 0,.i 0,.i 0,.i 0,opL (OpL.mk 0 (fun _ _=>default))])) (.av (.agg (rr (rr (rr (rr (rr (rr (rr (.cons (.nil _ _) .nil)))))))))) (by unfold BQ;rw [h1,h2,h3,h4,h5,h6,h7,h8];rfl),.cells (AD.c (AA d 9).2) 117,by kernel_rfl,Dh (by unfold BQ;rw [h1,h2,h3,h4,h5,h6,h7,h8];kernel_rfl)⟩⟩
theorem Yd {d:AD} (h:Bo d):Bo (BQ d).2:=by
 unfold BQ
 exact Dt (Bc (Bc h)) (Dt (Bc h) (Dt (Bc (Bc h)) (Dt (Bc (Bc h)) (Dt (Bc (Bc h)) (Dt (Bc (Bc h)) (Dt (Bc (Bc h)) (Dt (Bc (Bc (Bc h))) (Bc h))))))))
abbrev ZX (b:AF):List Cl:=[.i b.Layers,.any,.any,.any,lst 7 AE.c b.Parts,.any,lst 6 AO.c b.Tracks,lst 8 As.c b.Vias,lst 8 A0.c b.Pours,lst 5 Bb.c b.Keeps,lst 4 Am.c b.Slots,.any,.any,.any,.any]
def Z3c (b:AF):Blk:=.cells (ZX b) 41
def Z3d:Blk:=.row 1 ([]:List Int).length (AP (fun x=>[.i x]) ([]:List Int)) 3
def Z3e:Tv:=.av (.one (.own 100000 1 ([]:List Int).length))
abbrev MR (b:AF) (v4:Int):=b.Parts.getD v4.toNat default
def Z3f (v3:List Int) (b:AF) (v4:Int):Blk:=.row 1 (v3++[(MR b v4).Id]).length (AP (fun x=>[.i x]) (v3++[(MR b v4).Id])) 3
abbrev MT (b:AF) (v5:Int):=b.Tracks.getD v5.toNat default
def Z3g (v3':List Int) (b:AF) (v5:Int):Blk:=.row 1 (v3'++[(MT b v5).Id]).length (AP (fun x=>[.i x]) (v3'++[(MT b v5).Id])) 3
abbrev MO (b:AF) (v6:Int):=b.Vias.getD v6.toNat default
def Z3h (v3'':List Int) (b:AF) (v6:Int):Blk:=.row 1 (v3''++[(MO b v6).Id]).length (AP (fun x=>[.i x]) (v3''++[(MO b v6).Id])) 3
abbrev MQ (b:AF) (v7:Int):=b.Pours.getD v7.toNat default
def Z3i (v3''':List Int) (b:AF) (v7:Int):Blk:=.row 1 (v3'''++[(MQ b v7).Id]).length (AP (fun x=>[.i x]) (v3'''++[(MQ b v7).Id])) 3
abbrev MS (b:AF) (v8:Int):=b.Keeps.getD v8.toNat default
def Z3j (v3'''':List Int) (b:AF) (v8:Int):Blk:=.row 1 (v3''''++[(MS b v8).Id]).length (AP (fun x=>[.i x]) (v3''''++[(MS b v8).Id])) 3
abbrev MP (b:AF) (v9:Int):=b.Slots.getD v9.toNat default
def Z3k (v3''''':List Int) (b:AF) (v9:Int):Blk:=.row 1 (v3'''''++[(MP b v9).Id]).length (AP (fun x=>[.i x]) (v3'''''++[(MP b v9).Id])) 3
def Fo (b:AF) (v3:List Int) (v4:Int) (v3':List Int) (v5:Int) (v3'':List Int) (v6:Int) (v3''':List Int) (v7:Int) (v3'''':List Int) (v8:Int) (K0:List Int->Int->(List Int)) (K1:List Int->Int->(List Int)) (K2:List Int->Int->(List Int)) (K3:List Int->Int->(List Int)) (K4:List Int->Int->(List Int)):Nat->List Int->Int->(List Int)
 | 0,_,_=>default
 | n5+1,v3''''',v9=>bif decide ((v9:Int)<(b.Slots.length:Int)) then ((Fo b v3 v4 v3' v5 v3'' v6 v3''' v7 v3'''' v8 K0 K1 K2 K3 K4 n5) (v3'''''++[(b.Slots.getD v9.toNat default).Id]) (v9+1)) else v3'''''
def Ea (b:AF) (v3:List Int) (v4:Int) (v3':List Int) (v5:Int) (v3'':List Int) (v6:Int) (v3''':List Int) (v7:Int) (K0:List Int->Int->(List Int)) (K1:List Int->Int->(List Int)) (K2:List Int->Int->(List Int)) (K3:List Int->Int->(List Int)):Nat->List Int->Int->(List Int)
 | 0,_,_=>default
 | n4+1,v3'''',v8=>bif decide ((v8:Int)<(b.Keeps.length:Int)) then ((Ea b v3 v4 v3' v5 v3'' v6 v3''' v7 K0 K1 K2 K3 n4) (v3''''++[(b.Keeps.getD v8.toNat default).Id]) (v8+1)) else (Fo b v3 v4 v3' v5 v3'' v6 v3''' v7 v3'''' v8 K0 K1 K2 K3 (Ea b v3 v4 v3' v5 v3'' v6 v3''' v7 K0 K1 K2 K3 n4) (((b.Slots.length:Int)-0).toNat+1) v3'''' 0)
def Dy (b:AF) (v3:List Int) (v4:Int) (v3':List Int) (v5:Int) (v3'':List Int) (v6:Int) (K0:List Int->Int->(List Int)) (K1:List Int->Int->(List Int)) (K2:List Int->Int->(List Int)):Nat->List Int->Int->(List Int)
 | 0,_,_=>default
 | n3+1,v3''',v7=>bif decide ((v7:Int)<(b.Pours.length:Int)) then ((Dy b v3 v4 v3' v5 v3'' v6 K0 K1 K2 n3) (v3'''++[(b.Pours.getD v7.toNat default).Id]) (v7+1)) else (Ea b v3 v4 v3' v5 v3'' v6 v3''' v7 K0 K1 K2 (Dy b v3 v4 v3' v5 v3'' v6 K0 K1 K2 n3) (((b.Keeps.length:Int)-0).toNat+1) v3''' 0)
def Cp (b:AF) (v3:List Int) (v4:Int) (v3':List Int) (v5:Int) (K0:List Int->Int->(List Int)) (K1:List Int->Int->(List Int)):Nat->List Int->Int->(List Int)
 | 0,_,_=>default
 | n2+1,v3'',v6=>bif decide ((v6:Int)<(b.Vias.length:Int)) then ((Cp b v3 v4 v3' v5 K0 K1 n2) (v3''++[(b.Vias.getD v6.toNat default).Id]) (v6+1)) else (Dy b v3 v4 v3' v5 v3'' v6 K0 K1 (Cp b v3 v4 v3' v5 K0 K1 n2) (((b.Pours.length:Int)-0).toNat+1) v3'' 0)
def Bw (b:AF) (v3:List Int) (v4:Int) (K0:List Int->Int->(List Int)):Nat->List Int->Int->(List Int)
 | 0,_,_=>default
 | n1+1,v3',v5=>bif decide ((v5:Int)<(b.Tracks.length:Int)) then ((Bw b v3 v4 K0 n1) (v3'++[(b.Tracks.getD v5.toNat default).Id]) (v5+1)) else (Cp b v3 v4 v3' v5 K0 (Bw b v3 v4 K0 n1) (((b.Vias.length:Int)-0).toNat+1) v3' 0)
def BH (b:AF):Nat->List Int->Int->(List Int)
 | 0,_,_=>default
 | n0+1,v3,v4=>bif decide ((v4:Int)<(b.Parts.length:Int)) then ((BH b n0) (v3++[(b.Parts.getD v4.toNat default).Id]) (v4+1)) else (Bw b v3 v4 (BH b n0) (((b.Tracks.length:Int)-0).toNat+1) v3 0)
def Ei (b:AF):(List Int):=BH b (((b.Parts.length:Int)-0).toNat+1) ([]:List Int) 0
def M7 (b:AF):FuncId×List Av×Ef:=(101,[.agg (ZX b)],.val [] (.av (.one (lst 1 (fun x=>[.i x]) (Ei b)))))
theorem rE (b:AF) (h0:(b.Parts.length:Int)<=1000000) (h1:(b.Tracks.length:Int)<=1000000) (h2:(b.Vias.length:Int)<=1000000) (h3:(b.Pours.length:Int)<=1000000) (h4:(b.Keeps.length:Int)<=1000000) (h5:(b.Slots.length:Int)<=1000000):Bk Tryz.prog 101 (M7 b).2.1 (tO (lst 1 (fun x=>[.i x]) (Ei b))):=by
 refine AV Tryz.func101 rfl kr kr fun W0 M0 => ?_
 refine AC<|rn ⟨[(1,tP 1 0)],[(1,Z3c b)]⟩<|AC ?_
 refine rn ⟨[(1,tP 1 0),(3,.av (.one vN))],[(1,Z3c b)]⟩ ?_
 refine AC<|AC ?_
 refine rn ⟨[(1,tP 1 0),(3,.av (.one vN)),(4,tI 0)],[(1,Z3c b)]⟩<|AY ?_
 refine Ba (Cv.trans (Ca (⟨[(1,tP 1 0),(3,tO (.own 100000 1 0)),(4,tI 0)],[(100000,.row 1 0 (fun _ _=>default) 3),(1,Z3c b)]⟩) 100000 1 (fun _ _=>default) 3 [(3,[0])] [] (K:=[]) (fun k x h=>by cases h) rfl kr kr) (Cv.trans (BT (⟨[(1,tP 1 0),(3,Z3e),(4,tI 0)],[(100000,Z3d),(1,Z3c b)]⟩) (.cons ⟨rfl,.refl _⟩ (.cons ⟨rfl,.av (.one (.own _ _ au2))⟩ lr)) (.cons ⟨rfl,Ap 3 (CZ 1 (fun _ _=>default) (fun x=>[.i x]))⟩ lr)) (Cv.trans (BD [1,3,4] [1,100000] (⟨[(1,tP 1 0),(3,Z3e),(4,tI 0)],[(1,Z3c b),(100000,Z3d)]⟩) kr) (Cv.refl _)))) ?_
 refine BS (ι:=Nat×List Int×Int) (fun x=>⟨[(1,tP 1 0),(3,tO (.own 100000 1 x.2.1.length)),(4,tI x.2.2)],[(1,Z3c b),(100000,.row 1 x.2.1.length (AP (fun x=>[.i x]) x.2.1) 3)]⟩) (fun x=>((b.Parts.length:Int)-x.2.2).toNat<x.1/\(0<=x.2.2/\(x.2.2<=(b.Parts.length:Int)\/x.2.2=0)/\(x.2.1.length:Int)<=0+1*(x.2.2-0))/\BH b x.1 x.2.1 x.2.2=Ei b) (fun x=>x.1) ?_ (((b.Parts.length:Int)-0).toNat+1,([]:List Int),0) ⟨Nat.lt_succ_self _,⟨ax0,ax0,ax0⟩,(by simp only [Ei,cond_true,cond_false])⟩
 rintro ⟨n0,v3,v4⟩ ⟨hn,hinv,hF⟩
 have hm0:=hn;have hinv0:=hinv;have hF0:=hF;try dsimp only at hm0 hinv0 hF0
 clear hn hinv hF
 cases n0 with
 | zero=>exact absurd hm0 (Nat.not_lt_zero _)
 | succ n0 =>
  refine AC<|AC ?_
  refine rn ⟨[(1,tP 1 0),(3,tO (.own 100000 1 v3.length)),(4,tI v4),(14,tB (decide ((v4:Int)<(b.Parts.length:Int))))],[(1,Z3c b),(100000,.row 1 v3.length (AP (fun x=>[.i x]) v3) 3)]⟩ ?_
  refine Ab _ rfl (fun h1 => ?_) (fun h1 => ?_)
  ·have g1:=oT h1
   refine Af<|AJ ?_
   refine AC<|AY ?_
   refine rc [] [0<=(v4:Int)/\(v4:Int)<((b.Parts.length:Nat):Int),v3.length=v3.length,v3.length+1<=maxLen,(v3.length+1)*8<=140737488355328] ⟨[(1,tP 1 0),(3,tO (.own 25 1 (v3.length+1))),(4,tI v4)],[(1,Z3c b),(25,.row 1 (v3.length+1) (fun i_ j_=>if i_<v3.length then (AP (fun x=>[.i x]) v3) i_ j_ else (Ay 1 1 [.i (MR b v4).Id]) (i_-v3.length) j_) 3)]⟩ .nil (.cons au0 (.cons rfl (.cons au3 (.cons au3 .nil))))<|Be<|AJ ?_
   refine Ba (Cv.trans (BT (⟨[(1,tP 1 0),(3,tO (.own 25 1 (v3++[(MR b v4).Id]).length)),(4,tI v4)],[(1,Z3c b),(25,Z3f v3 b v4)]⟩) (.cons ⟨rfl,.refl _⟩ (.cons ⟨rfl,.av (.one (.own _ _ au2))⟩ lr)) (.cons ⟨rfl,.refl _⟩ (.cons ⟨rfl,Ap 3 (BZ (BM 1 (fun x=>[.i x]) v3) (Aw (c:=(fun x=>[.i x])) (xs:=([(b.Parts.getD v4.toNat default).Id]:List Int)) rfl kr))⟩ .nil))) (Cv.refl _)) ?_
   refine rg ⟨[(1,tP 1 0),(3,tO (.own 25 1 (v3++[(MR b v4).Id]).length)),(4,tI (W64 (v4+1)))],[(1,Z3c b),(25,Z3f v3 b v4)]⟩ ?_
   (try rw [(show W64 (v4+1)=v4+1 from An (by omega) au6)])
   refine AJ ?_
   refine ⟨(n0,v3++[(b.Parts.getD v4.toNat default).Id],v4+1),⟨?_,?_,(by rw [<- hF0];simp only [BH,h1,cond_true,cond_false])⟩,Nat.lt_succ_self _,Cv.trans (BR (⟨[(1,tP 1 0),(3,tO (.own 100000 1 (v3++[(MR b v4).Id]).length)),(4,tI (v4+1))],[(1,Z3c b),(100000,Z3f v3 b v4)]⟩) 25 100000 (K:=[]) (fun k x h=>by cases h) rfl rfl kr kr) (BB kr)⟩
   ·show ((b.Parts.length:Int)-(v4+1)).toNat<n0;omega
   ·exact ⟨ax0,ax0,ax0⟩
  ·have g1:=oF h1
   refine BV<|BE ?_
   refine BE<|BW ?_
   refine AJ<|AC<|AC ?_
   refine rn ⟨[(1,tP 1 0),(3,tO (.own 100000 1 v3.length)),(5,tI 0)],[(1,Z3c b),(100000,.row 1 v3.length (AP (fun x=>[.i x]) v3) 3)]⟩<|AY ?_
   refine BS (ι:=Nat×List Int×Int) (fun x=>⟨[(1,tP 1 0),(3,tO (.own 100000 1 x.2.1.length)),(5,tI x.2.2)],[(1,Z3c b),(100000,.row 1 x.2.1.length (AP (fun x=>[.i x]) x.2.1) 3)]⟩) (fun x=>((b.Tracks.length:Int)-x.2.2).toNat<x.1/\(0<=x.2.2/\(x.2.2<=(b.Tracks.length:Int)\/x.2.2=0)/\(x.2.1.length:Int)<=(v3.length:Int)+1*(x.2.2-0))/\Bw b v3 v4 (BH b n0) x.1 x.2.1 x.2.2=Ei b) (fun x=>x.1) ?_ (((b.Tracks.length:Int)-0).toNat+1,v3,0) ⟨Nat.lt_succ_self _,⟨ax0,ax0,ax0⟩,(by rw [<- hF0];simp only [BH,h1,cond_true,cond_false])⟩
   rintro ⟨n1,v3',v5⟩ ⟨hn,hinv,hF⟩
   have hm1:=hn;have hinv1:=hinv;have hF1:=hF;try dsimp only at hm1 hinv1 hF1
   clear hn hinv hF
   cases n1 with
   | zero=>exact absurd hm1 (Nat.not_lt_zero _)
   | succ n1 =>
    refine AC<|AC ?_
    refine rn ⟨[(1,tP 1 0),(3,tO (.own 100000 1 v3'.length)),(5,tI v5),(30,tB (decide ((v5:Int)<(b.Tracks.length:Int))))],[(1,Z3c b),(100000,.row 1 v3'.length (AP (fun x=>[.i x]) v3') 3)]⟩ ?_
    refine Ab _ rfl (fun h2 => ?_) (fun h2 => ?_)
    ·have g2:=oT h2
     refine Af<|AJ ?_
     refine AC<|AY ?_
     refine rc [] [0<=(v5:Int)/\(v5:Int)<((b.Tracks.length:Nat):Int),v3'.length=v3'.length,v3'.length+1<=maxLen,(v3'.length+1)*8<=140737488355328] ⟨[(1,tP 1 0),(3,tO (.own 41 1 (v3'.length+1))),(5,tI v5)],[(1,Z3c b),(41,.row 1 (v3'.length+1) (fun i_ j_=>if i_<v3'.length then (AP (fun x=>[.i x]) v3') i_ j_ else (Ay 1 1 [.i (MT b v5).Id]) (i_-v3'.length) j_) 3)]⟩ .nil (.cons au0 (.cons rfl (.cons au3 (.cons au3 .nil))))<|Be<|AJ ?_
     refine Ba (Cv.trans (BT (⟨[(1,tP 1 0),(3,tO (.own 41 1 (v3'++[(MT b v5).Id]).length)),(5,tI v5)],[(1,Z3c b),(41,Z3g v3' b v5)]⟩) (.cons ⟨rfl,.refl _⟩ (.cons ⟨rfl,.av (.one (.own _ _ au2))⟩ lr)) (.cons ⟨rfl,.refl _⟩ (.cons ⟨rfl,Ap 3 (BZ (BM 1 (fun x=>[.i x]) v3') (Aw (c:=(fun x=>[.i x])) (xs:=([(b.Tracks.getD v5.toNat default).Id]:List Int)) rfl kr))⟩ .nil))) (Cv.refl _)) ?_
     refine rg ⟨[(1,tP 1 0),(3,tO (.own 41 1 (v3'++[(MT b v5).Id]).length)),(5,tI (W64 (v5+1)))],[(1,Z3c b),(41,Z3g v3' b v5)]⟩ ?_
     (try rw [(show W64 (v5+1)=v5+1 from An (by omega) au6)])
     refine AJ ?_
     refine ⟨(n1,v3'++[(b.Tracks.getD v5.toNat default).Id],v5+1),⟨?_,?_,(by rw [<- hF1];simp only [Bw,h2,cond_true,cond_false])⟩,Nat.lt_succ_self _,Cv.trans (BR (⟨[(1,tP 1 0),(3,tO (.own 100000 1 (v3'++[(MT b v5).Id]).length)),(5,tI (v5+1))],[(1,Z3c b),(100000,Z3g v3' b v5)]⟩) 41 100000 (K:=[]) (fun k x h=>by cases h) rfl rfl kr kr) (BB kr)⟩
     ·show ((b.Tracks.length:Int)-(v5+1)).toNat<n1;omega
     ·exact ⟨ax0,ax0,ax0⟩
    ·have g2:=oF h2
     refine BV<|BE ?_
     refine BE<|BW ?_
     refine AJ<|AC<|AC ?_
     refine rn ⟨[(1,tP 1 0),(3,tO (.own 100000 1 v3'.length)),(6,tI 0)],[(1,Z3c b),(100000,.row 1 v3'.length (AP (fun x=>[.i x]) v3') 3)]⟩<|AY ?_
     refine BS (ι:=Nat×List Int×Int) (fun x=>⟨[(1,tP 1 0),(3,tO (.own 100000 1 x.2.1.length)),(6,tI x.2.2)],[(1,Z3c b),(100000,.row 1 x.2.1.length (AP (fun x=>[.i x]) x.2.1) 3)]⟩) (fun x=>((b.Vias.length:Int)-x.2.2).toNat<x.1/\(0<=x.2.2/\(x.2.2<=(b.Vias.length:Int)\/x.2.2=0)/\(x.2.1.length:Int)<=(v3'.length:Int)+1*(x.2.2-0))/\Cp b v3 v4 v3' v5 (BH b n0) (Bw b v3 v4 (BH b n0) n1) x.1 x.2.1 x.2.2=Ei b) (fun x=>x.1) ?_ (((b.Vias.length:Int)-0).toNat+1,v3',0) ⟨Nat.lt_succ_self _,⟨ax0,ax0,ax0⟩,(by rw [<- hF1];simp only [Bw,h2,cond_true,cond_false])⟩
     rintro ⟨n2,v3'',v6⟩ ⟨hn,hinv,hF⟩
     have hm2:=hn;have hinv2:=hinv;have hF2:=hF;try dsimp only at hm2 hinv2 hF2
     clear hn hinv hF
     cases n2 with
     | zero=>exact absurd hm2 (Nat.not_lt_zero _)
     | succ n2 =>
      refine AC<|AC ?_
      refine rn ⟨[(1,tP 1 0),(3,tO (.own 100000 1 v3''.length)),(6,tI v6),(46,tB (decide ((v6:Int)<(b.Vias.length:Int))))],[(1,Z3c b),(100000,.row 1 v3''.length (AP (fun x=>[.i x]) v3'') 3)]⟩ ?_
      refine Ab _ rfl (fun h3 => ?_) (fun h3 => ?_)
      ·have g3:=oT h3
       refine Af<|AJ ?_
       refine AC<|AY ?_
       refine rc [] [0<=(v6:Int)/\(v6:Int)<((b.Vias.length:Nat):Int),v3''.length=v3''.length,v3''.length+1<=maxLen,(v3''.length+1)*8<=140737488355328] ⟨[(1,tP 1 0),(3,tO (.own 57 1 (v3''.length+1))),(6,tI v6)],[(1,Z3c b),(57,.row 1 (v3''.length+1) (fun i_ j_=>if i_<v3''.length then (AP (fun x=>[.i x]) v3'') i_ j_ else (Ay 1 1 [.i (MO b v6).Id]) (i_-v3''.length) j_) 3)]⟩ .nil (.cons au0 (.cons rfl (.cons au3 (.cons au3 .nil))))<|Be<|AJ ?_
       refine Ba (Cv.trans (BT (⟨[(1,tP 1 0),(3,tO (.own 57 1 (v3''++[(MO b v6).Id]).length)),(6,tI v6)],[(1,Z3c b),(57,Z3h v3'' b v6)]⟩) (.cons ⟨rfl,.refl _⟩ (.cons ⟨rfl,.av (.one (.own _ _ au2))⟩ lr)) (.cons ⟨rfl,.refl _⟩ (.cons ⟨rfl,Ap 3 (BZ (BM 1 (fun x=>[.i x]) v3'') (Aw (c:=(fun x=>[.i x])) (xs:=([(b.Vias.getD v6.toNat default).Id]:List Int)) rfl kr))⟩ .nil))) (Cv.refl _)) ?_
       refine rg ⟨[(1,tP 1 0),(3,tO (.own 57 1 (v3''++[(MO b v6).Id]).length)),(6,tI (W64 (v6+1)))],[(1,Z3c b),(57,Z3h v3'' b v6)]⟩ ?_
       (try rw [(show W64 (v6+1)=v6+1 from An (by omega) au6)])
       refine AJ ?_
       refine ⟨(n2,v3''++[(b.Vias.getD v6.toNat default).Id],v6+1),⟨?_,?_,(by rw [<- hF2];simp only [Cp,h3,cond_true,cond_false])⟩,Nat.lt_succ_self _,Cv.trans (BR (⟨[(1,tP 1 0),(3,tO (.own 100000 1 (v3''++[(MO b v6).Id]).length)),(6,tI (v6+1))],[(1,Z3c b),(100000,Z3h v3'' b v6)]⟩) 57 100000 (K:=[]) (fun k x h=>by cases h) rfl rfl kr kr) (BB kr)⟩
       ·show ((b.Vias.length:Int)-(v6+1)).toNat<n2;omega
       ·exact ⟨ax0,ax0,ax0⟩
      ·have g3:=oF h3
       refine BV<|BE ?_
       refine BE<|BW ?_
       refine AJ<|AC<|AC ?_
       refine rn ⟨[(1,tP 1 0),(3,tO (.own 100000 1 v3''.length)),(7,tI 0)],[(1,Z3c b),(100000,.row 1 v3''.length (AP (fun x=>[.i x]) v3'') 3)]⟩<|AY ?_
       refine BS (ι:=Nat×List Int×Int) (fun x=>⟨[(1,tP 1 0),(3,tO (.own 100000 1 x.2.1.length)),(7,tI x.2.2)],[(1,Z3c b),(100000,.row 1 x.2.1.length (AP (fun x=>[.i x]) x.2.1) 3)]⟩) (fun x=>((b.Pours.length:Int)-x.2.2).toNat<x.1/\(0<=x.2.2/\(x.2.2<=(b.Pours.length:Int)\/x.2.2=0)/\(x.2.1.length:Int)<=(v3''.length:Int)+1*(x.2.2-0))/\Dy b v3 v4 v3' v5 v3'' v6 (BH b n0) (Bw b v3 v4 (BH b n0) n1) (Cp b v3 v4 v3' v5 (BH b n0) (Bw b v3 v4 (BH b n0) n1) n2) x.1 x.2.1 x.2.2=Ei b) (fun x=>x.1) ?_ (((b.Pours.length:Int)-0).toNat+1,v3'',0) ⟨Nat.lt_succ_self _,⟨ax0,ax0,ax0⟩,(by rw [<- hF2];simp only [Cp,h3,cond_true,cond_false])⟩
       rintro ⟨n3,v3''',v7⟩ ⟨hn,hinv,hF⟩
       have hm3:=hn;have hinv3:=hinv;have hF3:=hF;try dsimp only at hm3 hinv3 hF3
       clear hn hinv hF
       cases n3 with
       | zero=>exact absurd hm3 (Nat.not_lt_zero _)
       | succ n3 =>
        refine AC<|AC ?_
        refine rn ⟨[(1,tP 1 0),(3,tO (.own 100000 1 v3'''.length)),(7,tI v7),(62,tB (decide ((v7:Int)<(b.Pours.length:Int))))],[(1,Z3c b),(100000,.row 1 v3'''.length (AP (fun x=>[.i x]) v3''') 3)]⟩ ?_
        refine Ab _ rfl (fun h4 => ?_) (fun h4 => ?_)
        ·have g4:=oT h4
         refine Af<|AJ ?_
         refine AC<|AY ?_
         refine rc [] [0<=(v7:Int)/\(v7:Int)<((b.Pours.length:Nat):Int),v3'''.length=v3'''.length,v3'''.length+1<=maxLen,(v3'''.length+1)*8<=140737488355328] ⟨[(1,tP 1 0),(3,tO (.own 73 1 (v3'''.length+1))),(7,tI v7)],[(1,Z3c b),(73,.row 1 (v3'''.length+1) (fun i_ j_=>if i_<v3'''.length then (AP (fun x=>[.i x]) v3''') i_ j_ else (Ay 1 1 [.i (MQ b v7).Id]) (i_-v3'''.length) j_) 3)]⟩ .nil (.cons au0 (.cons rfl (.cons au3 (.cons au3 .nil))))<|Be<|AJ ?_
         refine Ba (Cv.trans (BT (⟨[(1,tP 1 0),(3,tO (.own 73 1 (v3'''++[(MQ b v7).Id]).length)),(7,tI v7)],[(1,Z3c b),(73,Z3i v3''' b v7)]⟩) (.cons ⟨rfl,.refl _⟩ (.cons ⟨rfl,.av (.one (.own _ _ au2))⟩ lr)) (.cons ⟨rfl,.refl _⟩ (.cons ⟨rfl,Ap 3 (BZ (BM 1 (fun x=>[.i x]) v3''') (Aw (c:=(fun x=>[.i x])) (xs:=([(b.Pours.getD v7.toNat default).Id]:List Int)) rfl kr))⟩ .nil))) (Cv.refl _)) ?_
         refine rg ⟨[(1,tP 1 0),(3,tO (.own 73 1 (v3'''++[(MQ b v7).Id]).length)),(7,tI (W64 (v7+1)))],[(1,Z3c b),(73,Z3i v3''' b v7)]⟩ ?_
         (try rw [(show W64 (v7+1)=v7+1 from An (by omega) au6)])
         refine AJ ?_
         refine ⟨(n3,v3'''++[(b.Pours.getD v7.toNat default).Id],v7+1),⟨?_,?_,(by rw [<- hF3];simp only [Dy,h4,cond_true,cond_false])⟩,Nat.lt_succ_self _,Cv.trans (BR (⟨[(1,tP 1 0),(3,tO (.own 100000 1 (v3'''++[(MQ b v7).Id]).length)),(7,tI (v7+1))],[(1,Z3c b),(100000,Z3i v3''' b v7)]⟩) 73 100000 (K:=[]) (fun k x h=>by cases h) rfl rfl kr kr) (BB kr)⟩
         ·show ((b.Pours.length:Int)-(v7+1)).toNat<n3;omega
         ·exact ⟨ax0,ax0,ax0⟩
        ·have g4:=oF h4
         refine BV<|BE ?_
         refine BE<|BW ?_
         refine AJ<|AC<|AC ?_
         refine rn ⟨[(1,tP 1 0),(3,tO (.own 100000 1 v3'''.length)),(8,tI 0)],[(1,Z3c b),(100000,.row 1 v3'''.length (AP (fun x=>[.i x]) v3''') 3)]⟩<|AY ?_
         refine BS (ι:=Nat×List Int×Int) (fun x=>⟨[(1,tP 1 0),(3,tO (.own 100000 1 x.2.1.length)),(8,tI x.2.2)],[(1,Z3c b),(100000,.row 1 x.2.1.length (AP (fun x=>[.i x]) x.2.1) 3)]⟩) (fun x=>((b.Keeps.length:Int)-x.2.2).toNat<x.1/\(0<=x.2.2/\(x.2.2<=(b.Keeps.length:Int)\/x.2.2=0)/\(x.2.1.length:Int)<=(v3'''.length:Int)+1*(x.2.2-0))/\Ea b v3 v4 v3' v5 v3'' v6 v3''' v7 (BH b n0) (Bw b v3 v4 (BH b n0) n1) (Cp b v3 v4 v3' v5 (BH b n0) (Bw b v3 v4 (BH b n0) n1) n2) (Dy b v3 v4 v3' v5 v3'' v6 (BH b n0) (Bw b v3 v4 (BH b n0) n1) (Cp b v3 v4 v3' v5 (BH b n0) (Bw b v3 v4 (BH b n0) n1) n2) n3) x.1 x.2.1 x.2.2=Ei b) (fun x=>x.1) ?_ (((b.Keeps.length:Int)-0).toNat+1,v3''',0) ⟨Nat.lt_succ_self _,⟨ax0,ax0,ax0⟩,(by rw [<- hF3];simp only [Dy,h4,cond_true,cond_false])⟩
         rintro ⟨n4,v3'''',v8⟩ ⟨hn,hinv,hF⟩
         have hm4:=hn;have hinv4:=hinv;have hF4:=hF;try dsimp only at hm4 hinv4 hF4
         clear hn hinv hF
         cases n4 with
         | zero=>exact absurd hm4 (Nat.not_lt_zero _)
         | succ n4 =>
          refine AC<|AC ?_
          refine rn ⟨[(1,tP 1 0),(3,tO (.own 100000 1 v3''''.length)),(8,tI v8),(78,tB (decide ((v8:Int)<(b.Keeps.length:Int))))],[(1,Z3c b),(100000,.row 1 v3''''.length (AP (fun x=>[.i x]) v3'''') 3)]⟩ ?_
          refine Ab _ rfl (fun h5 => ?_) (fun h5 => ?_)
          ·have g5:=oT h5
           refine Af<|AJ ?_
           refine AC<|AY ?_
           refine rc [] [0<=(v8:Int)/\(v8:Int)<((b.Keeps.length:Nat):Int),v3''''.length=v3''''.length,v3''''.length+1<=maxLen,(v3''''.length+1)*8<=140737488355328] ⟨[(1,tP 1 0),(3,tO (.own 89 1 (v3''''.length+1))),(8,tI v8)],[(1,Z3c b),(89,.row 1 (v3''''.length+1) (fun i_ j_=>if i_<v3''''.length then (AP (fun x=>[.i x]) v3'''') i_ j_ else (Ay 1 1 [.i (MS b v8).Id]) (i_-v3''''.length) j_) 3)]⟩ .nil (.cons au0 (.cons rfl (.cons au3 (.cons au3 .nil))))<|Be<|AJ ?_
           refine Ba (Cv.trans (BT (⟨[(1,tP 1 0),(3,tO (.own 89 1 (v3''''++[(MS b v8).Id]).length)),(8,tI v8)],[(1,Z3c b),(89,Z3j v3'''' b v8)]⟩) (.cons ⟨rfl,.refl _⟩ (.cons ⟨rfl,.av (.one (.own _ _ au2))⟩ lr)) (.cons ⟨rfl,.refl _⟩ (.cons ⟨rfl,Ap 3 (BZ (BM 1 (fun x=>[.i x]) v3'''') (Aw (c:=(fun x=>[.i x])) (xs:=([(b.Keeps.getD v8.toNat default).Id]:List Int)) rfl kr))⟩ .nil))) (Cv.refl _)) ?_
           refine rg ⟨[(1,tP 1 0),(3,tO (.own 89 1 (v3''''++[(MS b v8).Id]).length)),(8,tI (W64 (v8+1)))],[(1,Z3c b),(89,Z3j v3'''' b v8)]⟩ ?_
           (try rw [(show W64 (v8+1)=v8+1 from An (by omega) au6)])
           refine AJ ?_
           refine ⟨(n4,v3''''++[(b.Keeps.getD v8.toNat default).Id],v8+1),⟨?_,?_,(by rw [<- hF4];simp only [Ea,h5,cond_true,cond_false])⟩,Nat.lt_succ_self _,Cv.trans (BR (⟨[(1,tP 1 0),(3,tO (.own 100000 1 (v3''''++[(MS b v8).Id]).length)),(8,tI (v8+1))],[(1,Z3c b),(100000,Z3j v3'''' b v8)]⟩) 89 100000 (K:=[]) (fun k x h=>by cases h) rfl rfl kr kr) (BB kr)⟩
           ·show ((b.Keeps.length:Int)-(v8+1)).toNat<n4;omega
           ·exact ⟨ax0,ax0,ax0⟩
          ·have g5:=oF h5
           refine BV<|BE ?_
           refine BE<|BW ?_
           refine AJ<|AC<|AC ?_
           refine rn ⟨[(1,tP 1 0),(3,tO (.own 100000 1 v3''''.length)),(9,tI 0)],[(1,Z3c b),(100000,.row 1 v3''''.length (AP (fun x=>[.i x]) v3'''') 3)]⟩<|AY ?_
           refine BS (ι:=Nat×List Int×Int) (fun x=>⟨[(1,tP 1 0),(3,tO (.own 100000 1 x.2.1.length)),(9,tI x.2.2)],[(1,Z3c b),(100000,.row 1 x.2.1.length (AP (fun x=>[.i x]) x.2.1) 3)]⟩) (fun x=>((b.Slots.length:Int)-x.2.2).toNat<x.1/\(0<=x.2.2/\(x.2.2<=(b.Slots.length:Int)\/x.2.2=0)/\(x.2.1.length:Int)<=(v3''''.length:Int)+1*(x.2.2-0))/\Fo b v3 v4 v3' v5 v3'' v6 v3''' v7 v3'''' v8 (BH b n0) (Bw b v3 v4 (BH b n0) n1) (Cp b v3 v4 v3' v5 (BH b n0) (Bw b v3 v4 (BH b n0) n1) n2) (Dy b v3 v4 v3' v5 v3'' v6 (BH b n0) (Bw b v3 v4 (BH b n0) n1) (Cp b v3 v4 v3' v5 (BH b n0) (Bw b v3 v4 (BH b n0) n1) n2) n3) (Ea b v3 v4 v3' v5 v3'' v6 v3''' v7 (BH b n0) (Bw b v3 v4 (BH b n0) n1) (Cp b v3 v4 v3' v5 (BH b n0) (Bw b v3 v4 (BH b n0) n1) n2) (Dy b v3 v4 v3' v5 v3'' v6 (BH b n0) (Bw b v3 v4 (BH b n0) n1) (Cp b v3 v4 v3' v5 (BH b n0) (Bw b v3 v4 (BH b n0) n1) n2) n3) n4) x.1 x.2.1 x.2.2=Ei b) (fun x=>x.1) ?_ (((b.Slots.length:Int)-0).toNat+1,v3'''',0) ⟨Nat.lt_succ_self _,⟨ax0,ax0,ax0⟩,(by rw [<- hF4];simp only [Ea,h5,cond_true,cond_false])⟩
           rintro ⟨n5,v3''''',v9⟩ ⟨hn,hinv,hF⟩
           have hm5:=hn;have hinv5:=hinv;have hF5:=hF;try dsimp only at hm5 hinv5 hF5
           clear hn hinv hF
           cases n5 with
           | zero=>exact absurd hm5 (Nat.not_lt_zero _)
           | succ n5 =>
            refine AC<|AC ?_
            refine rn ⟨[(1,tP 1 0),(3,tO (.own 100000 1 v3'''''.length)),(9,tI v9),(94,tB (decide ((v9:Int)<(b.Slots.length:Int))))],[(1,Z3c b),(100000,.row 1 v3'''''.length (AP (fun x=>[.i x]) v3''''') 3)]⟩ ?_
            refine Ab _ rfl (fun h6 => ?_) (fun h6 => ?_)
            ·have g6:=oT h6
             refine Af<|AJ ?_
             refine AC<|AY ?_
             refine rc [] [0<=(v9:Int)/\(v9:Int)<((b.Slots.length:Nat):Int),v3'''''.length=v3'''''.length,v3'''''.length+1<=maxLen,(v3'''''.length+1)*8<=140737488355328] ⟨[(1,tP 1 0),(3,tO (.own 105 1 (v3'''''.length+1))),(9,tI v9)],[(1,Z3c b),(105,.row 1 (v3'''''.length+1) (fun i_ j_=>if i_<v3'''''.length then (AP (fun x=>[.i x]) v3''''') i_ j_ else (Ay 1 1 [.i (MP b v9).Id]) (i_-v3'''''.length) j_) 3)]⟩ .nil (.cons au0 (.cons rfl (.cons au3 (.cons au3 .nil))))<|Be<|AJ ?_
             refine Ba (Cv.trans (BT (⟨[(1,tP 1 0),(3,tO (.own 105 1 (v3'''''++[(MP b v9).Id]).length)),(9,tI v9)],[(1,Z3c b),(105,Z3k v3''''' b v9)]⟩) (.cons ⟨rfl,.refl _⟩ (.cons ⟨rfl,.av (.one (.own _ _ au2))⟩ lr)) (.cons ⟨rfl,.refl _⟩ (.cons ⟨rfl,Ap 3 (BZ (BM 1 (fun x=>[.i x]) v3''''') (Aw (c:=(fun x=>[.i x])) (xs:=([(b.Slots.getD v9.toNat default).Id]:List Int)) rfl kr))⟩ .nil))) (Cv.refl _)) ?_
             refine rg ⟨[(1,tP 1 0),(3,tO (.own 105 1 (v3'''''++[(MP b v9).Id]).length)),(9,tI (W64 (v9+1)))],[(1,Z3c b),(105,Z3k v3''''' b v9)]⟩ ?_
             (try rw [(show W64 (v9+1)=v9+1 from An (by omega) au6)])
             refine AJ ?_
             refine ⟨(n5,v3'''''++[(b.Slots.getD v9.toNat default).Id],v9+1),⟨?_,?_,(by rw [<- hF5];simp only [Fo,h6,cond_true,cond_false])⟩,Nat.lt_succ_self _,Cv.trans (BR (⟨[(1,tP 1 0),(3,tO (.own 100000 1 (v3'''''++[(MP b v9).Id]).length)),(9,tI (v9+1))],[(1,Z3c b),(100000,Z3k v3''''' b v9)]⟩) 105 100000 (K:=[]) (fun k x h=>by cases h) rfl rfl kr kr) (BB kr)⟩
             ·show ((b.Slots.length:Int)-(v9+1)).toNat<n5;omega
             ·exact ⟨ax0,ax0,ax0⟩
            ·have g6:=oF h6
             refine BV<|BE ?_
             refine BE<|BW ?_
             refine AJ<|AC ?_
             refine rn ⟨[(2,tO (.own 100000 1 v3'''''.length))],[(100000,.row 1 v3'''''.length (AP (fun x=>[.i x]) v3''''') 3)]⟩<|Ag ?_
             exact ⟨_,Cv.trans (Dn (⟨[(2,tO (lst 1 (fun x=>[.i x]) v3'''''))],[]⟩) 100000 1 v3'''''.length (AP (fun x=>[.i x]) v3''''') 3 (K:=[]) (fun k x h=>by cases h) kr kr (.cons ⟨rfl,rfl⟩ .nil) kr) (Cv.refl _),.inl rfl,tO (lst 1 (fun x=>[.i x]) v3'''''),by kernel_rfl,Al (by rw [<- hF5];first | (simp only [Fo,h6,cond_true,cond_false] <;> rfl))⟩
theorem gP (b:AF) (h0:(b.Parts.length:Int)<=1000000) (h1:(b.Tracks.length:Int)<=1000000) (h2:(b.Vias.length:Int)<=1000000) (h3:(b.Pours.length:Int)<=1000000) (h4:(b.Keeps.length:Int)<=1000000) (h5:(b.Slots.length:Int)<=1000000):Az Tryz.prog (M7 b).1 (M7 b).2.1 (M7 b).2.2:=AW (fun _ _=>kr) fun _=>rE b h0 h1 h2 h3 h4 h5
theorem bP (b:AF) (v3:List Int) (v4:Int) (v3':List Int) (v5:Int) (v3'':List Int) (v6:Int) (v3''':List Int) (v7:Int) (v3'''':List Int) (v8:Int) (K0:List Int->Int->List Int) (K1:List Int->Int->List Int) (K2:List Int->Int->List Int) (K3:List Int->Int->List Int) (K4:List Int->Int->List Int):∀ (n:Nat) (v:List Int) (i:Int),0<=i->i<=b.Slots.length->((b.Slots.length:Int)-i).toNat<n->((Fo b v3 v4 v3' v5 v3'' v6 v3''' v7 v3'''' v8 K0 K1 K2 K3 K4 n v i).length:Int)=v.length+((b.Slots.length:Int)-i)
 | 0,v,i,h0,h1,h2=>absurd h2 (Nat.not_lt_zero _)
 | n+1,v,i,h0,h1,h2=>by
  unfold Fo
  by_cases h:i<(b.Slots.length:Int)
  ·simp only [h,decide_true,cond_true]
   have:=bP b v3 v4 v3' v5 v3'' v6 v3''' v7 v3'''' v8 K0 K1 K2 K3 K4 n (v++[(b.Slots.getD i.toNat default).Id]) (i+1) (by omega) (by omega) (by omega)
   rw [this]
   simp only [List.length_append,List.length_cons,List.length_nil]
   omega
  ·simp only [h,decide_false,cond_false]
   omega
theorem bQ (b:AF) (v3:List Int) (v4:Int) (v3':List Int) (v5:Int) (v3'':List Int) (v6:Int) (v3''':List Int) (v7:Int) (K0:List Int->Int->List Int) (K1:List Int->Int->List Int) (K2:List Int->Int->List Int) (K3:List Int->Int->List Int):∀ (n:Nat) (v:List Int) (i:Int),0<=i->i<=b.Keeps.length->((b.Keeps.length:Int)-i).toNat<n->((Ea b v3 v4 v3' v5 v3'' v6 v3''' v7 K0 K1 K2 K3 n v i).length:Int)=v.length+((b.Keeps.length:Int)-i)+(b.Slots.length:Int)
 | 0,v,i,h0,h1,h2=>absurd h2 (Nat.not_lt_zero _)
 | n+1,v,i,h0,h1,h2=>by
  unfold Ea
  by_cases h:i<(b.Keeps.length:Int)
  ·simp only [h,decide_true,cond_true]
   have:=bQ b v3 v4 v3' v5 v3'' v6 v3''' v7 K0 K1 K2 K3 n (v++[(b.Keeps.getD i.toNat default).Id]) (i+1) (by omega) (by omega) (by omega)
   rw [this]
   simp only [List.length_append,List.length_cons,List.length_nil]
   omega
  ·simp only [h,decide_false,cond_false]
   rw [bP _ _ _ _ _ _ _ _ _ _ _ _ _ _ _ _ _ v 0 (by omega) (by omega) (by omega)]
   omega
theorem bR (b:AF) (v3:List Int) (v4:Int) (v3':List Int) (v5:Int) (v3'':List Int) (v6:Int) (K0:List Int->Int->List Int) (K1:List Int->Int->List Int) (K2:List Int->Int->List Int):∀ (n:Nat) (v:List Int) (i:Int),0<=i->i<=b.Pours.length->((b.Pours.length:Int)-i).toNat<n->((Dy b v3 v4 v3' v5 v3'' v6 K0 K1 K2 n v i).length:Int)=v.length+((b.Pours.length:Int)-i)+(b.Keeps.length:Int)+(b.Slots.length:Int)
 | 0,v,i,h0,h1,h2=>absurd h2 (Nat.not_lt_zero _)
 | n+1,v,i,h0,h1,h2=>by
  unfold Dy
  by_cases h:i<(b.Pours.length:Int)
  ·simp only [h,decide_true,cond_true]
   have:=bR b v3 v4 v3' v5 v3'' v6 K0 K1 K2 n (v++[(b.Pours.getD i.toNat default).Id]) (i+1) (by omega) (by omega) (by omega)
   rw [this]
   simp only [List.length_append,List.length_cons,List.length_nil]
   omega
  ·simp only [h,decide_false,cond_false]
   rw [bQ _ _ _ _ _ _ _ _ _ _ _ _ _ _ v 0 (by omega) (by omega) (by omega)]
   omega
theorem bS (b:AF) (v3:List Int) (v4:Int) (v3':List Int) (v5:Int) (K0:List Int->Int->List Int) (K1:List Int->Int->List Int):∀ (n:Nat) (v:List Int) (i:Int),0<=i->i<=b.Vias.length->((b.Vias.length:Int)-i).toNat<n->((Cp b v3 v4 v3' v5 K0 K1 n v i).length:Int)=v.length+((b.Vias.length:Int)-i)+(b.Pours.length:Int)+(b.Keeps.length:Int)+(b.Slots.length:Int)
 | 0,v,i,h0,h1,h2=>absurd h2 (Nat.not_lt_zero _)
 | n+1,v,i,h0,h1,h2=>by
  unfold Cp
  by_cases h:i<(b.Vias.length:Int)
  ·simp only [h,decide_true,cond_true]
   have:=bS b v3 v4 v3' v5 K0 K1 n (v++[(b.Vias.getD i.toNat default).Id]) (i+1) (by omega) (by omega) (by omega)
   rw [this]
   simp only [List.length_append,List.length_cons,List.length_nil]
   omega
  ·simp only [h,decide_false,cond_false]
   rw [bR _ _ _ _ _ _ _ _ _ _ _ v 0 (by omega) (by omega) (by omega)]
   omega
theorem bT (b:AF) (v3:List Int) (v4:Int) (K0:List Int->Int->List Int):∀ (n:Nat) (v:List Int) (i:Int),0<=i->i<=b.Tracks.length->((b.Tracks.length:Int)-i).toNat<n->((Bw b v3 v4 K0 n v i).length:Int)=v.length+((b.Tracks.length:Int)-i)+(b.Vias.length:Int)+(b.Pours.length:Int)+(b.Keeps.length:Int)+(b.Slots.length:Int)
 | 0,v,i,h0,h1,h2=>absurd h2 (Nat.not_lt_zero _)
 | n+1,v,i,h0,h1,h2=>by
  unfold Bw
  by_cases h:i<(b.Tracks.length:Int)
  ·simp only [h,decide_true,cond_true]
   have:=bT b v3 v4 K0 n (v++[(b.Tracks.getD i.toNat default).Id]) (i+1) (by omega) (by omega) (by omega)
   rw [this]
   simp only [List.length_append,List.length_cons,List.length_nil]
   omega
  ·simp only [h,decide_false,cond_false]
   rw [bS _ _ _ _ _ _ _ _ v 0 (by omega) (by omega) (by omega)]
   omega
theorem bU (b:AF)   : ∀ (n:Nat) (v:List Int) (i:Int),0<=i->i<=b.Parts.length->((b.Parts.length:Int)-i).toNat<n->((BH b n v i).length:Int)=v.length+((b.Parts.length:Int)-i)+(b.Tracks.length:Int)+(b.Vias.length:Int)+(b.Pours.length:Int)+(b.Keeps.length:Int)+(b.Slots.length:Int)
 | 0,v,i,h0,h1,h2=>absurd h2 (Nat.not_lt_zero _)
 | n+1,v,i,h0,h1,h2=>by
  unfold BH
  by_cases h:i<(b.Parts.length:Int)
  ·simp only [h,decide_true,cond_true]
   have:=bU b n (v++[(b.Parts.getD i.toNat default).Id]) (i+1) (by omega) (by omega) (by omega)
   rw [this]
   simp only [List.length_append,List.length_cons,List.length_nil]
   omega
  ·simp only [h,decide_false,cond_false]
   rw [bT _ _ _ _ _ v 0 (by omega) (by omega) (by omega)]
   omega
theorem XR (b:AF):((Ei b).length:Int)=(b.Parts.length:Int)+(b.Tracks.length:Int)+(b.Vias.length:Int)+(b.Pours.length:Int)+(b.Keeps.length:Int)+(b.Slots.length:Int):=by
 unfold Ei
 rw [bU b _ _ 0 (by omega) (by omega) (by omega)]
 simp only [List.length_nil]
 omega
end
section
open Go.RowKit
theorem T7 {b:AF} (d:AD) (hp:1<=(b.Parts.length:Int)) (h0:(b.Parts.length:Int)<=1000000) (h1:(b.Tracks.length:Int)<=1000000) (h2:(b.Vias.length:Int)<=1000000) (h3:(b.Pours.length:Int)<=1000000) (h4:(b.Keeps.length:Int)<=1000000) (h5:(b.Slots.length:Int)<=1000000):0<=(AA d ((Ei b).length:Int)).1/\(AA d ((Ei b).length:Int)).1<((Ei b).length:Int):=by
 have hq:=XR b
 exact J0 _ _ _ (by omega) (by omega) (by omega)
theorem sK {b:AF} (hp:1<=(b.Parts.length:Int)):((Ei b).length:Int)≠0:=by
 have hq:=XR b
 omega
theorem iT {α:Type} {c:Bool} {a b:List α} {k n:Nat} (ha:a.length+k<=n) (hb:b.length+k<=n):(bif c then a else b).length+k<=n:=by cases c <;> assumption
theorem bF {α:Type} {c:Bool} {a b:List α} {k n m:Nat} (ha:(a.length+k)*m<=n) (hb:(b.length+k)*m<=n):((bif c then a else b).length+k)*m<=n:=by cases c <;> assumption
def Z3l (d:AD):FuncId×List Av×Ef:=(42,([.one (.ptr 1000 0),.one (.i 10)]:List Av).map (Bz 1000 1001),wrI 1001 (HS d) (tI (AA d 10).1) (.cells (AD.c (AA d 10).2) 117))
abbrev Ev (d:AD):=AA (AA d 10).2 8
def Z3m (d:AD):FuncId×List Av×Ef:=(42,([.one (.ptr 1000 0),.one (.i 8)]:List Av).map (Bz 1000 1001),wrI 1001 (.cells (AD.c (AA d 10).2) 117) (tI (Ev d).1) (.cells (AD.c (Ev d).2) 117))
def Z3n (d:AD):Blk:=.cells (AD.c (Ev d).2) 117
def Z3o (d:AD):Blk:=.row 20 ([BC.mk ({ data := #[99,49] }:ByteArray) 1 1 AK AK (W64 (3+(AA d 10).1)),BC.mk ({ data := #[101,49] }:ByteArray) 1 3 AK AK (W64 (2+(Ev d).1))].length) (AP BC.c [BC.mk ({ data := #[99,49] }:ByteArray) 1 1 AK AK (W64 (3+(AA d 10).1)),BC.mk ({ data := #[101,49] }:ByteArray) 1 3 AK AK (W64 (2+(Ev d).1))]) 147
def Z3p (b:AF) (d:AD):Blk:=.cells [.i b.Layers,.i b.Outline.Kind,lst 7 AG.c b.Outline.Edges,.i b.Outline.R,lst 7 AE.c b.Parts,lst 2 A1.c b.Nets,lst 6 AO.c b.Tracks,lst 8 As.c b.Vias,lst 8 A0.c b.Pours,lst 5 Bb.c b.Keeps,lst 4 Am.c b.Slots,vN,.own 18 20 ([BC.mk ({ data := #[99,49] }:ByteArray) 1 1 AK AK (W64 (3+(AA d 10).1)),BC.mk ({ data := #[101,49] }:ByteArray) 1 3 AK AK (W64 (2+(Ev d).1))].length),vN,vN] 41
def Z3q (d:AD):FuncId×List Av×Ef:=(42,(FS:List Av).map (Bz 1000 1001),wrI 1001 (.cells (AD.c (Ev d).2) 117) (tI (AA (Ev d).2 2).1) (.cells (AD.c (AA (Ev d).2 2).2) 117))
abbrev Z3r (d:AD):AD:=(AA (AA (AA d 10).2 8).2 2).2
def Z3s (d:AD):FuncId×List Av×Ef:=(42,(Kc:List Av).map (Bz 1000 1001),wrI 1001 (.cells (AD.c (Z3r d)) 117) (tI (AA (Z3r d) 5).1) (.cells (AD.c (AA (Z3r d) 5).2) 117))
abbrev KZ (d:AD):=AA (AA (Z3r d) 5).2 4
def Z3t (d:AD):FuncId×List Av×Ef:=(42,(HY:List Av).map (Bz 1000 1001),wrI 1001 (.cells (AD.c (AA (Z3r d) 5).2) 117) (tI (KZ d).1) (.cells (AD.c (KZ d).2) 117))
def Z3u (d:AD):Blk:=.cells (AD.c (KZ d).2) 117
def Z3v (d:AD):Blk:=.row 20 ([BC.mk ({ data := #[99,49] }:ByteArray) 1 1 AK AK (W64 (3+(AA d 10).1)),BC.mk ({ data := #[101,49] }:ByteArray) 1 3 AK AK (W64 (2+(Ev d).1))]++[BC.mk ({ data := #[119,49] }:ByteArray) 1 2 AK AK (W64 (6+(AA (Z3r d) 5).1)),BC.mk ({ data := #[114,49] }:ByteArray) 1 4 AK AK (W64 (2+(KZ d).1))]).length (AP BC.c ([BC.mk ({ data := #[99,49] }:ByteArray) 1 1 AK AK (W64 (3+(AA d 10).1)),BC.mk ({ data := #[101,49] }:ByteArray) 1 3 AK AK (W64 (2+(Ev d).1))]++[BC.mk ({ data := #[119,49] }:ByteArray) 1 2 AK AK (W64 (6+(AA (Z3r d) 5).1)),BC.mk ({ data := #[114,49] }:ByteArray) 1 4 AK AK (W64 (2+(KZ d).1))])) 147
def Z3w (b:AF) (d:AD):Blk:=.cells [.i b.Layers,.i b.Outline.Kind,lst 7 AG.c b.Outline.Edges,.i b.Outline.R,lst 7 AE.c b.Parts,lst 2 A1.c b.Nets,lst 6 AO.c b.Tracks,lst 8 As.c b.Vias,lst 8 A0.c b.Pours,lst 5 Bb.c b.Keeps,lst 4 Am.c b.Slots,vN,.own 100000 20 ([BC.mk ({ data := #[99,49] }:ByteArray) 1 1 AK AK (W64 (3+(AA d 10).1)),BC.mk ({ data := #[101,49] }:ByteArray) 1 3 AK AK (W64 (2+(Ev d).1))]++[BC.mk ({ data := #[119,49] }:ByteArray) 1 2 AK AK (W64 (6+(AA (Z3r d) 5).1)),BC.mk ({ data := #[114,49] }:ByteArray) 1 4 AK AK (W64 (2+(KZ d).1))]).length,vN,vN] 41
def Z3x (b:AF) (d:AD):Blk:=.cells [.i b.Layers,.i b.Outline.Kind,lst 7 AG.c b.Outline.Edges,.i b.Outline.R,lst 7 AE.c b.Parts,lst 2 A1.c b.Nets,lst 6 AO.c b.Tracks,lst 8 As.c b.Vias,lst 8 A0.c b.Pours,lst 5 Bb.c b.Keeps,lst 4 Am.c b.Slots,vN,.own 100000 20 ([BC.mk ({ data := #[99,49] }:ByteArray) 1 1 AK AK (W64 (3+(AA d 10).1)),BC.mk ({ data := #[101,49] }:ByteArray) 1 3 AK AK (W64 (2+(Ev d).1))].length),vN,vN] 41
abbrev Z3y (d:AD):AD:=bif decide (((AA (AA (AA d 10).2 8).2 2).1:Int)=1) then (AA (AA (Z3r d) 5).2 4).2 else (Z3r d)
def Z3z (d:AD):(List BC):=bif decide (((AA (AA (AA d 10).2 8).2 2).1:Int)=1) then ([BC.mk ({ data := #[99,49] }:ByteArray) 1 1 AK AK (W64 (3+(AA d 10).1)),BC.mk ({ data := #[101,49] }:ByteArray) 1 3 AK AK (W64 (2+(AA (AA d 10).2 8).1))]++[BC.mk ({ data := #[119,49] }:ByteArray) 1 2 AK AK (W64 (6+(AA (Z3r d) 5).1)),BC.mk ({ data := #[114,49] }:ByteArray) 1 4 AK AK (W64 (2+(AA (AA (Z3r d) 5).2 4).1))]) else [BC.mk ({ data := #[99,49] }:ByteArray) 1 1 AK AK (W64 (3+(AA d 10).1)),BC.mk ({ data := #[101,49] }:ByteArray) 1 3 AK AK (W64 (2+(AA (AA d 10).2 8).1))]
def Z3A (d:AD):FuncId×List Av×Ef:=(42,(FS:List Av).map (Bz 1000 1001),wrI 1001 (.cells (AD.c (Z3y d)) 117) (tI (AA (Z3y d) 2).1) (.cells (AD.c (AA (Z3y d) 2).2) 117))
abbrev eK (b:AF) (d:AD):List Cl:=[.i b.Layers,.i b.Outline.Kind,lst 7 AG.c b.Outline.Edges,.i b.Outline.R,lst 7 AE.c b.Parts,lst 2 A1.c b.Nets,lst 6 AO.c b.Tracks,lst 8 As.c b.Vias,lst 8 A0.c b.Pours,lst 5 Bb.c b.Keeps,lst 4 Am.c b.Slots,vN,.own 100000 20 (Z3z d).length,vN,vN]
abbrev lL (b:AF) (d:AD):List Cl:=(eK b d)
abbrev lW (b:AF) (d:AD):List Cl:=(lL b d)
abbrev lX (b:AF) (d:AD):List Cl:=(lW b d)
abbrev mL (b:AF) (d:AD):List Cl:=(lX b d)
abbrev mP (b:AF) (d:AD):List Cl:=(mL b d)
abbrev mX (b:AF) (d:AD):List Cl:=(mP b d)
abbrev nI (b:AF) (d:AD):List Cl:=(mX b d)
abbrev nU (b:AF) (d:AD):List Cl:=(nI b d)
abbrev oG (b:AF) (d:AD):List Cl:=(nU b d)
abbrev oX (b:AF) (d:AD):List Cl:=(oG b d)
abbrev pR (b:AF) (d:AD):List Cl:=(oX b d)
abbrev qD (b:AF) (d:AD):List Cl:=(pR b d)
def Z3B (b:AF) (d:AD):Blk:=.cells (qD b d) 41
def Z3C (d:AD):Blk:=.cells (AD.c (AA (Z3y d) 2).2) 117
def Z3D (d:AD):Blk:=.row 20 (Z3z d).length (AP BC.c (Z3z d)) 147
abbrev JK (d:AD):=AA (AA (Z3y d) 2).2 2
def Z3E (d:AD):FuncId×List Av×Ef:=(42,(FS:List Av).map (Bz 1000 1001),wrI 1001 (.cells (AD.c (AA (Z3y d) 2).2) 117) (tI (JK d).1) (.cells (AD.c (JK d).2) 117))
def Z3F (d:AD):FuncId×List Av×Ef:=(100,([.one (.ptr 1000 0)]:List Av).map (Bz 1000 1001),wrI 1001 (.cells (AD.c (JK d).2) 117) (.av (.agg (Ec.c (BQ (JK d).2).1))) (.cells (AD.c (BQ (JK d).2).2) 117))
abbrev Z3G (d:AD):AD:=(BQ (AA (AA (Z3y d) 2).2 2).2).2
def Z3H (d:AD):Ec:=(BQ (AA (AA (Z3y d) 2).2 2).2).1
def Z3I (d:AD):FuncId×List Av×Ef:=(100,([.one (.ptr 1000 0)]:List Av).map (Bz 1000 1001),wrI 1001 (.cells (AD.c (Z3G d)) 117) (.av (.agg (Ec.c (BQ (Z3G d)).1))) (.cells (AD.c (BQ (Z3G d)).2) 117))
abbrev ML (d:AD):=AA (BQ (Z3G d)).2 14
def Z3J (d:AD):FuncId×List Av×Ef:=(42,([.one (.ptr 1000 0),.one (.i 14)]:List Av).map (Bz 1000 1001),wrI 1001 (.cells (AD.c (BQ (Z3G d)).2) 117) (tI (ML d).1) (.cells (AD.c (ML d).2) 117))
abbrev Z3K (d:AD):AD:=(AA (BQ (Z3G d)).2 14).2
def Z3L (d:AD):Blk:=.row 20 ((Z3z d)++[BC.mk ({ data := #[99,50] }:ByteArray) (W64 (1+(JK d).1)) 1 (Z3H d) (BQ (Z3G d)).1 (W64 (1+(ML d).1))]).length (AP BC.c ((Z3z d)++[BC.mk ({ data := #[99,50] }:ByteArray) (W64 (1+(JK d).1)) 1 (Z3H d) (BQ (Z3G d)).1 (W64 (1+(ML d).1))])) 147
def Z3M (b:AF) (d:AD):Blk:=.cells [.i b.Layers,.i b.Outline.Kind,lst 7 AG.c b.Outline.Edges,.i b.Outline.R,lst 7 AE.c b.Parts,lst 2 A1.c b.Nets,lst 6 AO.c b.Tracks,lst 8 As.c b.Vias,lst 8 A0.c b.Pours,lst 5 Bb.c b.Keeps,lst 4 Am.c b.Slots,vN,.own 100001 20 ((Z3z d)++[BC.mk ({ data := #[99,50] }:ByteArray) (W64 (1+(JK d).1)) 1 (Z3H d) (BQ (Z3G d)).1 (W64 (1+(ML d).1))]).length,vN,vN] 41
abbrev Z3N (d:AD):AD:=bif decide (((AA (Z3y d) 2).1:Int)=1) then (Z3K d) else (AA (Z3y d) 2).2
def Z3O (d:AD):(List BC):=bif decide (((AA (Z3y d) 2).1:Int)=1) then ((Z3z d)++[BC.mk ({ data := #[99,50] }:ByteArray) (W64 (1+(AA (AA (Z3y d) 2).2 2).1)) 1 (Z3H d) (BQ (Z3G d)).1 (W64 (1+(AA (BQ (Z3G d)).2 14).1))]) else (Z3z d)
def Z3P (d:AD):FuncId×List Av×Ef:=(42,(E2:List Av).map (Bz 1000 1001),wrI 1001 (.cells (AD.c (Z3N d)) 117) (tI (AA (Z3N d) 3).1) (.cells (AD.c (AA (Z3N d) 3).2) 117))
abbrev eP (b:AF) (d:AD):List Cl:=[.i b.Layers,.i b.Outline.Kind,lst 7 AG.c b.Outline.Edges,.i b.Outline.R,lst 7 AE.c b.Parts,lst 2 A1.c b.Nets,lst 6 AO.c b.Tracks,lst 8 As.c b.Vias,lst 8 A0.c b.Pours,lst 5 Bb.c b.Keeps,lst 4 Am.c b.Slots,vN,.own 100001 20 (Z3O d).length,vN,vN]
abbrev lI (b:AF) (d:AD):List Cl:=(eP b d)
abbrev lQ (b:AF) (d:AD):List Cl:=(lI b d)
abbrev mC (b:AF) (d:AD):List Cl:=(lQ b d)
abbrev mK (b:AF) (d:AD):List Cl:=(mC b d)
abbrev mV (b:AF) (d:AD):List Cl:=(mK b d)
abbrev mW (b:AF) (d:AD):List Cl:=(mV b d)
abbrev nO (b:AF) (d:AD):List Cl:=(mW b d)
abbrev nT (b:AF) (d:AD):List Cl:=(nO b d)
abbrev oE (b:AF) (d:AD):List Cl:=(nT b d)
abbrev oW (b:AF) (d:AD):List Cl:=(oE b d)
abbrev pQ (b:AF) (d:AD):List Cl:=(oW b d)
abbrev qC (b:AF) (d:AD):List Cl:=(pQ b d)
def Z3Q (b:AF) (d:AD):Blk:=.cells (qC b d) 41
def Z3R (d:AD):Blk:=.cells (AD.c (AA (Z3N d) 3).2) 117
def Z3S (d:AD):Blk:=.row 20 (Z3O d).length (AP BC.c (Z3O d)) 147
def Z3T (d:AD):(List B8):=bif decide (((AA (Z3N d) 3).1:Int)=0) then [B8.mk ({ data := #[112,111,119,101,114] }:ByteArray) [({ data := #[71,78,68] }:ByteArray)]] else []
def Z3U (d:AD):FuncId×List Av×Ef:=(42,(HY:List Av).map (Bz 1000 1001),wrI 1001 (.cells (AD.c (AA (Z3N d) 3).2) 117) (tI (AA (AA (Z3N d) 3).2 4).1) (.cells (AD.c (AA (AA (Z3N d) 3).2 4).2) 117))
abbrev Z3V (d:AD):AD:=(AA (AA (Z3N d) 3).2 4).2
abbrev lG (b:AF) (d:AD):List Cl:=[.i b.Layers,.i b.Outline.Kind,lst 7 AG.c b.Outline.Edges,.i b.Outline.R,lst 7 AE.c b.Parts,lst 2 A1.c b.Nets,lst 6 AO.c b.Tracks,lst 8 As.c b.Vias,lst 8 A0.c b.Pours,lst 5 Bb.c b.Keeps,lst 4 Am.c b.Slots,lst 2 B8.c (Z3T d),.own 100001 20 (Z3O d).length,vN,vN]
abbrev lK (b:AF) (d:AD):List Cl:=(lG b d)
abbrev lU (b:AF) (d:AD):List Cl:=(lK b d)
abbrev mA (b:AF) (d:AD):List Cl:=(lU b d)
abbrev mJ (b:AF) (d:AD):List Cl:=(mA b d)
abbrev mS (b:AF) (d:AD):List Cl:=(mJ b d)
abbrev nD (b:AF) (d:AD):List Cl:=(mS b d)
abbrev nL (b:AF) (d:AD):List Cl:=(nD b d)
abbrev nZ (b:AF) (d:AD):List Cl:=(nL b d)
abbrev oO (b:AF) (d:AD):List Cl:=(nZ b d)
abbrev pC (b:AF) (d:AD):List Cl:=(oO b d)
abbrev pW (b:AF) (d:AD):List Cl:=(pC b d)
abbrev qF (b:AF) (d:AD):List Cl:=(pW b d)
abbrev zzc57 (b:AF) (d:AD):List Cl:=(qF b d)
def Z3W (b:AF) (d:AD):Blk:=.cells (zzc57 b d) 41
def Z3X (b:AF):(List Int):=Ei (AF.mk b.Layers (AQ.mk 0 [] 0) b.Parts [] b.Tracks b.Vias b.Pours b.Keeps b.Slots [] [] [] [])
def Z3Y (b:AF) (d:AD):FuncId×List Av×Ef:=(42,([.one (.ptr 1000 0),.one (.i ((Z3X b).length:Int))]:List Av).map (Bz 1000 1001),wrI 1001 (.cells (AD.c (Z3V d)) 117) (tI (AA (Z3V d) ((Z3X b).length:Int)).1) (.cells (AD.c (AA (Z3V d) ((Z3X b).length:Int)).2) 117))
abbrev Z3Z (d:AD) (b:AF):AD:=(AA (Z3V d) ((Z3X b).length:Int)).2
def Z40 (b:AF) (d:AD):FuncId×List Av×Ef:=(42,([.one (.ptr 1000 0),.one (.i ((Z3X b).length:Int))]:List Av).map (Bz 1000 1001),wrI 1001 (.cells (AD.c (Z3Z d b)) 117) (tI (AA (Z3Z d b) ((Z3X b).length:Int)).1) (.cells (AD.c (AA (Z3Z d b) ((Z3X b).length:Int)).2) 117))
abbrev Z41 (d:AD) (b:AF):AD:=(AA (Z3Z d b) ((Z3X b).length:Int)).2
abbrev Z42 (d:AD) (b:AF):AD:=bif decide (((AA (AA (Z3N d) 3).2 4).1:Int)=0) then (Z41 d b) else (Z3V d)
def Z43 (d:AD) (b:AF):(List B4):=bif decide (((AA (AA (Z3N d) 3).2 4).1:Int)=0) then [B4.mk ((Z3X b).getD (AA (Z3V d) ((Z3X b).length:Int)).1.toNat default) ((Z3X b).getD (AA (Z3Z d b) ((Z3X b).length:Int)).1.toNat default) ({ data := #[99,49] }:ByteArray)] else []
def Z44 (d:AD) (b:AF):FuncId×List Av×Ef:=(42,(HY:List Av).map (Bz 1000 1001),wrI 1001 (.cells (AD.c (Z42 d b)) 117) (tI (AA (Z42 d b) 4).1) (.cells (AD.c (AA (Z42 d b) 4).2) 117))
def Z45 (d:AD) (b:AF):FuncId×List Av×Ef:=(42,([.one (.ptr 1000 0),.one (.i 8)]:List Av).map (Bz 1000 1001),wrI 1001 (.cells (AD.c (AA (Z42 d b) 4).2) 117) (tI (AA (AA (Z42 d b) 4).2 8).1) (.cells (AD.c (AA (AA (Z42 d b) 4).2 8).2) 117))
abbrev Z46 (d:AD) (b:AF):AD:=(AA (AA (Z42 d b) 4).2 8).2
def DZ (b:AF) (d:AD):(AF×AD):=bif decide (((AA (Z42 d b) 4).1:Int)=0) then (AF.mk b.Layers b.Outline b.Parts b.Nets b.Tracks b.Vias b.Pours b.Keeps b.Slots (Z3T d) (Z3O d) (Z43 d b) [Dw.mk ({ data := #[109,49] }:ByteArray) [({ data := #[78,49] }:ByteArray),({ data := #[78,50] }:ByteArray)] (W64 (10*(AA (AA (Z42 d b) 4).2 8).1))],Z46 d b) else (AF.mk b.Layers b.Outline b.Parts b.Nets b.Tracks b.Vias b.Pours b.Keeps b.Slots (Z3T d) (Z3O d) (Z43 d b) [],(AA (Z42 d b) 4).2)
abbrev RM (d:AD):Nat×Blk:=(1001,.cells (AD.c (Z3K d)) 117)
abbrev RL (d:AD):Nat×Blk:=(1001,.cells (AD.c (Z3V d)) 117)
abbrev RK (d:AD):Nat×Blk:=(1001,.cells (AD.c (Z3r d)) 117)
theorem au7 {p:Prop} (h:p:=by repeat (first | with_reducible assumption | exact Cn (DV hll _) | with_reducible refine Bc ?_ | with_reducible refine Ee ?_ | with_reducible refine Dp ?_ | with_reducible refine Yd ?_  | with_reducible refine Cu ?_ ?_)):p:=h
theorem au9 {p:Prop} (h:p:=by first | decide | omega | exact sK (b:=AF.mk b.Layers (AQ.mk 0 [] 0) b.Parts [] b.Tracks b.Vias b.Pours b.Keeps b.Slots [] [] [] []) hi | (simp only [Bx];omega)):p:=h
theorem au20 {p:Prop} (h:p:=by first | (simp only [List.length_append,List.length_cons,List.length_nil];decide) | exact iT (by simp only [List.length_append,List.length_cons,List.length_nil];decide) (by simp only [List.length_append,List.length_cons,List.length_nil];decide) | exact bF (by simp only [List.length_append,List.length_cons,List.length_nil];decide) (by simp only [List.length_append,List.length_cons,List.length_nil];decide) | (unfold maxLen;omega) | (simp only [gX,gW,gV,Vm];omega)):p:=h
set_option maxHeartbeats 2000000 in
theorem Z3  (b:AF) (d:AD) (hd:Bo d) (h0:(b.Parts.length:Int)<=1000000) (h1:(b.Tracks.length:Int)<=1000000) (h2:(b.Vias.length:Int)<=1000000) (h3:(b.Pours.length:Int)<=1000000) (h4:(b.Keeps.length:Int)<=1000000) (h5:(b.Slots.length:Int)<=1000000) (hi:1<=(b.Parts.length:Int)):Wr2 Tryz.prog 45 1000 1001 [.one (.ptr 1000 0),.one (.ptr 1001 0)] (.cells [.i b.Layers,.i b.Outline.Kind,lst 7 AG.c b.Outline.Edges,.i b.Outline.R,lst 7 AE.c b.Parts,lst 2 A1.c b.Nets,lst 6 AO.c b.Tracks,lst 8 As.c b.Vias,lst 8 A0.c b.Pours,lst 5 Bb.c b.Keeps,lst 4 Am.c b.Slots,vN,vN,vN,vN] 41) (.cells (AD.c d) 117) (.tup []) (.cells (AF.c (DZ b d).1) 41) (.cells (AD.c (DZ b d).2) 117):=by
 refine Oe Tryz.func45 rfl kr kr kr rfl kr kr kr fun W0 M0 X hX => ?_
 refine AC ?_
 refine Cz C4 [18] [] [(6,CB),(7,CB),(9,(Z3l d)),(12,CB),(13,CB),(15,(Z3m d))] [0,1] [18,1000,1001] [Ak CB.2.1,Ak CB.2.1,Ak (Z3l d).2.1,BJ (HS d),Ak CB.2.1,Ak CB.2.1,Ak (Z3m d).2.1,BJ (.cells (AD.c (AA d 10).2) 117)] ⟨Dj,[(18,.row 20 2 (Ay 20 2 [.s ({ data := #[99,49] }:ByteArray),.i 1,.i 1,.i AK.Op,.s AK.Text,.i AK.N,.i AK.Box.X0,.i AK.Box.Y0,.i AK.Box.X1,.i AK.Box.Y1,opL AK.L,.i AK.Op,.s AK.Text,.i AK.N,.i AK.Box.X0,.i AK.Box.Y0,.i AK.Box.X1,.i AK.Box.Y1,opL AK.L,.i (W64 (3+(AA d 10).1)),.s ({ data := #[101,49] }:ByteArray),.i 1,.i 3,.i AK.Op,.s AK.Text,.i AK.N,.i AK.Box.X0,.i AK.Box.Y0,.i AK.Box.X1,.i AK.Box.Y1,opL AK.L,.i AK.Op,.s AK.Text,.i AK.N,.i AK.Box.X0,.i AK.Box.Y0,.i AK.Box.X1,.i AK.Box.Y1,opL AK.L,.i (W64 (2+(AA (AA d 10).2 8).1))]) 147),(1000,.cells [.i b.Layers,.i b.Outline.Kind,lst 7 AG.c b.Outline.Edges,.i b.Outline.R,lst 7 AE.c b.Parts,lst 2 A1.c b.Nets,lst 6 AO.c b.Tracks,lst 8 As.c b.Vias,lst 8 A0.c b.Pours,lst 5 Bb.c b.Keeps,lst 4 Am.c b.Slots,vN,.own 18 20 2,vN,vN] 41),(1001,Z3n d)]⟩ (.cons EQ (.cons EQ (.cons (Ae (fun _ _=>kr) kr kr (Bf d 10 au7 au9)) (.cons EQ (.cons EQ (.cons (Ae (fun _ _=>kr) kr kr (Bf (AA d 10).2 8 au7 au9)) .nil)))))) kr (.cons rfl (.cons rfl (.cons rfl (.cons rfl (.cons rfl (.cons rfl (.cons rfl (.cons rfl .nil))))))))<|AJ ?_
 refine Ba (Cv.trans (BT (⟨Dj,[(18,Z3o d),(1000,Z3p b d),(1001,Z3n d)]⟩) lr (.cons ⟨rfl,Ap 147 (Aw (c:=BC.c) (xs:=([BC.mk ({ data := #[99,49] }:ByteArray) 1 1 AK AK (W64 (3+(AA d 10).1)),BC.mk ({ data := #[101,49] }:ByteArray) 1 3 AK AK (W64 (2+(AA (AA d 10).2 8).1))]:List BC)) rfl kr)⟩ (.cons ⟨rfl,.cells _ (rr (rr (rr (rr (rr (rr (rr (rr (rr (rr (rr (rr (.cons (.own _ _ au2) (rr (rr .nil)))))))))))))))⟩ lr))) (Cv.refl _))<|AC<|AC ?_
 refine rc [(22,(Z3q d))] [Ak (Z3q d).2.1,BJ (.cells (AD.c (AA (AA d 10).2 8).2) 117)] ⟨[(0,tP 1000 0),(1,tP 1001 0),(23,tB (decide (((AA (Ev d).2 2).1:Int)=1)))],[(18,Z3o d),(1000,Z3p b d),(RK d)]⟩ (.cons (Ae (fun _ _=>kr) kr kr (Bf (AA (AA d 10).2 8).2 2 au7 au9)) .nil) (.cons rfl (.cons rfl .nil))<|AJ ?_
 refine Bu (⟨Dj,[(1000,.cells [.i b.Layers,.i b.Outline.Kind,lst 7 AG.c b.Outline.Edges,.i b.Outline.R,lst 7 AE.c b.Parts,lst 2 A1.c b.Nets,lst 6 AO.c b.Tracks,lst 8 As.c b.Vias,lst 8 A0.c b.Pours,lst 5 Bb.c b.Keeps,lst 4 Am.c b.Slots,vN,.own 100000 20 (Z3z d).length,vN,vN] 41),(1001,.cells (AD.c (Z3y d)) 117),(100000,.row 20 (Z3z d).length (AP BC.c (Z3z d)) 147)]⟩) ?_ ?_
 ·refine Ab _ rfl (fun h1 => ?_) (fun h1 => ?_)
  ·have g1:=oT h1
   refine dw [] [(29,CB),(30,CB),(32,(Z3s d)),(35,CB),(36,CB),(38,(Z3t d))] [Ak CB.2.1,Ak CB.2.1,Ak (Z3s d).2.1,BJ (.cells (AD.c (Z3r d)) 117),Ak CB.2.1,Ak CB.2.1,Ak (Z3t d).2.1,BJ (.cells (AD.c (AA (Z3r d) 5).2) 117),[BC.mk ({ data := #[99,49] }:ByteArray) 1 1 AK AK (W64 (3+(AA d 10).1)),BC.mk ({ data := #[101,49] }:ByteArray) 1 3 AK AK (W64 (2+(AA (AA d 10).2 8).1))].length=[BC.mk ({ data := #[99,49] }:ByteArray) 1 1 AK AK (W64 (3+(AA d 10).1)),BC.mk ({ data := #[101,49] }:ByteArray) 1 3 AK AK (W64 (2+(AA (AA d 10).2 8).1))].length,([BC.mk ({ data := #[99,49] }:ByteArray) 1 1 AK AK (W64 (3+(AA d 10).1)),BC.mk ({ data := #[101,49] }:ByteArray) 1 3 AK AK (W64 (2+(AA (AA d 10).2 8).1))].length)+2<=maxLen,(([BC.mk ({ data := #[99,49] }:ByteArray) 1 1 AK AK (W64 (3+(AA d 10).1)),BC.mk ({ data := #[101,49] }:ByteArray) 1 3 AK AK (W64 (2+(AA (AA d 10).2 8).1))].length)+2)*216<=140737488355328] ⟨Dj,[(42,.row 20 (([BC.mk ({ data := #[99,49] }:ByteArray) 1 1 AK AK (W64 (3+(AA d 10).1)),BC.mk ({ data := #[101,49] }:ByteArray) 1 3 AK AK (W64 (2+(AA (AA d 10).2 8).1))].length)+2) (fun i_ j_=>if i_<([BC.mk ({ data := #[99,49] }:ByteArray) 1 1 AK AK (W64 (3+(AA d 10).1)),BC.mk ({ data := #[101,49] }:ByteArray) 1 3 AK AK (W64 (2+(AA (AA d 10).2 8).1))].length) then (AP BC.c [BC.mk ({ data := #[99,49] }:ByteArray) 1 1 AK AK (W64 (3+(AA d 10).1)),BC.mk ({ data := #[101,49] }:ByteArray) 1 3 AK AK (W64 (2+(AA (AA d 10).2 8).1))]) i_ j_ else (Ay 20 2 [.s ({ data := #[119,49] }:ByteArray),.i 1,.i 2,.i AK.Op,.s AK.Text,.i AK.N,.i AK.Box.X0,.i AK.Box.Y0,.i AK.Box.X1,.i AK.Box.Y1,opL AK.L,.i AK.Op,.s AK.Text,.i AK.N,.i AK.Box.X0,.i AK.Box.Y0,.i AK.Box.X1,.i AK.Box.Y1,opL AK.L,.i (W64 (6+(AA (Z3r d) 5).1)),.s ({ data := #[114,49] }:ByteArray),.i 1,.i 4,.i AK.Op,.s AK.Text,.i AK.N,.i AK.Box.X0,.i AK.Box.Y0,.i AK.Box.X1,.i AK.Box.Y1,opL AK.L,.i AK.Op,.s AK.Text,.i AK.N,.i AK.Box.X0,.i AK.Box.Y0,.i AK.Box.X1,.i AK.Box.Y1,opL AK.L,.i (W64 (2+(AA (AA (Z3r d) 5).2 4).1))]) (i_-([BC.mk ({ data := #[99,49] }:ByteArray) 1 1 AK AK (W64 (3+(AA d 10).1)),BC.mk ({ data := #[101,49] }:ByteArray) 1 3 AK AK (W64 (2+(AA (AA d 10).2 8).1))].length)) j_) 147),(1000,.cells [.i b.Layers,.i b.Outline.Kind,lst 7 AG.c b.Outline.Edges,.i b.Outline.R,lst 7 AE.c b.Parts,lst 2 A1.c b.Nets,lst 6 AO.c b.Tracks,lst 8 As.c b.Vias,lst 8 A0.c b.Pours,lst 5 Bb.c b.Keeps,lst 4 Am.c b.Slots,vN,.own 42 20 (([BC.mk ({ data := #[99,49] }:ByteArray) 1 1 AK AK (W64 (3+(AA d 10).1)),BC.mk ({ data := #[101,49] }:ByteArray) 1 3 AK AK (W64 (2+(AA (AA d 10).2 8).1))].length)+2),vN,vN] 41),(1001,Z3u d)]⟩ (.cons EQ (.cons EQ (.cons (Ae (fun _ _=>kr) kr kr (Bf (Z3r d) 5 au7 au9)) (.cons EQ (.cons EQ (.cons (Ae (fun _ _=>kr) kr kr (Bf (AA (Z3r d) 5).2 4 au7 au9)) .nil)))))) (.cons rfl (.cons rfl (.cons rfl (.cons rfl (.cons rfl (.cons rfl (.cons rfl (.cons rfl (.cons rfl (.cons au20 (.cons au20 .nil)))))))))))<|AJ ?_
   refine Cv.trans (BT (⟨Dj,[(42,Z3v d),(1000,.cells [.i b.Layers,.i b.Outline.Kind,lst 7 AG.c b.Outline.Edges,.i b.Outline.R,lst 7 AE.c b.Parts,lst 2 A1.c b.Nets,lst 6 AO.c b.Tracks,lst 8 As.c b.Vias,lst 8 A0.c b.Pours,lst 5 Bb.c b.Keeps,lst 4 Am.c b.Slots,vN,.own 42 20 ([BC.mk ({ data := #[99,49] }:ByteArray) 1 1 AK AK (W64 (3+(AA d 10).1)),BC.mk ({ data := #[101,49] }:ByteArray) 1 3 AK AK (W64 (2+(Ev d).1))]++[BC.mk ({ data := #[119,49] }:ByteArray) 1 2 AK AK (W64 (6+(AA (Z3r d) 5).1)),BC.mk ({ data := #[114,49] }:ByteArray) 1 4 AK AK (W64 (2+(KZ d).1))]).length,vN,vN] 41),(1001,Z3u d)]⟩) lr (.cons ⟨rfl,Ap 147 (BZ (BM 20 BC.c [BC.mk ({ data := #[99,49] }:ByteArray) 1 1 AK AK (W64 (3+(AA d 10).1)),BC.mk ({ data := #[101,49] }:ByteArray) 1 3 AK AK (W64 (2+(AA (AA d 10).2 8).1))]) (Aw (c:=BC.c) (xs:=([BC.mk ({ data := #[119,49] }:ByteArray) 1 2 AK AK (W64 (6+(AA (Z3r d) 5).1)),BC.mk ({ data := #[114,49] }:ByteArray) 1 4 AK AK (W64 (2+(AA (AA (Z3r d) 5).2 4).1))]:List BC)) rfl kr))⟩ (.cons ⟨rfl,.cells _ (rr (rr (rr (rr (rr (rr (rr (rr (rr (rr (rr (rr (.cons (.own _ _ au2) (rr (rr .nil)))))))))))))))⟩ lr))) (Cv.trans (BR (⟨Dj,[(100000,Z3v d),(1000,Z3w b d),(1001,Z3u d)]⟩) 42 100000 (K:=[1000,1001]) hX rfl rfl kr kr) (Cv.trans (BD [0,1] [1000,1001,100000] (⟨Dj,[(1000,Z3w b d),(1001,Z3u d),(100000,Z3v d)]⟩) kr) (BB ?_)))
   first | rfl | (simp only [h1,Z3y,Z3z,cond_true,cond_false] <;> rfl)
  ·have g1:=oF h1
   refine Af<|AJ ?_
   refine Cv.trans (BD [0,1] [18,1000,1001] (⟨Dj,[(18,Z3o d),(1000,Z3p b d),(RK d)]⟩) kr) (Cv.trans (BR (⟨Dj,[(100000,Z3o d),(1000,Z3x b d),(RK d)]⟩) 18 100000 (K:=[1000,1001]) hX rfl rfl kr kr) (Cv.trans (BD [0,1] [1000,1001,100000] (⟨Dj,[(1000,Z3x b d),(RK d),(100000,Z3o d)]⟩) kr) (BB ?_)))
   first | rfl | (simp only [h1,Z3y,Z3z,cond_true,cond_false] <;> rfl)
 refine AC<|AC ?_
 refine rc [(46,(Z3A d))] [Ak (Z3A d).2.1,BJ (.cells (AD.c (Z3y d)) 117)] ⟨[(0,tP 1000 0),(1,tP 1001 0),(47,tB (decide (((AA (Z3y d) 2).1:Int)=1)))],[(1000,Z3B b d),(1001,Z3C d),(100000,Z3D d)]⟩ (.cons (Ae (fun _ _=>kr) kr kr (Bf (Z3y d) 2 au7 au9)) .nil) (.cons rfl (.cons rfl .nil))<|AJ ?_
 refine Bu (⟨Dj,[(1000,.cells [.i b.Layers,.i b.Outline.Kind,lst 7 AG.c b.Outline.Edges,.i b.Outline.R,lst 7 AE.c b.Parts,lst 2 A1.c b.Nets,lst 6 AO.c b.Tracks,lst 8 As.c b.Vias,lst 8 A0.c b.Pours,lst 5 Bb.c b.Keeps,lst 4 Am.c b.Slots,vN,.own 100001 20 (Z3O d).length,vN,vN] 41),(1001,.cells (AD.c (Z3N d)) 117),(100001,.row 20 (Z3O d).length (AP BC.c (Z3O d)) 147)]⟩) ?_ ?_
 ·refine Ab _ rfl (fun h1 => ?_) (fun h1 => ?_)
  ·have g1:=oT h1
   refine dw [] [(54,(Z3E d)),(57,(Z3F d)),(59,(Z3I d)),(61,(Z3J d))] [Ak (Z3E d).2.1,BJ (.cells (AD.c (AA (Z3y d) 2).2) 117),Ak (Z3F d).2.1,BJ (.cells (AD.c (AA (AA (Z3y d) 2).2 2).2) 117),Ak (Z3I d).2.1,BJ (.cells (AD.c (Z3G d)) 117),Ak (Z3J d).2.1,BJ (.cells (AD.c (BQ (Z3G d)).2) 117),(Z3z d).length=(Z3z d).length,(Z3z d).length+1<=maxLen,((Z3z d).length+1)*216<=140737488355328] ⟨Dj,[(65,.row 20 ((Z3z d).length+1) (fun i_ j_=>if i_<(Z3z d).length then (AP BC.c (Z3z d)) i_ j_ else (Ay 20 1 [.s ({ data := #[99,50] }:ByteArray),.i (W64 (1+(AA (AA (Z3y d) 2).2 2).1)),.i 1,.i (Z3H d).Op,.s (Z3H d).Text,.i (Z3H d).N,.i (Z3H d).Box.X0,.i (Z3H d).Box.Y0,.i (Z3H d).Box.X1,.i (Z3H d).Box.Y1,opL (Z3H d).L,.i (BQ (Z3G d)).1.Op,.s (BQ (Z3G d)).1.Text,.i (BQ (Z3G d)).1.N,.i (BQ (Z3G d)).1.Box.X0,.i (BQ (Z3G d)).1.Box.Y0,.i (BQ (Z3G d)).1.Box.X1,.i (BQ (Z3G d)).1.Box.Y1,opL (BQ (Z3G d)).1.L,.i (W64 (1+(AA (BQ (Z3G d)).2 14).1))]) (i_-(Z3z d).length) j_) 147),(1000,.cells [.i b.Layers,.i b.Outline.Kind,lst 7 AG.c b.Outline.Edges,.i b.Outline.R,lst 7 AE.c b.Parts,lst 2 A1.c b.Nets,lst 6 AO.c b.Tracks,lst 8 As.c b.Vias,lst 8 A0.c b.Pours,lst 5 Bb.c b.Keeps,lst 4 Am.c b.Slots,vN,.own 65 20 ((Z3z d).length+1),vN,vN] 41),(RM d)]⟩ (.cons (Ae (fun _ _=>kr) kr kr (Bf (AA (Z3y d) 2).2 2 au7 au9)) (.cons (Ae (fun _ _=>kr) kr kr (Wm (AA (AA (Z3y d) 2).2 2).2 au7)) (.cons (Ae (fun _ _=>kr) kr kr (Wm (Z3G d) au7)) (.cons (Ae (fun _ _=>kr) kr kr (Bf (BQ (Z3G d)).2 14 au7 au9)) .nil)))) (.cons rfl (.cons rfl (.cons rfl (.cons rfl (.cons rfl (.cons rfl (.cons rfl (.cons rfl (.cons rfl (.cons au20 (.cons au20 .nil)))))))))))<|AJ ?_
   refine Cv.trans (BT (⟨Dj,[(65,Z3L d),(1000,.cells [.i b.Layers,.i b.Outline.Kind,lst 7 AG.c b.Outline.Edges,.i b.Outline.R,lst 7 AE.c b.Parts,lst 2 A1.c b.Nets,lst 6 AO.c b.Tracks,lst 8 As.c b.Vias,lst 8 A0.c b.Pours,lst 5 Bb.c b.Keeps,lst 4 Am.c b.Slots,vN,.own 65 20 ((Z3z d)++[BC.mk ({ data := #[99,50] }:ByteArray) (W64 (1+(AA (AA (Z3y d) 2).2 2).1)) 1 (Z3H d) (BQ (Z3G d)).1 (W64 (1+(ML d).1))]).length,vN,vN] 41),(RM d)]⟩) lr (.cons ⟨rfl,Ap 147 (BZ (BM 20 BC.c (Z3z d)) (Aw (c:=BC.c) (xs:=([BC.mk ({ data := #[99,50] }:ByteArray) (W64 (1+(AA (AA (Z3y d) 2).2 2).1)) 1 (Z3H d) (BQ (Z3G d)).1 (W64 (1+(AA (BQ (Z3G d)).2 14).1))]:List BC)) rfl kr))⟩ (.cons ⟨rfl,.cells _ (rr (rr (rr (rr (rr (rr (rr (rr (rr (rr (rr (rr (.cons (.own _ _ au2) (rr (rr .nil)))))))))))))))⟩ lr))) (Cv.trans (BR (⟨Dj,[(100001,Z3L d),(1000,Z3M b d),(RM d)]⟩) 65 100001 (K:=[1000,1001]) hX rfl rfl kr kr) (Cv.trans (BD [0,1] [1000,1001,100001] (⟨Dj,[(1000,Z3M b d),(RM d),(100001,Z3L d)]⟩) kr) (BB ?_)))
   first | rfl | (simp only [h1,Z3N,Z3O,cond_true,cond_false] <;> rfl)
  ·have g1:=oF h1
   refine Af<|AJ ?_
   refine Cv.trans (BD [0,1] [1000,1001,100000] (⟨Dj,[(1000,Z3B b d),(1001,Z3C d),(100000,Z3D d)]⟩) kr) (Cv.trans (BR (⟨Dj,[(1000,.cells [.i b.Layers,.i b.Outline.Kind,lst 7 AG.c b.Outline.Edges,.i b.Outline.R,lst 7 AE.c b.Parts,lst 2 A1.c b.Nets,lst 6 AO.c b.Tracks,lst 8 As.c b.Vias,lst 8 A0.c b.Pours,lst 5 Bb.c b.Keeps,lst 4 Am.c b.Slots,vN,.own 100001 20 (Z3z d).length,vN,vN] 41),(1001,Z3C d),(100001,Z3D d)]⟩) 100000 100001 (K:=[1000,1001]) hX rfl rfl kr kr) (BB ?_))
   first | rfl | (simp only [h1,Z3N,Z3O,cond_true,cond_false] <;> rfl)
 refine AC<|AC ?_
 refine rc [(69,(Z3P d))] [Ak (Z3P d).2.1,BJ (.cells (AD.c (Z3N d)) 117)] ⟨[(0,tP 1000 0),(1,tP 1001 0),(70,tB (decide (((AA (Z3N d) 3).1:Int)=0)))],[(1000,Z3Q b d),(1001,Z3R d),(100001,Z3S d)]⟩ (.cons (Ae (fun _ _=>kr) kr kr (Bf (Z3N d) 3 au7 au9)) .nil) (.cons rfl (.cons rfl .nil))<|AJ ?_
 refine Bu (⟨Dj,[(1000,.cells [.i b.Layers,.i b.Outline.Kind,lst 7 AG.c b.Outline.Edges,.i b.Outline.R,lst 7 AE.c b.Parts,lst 2 A1.c b.Nets,lst 6 AO.c b.Tracks,lst 8 As.c b.Vias,lst 8 A0.c b.Pours,lst 5 Bb.c b.Keeps,lst 4 Am.c b.Slots,lst 2 B8.c (Z3T d),.own 100001 20 (Z3O d).length,vN,vN] 41),(1001,.cells (AD.c (AA (Z3N d) 3).2) 117),(100001,.row 20 (Z3O d).length (AP BC.c (Z3O d)) 147)]⟩) ?_ ?_
 ·refine Ab _ rfl (fun h1 => ?_) (fun h1 => ?_)
  ·have g1:=oT h1
   refine rn ⟨Dj,[(1000,.cells [.i b.Layers,.i b.Outline.Kind,lst 7 AG.c b.Outline.Edges,.i b.Outline.R,lst 7 AE.c b.Parts,lst 2 A1.c b.Nets,lst 6 AO.c b.Tracks,lst 8 As.c b.Vias,lst 8 A0.c b.Pours,lst 5 Bb.c b.Keeps,lst 4 Am.c b.Slots,.list true 2 1 (Ay 2 1 [.s ({ data := #[112,111,119,101,114] }:ByteArray),.list true 1 1 (Ay 1 1 [.s ({ data := #[71,78,68] }:ByteArray)])]),.own 100001 20 (Z3O d).length,vN,vN] 41),(1001,Z3R d),(100001,Z3S d)]⟩ ?_
   refine Cv.trans (BT (⟨Dj,[(1000,.cells [.i b.Layers,.i b.Outline.Kind,lst 7 AG.c b.Outline.Edges,.i b.Outline.R,lst 7 AE.c b.Parts,lst 2 A1.c b.Nets,lst 6 AO.c b.Tracks,lst 8 As.c b.Vias,lst 8 A0.c b.Pours,lst 5 Bb.c b.Keeps,lst 4 Am.c b.Slots,lst 2 B8.c [B8.mk ({ data := #[112,111,119,101,114] }:ByteArray) [({ data := #[71,78,68] }:ByteArray)]],.own 100001 20 (Z3O d).length,vN,vN] 41),(1001,Z3R d),(100001,Z3S d)]⟩) lr (.cons ⟨rfl,.cells _ (rr (rr (rr (rr (rr (rr (rr (rr (rr (rr (rr (.cons (Bm true (FU (c:=B8.c) (xs:=([B8.mk ({ data := #[112,111,119,101,114] }:ByteArray) [({ data := #[71,78,68] }:ByteArray)]]:List B8)) (y:=[[.s ({ data := #[112,111,119,101,114] }:ByteArray),.list true 1 1 (Ay 1 1 [.s ({ data := #[71,78,68] }:ByteArray)])]]) (z:=[[.s ({ data := #[112,111,119,101,114] }:ByteArray),lst 1 (fun x=>[.s x]) [({ data := #[71,78,68] }:ByteArray)]]]) rfl kr kr (.cons (rr (.cons (Bm true (Aw (c:=(fun x=>[.s x])) (xs:=([({ data := #[71,78,68] }:ByteArray)]:List ByteArray)) rfl kr)) .nil)) .nil))) (rr (rr (rr .nil)))))))))))))))⟩ lr)) (BB ?_)
   first | rfl | (simp only [h1,Z3T,cond_true,cond_false] <;> rfl)
  ·have g1:=oF h1
   refine Af<|AJ ?_
   refine Cv.trans (BD [0,1] [1000,1001,100001] (⟨Dj,[(1000,Z3Q b d),(1001,Z3R d),(100001,Z3S d)]⟩) kr) (Cv.trans (BT (⟨Dj,[(1000,.cells [.i b.Layers,.i b.Outline.Kind,lst 7 AG.c b.Outline.Edges,.i b.Outline.R,lst 7 AE.c b.Parts,lst 2 A1.c b.Nets,lst 6 AO.c b.Tracks,lst 8 As.c b.Vias,lst 8 A0.c b.Pours,lst 5 Bb.c b.Keeps,lst 4 Am.c b.Slots,lst 2 B8.c [],.own 100001 20 (Z3O d).length,vN,vN] 41),(1001,Z3R d),(100001,Z3S d)]⟩) lr (.cons ⟨rfl,.cells _ (rr (rr (rr (rr (rr (rr (rr (rr (rr (rr (rr (.cons (Cr 2 B8.c) (rr (rr (rr .nil)))))))))))))))⟩ lr)) (BB ?_))
   first | rfl | (simp only [h1,Z3T,cond_true,cond_false] <;> rfl)
 refine AC<|AC ?_
 refine rc [(78,(Z3U d))] [Ak (Z3U d).2.1,BJ (.cells (AD.c (AA (Z3N d) 3).2) 117)] ⟨[(0,tP 1000 0),(1,tP 1001 0),(79,tB (decide (((AA (AA (Z3N d) 3).2 4).1:Int)=0)))],[(1000,Z3W b d),(RL d),(100001,Z3S d)]⟩ (.cons (Ae (fun _ _=>kr) kr kr (Bf (AA (Z3N d) 3).2 4 au7 au9)) .nil) (.cons rfl (.cons rfl .nil))<|AJ ?_
 refine Bu (⟨Dj,[(1000,.cells [.i b.Layers,.i b.Outline.Kind,lst 7 AG.c b.Outline.Edges,.i b.Outline.R,lst 7 AE.c b.Parts,lst 2 A1.c b.Nets,lst 6 AO.c b.Tracks,lst 8 As.c b.Vias,lst 8 A0.c b.Pours,lst 5 Bb.c b.Keeps,lst 4 Am.c b.Slots,lst 2 B8.c (Z3T d),.own 100001 20 (Z3O d).length,lst 3 B4.c (Z43 d b),vN] 41),(1001,.cells (AD.c (Z42 d b)) 117),(100001,.row 20 (Z3O d).length (AP BC.c (Z3O d)) 147)]⟩) ?_ ?_
 ·refine Ab _ rfl (fun h1 => ?_) (fun h1 => ?_)
  ·have g1:=oT h1
   refine AC<|rc [(83,ceI [.agg [.i b.Layers,.i b.Outline.Kind,lst 7 AG.c b.Outline.Edges,.i b.Outline.R,lst 7 AE.c b.Parts,lst 2 A1.c b.Nets,lst 6 AO.c b.Tracks,lst 8 As.c b.Vias,lst 8 A0.c b.Pours,lst 5 Bb.c b.Keeps,lst 4 Am.c b.Slots,lst 2 B8.c (Z3T d),.own 100001 20 (Z3O d).length,vN,vN]] (M7 (AF.mk b.Layers (AQ.mk 0 [] 0) b.Parts [] b.Tracks b.Vias b.Pours b.Keeps b.Slots [] [] [] [])))] [Ak (ceI [.agg [.i b.Layers,.i b.Outline.Kind,lst 7 AG.c b.Outline.Edges,.i b.Outline.R,lst 7 AE.c b.Parts,lst 2 A1.c b.Nets,lst 6 AO.c b.Tracks,lst 8 As.c b.Vias,lst 8 A0.c b.Pours,lst 5 Bb.c b.Keeps,lst 4 Am.c b.Slots,lst 2 B8.c (Z3T d),.own 100001 20 (Z3O d).length,vN,vN]] (M7 (AF.mk b.Layers (AQ.mk 0 [] 0) b.Parts [] b.Tracks b.Vias b.Pours b.Keeps b.Slots [] [] [] []))).2.1] ⟨[(0,tP 1000 0),(1,tP 1001 0),(4,tO (lst 1 (fun x=>[.i x]) (Z3X b)))],[(1000,Z3W b d),(RL d),(100001,Z3S d)]⟩ (.cons (DE (gP (AF.mk b.Layers (AQ.mk 0 [] 0) b.Parts [] b.Tracks b.Vias b.Pours b.Keeps b.Slots [] [] [] []) au10 au10 au10 au10 au10 au10) (.cons (.agg (rr (.cons (.any _) (.cons (.any _) (.cons (.any _) (rr (.cons (.any _) (rr (rr (rr (rr (rr (.cons (.any _) (.cons (.any _) (.cons (.any _) (.cons (.any _) .nil)))))))))))))))) .nil)) .nil) (.cons rfl .nil)<|AJ ?_
   refine dw [] [(89,(Z3Y b d)),(96,(Z40 b d))] [Ak (Z3Y b d).2.1,BJ (.cells (AD.c (Z3V d)) 117),0<=((AA (Z3V d) ((Z3X b).length:Int)).1:Int)/\((AA (Z3V d) ((Z3X b).length:Int)).1:Int)<(((Z3X b).length:Nat):Int),Ak (Z40 b d).2.1,BJ (.cells (AD.c (Z3Z d b)) 117),0<=((AA (Z3Z d b) ((Z3X b).length:Int)).1:Int)/\((AA (Z3Z d b) ((Z3X b).length:Int)).1:Int)<(((Z3X b).length:Nat):Int)] ⟨Dj,[(1000,.cells [.i b.Layers,.i b.Outline.Kind,lst 7 AG.c b.Outline.Edges,.i b.Outline.R,lst 7 AE.c b.Parts,lst 2 A1.c b.Nets,lst 6 AO.c b.Tracks,lst 8 As.c b.Vias,lst 8 A0.c b.Pours,lst 5 Bb.c b.Keeps,lst 4 Am.c b.Slots,lst 2 B8.c (Z3T d),.own 100001 20 (Z3O d).length,.list true 3 1 (Ay 3 1 [.i ((Z3X b).getD (AA (Z3V d) ((Z3X b).length:Int)).1.toNat default),.i ((Z3X b).getD (AA (Z3Z d b) ((Z3X b).length:Int)).1.toNat default),.s ({ data := #[99,49] }:ByteArray)]),vN] 41),(1001,.cells (AD.c (Z41 d b)) 117),(100001,Z3S d)]⟩ (.cons (Ae (fun _ _=>kr) kr kr (Bf (Z3V d) ((Z3X b).length:Int) au7 au9)) (.cons (Ae (fun _ _=>kr) kr kr (Bf (Z3Z d b) ((Z3X b).length:Int) au7 au9)) .nil)) (.cons rfl (.cons rfl (.cons (by first | exact J0 _ _ _ (by decide) (by decide) (by decide) | exact T7 (b:=AF.mk b.Layers (AQ.mk 0 [] 0) b.Parts [] b.Tracks b.Vias b.Pours b.Keeps b.Slots [] [] [] []) _ hi (by assumption) (by assumption) (by assumption) (by assumption) (by assumption) (by assumption) | decide | omega) (.cons rfl (.cons rfl (.cons (by first | exact J0 _ _ _ (by decide) (by decide) (by decide) | exact T7 (b:=AF.mk b.Layers (AQ.mk 0 [] 0) b.Parts [] b.Tracks b.Vias b.Pours b.Keeps b.Slots [] [] [] []) _ hi (by assumption) (by assumption) (by assumption) (by assumption) (by assumption) (by assumption) | decide | omega) .nil))))))<|AJ ?_
   refine Cv.trans (BT (⟨Dj,[(1000,.cells [.i b.Layers,.i b.Outline.Kind,lst 7 AG.c b.Outline.Edges,.i b.Outline.R,lst 7 AE.c b.Parts,lst 2 A1.c b.Nets,lst 6 AO.c b.Tracks,lst 8 As.c b.Vias,lst 8 A0.c b.Pours,lst 5 Bb.c b.Keeps,lst 4 Am.c b.Slots,lst 2 B8.c (Z3T d),.own 100001 20 (Z3O d).length,lst 3 B4.c [B4.mk ((Z3X b).getD (AA (Z3V d) ((Z3X b).length:Int)).1.toNat default) ((Z3X b).getD (AA (Z3Z d b) ((Z3X b).length:Int)).1.toNat default) ({ data := #[99,49] }:ByteArray)],vN] 41),(1001,.cells (AD.c (Z41 d b)) 117),(100001,Z3S d)]⟩) lr (.cons ⟨rfl,.cells _ (rr (rr (rr (rr (rr (rr (rr (rr (rr (rr (rr (rr (rr (.cons (Bm true (Aw (c:=B4.c) (xs:=([B4.mk ((Z3X b).getD (AA (Z3V d) ((Z3X b).length:Int)).1.toNat default) ((Z3X b).getD (AA (Z3Z d b) ((Z3X b).length:Int)).1.toNat default) ({ data := #[99,49] }:ByteArray)]:List B4)) rfl kr)) (rr .nil)))))))))))))))⟩ lr)) (BB ?_)
   first | rfl | (simp only [h1,Z42,Z43,cond_true,cond_false] <;> rfl)
  ·have g1:=oF h1
   refine Af<|AJ ?_
   refine Cv.trans (BD [0,1] [1000,1001,100001] (⟨Dj,[(1000,Z3W b d),(RL d),(100001,Z3S d)]⟩) kr) (Cv.trans (BT (⟨Dj,[(1000,.cells [.i b.Layers,.i b.Outline.Kind,lst 7 AG.c b.Outline.Edges,.i b.Outline.R,lst 7 AE.c b.Parts,lst 2 A1.c b.Nets,lst 6 AO.c b.Tracks,lst 8 As.c b.Vias,lst 8 A0.c b.Pours,lst 5 Bb.c b.Keeps,lst 4 Am.c b.Slots,lst 2 B8.c (Z3T d),.own 100001 20 (Z3O d).length,lst 3 B4.c [],vN] 41),(RL d),(100001,Z3S d)]⟩) lr (.cons ⟨rfl,.cells _ (rr (rr (rr (rr (rr (rr (rr (rr (rr (rr (rr (rr (rr (.cons (Cr 3 B4.c) (rr .nil)))))))))))))))⟩ lr)) (BB ?_))
   first | rfl | (simp only [h1,Z42,Z43,cond_true,cond_false] <;> rfl)
 refine AC<|rc [(104,(Z44 d b))] [Ak (Z44 d b).2.1,BJ (.cells (AD.c (Z42 d b)) 117)] ⟨[(0,tP 1000 0),(1,tP 1001 0),(105,tB (decide (((AA (Z42 d b) 4).1:Int)=0)))],[(1000,.cells [.i b.Layers,.i b.Outline.Kind,lst 7 AG.c b.Outline.Edges,.i b.Outline.R,lst 7 AE.c b.Parts,lst 2 A1.c b.Nets,lst 6 AO.c b.Tracks,lst 8 As.c b.Vias,lst 8 A0.c b.Pours,lst 5 Bb.c b.Keeps,lst 4 Am.c b.Slots,lst 2 B8.c (Z3T d),.own 100001 20 (Z3O d).length,lst 3 B4.c (Z43 d b),vN] 41),(1001,.cells (AD.c (AA (Z42 d b) 4).2) 117),(100001,Z3S d)]⟩ (.cons (Ae (fun _ _=>kr) kr kr (Bf (Z42 d b) 4 au7 au9)) .nil) (.cons rfl (.cons rfl .nil))<|AJ ?_
 refine Ab _ rfl (fun h1 => ?_) (fun h1 => ?_)
 ·have g1:=oT h1
  refine rc [(109,(Z45 d b))] [Ak (Z45 d b).2.1,BJ (.cells (AD.c (AA (Z42 d b) 4).2) 117)] ⟨[],[(1000,.cells [.i b.Layers,.i b.Outline.Kind,lst 7 AG.c b.Outline.Edges,.i b.Outline.R,lst 7 AE.c b.Parts,lst 2 A1.c b.Nets,lst 6 AO.c b.Tracks,lst 8 As.c b.Vias,lst 8 A0.c b.Pours,lst 5 Bb.c b.Keeps,lst 4 Am.c b.Slots,lst 2 B8.c (Z3T d),.own 100001 20 (Z3O d).length,lst 3 B4.c (Z43 d b),.list true 3 1 (Ay 3 1 [.s ({ data := #[109,49] }:ByteArray),.list true 1 2 (Ay 1 2 [.s ({ data := #[78,49] }:ByteArray),.s ({ data := #[78,50] }:ByteArray)]),.i (W64 (10*(AA (AA (Z42 d b) 4).2 8).1))])] 41),(1001,.cells (AD.c (Z46 d b)) 117),(100001,Z3S d)]⟩ (.cons (Ae (fun _ _=>kr) kr kr (Bf (AA (Z42 d b) 4).2 8 au7 au9)) .nil) (.cons rfl (.cons rfl .nil)) ?_
  exact ⟨_,Cv.trans (Dn (⟨[],[(1000,.cells [.i b.Layers,.i b.Outline.Kind,lst 7 AG.c b.Outline.Edges,.i b.Outline.R,lst 7 AE.c b.Parts,lst 2 A1.c b.Nets,lst 6 AO.c b.Tracks,lst 8 As.c b.Vias,lst 8 A0.c b.Pours,lst 5 Bb.c b.Keeps,lst 4 Am.c b.Slots,lst 2 B8.c (Z3T d),lst 20 BC.c (Z3O d),lst 3 B4.c (Z43 d b),.list true 3 1 (Ay 3 1 [.s ({ data := #[109,49] }:ByteArray),.list true 1 2 (Ay 1 2 [.s ({ data := #[78,49] }:ByteArray),.s ({ data := #[78,50] }:ByteArray)]),.i (W64 (10*(AA (AA (Z42 d b) 4).2 8).1))])] 41),(1001,.cells (AD.c (Z46 d b)) 117)]⟩) 100001 20 (Z3O d).length (AP BC.c (Z3O d)) 147 (K:=[1000,1001]) hX kr kr (.cons ⟨rfl,rfl⟩ .nil) kr) (Cv.refl _),.inr rfl,.tup [],by kernel_rfl,⟨Al rfl,⟨.cells [.i b.Layers,.i b.Outline.Kind,lst 7 AG.c b.Outline.Edges,.i b.Outline.R,lst 7 AE.c b.Parts,lst 2 A1.c b.Nets,lst 6 AO.c b.Tracks,lst 8 As.c b.Vias,lst 8 A0.c b.Pours,lst 5 Bb.c b.Keeps,lst 4 Am.c b.Slots,lst 2 B8.c (Z3T d),lst 20 BC.c (Z3O d),lst 3 B4.c (Z43 d b),.list true 3 1 (Ay 3 1 [.s ({ data := #[109,49] }:ByteArray),.list true 1 2 (Ay 1 2 [.s ({ data := #[78,49] }:ByteArray),.s ({ data := #[78,50] }:ByteArray)]),.i (W64 (10*(AA (AA (Z42 d b) 4).2 8).1))])] 41,by kernel_rfl,Sl (y:=.cells [.i b.Layers,.i b.Outline.Kind,lst 7 AG.c b.Outline.Edges,.i b.Outline.R,lst 7 AE.c b.Parts,lst 2 A1.c b.Nets,lst 6 AO.c b.Tracks,lst 8 As.c b.Vias,lst 8 A0.c b.Pours,lst 5 Bb.c b.Keeps,lst 4 Am.c b.Slots,lst 2 B8.c (Z3T d),lst 20 BC.c (Z3O d),lst 3 B4.c (Z43 d b),lst 3 Dw.c [Dw.mk ({ data := #[109,49] }:ByteArray) [({ data := #[78,49] }:ByteArray),({ data := #[78,50] }:ByteArray)] (W64 (10*(AA (AA (Z42 d b) 4).2 8).1))]] 41) (.cells _ (rr (rr (rr (rr (rr (rr (rr (rr (rr (rr (rr (rr (rr (rr (.cons (Bm true (FU (c:=Dw.c) (xs:=([Dw.mk ({ data := #[109,49] }:ByteArray) [({ data := #[78,49] }:ByteArray),({ data := #[78,50] }:ByteArray)] (W64 (10*(AA (AA (Z42 d b) 4).2 8).1))]:List Dw)) (y:=[[.s ({ data := #[109,49] }:ByteArray),.list true 1 2 (Ay 1 2 [.s ({ data := #[78,49] }:ByteArray),.s ({ data := #[78,50] }:ByteArray)]),.i (W64 (10*(AA (AA (Z42 d b) 4).2 8).1))]]) (z:=[[.s ({ data := #[109,49] }:ByteArray),lst 1 (fun x=>[.s x]) [({ data := #[78,49] }:ByteArray),({ data := #[78,50] }:ByteArray)],.i (W64 (10*(AA (AA (Z42 d b) 4).2 8).1))]]) rfl kr kr (.cons (rr (.cons (Bm true (Aw (c:=(fun x=>[.s x])) (xs:=([({ data := #[78,49] }:ByteArray),({ data := #[78,50] }:ByteArray)]:List ByteArray)) rfl kr)) (rr .nil))) .nil))) .nil)))))))))))))))) (by first | (simp only [DZ,h1,cond_true,cond_false];done) | (simp only [DZ,h1,cond_true,cond_false];kernel_rfl))⟩,.cells (AD.c (Z46 d b)) 117,by kernel_rfl,Dh (by first | (simp only [DZ,h1,cond_true,cond_false];done) | (simp only [DZ,h1,cond_true,cond_false];kernel_rfl))⟩⟩
 ·have g1:=oF h1
  refine Af ?_
  exact ⟨_,Cv.trans (Dn (⟨[(0,tP 1000 0),(1,tP 1001 0),(105,tB (decide (((AA (Z42 d b) 4).1:Int)=0)))],[(1000,.cells [.i b.Layers,.i b.Outline.Kind,lst 7 AG.c b.Outline.Edges,.i b.Outline.R,lst 7 AE.c b.Parts,lst 2 A1.c b.Nets,lst 6 AO.c b.Tracks,lst 8 As.c b.Vias,lst 8 A0.c b.Pours,lst 5 Bb.c b.Keeps,lst 4 Am.c b.Slots,lst 2 B8.c (Z3T d),lst 20 BC.c (Z3O d),lst 3 B4.c (Z43 d b),vN] 41),(1001,.cells (AD.c (AA (Z42 d b) 4).2) 117)]⟩) 100001 20 (Z3O d).length (AP BC.c (Z3O d)) 147 (K:=[1000,1001]) hX kr kr (.cons ⟨rfl,rfl⟩ .nil) kr) (Cv.refl _),.inr rfl,.tup [],by kernel_rfl,⟨Al rfl,⟨.cells [.i b.Layers,.i b.Outline.Kind,lst 7 AG.c b.Outline.Edges,.i b.Outline.R,lst 7 AE.c b.Parts,lst 2 A1.c b.Nets,lst 6 AO.c b.Tracks,lst 8 As.c b.Vias,lst 8 A0.c b.Pours,lst 5 Bb.c b.Keeps,lst 4 Am.c b.Slots,lst 2 B8.c (Z3T d),lst 20 BC.c (Z3O d),lst 3 B4.c (Z43 d b),vN] 41,by kernel_rfl,Sl (y:=.cells [.i b.Layers,.i b.Outline.Kind,lst 7 AG.c b.Outline.Edges,.i b.Outline.R,lst 7 AE.c b.Parts,lst 2 A1.c b.Nets,lst 6 AO.c b.Tracks,lst 8 As.c b.Vias,lst 8 A0.c b.Pours,lst 5 Bb.c b.Keeps,lst 4 Am.c b.Slots,lst 2 B8.c (Z3T d),lst 20 BC.c (Z3O d),lst 3 B4.c (Z43 d b),lst 3 Dw.c []] 41) (.cells _ (rr (rr (rr (rr (rr (rr (rr (rr (rr (rr (rr (rr (rr (rr (.cons (Cr 3 Dw.c) .nil)))))))))))))))) (by first | (simp only [DZ,h1,cond_true,cond_false];done) | (simp only [DZ,h1,cond_true,cond_false];kernel_rfl))⟩,.cells (AD.c (AA (Z42 d b) 4).2) 117,by kernel_rfl,Dh (by first | (simp only [DZ,h1,cond_true,cond_false];done) | (simp only [DZ,h1,cond_true,cond_false];kernel_rfl))⟩⟩
end
end Go.Proofs.YtheobjkgllmnmaaGreat
