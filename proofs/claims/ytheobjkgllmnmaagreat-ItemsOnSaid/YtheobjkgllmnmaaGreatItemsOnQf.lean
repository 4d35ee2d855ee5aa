/-
  No statement is proved in this text. It holds a part of what the proof of ItemsOn needs.
-/
import Derived.Test.YtheobjkgllmnmaaGreatItemsOnQe
namespace Go.Proofs.YtheobjkgllmnmaaGreat
set_option maxRecDepth 100000
set_option linter.unusedVariables false
set_option linter.unusedSimpArgs false
open Go.RowKit
section
open Go.RowKit
def AJ:Ej:=Ej.mk 1 (⟨#[]⟩) 0 (As.mk 0 0 0 0) (OpL.mk 0 (fun _ _=>default))
def CO:CT:=(99,[],.val [] (.av (.agg (Ej.c AJ))))
abbrev Ry:List Cl:=[.i 1,.s (⟨#[]⟩),.i 0,.i 0,.i 0,.i 0,.i 0,vN]
theorem YP  : G8 Tryz.prog 99 (CO ).2.1 (.av (.agg (Ej.c AJ))):=by
 refine pwf Tryz.func99 fun W0 M0 => ?_
 refine AB<|rn ⟨[(0,tP 0 0)],[(0,.cells (RQ [vN]) 145)]⟩<|AB ?_
 refine rn ⟨[(0,tP 0 0)],[(0,.cells Ry 145)]⟩<|Ab ?_
 exact xl (.av (.agg Ry)) (Du (y:=.av (.agg [.i 1,.s (⟨#[]⟩),.i 0,.i 0,.i 0,.i 0,.i 0,opL (OpL.mk 0 (fun _ _=>default))])) (.av (.agg (rr5 (rr2 (.cons (.nil _ _) .nil))))) (by rfl))
theorem EL  : OKc (CO ):=cPu<|YP
def Z3z:Blk:=.cells (RQ [vN]) 145
variable (b:AG) (d:AD) (v4 v5 v6 v7 v8 v9:Int)
abbrev GL:Blk:=.cells (AD.c (AA d 9).2) 117
def Z3A:CT:=(42,([.one (.ptr 1000 0),.one (.i 9)]:List Av).map (Br 1000 1000),wrI 1000 (HW d) (tI (AA d 9).1) (GL d))
abbrev HV:=AA (AA d 9).2 2
def Z3B:CT:=(42,(Hf:List Av).map (Br 1000 1000),wrI 1000 (GL d) (tI (HV d).1) (.cells (AD.c (HV d).2) 117))
def Z3C:Blk:=.cells (AD.c (HV d).2) 117
def Z3D:CT:=(42,(Kc:List Av).map (Br 1000 1000),wrI 1000 (GL d) (tI (AA (AA d 9).2 5).1) (.cells (AD.c (AA (AA d 9).2 5).2) 117))
def Z3E:CT:=(42,(E5:List Av).map (Br 1000 1000),wrI 1000 (GL d) (tI (AA (AA d 9).2 3).1) (.cells (AD.c (AA (AA d 9).2 3).2) 117))
def Z3F:CT:=(42,(Ol:List Av).map (Br 1000 1000),wrI 1000 (GL d) (tI (AA (AA d 9).2 6).1) (.cells (AD.c (AA (AA d 9).2 6).2) 117))
def Z3G:CT:=(42,(HZ:List Av).map (Br 1000 1000),wrI 1000 (.cells (AD.c (HV d).2) 117) (tI (AA (HV d).2 4).1) (.cells (AD.c (AA (HV d).2 4).2) 117))
abbrev Z3H:AD:=(AA (AA (AA d 9).2 2).2 4).2
def BM (d:AD):(Ej×AD):=bif decide (((AA d 9).1:Int)=0) then (Ej.mk 2 (([({ data := #[78,49] }:ByteArray),({ data := #[71,78,68] }:ByteArray)]:List ByteArray).getD (AA (AA d 9).2 2).1.toNat ⟨#[]⟩) 0 (As.mk 0 0 0 0) (OpL.mk 0 (fun _ _=>default)),(AA (AA d 9).2 2).2) else (bif decide (((AA d 9).1:Int)=1) then (Ej.mk 3 ({ data := #[112,111,119,101,114] }:ByteArray) 0 (As.mk 0 0 0 0) (OpL.mk 0 (fun _ _=>default)),(AA d 9).2) else (bif decide (((AA d 9).1:Int)=2) then (Ej.mk 4 (⟨#[]⟩) (W64 (1+(AA (AA d 9).2 5).1)) (As.mk 0 0 0 0) (OpL.mk 0 (fun _ _=>default)),(AA (AA d 9).2 5).2) else (bif decide (((AA d 9).1:Int)=3) then (Ej.mk 5 (⟨#[]⟩) (W64 (1+(AA (AA d 9).2 2).1)) (As.mk 0 0 0 0) (OpL.mk 0 (fun _ _=>default)),(AA (AA d 9).2 2).2) else (bif decide (((AA d 9).1:Int)=4) then (Ej.mk 6 (⟨#[]⟩) (W64 (1+(AA (AA d 9).2 3).1)) (As.mk 0 0 0 0) (OpL.mk 0 (fun _ _=>default)),(AA (AA d 9).2 3).2) else (bif decide (((AA d 9).1:Int)=5) then (Ej.mk 7 (⟨#[]⟩) 0 (As.mk 0 0 (W64 (100+(W64 (50*(AA (AA d 9).2 6).1)))) 400) (OpL.mk 0 (fun _ _=>default)),(AA (AA d 9).2 6).2) else (bif decide (((AA d 9).1:Int)=6) then (Ej.mk 8 (⟨#[]⟩) 0 (As.mk 0 0 0 0) (OpL.mk 1 (Ap 8 1 [.i 5,.s (⟨#[]⟩),.i (W64 (1+(AA (AA d 9).2 2).1)),.i 0,.i 0,.i 0,.i 0,vN])),(AA (AA d 9).2 2).2) else (bif decide (((AA d 9).1:Int)=7) then (Ej.mk (W64 (9+(AA (AA d 9).2 2).1)) (⟨#[]⟩) 0 (As.mk 0 0 0 0) (OpL.mk 2 (Ap 8 2 [.i 4,.s (⟨#[]⟩),.i (W64 (1+(AA (AA (AA d 9).2 2).2 4).1)),.i 0,.i 0,.i 0,.i 0,vN,.i 2,.s ({ data := #[71,78,68] }:ByteArray),.i 0,.i 0,.i 0,.i 0,.i 0,vN])),Z3H d) else (Ej.mk 1 (⟨#[]⟩) 0 (As.mk 0 0 0 0) (OpL.mk 0 (fun _ _=>default)),(AA d 9).2))))))))
abbrev SA:List Cl:=[.i 5,.s (⟨#[]⟩),.i (W64 (1+(HV d).1)),.i 0,.i 0,.i 0,.i 0,vN]
abbrev Gs:Nat×Blk:=(1000,.cells (AD.c (AA d 9).2) 117)
abbrev Ze:List Cl:=[.i 7,.s (⟨#[]⟩),.i 0,.i 0,.i 0,.i (W64 (100+(W64 (50*(AA (AA d 9).2 6).1)))),.i 400,vN]
abbrev lW:Nat×Tv:=(4,tI (AA d 9).1)
abbrev ZV:List Cl:=[.i 4,.s (⟨#[]⟩),.i (W64 (1+(AA (AA d 9).2 5).1)),.i 0,.i 0,.i 0,.i 0,vN]
abbrev ZU:List Cl:=[.i 6,.s (⟨#[]⟩),.i (W64 (1+(AA (AA d 9).2 3).1)),.i 0,.i 0,.i 0,.i 0,vN]
abbrev ZQ:List Cl:=[.i 8,.s (⟨#[]⟩),.i 0,.i 0,.i 0,.i 0,.i 0,.list true 8 1 (Ap 8 1 (SA d))]
abbrev I8 (t_:List (Nat×Tv)):List (Nat×Tv):=(0,tP 1000 0)::(2,tP 2 0)::(lW d)::t_
theorem XI  (d:AD) (hd:Bg d):Wr Tryz.prog 100 1000 [.one (.ptr 1000 0)] (.cells (AD.c d) 117) (.av (.agg (Ej.c (BM d).1))) (.cells (AD.c (BM d).2) 117):=by
 refine Hk Tryz.func100 rfl kr kr kr kr fun W0 M0 X hX => ?_
 refine AB<|rn ⟨[(0,tP 1000 0),(2,tP 2 0)],[(2,Z3z),(JG d)]⟩ ?_
 refine AB<|AB ?_
 refine rb 4 (Z3A d) (HW d) ⟨(I8 d []),[(2,Z3z),(Gs d)]⟩ (cWr (BS d 9 au6 au9))<|AF ?_
 refine AO<|AB ?_
 refine rn ⟨(I8 d [(5,tB (decide (((AA d 9).1:Int)=0)))]),[(2,Z3z),(Gs d)]⟩ ?_
 refine AW _ rfl (fun h1 => ?_) (fun h1 => ?_)
 ·have g1:=oT h1
  refine AB<|rc [(9,(Z3B d))] [Aq (Z3B d).2.1,Bt (GL d),0<=((AA (AA d 9).2 2).1:Int)/\((AA (AA d 9).2 2).1:Int)<((2:Nat):Int)] ⟨[(2,tP 2 0)],[(2,.cells [.i 2,.s (([({ data := #[78,49] }:ByteArray),({ data := #[71,78,68] }:ByteArray)]:List ByteArray).getD (HV d).1.toNat ⟨#[]⟩),.i 0,.i 0,.i 0,.i 0,.i 0,vN] 145),(1000,Z3C d)]⟩ (.cons (cWr (BS (AA d 9).2 2 au6 au9)) .nil) (.cons rfl (.cons rfl (.cons (by first | exact Jm _ _ _ (by decide) (by decide) (by decide) | decide | omega) .nil)))<|AF ?_
  refine Ab<|BL<|An ?_
  exact xl (.av (.agg [.i 2,.s (([({ data := #[78,49] }:ByteArray),({ data := #[71,78,68] }:ByteArray)]:List ByteArray).getD (AA (AA d 9).2 2).1.toNat ⟨#[]⟩),.i 0,.i 0,.i 0,.i 0,.i 0,vN])) ⟨Du (y:=.av (.agg [.i 2,.s (([({ data := #[78,49] }:ByteArray),({ data := #[71,78,68] }:ByteArray)]:List ByteArray).getD (AA (AA d 9).2 2).1.toNat ⟨#[]⟩),.i 0,.i 0,.i 0,.i 0,.i 0,opL (OpL.mk 0 (fun _ _=>default))])) (.av (.agg (rr5 (rr2 (.cons (.nil _ _) .nil))))) (by unfold BM;rw [h1];rfl),.cells (AD.c (AA (AA d 9).2 2).2) 117,by kernel_rfl,Da (by unfold BM;rw [h1];kernel_rfl)⟩
 have g1:=oF h1
 refine AB<|rn ⟨(I8 d [(13,tB (decide (((AA d 9).1:Int)=1)))]),[(2,Z3z),(Gs d)]⟩ ?_
 refine AW _ rfl (fun h2 => ?_) (fun h2 => ?_)
 ·refine AB<|rn ⟨[(2,tP 2 0)],[(2,.cells [.i 3,.s ({ data := #[112,111,119,101,114] }:ByteArray),.i 0,.i 0,.i 0,.i 0,.i 0,vN] 145),(Gs d)]⟩ ?_
  refine Ab<|BL<|An ?_
  exact xl (.av (.agg [.i 3,.s ({ data := #[112,111,119,101,114] }:ByteArray),.i 0,.i 0,.i 0,.i 0,.i 0,vN])) ⟨Du (y:=.av (.agg [.i 3,.s ({ data := #[112,111,119,101,114] }:ByteArray),.i 0,.i 0,.i 0,.i 0,.i 0,opL (OpL.mk 0 (fun _ _=>default))])) (.av (.agg (rr5 (rr2 (.cons (.nil _ _) .nil))))) (by unfold BM;rw [h1,h2];rfl),.cells (AD.c (AA d 9).2) 117,by kernel_rfl,Da (by unfold BM;rw [h1,h2];kernel_rfl)⟩
 have g2:=oF h2
 refine AB<|rn ⟨(I8 d [(16,tB (decide (((AA d 9).1:Int)=2)))]),[(2,Z3z),(Gs d)]⟩ ?_
 refine AW _ rfl (fun h3 => ?_) (fun h3 => ?_)
 ·have g3:=oT h3
  refine AB<|rb 19 (Z3D d) (GL d) ⟨[(2,tP 2 0)],[(2,.cells (ZV d) 145),(1000,.cells (AD.c (AA (AA d 9).2 5).2) 117)]⟩ (cWr (BS (AA d 9).2 5 au6 au9))<|AF ?_
  refine Ab<|BL<|An ?_
  exact xl (.av (.agg (ZV d))) ⟨Du (y:=.av (.agg [.i 4,.s (⟨#[]⟩),.i (W64 (1+(AA (AA d 9).2 5).1)),.i 0,.i 0,.i 0,.i 0,opL (OpL.mk 0 (fun _ _=>default))])) (.av (.agg (rr5 (rr2 (.cons (.nil _ _) .nil))))) (by unfold BM;rw [h1,h2,h3];rfl),.cells (AD.c (AA (AA d 9).2 5).2) 117,by kernel_rfl,Da (by unfold BM;rw [h1,h2,h3];kernel_rfl)⟩
 have g3:=oF h3
 refine AB<|rn ⟨(I8 d [(22,tB (decide (((AA d 9).1:Int)=3)))]),[(2,Z3z),(Gs d)]⟩ ?_
 refine AW _ rfl (fun h4 => ?_) (fun h4 => ?_)
 ·have g4:=oT h4
  refine AB<|rb 25 (Z3B d) (GL d) ⟨[(2,tP 2 0)],[(2,.cells (SA d) 145),(1000,Z3C d)]⟩ (cWr (BS (AA d 9).2 2 au6 au9))<|AF ?_
  refine Ab<|BL<|An ?_
  exact xl (.av (.agg (SA d))) ⟨Du (y:=.av (.agg [.i 5,.s (⟨#[]⟩),.i (W64 (1+(AA (AA d 9).2 2).1)),.i 0,.i 0,.i 0,.i 0,opL (OpL.mk 0 (fun _ _=>default))])) (.av (.agg (rr5 (rr2 (.cons (.nil _ _) .nil))))) (by unfold BM;rw [h1,h2,h3,h4];rfl),.cells (AD.c (AA (AA d 9).2 2).2) 117,by kernel_rfl,Da (by unfold BM;rw [h1,h2,h3,h4];kernel_rfl)⟩
 have g4:=oF h4
 refine AB<|rn ⟨(I8 d [(28,tB (decide (((AA d 9).1:Int)=4)))]),[(2,Z3z),(Gs d)]⟩ ?_
 refine AW _ rfl (fun h5 => ?_) (fun h5 => ?_)
 ·have g5:=oT h5
  refine AB<|rb 31 (Z3E d) (GL d) ⟨[(2,tP 2 0)],[(2,.cells (ZU d) 145),(1000,.cells (AD.c (AA (AA d 9).2 3).2) 117)]⟩ (cWr (BS (AA d 9).2 3 au6 au9))<|AF ?_
  refine Ab<|BL<|An ?_
  exact xl (.av (.agg (ZU d))) ⟨Du (y:=.av (.agg [.i 6,.s (⟨#[]⟩),.i (W64 (1+(AA (AA d 9).2 3).1)),.i 0,.i 0,.i 0,.i 0,opL (OpL.mk 0 (fun _ _=>default))])) (.av (.agg (rr5 (rr2 (.cons (.nil _ _) .nil))))) (by unfold BM;rw [h1,h2,h3,h4,h5];rfl),.cells (AD.c (AA (AA d 9).2 3).2) 117,by kernel_rfl,Da (by unfold BM;rw [h1,h2,h3,h4,h5];kernel_rfl)⟩
 have g5:=oF h5
 refine AB<|rn ⟨(I8 d [(34,tB (decide (((AA d 9).1:Int)=5)))]),[(2,Z3z),(Gs d)]⟩ ?_
 refine AW _ rfl (fun h6 => ?_) (fun h6 => ?_)
 ·have g6:=oT h6
  refine AB<|rb 37 (Z3F d) (GL d) ⟨[(2,tP 2 0)],[(2,.cells (Ze d) 145),(1000,.cells (AD.c (AA (AA d 9).2 6).2) 117)]⟩ (cWr (BS (AA d 9).2 6 au6 au9))<|AF ?_
  refine Ab<|BL<|An ?_
  exact xl (.av (.agg (Ze d))) ⟨Du (y:=.av (.agg [.i 7,.s (⟨#[]⟩),.i 0,.i 0,.i 0,.i (W64 (100+(W64 (50*(AA (AA d 9).2 6).1)))),.i 400,opL (OpL.mk 0 (fun _ _=>default))])) (.av (.agg (rr5 (rr2 (.cons (.nil _ _) .nil))))) (by unfold BM;rw [h1,h2,h3,h4,h5,h6];rfl),.cells (AD.c (AA (AA d 9).2 6).2) 117,by kernel_rfl,Da (by unfold BM;rw [h1,h2,h3,h4,h5,h6];kernel_rfl)⟩
 have g6:=oF h6
 refine AB<|rn ⟨(I8 d [(42,tB (decide (((AA d 9).1:Int)=6)))]),[(2,Z3z),(Gs d)]⟩ ?_
 refine AW _ rfl (fun h7 => ?_) (fun h7 => ?_)
 ·have g7:=oT h7
  refine AB<|rb 45 (Z3B d) (GL d) ⟨[(2,tP 2 0)],[(2,.cells (ZQ d) 145),(1000,Z3C d)]⟩ (cWr (BS (AA d 9).2 2 au6 au9))<|AF ?_
  refine Ab<|BL<|An ?_
  exact xl (.av (.agg (ZQ d))) ⟨Du (y:=.av (.agg [.i 8,.s (⟨#[]⟩),.i 0,.i 0,.i 0,.i 0,.i 0,opL (OpL.mk 1 (Ap 8 1 (SA d)))])) (.av (.agg (rr5 (rr2 (.cons (.list true false _ _ _ _ (fun _ _ _ _=>.refl _) (fun h=>by cases h)) .nil))))) (by unfold BM;rw [h1,h2,h3,h4,h5,h6,h7];rfl),.cells (AD.c (AA (AA d 9).2 2).2) 117,by kernel_rfl,Da (by unfold BM;rw [h1,h2,h3,h4,h5,h6,h7];kernel_rfl)⟩
 have g7:=oF h7
 refine AB<|rn ⟨[(0,tP 1000 0),(2,tP 2 0),(50,tB (decide (((AA d 9).1:Int)=7)))],[(2,Z3z),(Gs d)]⟩ ?_
 refine AW _ rfl (fun h8 => ?_) (fun h8 => ?_)
 ·have g8:=oT h8
  refine AB<|rc [(53,(Z3B d)),(56,(Z3G d))] [Aq (Z3B d).2.1,Bt (GL d),Aq (Z3G d).2.1,Bt (.cells (AD.c (AA (AA d 9).2 2).2) 117)] ⟨[(2,tP 2 0)],[(2,.cells [.i (W64 (9+(HV d).1)),.s (⟨#[]⟩),.i 0,.i 0,.i 0,.i 0,.i 0,.list true 8 2 (Ap 8 2 [.i 4,.s (⟨#[]⟩),.i (W64 (1+(AA (HV d).2 4).1)),.i 0,.i 0,.i 0,.i 0,vN,.i 2,.s ({ data := #[71,78,68] }:ByteArray),.i 0,.i 0,.i 0,.i 0,.i 0,vN])] 145),(1000,.cells (AD.c (Z3H d)) 117)]⟩ (.cons (cWr (BS (AA d 9).2 2 au6 au9)) (.cons (cWr (BS (AA (AA d 9).2 2).2 4 au6 au9)) .nil)) (.cons rfl (.cons rfl (.cons rfl (.cons rfl .nil))))<|AF ?_
  refine Ab<|BL<|An ?_
  exact xl (.av (.agg [.i (W64 (9+(AA (AA d 9).2 2).1)),.s (⟨#[]⟩),.i 0,.i 0,.i 0,.i 0,.i 0,.list true 8 2 (Ap 8 2 [.i 4,.s (⟨#[]⟩),.i (W64 (1+(AA (AA (AA d 9).2 2).2 4).1)),.i 0,.i 0,.i 0,.i 0,vN,.i 2,.s ({ data := #[71,78,68] }:ByteArray),.i 0,.i 0,.i 0,.i 0,.i 0,vN])])) ⟨Du (y:=.av (.agg [.i (W64 (9+(AA (AA d 9).2 2).1)),.s (⟨#[]⟩),.i 0,.i 0,.i 0,.i 0,.i 0,opL (OpL.mk 2 (Ap 8 2 [.i 4,.s (⟨#[]⟩),.i (W64 (1+(AA (AA (AA d 9).2 2).2 4).1)),.i 0,.i 0,.i 0,.i 0,vN,.i 2,.s ({ data := #[71,78,68] }:ByteArray),.i 0,.i 0,.i 0,.i 0,.i 0,vN]))])) (.av (.agg (rr5 (rr2 (.cons (.list true false _ _ _ _ (fun _ _ _ _=>.refl _) (fun h=>by cases h)) .nil))))) (by unfold BM;rw [h1,h2,h3,h4,h5,h6,h7,h8];rfl),.cells (AD.c (Z3H d)) 117,by kernel_rfl,Da (by unfold BM;rw [h1,h2,h3,h4,h5,h6,h7,h8];kernel_rfl)⟩
 refine AV<|BA ?_
 refine AF<|AB ?_
 refine rn ⟨[(2,tP 2 0)],[(2,.cells Ry 145),(Gs d)]⟩<|Ab ?_
 exact xl (.av (.agg Ry)) ⟨Du (y:=.av (.agg [.i 1,.s (⟨#[]⟩),.i 0,.i 0,.i 0,.i 0,.i 0,opL (OpL.mk 0 (fun _ _=>default))])) (.av (.agg (rr5 (rr2 (.cons (.nil _ _) .nil))))) (by unfold BM;rw [h1,h2,h3,h4,h5,h6,h7,h8];rfl),.cells (AD.c (AA d 9).2) 117,by kernel_rfl,Da (by unfold BM;rw [h1,h2,h3,h4,h5,h6,h7,h8];kernel_rfl)⟩
theorem Yv {d:AD} (h:Bg d):Bg (BM d).2:=by
 unfold BM
 exact Dj (BQ (BQ h)) (Dj (BQ h) (Dj (BQ (BQ h)) (Dj (BQ (BQ h)) (Dj (BQ (BQ h)) (Dj (BQ (BQ h)) (Dj (BQ (BQ h)) (Dj (BQ (BQ (BQ h))) (BQ h))))))))
abbrev Zo:List Cl:=[.i b.Layers,.any,.any,.any,lst 7 AE.c b.Parts,.any,lst 6 AM.c b.Tracks,lst 8 Ag.c b.Vias,lst 8 Bc.c b.Pours,lst 5 C4.c b.Keeps,lst 4 Au.c b.Slots,.any,.any,.any,.any]
def Z3I:Blk:=.cells (Zo b) 41
def Z3J:Blk:=.row 1 ([]:List Int).length (AL eIn ([]:List Int)) 3
def Z3K:Tv:=.av (.one (.own 100000 1 ([]:List Int).length))
abbrev OU:=b.Parts.getD v4.toNat default
def Z3L (v3:List Int) (b:AG) (v4:Int):Blk:=.row 1 (v3++[(OU b v4).Id]).length (AL eIn (v3++[(OU b v4).Id])) 3
abbrev OY:=b.Tracks.getD v5.toNat default
def Z3M (v3':List Int) (b:AG) (v5:Int):Blk:=.row 1 (v3'++[(OY b v5).Id]).length (AL eIn (v3'++[(OY b v5).Id])) 3
abbrev OO:=b.Vias.getD v6.toNat default
def Z3N (v3'':List Int) (b:AG) (v6:Int):Blk:=.row 1 (v3''++[(OO b v6).Id]).length (AL eIn (v3''++[(OO b v6).Id])) 3
abbrev OT:=b.Pours.getD v7.toNat default
def Z3O (v3''':List Int) (b:AG) (v7:Int):Blk:=.row 1 (v3'''++[(OT b v7).Id]).length (AL eIn (v3'''++[(OT b v7).Id])) 3
abbrev OV:=b.Keeps.getD v8.toNat default
def Z3P (v3'''':List Int) (b:AG) (v8:Int):Blk:=.row 1 (v3''''++[(OV b v8).Id]).length (AL eIn (v3''''++[(OV b v8).Id])) 3
abbrev OR:=b.Slots.getD v9.toNat default
def Z3Q (v3''''':List Int) (b:AG) (v9:Int):Blk:=.row 1 (v3'''''++[(OR b v9).Id]).length (AL eIn (v3'''''++[(OR b v9).Id])) 3
def Fj (b:AG) (v3:List Int) (v4:Int) (v3':List Int) (v5:Int) (v3'':List Int) (v6:Int) (v3''':List Int) (v7:Int) (v3'''':List Int) (v8:Int) (K0:List Int->Int->(List Int)) (K1:List Int->Int->(List Int)) (K2:List Int->Int->(List Int)) (K3:List Int->Int->(List Int)) (K4:List Int->Int->(List Int)):Nat->List Int->Int->(List Int)
 | 0,_,_=>default
 | n5+1,v3''''',v9=>bif decide ((v9:Int)<(b.Slots.length:Int)) then ((Fj b v3 v4 v3' v5 v3'' v6 v3''' v7 v3'''' v8 K0 K1 K2 K3 K4 n5) (v3'''''++[(b.Slots.getD v9.toNat default).Id]) (v9+1)) else v3'''''
def Eh (b:AG) (v3:List Int) (v4:Int) (v3':List Int) (v5:Int) (v3'':List Int) (v6:Int) (v3''':List Int) (v7:Int) (K0:List Int->Int->(List Int)) (K1:List Int->Int->(List Int)) (K2:List Int->Int->(List Int)) (K3:List Int->Int->(List Int)):Nat->List Int->Int->(List Int)
 | 0,_,_=>default
 | n4+1,v3'''',v8=>bif decide ((v8:Int)<(b.Keeps.length:Int)) then ((Eh b v3 v4 v3' v5 v3'' v6 v3''' v7 K0 K1 K2 K3 n4) (v3''''++[(b.Keeps.getD v8.toNat default).Id]) (v8+1)) else (Fj b v3 v4 v3' v5 v3'' v6 v3''' v7 v3'''' v8 K0 K1 K2 K3 (Eh b v3 v4 v3' v5 v3'' v6 v3''' v7 K0 K1 K2 K3 n4) (((b.Slots.length:Int)-0).toNat+1) v3'''' 0)
def Dn (b:AG) (v3:List Int) (v4:Int) (v3':List Int) (v5:Int) (v3'':List Int) (v6:Int) (K0:List Int->Int->(List Int)) (K1:List Int->Int->(List Int)) (K2:List Int->Int->(List Int)):Nat->List Int->Int->(List Int)
 | 0,_,_=>default
 | n3+1,v3''',v7=>bif decide ((v7:Int)<(b.Pours.length:Int)) then ((Dn b v3 v4 v3' v5 v3'' v6 K0 K1 K2 n3) (v3'''++[(b.Pours.getD v7.toNat default).Id]) (v7+1)) else (Eh b v3 v4 v3' v5 v3'' v6 v3''' v7 K0 K1 K2 (Dn b v3 v4 v3' v5 v3'' v6 K0 K1 K2 n3) (((b.Keeps.length:Int)-0).toNat+1) v3''' 0)
def Cm (b:AG) (v3:List Int) (v4:Int) (v3':List Int) (v5:Int) (K0:List Int->Int->(List Int)) (K1:List Int->Int->(List Int)):Nat->List Int->Int->(List Int)
 | 0,_,_=>default
 | n2+1,v3'',v6=>bif decide ((v6:Int)<(b.Vias.length:Int)) then ((Cm b v3 v4 v3' v5 K0 K1 n2) (v3''++[(b.Vias.getD v6.toNat default).Id]) (v6+1)) else (Dn b v3 v4 v3' v5 v3'' v6 K0 K1 (Cm b v3 v4 v3' v5 K0 K1 n2) (((b.Pours.length:Int)-0).toNat+1) v3'' 0)
def Bq (b:AG) (v3:List Int) (v4:Int) (K0:List Int->Int->(List Int)):Nat->List Int->Int->(List Int)
 | 0,_,_=>default
 | n1+1,v3',v5=>bif decide ((v5:Int)<(b.Tracks.length:Int)) then ((Bq b v3 v4 K0 n1) (v3'++[(b.Tracks.getD v5.toNat default).Id]) (v5+1)) else (Cm b v3 v4 v3' v5 K0 (Bq b v3 v4 K0 n1) (((b.Vias.length:Int)-0).toNat+1) v3' 0)
def BC (b:AG):Nat->List Int->Int->(List Int)
 | 0,_,_=>default
 | n0+1,v3,v4=>bif decide ((v4:Int)<(b.Parts.length:Int)) then ((BC b n0) (v3++[(b.Parts.getD v4.toNat default).Id]) (v4+1)) else (Bq b v3 v4 (BC b n0) (((b.Tracks.length:Int)-0).toNat+1) v3 0)
def Eo (b:AG):(List Int):=BC b (((b.Parts.length:Int)-0).toNat+1) ([]:List Int) 0
def Wb:CT:=(101,[.agg (Zo b)],.val [] (.av (.one (lst 1 eIn (Eo b)))))
theorem mW (b:AG) (h0:(b.Parts.length:Int)<=1000000) (h1:(b.Tracks.length:Int)<=1000000) (h2:(b.Vias.length:Int)<=1000000) (h3:(b.Pours.length:Int)<=1000000) (h4:(b.Keeps.length:Int)<=1000000) (h5:(b.Slots.length:Int)<=1000000):PuP 101 (Wb b).2.1 (tO (lst 1 eIn (Eo b))):=by
 refine pwf Tryz.func101 fun W0 M0 => ?_
 refine AB<|rn ⟨[(1,tP 1 0)],[(1,Z3I b)]⟩<|AB ?_
 refine rn ⟨Rf,[(1,Z3I b)]⟩ ?_
 refine AB<|AB ?_
 refine rn ⟨Rn,[(1,Z3I b)]⟩<|AO ?_
 refine BI (Cv.trans (wg (⟨[(1,tP 1 0),(3,tO (.own 100000 1 0)),(4,tI 0)],[(100000,.row 1 0 (fun _ _=>default) 3),(1,Z3I b)]⟩) 100000 1 (fun _ _=>default) 3 [(3,[0])] [] hk0) (Cv.trans (A7 (⟨[(1,tP 1 0),(3,Z3K),(4,tI 0)],[(100000,Z3J),(1,Z3I b)]⟩) (.cons ⟨rfl,.refl _⟩ (.cons ⟨rfl,.av (.one (.own _ _ au2))⟩ lr)) (.cons ⟨rfl,Ad 3 (B3 1 (fun _ _=>default) eIn)⟩ lr)) (Cv.trans (ck (⟨[(1,tP 1 0),(3,Z3K),(4,tI 0)],[(1,Z3I b),(100000,Z3J)]⟩)) (Cv.refl _)))) ?_
 refine A0 (ι:=Nat×List Int×Int) (fun x=>⟨[(1,tP 1 0),(3,tO (.own 100000 1 x.2.1.length)),(4,tI x.2.2)],[(1,Z3I b),(100000,.row 1 x.2.1.length (AL eIn x.2.1) 3)]⟩) (fun x=>((b.Parts.length:Int)-x.2.2).toNat<x.1/\(0<=x.2.2/\(x.2.2<=(b.Parts.length:Int)\/x.2.2=0)/\(x.2.1.length:Int)<=0+1*(x.2.2-0))/\BC b x.1 x.2.1 x.2.2=Eo b) (fun x=>x.1) ?_ (((b.Parts.length:Int)-0).toNat+1,([]:List Int),0) ⟨Nat.lt_succ_self _,⟨ax0,ax0,ax0⟩,(by simp only [Eo,cond_true,cond_false])⟩
 rintro ⟨n0,v3,v4⟩ ⟨hm0,hinv0,hF0⟩
 try dsimp only at hm0 hinv0 hF0
 cases n0 with | zero=>exact nz hm0 | succ n0 => ?_
 refine AB<|AB ?_
 refine rn ⟨[(1,tP 1 0),(3,tO (.own 100000 1 v3.length)),(4,tI v4),(14,tB (decide ((v4:Int)<(b.Parts.length:Int))))],[(1,Z3I b),(100000,.row 1 v3.length (AL eIn v3) 3)]⟩ ?_
 refine AW _ rfl (fun h1 => ?_) (fun h1 => ?_)
 ·have g1:=oT h1
  refine AV<|AF ?_
  refine AB<|AO ?_
  refine rc [] [0<=(v4:Int)/\(v4:Int)<((b.Parts.length:Nat):Int),v3.length=v3.length,v3.length+1<=maxLen,(v3.length+1)*8<=140737488355328] ⟨[(1,tP 1 0),(3,tO (.own 25 1 (v3.length+1))),(4,tI v4)],[(1,Z3I b),(25,.row 1 (v3.length+1) (fun i_ j_=>if i_<v3.length then (AL eIn v3) i_ j_ else (Ap 1 1 [.i (OU b v4).Id]) (i_-v3.length) j_) 3)]⟩ .nil (.cons au0 (.cons rfl (.cons au3 (.cons au3 .nil))))<|BA<|AF ?_
  refine BI (Cv.trans (A7 (⟨[(1,tP 1 0),(3,tO (.own 25 1 (v3++[(OU b v4).Id]).length)),(4,tI v4)],[(1,Z3I b),(25,Z3L v3 b v4)]⟩) (.cons ⟨rfl,.refl _⟩ (.cons ⟨rfl,.av (.one (.own _ _ au2))⟩ lr)) (.cons ⟨rfl,.refl _⟩ (.cons ⟨rfl,Ad 3 (A8 (Ay 1 eIn v3) (Al (c:=eIn) (xs:=([(b.Parts.getD v4.toNat default).Id]:List Int)) rfl kr))⟩ .nil))) (Cv.refl _)) ?_
  refine rg ⟨[(1,tP 1 0),(3,tO (.own 25 1 (v3++[(OU b v4).Id]).length)),(4,tI (W64 (v4+1)))],[(1,Z3I b),(25,Z3L v3 b v4)]⟩ ?_
  (try rw [(show W64 (v4+1)=v4+1 from Ah oM au5)])
  refine AF ?_
  refine ⟨(n0,v3++[(b.Parts.getD v4.toNat default).Id],v4+1),⟨?_,?_,(by rw [<- hF0];simp only [BC,h1,cond_true,cond_false])⟩,Nat.lt_succ_self _,Cv.trans (vr 25 100000 hk0) (Aw kr)⟩
  ·show ((b.Parts.length:Int)-(v4+1)).toNat<n0;omega
  exact ⟨ax0,ax0,ax0⟩
 have g1:=oF h1
 refine A3<|Ar ?_
 refine Ar<|A4 ?_
 refine AF<|AB<|AB ?_
 refine rn ⟨[(1,tP 1 0),(3,tO (.own 100000 1 v3.length)),(5,tI 0)],[(1,Z3I b),(100000,.row 1 v3.length (AL eIn v3) 3)]⟩<|AO ?_
 refine A0 (ι:=Nat×List Int×Int) (fun x=>⟨[(1,tP 1 0),(3,tO (.own 100000 1 x.2.1.length)),(5,tI x.2.2)],[(1,Z3I b),(100000,.row 1 x.2.1.length (AL eIn x.2.1) 3)]⟩) (fun x=>((b.Tracks.length:Int)-x.2.2).toNat<x.1/\(0<=x.2.2/\(x.2.2<=(b.Tracks.length:Int)\/x.2.2=0)/\(x.2.1.length:Int)<=(v3.length:Int)+1*(x.2.2-0))/\Bq b v3 v4 (BC b n0) x.1 x.2.1 x.2.2=Eo b) (fun x=>x.1) ?_ (((b.Tracks.length:Int)-0).toNat+1,v3,0) ⟨Nat.lt_succ_self _,⟨ax0,ax0,ax0⟩,(by rw [<- hF0];simp only [BC,h1,cond_true,cond_false])⟩
 rintro ⟨n1,v3',v5⟩ ⟨hm1,hinv1,hF1⟩
 try dsimp only at hm1 hinv1 hF1
 cases n1 with | zero=>exact nz hm1 | succ n1 => ?_
 refine AB<|AB ?_
 refine rn ⟨[(1,tP 1 0),(3,tO (.own 100000 1 v3'.length)),(5,tI v5),(30,tB (decide ((v5:Int)<(b.Tracks.length:Int))))],[(1,Z3I b),(100000,.row 1 v3'.length (AL eIn v3') 3)]⟩ ?_
 refine AW _ rfl (fun h2 => ?_) (fun h2 => ?_)
 ·have g2:=oT h2
  refine AV<|AF ?_
  refine AB<|AO ?_
  refine rc [] [0<=(v5:Int)/\(v5:Int)<((b.Tracks.length:Nat):Int),v3'.length=v3'.length,v3'.length+1<=maxLen,(v3'.length+1)*8<=140737488355328] ⟨[(1,tP 1 0),(3,tO (.own 41 1 (v3'.length+1))),(5,tI v5)],[(1,Z3I b),(41,.row 1 (v3'.length+1) (fun i_ j_=>if i_<v3'.length then (AL eIn v3') i_ j_ else (Ap 1 1 [.i (OY b v5).Id]) (i_-v3'.length) j_) 3)]⟩ .nil (.cons au0 (.cons rfl (.cons au3 (.cons au3 .nil))))<|BA<|AF ?_
  refine BI (Cv.trans (A7 (⟨[(1,tP 1 0),(3,tO (.own 41 1 (v3'++[(OY b v5).Id]).length)),(5,tI v5)],[(1,Z3I b),(41,Z3M v3' b v5)]⟩) (.cons ⟨rfl,.refl _⟩ (.cons ⟨rfl,.av (.one (.own _ _ au2))⟩ lr)) (.cons ⟨rfl,.refl _⟩ (.cons ⟨rfl,Ad 3 (A8 (Ay 1 eIn v3') (Al (c:=eIn) (xs:=([(b.Tracks.getD v5.toNat default).Id]:List Int)) rfl kr))⟩ .nil))) (Cv.refl _)) ?_
  refine rg ⟨[(1,tP 1 0),(3,tO (.own 41 1 (v3'++[(OY b v5).Id]).length)),(5,tI (W64 (v5+1)))],[(1,Z3I b),(41,Z3M v3' b v5)]⟩ ?_
  (try rw [(show W64 (v5+1)=v5+1 from Ah oM au5)])
  refine AF ?_
  refine ⟨(n1,v3'++[(b.Tracks.getD v5.toNat default).Id],v5+1),⟨?_,?_,(by rw [<- hF1];simp only [Bq,h2,cond_true,cond_false])⟩,Nat.lt_succ_self _,Cv.trans (vr 41 100000 hk0) (Aw kr)⟩
  ·show ((b.Tracks.length:Int)-(v5+1)).toNat<n1;omega
  exact ⟨ax0,ax0,ax0⟩
 have g2:=oF h2
 refine A3<|Ar ?_
 refine Ar<|A4 ?_
 refine AF<|AB<|AB ?_
 refine rn ⟨[(1,tP 1 0),(3,tO (.own 100000 1 v3'.length)),(6,tI 0)],[(1,Z3I b),(100000,.row 1 v3'.length (AL eIn v3') 3)]⟩<|AO ?_
 refine A0 (ι:=Nat×List Int×Int) (fun x=>⟨[(1,tP 1 0),(3,tO (.own 100000 1 x.2.1.length)),(6,tI x.2.2)],[(1,Z3I b),(100000,.row 1 x.2.1.length (AL eIn x.2.1) 3)]⟩) (fun x=>((b.Vias.length:Int)-x.2.2).toNat<x.1/\(0<=x.2.2/\(x.2.2<=(b.Vias.length:Int)\/x.2.2=0)/\(x.2.1.length:Int)<=(v3'.length:Int)+1*(x.2.2-0))/\Cm b v3 v4 v3' v5 (BC b n0) (Bq b v3 v4 (BC b n0) n1) x.1 x.2.1 x.2.2=Eo b) (fun x=>x.1) ?_ (((b.Vias.length:Int)-0).toNat+1,v3',0) ⟨Nat.lt_succ_self _,⟨ax0,ax0,ax0⟩,(by rw [<- hF1];simp only [Bq,h2,cond_true,cond_false])⟩
 rintro ⟨n2,v3'',v6⟩ ⟨hm2,hinv2,hF2⟩
 try dsimp only at hm2 hinv2 hF2
 cases n2 with | zero=>exact nz hm2 | succ n2 => ?_
 refine AB<|AB ?_
 refine rn ⟨[(1,tP 1 0),(3,tO (.own 100000 1 v3''.length)),(6,tI v6),(46,tB (decide ((v6:Int)<(b.Vias.length:Int))))],[(1,Z3I b),(100000,.row 1 v3''.length (AL eIn v3'') 3)]⟩ ?_
 refine AW _ rfl (fun h3 => ?_) (fun h3 => ?_)
 ·have g3:=oT h3
  refine AV<|AF ?_
  refine AB<|AO ?_
  refine rc [] [0<=(v6:Int)/\(v6:Int)<((b.Vias.length:Nat):Int),v3''.length=v3''.length,v3''.length+1<=maxLen,(v3''.length+1)*8<=140737488355328] ⟨[(1,tP 1 0),(3,tO (.own 57 1 (v3''.length+1))),(6,tI v6)],[(1,Z3I b),(57,.row 1 (v3''.length+1) (fun i_ j_=>if i_<v3''.length then (AL eIn v3'') i_ j_ else (Ap 1 1 [.i (OO b v6).Id]) (i_-v3''.length) j_) 3)]⟩ .nil (.cons au0 (.cons rfl (.cons au3 (.cons au3 .nil))))<|BA<|AF ?_
  refine BI (Cv.trans (A7 (⟨[(1,tP 1 0),(3,tO (.own 57 1 (v3''++[(OO b v6).Id]).length)),(6,tI v6)],[(1,Z3I b),(57,Z3N v3'' b v6)]⟩) (.cons ⟨rfl,.refl _⟩ (.cons ⟨rfl,.av (.one (.own _ _ au2))⟩ lr)) (.cons ⟨rfl,.refl _⟩ (.cons ⟨rfl,Ad 3 (A8 (Ay 1 eIn v3'') (Al (c:=eIn) (xs:=([(b.Vias.getD v6.toNat default).Id]:List Int)) rfl kr))⟩ .nil))) (Cv.refl _)) ?_
  refine rg ⟨[(1,tP 1 0),(3,tO (.own 57 1 (v3''++[(OO b v6).Id]).length)),(6,tI (W64 (v6+1)))],[(1,Z3I b),(57,Z3N v3'' b v6)]⟩ ?_
  (try rw [(show W64 (v6+1)=v6+1 from Ah oM au5)])
  refine AF ?_
  refine ⟨(n2,v3''++[(b.Vias.getD v6.toNat default).Id],v6+1),⟨?_,?_,(by rw [<- hF2];simp only [Cm,h3,cond_true,cond_false])⟩,Nat.lt_succ_self _,Cv.trans (vr 57 100000 hk0) (Aw kr)⟩
  ·show ((b.Vias.length:Int)-(v6+1)).toNat<n2;omega
  exact ⟨ax0,ax0,ax0⟩
 have g3:=oF h3
 refine A3<|Ar ?_
 refine Ar<|A4 ?_
 refine AF<|AB<|AB ?_
 refine rn ⟨[(1,tP 1 0),(3,tO (.own 100000 1 v3''.length)),(7,tI 0)],[(1,Z3I b),(100000,.row 1 v3''.length (AL eIn v3'') 3)]⟩<|AO ?_
 refine A0 (ι:=Nat×List Int×Int) (fun x=>⟨[(1,tP 1 0),(3,tO (.own 100000 1 x.2.1.length)),(7,tI x.2.2)],[(1,Z3I b),(100000,.row 1 x.2.1.length (AL eIn x.2.1) 3)]⟩) (fun x=>((b.Pours.length:Int)-x.2.2).toNat<x.1/\(0<=x.2.2/\(x.2.2<=(b.Pours.length:Int)\/x.2.2=0)/\(x.2.1.length:Int)<=(v3''.length:Int)+1*(x.2.2-0))/\Dn b v3 v4 v3' v5 v3'' v6 (BC b n0) (Bq b v3 v4 (BC b n0) n1) (Cm b v3 v4 v3' v5 (BC b n0) (Bq b v3 v4 (BC b n0) n1) n2) x.1 x.2.1 x.2.2=Eo b) (fun x=>x.1) ?_ (((b.Pours.length:Int)-0).toNat+1,v3'',0) ⟨Nat.lt_succ_self _,⟨ax0,ax0,ax0⟩,(by rw [<- hF2];simp only [Cm,h3,cond_true,cond_false])⟩
 rintro ⟨n3,v3''',v7⟩ ⟨hm3,hinv3,hF3⟩
 try dsimp only at hm3 hinv3 hF3
 cases n3 with | zero=>exact nz hm3 | succ n3 => ?_
 refine AB<|AB ?_
 refine rn ⟨[(1,tP 1 0),(3,tO (.own 100000 1 v3'''.length)),(7,tI v7),(62,tB (decide ((v7:Int)<(b.Pours.length:Int))))],[(1,Z3I b),(100000,.row 1 v3'''.length (AL eIn v3''') 3)]⟩ ?_
 refine AW _ rfl (fun h4 => ?_) (fun h4 => ?_)
 ·have g4:=oT h4
  refine AV<|AF ?_
  refine AB<|AO ?_
  refine rc [] [0<=(v7:Int)/\(v7:Int)<((b.Pours.length:Nat):Int),v3'''.length=v3'''.length,v3'''.length+1<=maxLen,(v3'''.length+1)*8<=140737488355328] ⟨[(1,tP 1 0),(3,tO (.own 73 1 (v3'''.length+1))),(7,tI v7)],[(1,Z3I b),(73,.row 1 (v3'''.length+1) (fun i_ j_=>if i_<v3'''.length then (AL eIn v3''') i_ j_ else (Ap 1 1 [.i (OT b v7).Id]) (i_-v3'''.length) j_) 3)]⟩ .nil (.cons au0 (.cons rfl (.cons au3 (.cons au3 .nil))))<|BA<|AF ?_
  refine BI (Cv.trans (A7 (⟨[(1,tP 1 0),(3,tO (.own 73 1 (v3'''++[(OT b v7).Id]).length)),(7,tI v7)],[(1,Z3I b),(73,Z3O v3''' b v7)]⟩) (.cons ⟨rfl,.refl _⟩ (.cons ⟨rfl,.av (.one (.own _ _ au2))⟩ lr)) (.cons ⟨rfl,.refl _⟩ (.cons ⟨rfl,Ad 3 (A8 (Ay 1 eIn v3''') (Al (c:=eIn) (xs:=([(b.Pours.getD v7.toNat default).Id]:List Int)) rfl kr))⟩ .nil))) (Cv.refl _)) ?_
  refine rg ⟨[(1,tP 1 0),(3,tO (.own 73 1 (v3'''++[(OT b v7).Id]).length)),(7,tI (W64 (v7+1)))],[(1,Z3I b),(73,Z3O v3''' b v7)]⟩ ?_
  (try rw [(show W64 (v7+1)=v7+1 from Ah oM au5)])
  refine AF ?_
  refine ⟨(n3,v3'''++[(b.Pours.getD v7.toNat default).Id],v7+1),⟨?_,?_,(by rw [<- hF3];simp only [Dn,h4,cond_true,cond_false])⟩,Nat.lt_succ_self _,Cv.trans (vr 73 100000 hk0) (Aw kr)⟩
  ·show ((b.Pours.length:Int)-(v7+1)).toNat<n3;omega
  exact ⟨ax0,ax0,ax0⟩
 have g4:=oF h4
 refine A3<|Ar ?_
 refine Ar<|A4 ?_
 refine AF<|AB<|AB ?_
 refine rn ⟨[(1,tP 1 0),(3,tO (.own 100000 1 v3'''.length)),(8,tI 0)],[(1,Z3I b),(100000,.row 1 v3'''.length (AL eIn v3''') 3)]⟩<|AO ?_
 refine A0 (ι:=Nat×List Int×Int) (fun x=>⟨[(1,tP 1 0),(3,tO (.own 100000 1 x.2.1.length)),(8,tI x.2.2)],[(1,Z3I b),(100000,.row 1 x.2.1.length (AL eIn x.2.1) 3)]⟩) (fun x=>((b.Keeps.length:Int)-x.2.2).toNat<x.1/\(0<=x.2.2/\(x.2.2<=(b.Keeps.length:Int)\/x.2.2=0)/\(x.2.1.length:Int)<=(v3'''.length:Int)+1*(x.2.2-0))/\Eh b v3 v4 v3' v5 v3'' v6 v3''' v7 (BC b n0) (Bq b v3 v4 (BC b n0) n1) (Cm b v3 v4 v3' v5 (BC b n0) (Bq b v3 v4 (BC b n0) n1) n2) (Dn b v3 v4 v3' v5 v3'' v6 (BC b n0) (Bq b v3 v4 (BC b n0) n1) (Cm b v3 v4 v3' v5 (BC b n0) (Bq b v3 v4 (BC b n0) n1) n2) n3) x.1 x.2.1 x.2.2=Eo b) (fun x=>x.1) ?_ (((b.Keeps.length:Int)-0).toNat+1,v3''',0) ⟨Nat.lt_succ_self _,⟨ax0,ax0,ax0⟩,(by rw [<- hF3];simp only [Dn,h4,cond_true,cond_false])⟩
 rintro ⟨n4,v3'''',v8⟩ ⟨hm4,hinv4,hF4⟩
 try dsimp only at hm4 hinv4 hF4
 cases n4 with | zero=>exact nz hm4 | succ n4 => ?_
 refine AB<|AB ?_
 refine rn ⟨[(1,tP 1 0),(3,tO (.own 100000 1 v3''''.length)),(8,tI v8),(78,tB (decide ((v8:Int)<(b.Keeps.length:Int))))],[(1,Z3I b),(100000,.row 1 v3''''.length (AL eIn v3'''') 3)]⟩ ?_
 refine AW _ rfl (fun h5 => ?_) (fun h5 => ?_)
 ·have g5:=oT h5
  refine AV<|AF ?_
  refine AB<|AO ?_
  refine rc [] [0<=(v8:Int)/\(v8:Int)<((b.Keeps.length:Nat):Int),v3''''.length=v3''''.length,v3''''.length+1<=maxLen,(v3''''.length+1)*8<=140737488355328] ⟨[(1,tP 1 0),(3,tO (.own 89 1 (v3''''.length+1))),(8,tI v8)],[(1,Z3I b),(89,.row 1 (v3''''.length+1) (fun i_ j_=>if i_<v3''''.length then (AL eIn v3'''') i_ j_ else (Ap 1 1 [.i (OV b v8).Id]) (i_-v3''''.length) j_) 3)]⟩ .nil (.cons au0 (.cons rfl (.cons au3 (.cons au3 .nil))))<|BA<|AF ?_
  refine BI (Cv.trans (A7 (⟨[(1,tP 1 0),(3,tO (.own 89 1 (v3''''++[(OV b v8).Id]).length)),(8,tI v8)],[(1,Z3I b),(89,Z3P v3'''' b v8)]⟩) (.cons ⟨rfl,.refl _⟩ (.cons ⟨rfl,.av (.one (.own _ _ au2))⟩ lr)) (.cons ⟨rfl,.refl _⟩ (.cons ⟨rfl,Ad 3 (A8 (Ay 1 eIn v3'''') (Al (c:=eIn) (xs:=([(b.Keeps.getD v8.toNat default).Id]:List Int)) rfl kr))⟩ .nil))) (Cv.refl _)) ?_
  refine rg ⟨[(1,tP 1 0),(3,tO (.own 89 1 (v3''''++[(OV b v8).Id]).length)),(8,tI (W64 (v8+1)))],[(1,Z3I b),(89,Z3P v3'''' b v8)]⟩ ?_
  (try rw [(show W64 (v8+1)=v8+1 from Ah oM au5)])
  refine AF ?_
  refine ⟨(n4,v3''''++[(b.Keeps.getD v8.toNat default).Id],v8+1),⟨?_,?_,(by rw [<- hF4];simp only [Eh,h5,cond_true,cond_false])⟩,Nat.lt_succ_self _,Cv.trans (vr 89 100000 hk0) (Aw kr)⟩
  ·show ((b.Keeps.length:Int)-(v8+1)).toNat<n4;omega
  exact ⟨ax0,ax0,ax0⟩
 have g5:=oF h5
 refine A3<|Ar ?_
 refine Ar<|A4 ?_
 refine AF<|AB<|AB ?_
 refine rn ⟨[(1,tP 1 0),(3,tO (.own 100000 1 v3''''.length)),(9,tI 0)],[(1,Z3I b),(100000,.row 1 v3''''.length (AL eIn v3'''') 3)]⟩<|AO ?_
 refine A0 (ι:=Nat×List Int×Int) (fun x=>⟨[(1,tP 1 0),(3,tO (.own 100000 1 x.2.1.length)),(9,tI x.2.2)],[(1,Z3I b),(100000,.row 1 x.2.1.length (AL eIn x.2.1) 3)]⟩) (fun x=>((b.Slots.length:Int)-x.2.2).toNat<x.1/\(0<=x.2.2/\(x.2.2<=(b.Slots.length:Int)\/x.2.2=0)/\(x.2.1.length:Int)<=(v3''''.length:Int)+1*(x.2.2-0))/\Fj b v3 v4 v3' v5 v3'' v6 v3''' v7 v3'''' v8 (BC b n0) (Bq b v3 v4 (BC b n0) n1) (Cm b v3 v4 v3' v5 (BC b n0) (Bq b v3 v4 (BC b n0) n1) n2) (Dn b v3 v4 v3' v5 v3'' v6 (BC b n0) (Bq b v3 v4 (BC b n0) n1) (Cm b v3 v4 v3' v5 (BC b n0) (Bq b v3 v4 (BC b n0) n1) n2) n3) (Eh b v3 v4 v3' v5 v3'' v6 v3''' v7 (BC b n0) (Bq b v3 v4 (BC b n0) n1) (Cm b v3 v4 v3' v5 (BC b n0) (Bq b v3 v4 (BC b n0) n1) n2) (Dn b v3 v4 v3' v5 v3'' v6 (BC b n0) (Bq b v3 v4 (BC b n0) n1) (Cm b v3 v4 v3' v5 (BC b n0) (Bq b v3 v4 (BC b n0) n1) n2) n3) n4) x.1 x.2.1 x.2.2=Eo b) (fun x=>x.1) ?_ (((b.Slots.length:Int)-0).toNat+1,v3'''',0) ⟨Nat.lt_succ_self _,⟨ax0,ax0,ax0⟩,(by rw [<- hF4];simp only [Eh,h5,cond_true,cond_false])⟩
 rintro ⟨n5,v3''''',v9⟩ ⟨hm5,hinv5,hF5⟩
 try dsimp only at hm5 hinv5 hF5
 cases n5 with | zero=>exact nz hm5 | succ n5 => ?_
 refine AB<|AB ?_
 refine rn ⟨[(1,tP 1 0),(3,tO (.own 100000 1 v3'''''.length)),(9,tI v9),(94,tB (decide ((v9:Int)<(b.Slots.length:Int))))],[(1,Z3I b),(100000,.row 1 v3'''''.length (AL eIn v3''''') 3)]⟩ ?_
 refine AW _ rfl (fun h6 => ?_) (fun h6 => ?_)
 ·have g6:=oT h6
  refine AV<|AF ?_
  refine AB<|AO ?_
  refine rc [] [0<=(v9:Int)/\(v9:Int)<((b.Slots.length:Nat):Int),v3'''''.length=v3'''''.length,v3'''''.length+1<=maxLen,(v3'''''.length+1)*8<=140737488355328] ⟨[(1,tP 1 0),(3,tO (.own 105 1 (v3'''''.length+1))),(9,tI v9)],[(1,Z3I b),(105,.row 1 (v3'''''.length+1) (fun i_ j_=>if i_<v3'''''.length then (AL eIn v3''''') i_ j_ else (Ap 1 1 [.i (OR b v9).Id]) (i_-v3'''''.length) j_) 3)]⟩ .nil (.cons au0 (.cons rfl (.cons au3 (.cons au3 .nil))))<|BA<|AF ?_
  refine BI (Cv.trans (A7 (⟨[(1,tP 1 0),(3,tO (.own 105 1 (v3'''''++[(OR b v9).Id]).length)),(9,tI v9)],[(1,Z3I b),(105,Z3Q v3''''' b v9)]⟩) (.cons ⟨rfl,.refl _⟩ (.cons ⟨rfl,.av (.one (.own _ _ au2))⟩ lr)) (.cons ⟨rfl,.refl _⟩ (.cons ⟨rfl,Ad 3 (A8 (Ay 1 eIn v3''''') (Al (c:=eIn) (xs:=([(b.Slots.getD v9.toNat default).Id]:List Int)) rfl kr))⟩ .nil))) (Cv.refl _)) ?_
  refine rg ⟨[(1,tP 1 0),(3,tO (.own 105 1 (v3'''''++[(OR b v9).Id]).length)),(9,tI (W64 (v9+1)))],[(1,Z3I b),(105,Z3Q v3''''' b v9)]⟩ ?_
  (try rw [(show W64 (v9+1)=v9+1 from Ah oM au5)])
  refine AF ?_
  refine ⟨(n5,v3'''''++[(b.Slots.getD v9.toNat default).Id],v9+1),⟨?_,?_,(by rw [<- hF5];simp only [Fj,h6,cond_true,cond_false])⟩,Nat.lt_succ_self _,Cv.trans (vr 105 100000 hk0) (Aw kr)⟩
  ·show ((b.Slots.length:Int)-(v9+1)).toNat<n5;omega
  exact ⟨ax0,ax0,ax0⟩
 refine A3<|Ar ?_
 refine Ar<|A4 ?_
 refine AF<|AB ?_
 refine rn ⟨[(2,tO (.own 100000 1 v3'''''.length))],[(100000,.row 1 v3'''''.length (AL eIn v3''''') 3)]⟩<|Ab ?_
 exact yl (Cv.trans (vf 100000 1 v3'''''.length (AL eIn v3''''') 3 hk0 (.cons ⟨rfl,rfl⟩ .nil)) (Cv.refl _)) (tO (lst 1 eIn v3''''')) (Ae (by rw [<- hF5];first | (simp only [Fj,h6,cond_true,cond_false] <;> rfl)))
theorem iW (b:AG) (h0:(b.Parts.length:Int)<=1000000) (h1:(b.Tracks.length:Int)<=1000000) (h2:(b.Vias.length:Int)<=1000000) (h3:(b.Pours.length:Int)<=1000000) (h4:(b.Keeps.length:Int)<=1000000) (h5:(b.Slots.length:Int)<=1000000):OKc (Wb b):=cPu<|mW b h0 h1 h2 h3 h4 h5
theorem cZ (b:AG) (v3:List Int) (v4:Int) (v3':List Int) (v5:Int) (v3'':List Int) (v6:Int) (v3''':List Int) (v7:Int) (v3'''':List Int) (v8:Int) (K0:List Int->Int->List Int) (K1:List Int->Int->List Int) (K2:List Int->Int->List Int) (K3:List Int->Int->List Int) (K4:List Int->Int->List Int):∀ (n:Nat) (v:List Int) (i:Int),0<=i->i<=b.Slots.length->((b.Slots.length:Int)-i).toNat<n->((Fj b v3 v4 v3' v5 v3'' v6 v3''' v7 v3'''' v8 K0 K1 K2 K3 K4 n v i).length:Int)=v.length+((b.Slots.length:Int)-i)
 | 0,v,i,h0,h1,h2=>absurd h2 (Nat.not_lt_zero _)
 | n+1,v,i,h0,h1,h2=>by
  unfold Fj
  by_cases h:i<(b.Slots.length:Int)
  ·simp only [h,decide_true,cond_true]
   have:=cZ b v3 v4 v3' v5 v3'' v6 v3''' v7 v3'''' v8 K0 K1 K2 K3 K4 n (v++[(b.Slots.getD i.toNat default).Id]) (i+1) (by omega) (by omega) (by omega)
   rw [this]
   simp only [List.length_append,List.length_cons,List.length_nil]
   omega
  simp only [h,decide_false,cond_false]
  omega
theorem dA (b:AG) (v3:List Int) (v4:Int) (v3':List Int) (v5:Int) (v3'':List Int) (v6:Int) (v3''':List Int) (v7:Int) (K0:List Int->Int->List Int) (K1:List Int->Int->List Int) (K2:List Int->Int->List Int) (K3:List Int->Int->List Int):∀ (n:Nat) (v:List Int) (i:Int),0<=i->i<=b.Keeps.length->((b.Keeps.length:Int)-i).toNat<n->((Eh b v3 v4 v3' v5 v3'' v6 v3''' v7 K0 K1 K2 K3 n v i).length:Int)=v.length+((b.Keeps.length:Int)-i)+(b.Slots.length:Int)
 | 0,v,i,h0,h1,h2=>absurd h2 (Nat.not_lt_zero _)
 | n+1,v,i,h0,h1,h2=>by
  unfold Eh
  by_cases h:i<(b.Keeps.length:Int)
  ·simp only [h,decide_true,cond_true]
   have:=dA b v3 v4 v3' v5 v3'' v6 v3''' v7 K0 K1 K2 K3 n (v++[(b.Keeps.getD i.toNat default).Id]) (i+1) (by omega) (by omega) (by omega)
   rw [this]
   simp only [List.length_append,List.length_cons,List.length_nil]
   omega
  simp only [h,decide_false,cond_false]
  rw [cZ _ _ _ _ _ _ _ _ _ _ _ _ _ _ _ _ _ v 0 (by omega) (by omega) (by omega)]
  omega
theorem dB (b:AG) (v3:List Int) (v4:Int) (v3':List Int) (v5:Int) (v3'':List Int) (v6:Int) (K0:List Int->Int->List Int) (K1:List Int->Int->List Int) (K2:List Int->Int->List Int):∀ (n:Nat) (v:List Int) (i:Int),0<=i->i<=b.Pours.length->((b.Pours.length:Int)-i).toNat<n->((Dn b v3 v4 v3' v5 v3'' v6 K0 K1 K2 n v i).length:Int)=v.length+((b.Pours.length:Int)-i)+(b.Keeps.length:Int)+(b.Slots.length:Int)
 | 0,v,i,h0,h1,h2=>absurd h2 (Nat.not_lt_zero _)
 | n+1,v,i,h0,h1,h2=>by
  unfold Dn
  by_cases h:i<(b.Pours.length:Int)
  ·simp only [h,decide_true,cond_true]
   have:=dB b v3 v4 v3' v5 v3'' v6 K0 K1 K2 n (v++[(b.Pours.getD i.toNat default).Id]) (i+1) (by omega) (by omega) (by omega)
   rw [this]
   simp only [List.length_append,List.length_cons,List.length_nil]
   omega
  simp only [h,decide_false,cond_false]
  rw [dA _ _ _ _ _ _ _ _ _ _ _ _ _ _ v 0 (by omega) (by omega) (by omega)]
  omega
theorem dC (b:AG) (v3:List Int) (v4:Int) (v3':List Int) (v5:Int) (K0:List Int->Int->List Int) (K1:List Int->Int->List Int):∀ (n:Nat) (v:List Int) (i:Int),0<=i->i<=b.Vias.length->((b.Vias.length:Int)-i).toNat<n->((Cm b v3 v4 v3' v5 K0 K1 n v i).length:Int)=v.length+((b.Vias.length:Int)-i)+(b.Pours.length:Int)+(b.Keeps.length:Int)+(b.Slots.length:Int)
 | 0,v,i,h0,h1,h2=>absurd h2 (Nat.not_lt_zero _)
 | n+1,v,i,h0,h1,h2=>by
  unfold Cm
  by_cases h:i<(b.Vias.length:Int)
  ·simp only [h,decide_true,cond_true]
   have:=dC b v3 v4 v3' v5 K0 K1 n (v++[(b.Vias.getD i.toNat default).Id]) (i+1) (by omega) (by omega) (by omega)
   rw [this]
   simp only [List.length_append,List.length_cons,List.length_nil]
   omega
  simp only [h,decide_false,cond_false]
  rw [dB _ _ _ _ _ _ _ _ _ _ _ v 0 (by omega) (by omega) (by omega)]
  omega
theorem dD (b:AG) (v3:List Int) (v4:Int) (K0:List Int->Int->List Int):∀ (n:Nat) (v:List Int) (i:Int),0<=i->i<=b.Tracks.length->((b.Tracks.length:Int)-i).toNat<n->((Bq b v3 v4 K0 n v i).length:Int)=v.length+((b.Tracks.length:Int)-i)+(b.Vias.length:Int)+(b.Pours.length:Int)+(b.Keeps.length:Int)+(b.Slots.length:Int)
 | 0,v,i,h0,h1,h2=>absurd h2 (Nat.not_lt_zero _)
 | n+1,v,i,h0,h1,h2=>by
  unfold Bq
  by_cases h:i<(b.Tracks.length:Int)
  ·simp only [h,decide_true,cond_true]
   have:=dD b v3 v4 K0 n (v++[(b.Tracks.getD i.toNat default).Id]) (i+1) (by omega) (by omega) (by omega)
   rw [this]
   simp only [List.length_append,List.length_cons,List.length_nil]
   omega
  simp only [h,decide_false,cond_false]
  rw [dC _ _ _ _ _ _ _ _ v 0 (by omega) (by omega) (by omega)]
  omega
theorem dE (b:AG)   : ∀ (n:Nat) (v:List Int) (i:Int),0<=i->i<=b.Parts.length->((b.Parts.length:Int)-i).toNat<n->((BC b n v i).length:Int)=v.length+((b.Parts.length:Int)-i)+(b.Tracks.length:Int)+(b.Vias.length:Int)+(b.Pours.length:Int)+(b.Keeps.length:Int)+(b.Slots.length:Int)
 | 0,v,i,h0,h1,h2=>absurd h2 (Nat.not_lt_zero _)
 | n+1,v,i,h0,h1,h2=>by
  unfold BC
  by_cases h:i<(b.Parts.length:Int)
  ·simp only [h,decide_true,cond_true]
   have:=dE b n (v++[(b.Parts.getD i.toNat default).Id]) (i+1) (by omega) (by omega) (by omega)
   rw [this]
   simp only [List.length_append,List.length_cons,List.length_nil]
   omega
  simp only [h,decide_false,cond_false]
  rw [dD _ _ _ _ _ v 0 (by omega) (by omega) (by omega)]
  omega
theorem Xk (b:AG):((Eo b).length:Int)=(b.Parts.length:Int)+(b.Tracks.length:Int)+(b.Vias.length:Int)+(b.Pours.length:Int)+(b.Keeps.length:Int)+(b.Slots.length:Int):=by
 unfold Eo
 rw [dE b _ _ 0 (by omega) (by omega) (by omega)]
 simp only [List.length_nil]
 omega
end
section
open Go.RowKit
theorem UJ {b:AG} (d:AD) (hp:1<=(b.Parts.length:Int)) (h0:(b.Parts.length:Int)<=1000000) (h1:(b.Tracks.length:Int)<=1000000) (h2:(b.Vias.length:Int)<=1000000) (h3:(b.Pours.length:Int)<=1000000) (h4:(b.Keeps.length:Int)<=1000000) (h5:(b.Slots.length:Int)<=1000000):0<=(AA d ((Eo b).length:Int)).1/\(AA d ((Eo b).length:Int)).1<((Eo b).length:Int):=by
 have hq:=Xk b
 exact Jm _ _ _ (by omega) (by omega) (by omega)
theorem oB {b:AG} (hp:1<=(b.Parts.length:Int)):((Eo b).length:Int)≠0:=by
 have hq:=Xk b
 omega
theorem jR {α:Type} {c:Bool} {a b:List α} {k n:Nat} (ha:a.length+k<=n) (hb:b.length+k<=n):(bif c then a else b).length+k<=n:=by cases c <;> assumption
theorem cQ {α:Type} {c:Bool} {a b:List α} {k n m:Nat} (ha:(a.length+k)*m<=n) (hb:(b.length+k)*m<=n):((bif c then a else b).length+k)*m<=n:=by cases c <;> assumption
variable (b:AG) (d:AD)
def Z3R:CT:=(42,([.one (.ptr 1000 0),.one (.i 10)]:List Av).map (Br 1000 1001),wrI 1001 (HW d) (tI (AA d 10).1) (.cells (AD.c (AA d 10).2) 117))
abbrev Ey:=AA (AA d 10).2 8
def Z3S:CT:=(42,([.one (.ptr 1000 0),.one (.i 8)]:List Av).map (Br 1000 1001),wrI 1001 (.cells (AD.c (AA d 10).2) 117) (tI (Ey d).1) (.cells (AD.c (Ey d).2) 117))
def Z3T:Blk:=.cells (AD.c (Ey d).2) 117
def Z3U:Blk:=.row 20 ([BF.mk ({ data := #[99,49] }:ByteArray) 1 1 AJ AJ (W64 (3+(AA d 10).1)),BF.mk ({ data := #[101,49] }:ByteArray) 1 3 AJ AJ (W64 (2+(Ey d).1))].length) (AL BF.c [BF.mk ({ data := #[99,49] }:ByteArray) 1 1 AJ AJ (W64 (3+(AA d 10).1)),BF.mk ({ data := #[101,49] }:ByteArray) 1 3 AJ AJ (W64 (2+(Ey d).1))]) 147
def Z3V:Blk:=.cells (BD b (CZ b [vN,.own 18 20 ([BF.mk ({ data := #[99,49] }:ByteArray) 1 1 AJ AJ (W64 (3+(AA d 10).1)),BF.mk ({ data := #[101,49] }:ByteArray) 1 3 AJ AJ (W64 (2+(Ey d).1))].length),vN,vN])) 41
def Z3W:CT:=(42,(Hf:List Av).map (Br 1000 1001),wrI 1001 (.cells (AD.c (Ey d).2) 117) (tI (AA (Ey d).2 2).1) (.cells (AD.c (AA (Ey d).2 2).2) 117))
abbrev Z3X:AD:=(AA (AA (AA d 10).2 8).2 2).2
def Z3Y:CT:=(42,(Kc:List Av).map (Br 1000 1001),wrI 1001 (.cells (AD.c (Z3X d)) 117) (tI (AA (Z3X d) 5).1) (.cells (AD.c (AA (Z3X d) 5).2) 117))
abbrev KT:=AA (AA (Z3X d) 5).2 4
def Z3Z:CT:=(42,(HZ:List Av).map (Br 1000 1001),wrI 1001 (.cells (AD.c (AA (Z3X d) 5).2) 117) (tI (KT d).1) (.cells (AD.c (KT d).2) 117))
def Z40:Blk:=.cells (AD.c (KT d).2) 117
def Z41:Blk:=.row 20 ([BF.mk ({ data := #[99,49] }:ByteArray) 1 1 AJ AJ (W64 (3+(AA d 10).1)),BF.mk ({ data := #[101,49] }:ByteArray) 1 3 AJ AJ (W64 (2+(Ey d).1))]++[BF.mk ({ data := #[119,49] }:ByteArray) 1 2 AJ AJ (W64 (6+(AA (Z3X d) 5).1)),BF.mk ({ data := #[114,49] }:ByteArray) 1 4 AJ AJ (W64 (2+(KT d).1))]).length (AL BF.c ([BF.mk ({ data := #[99,49] }:ByteArray) 1 1 AJ AJ (W64 (3+(AA d 10).1)),BF.mk ({ data := #[101,49] }:ByteArray) 1 3 AJ AJ (W64 (2+(Ey d).1))]++[BF.mk ({ data := #[119,49] }:ByteArray) 1 2 AJ AJ (W64 (6+(AA (Z3X d) 5).1)),BF.mk ({ data := #[114,49] }:ByteArray) 1 4 AJ AJ (W64 (2+(KT d).1))])) 147
def Z42:Blk:=.cells (BD b (CZ b [vN,.own 100000 20 ([BF.mk ({ data := #[99,49] }:ByteArray) 1 1 AJ AJ (W64 (3+(AA d 10).1)),BF.mk ({ data := #[101,49] }:ByteArray) 1 3 AJ AJ (W64 (2+(Ey d).1))]++[BF.mk ({ data := #[119,49] }:ByteArray) 1 2 AJ AJ (W64 (6+(AA (Z3X d) 5).1)),BF.mk ({ data := #[114,49] }:ByteArray) 1 4 AJ AJ (W64 (2+(KT d).1))]).length,vN,vN])) 41
def Z43:Blk:=.cells (BD b (CZ b [vN,.own 100000 20 ([BF.mk ({ data := #[99,49] }:ByteArray) 1 1 AJ AJ (W64 (3+(AA d 10).1)),BF.mk ({ data := #[101,49] }:ByteArray) 1 3 AJ AJ (W64 (2+(Ey d).1))].length),vN,vN])) 41
abbrev Z44:AD:=bif decide (((AA (AA (AA d 10).2 8).2 2).1:Int)=1) then (AA (AA (Z3X d) 5).2 4).2 else (Z3X d)
def Z45:(List BF):=bif decide (((AA (AA (AA d 10).2 8).2 2).1:Int)=1) then ([BF.mk ({ data := #[99,49] }:ByteArray) 1 1 AJ AJ (W64 (3+(AA d 10).1)),BF.mk ({ data := #[101,49] }:ByteArray) 1 3 AJ AJ (W64 (2+(AA (AA d 10).2 8).1))]++[BF.mk ({ data := #[119,49] }:ByteArray) 1 2 AJ AJ (W64 (6+(AA (Z3X d) 5).1)),BF.mk ({ data := #[114,49] }:ByteArray) 1 4 AJ AJ (W64 (2+(AA (AA (Z3X d) 5).2 4).1))]) else [BF.mk ({ data := #[99,49] }:ByteArray) 1 1 AJ AJ (W64 (3+(AA d 10).1)),BF.mk ({ data := #[101,49] }:ByteArray) 1 3 AJ AJ (W64 (2+(AA (AA d 10).2 8).1))]
def Z46:CT:=(42,(Hf:List Av).map (Br 1000 1001),wrI 1001 (.cells (AD.c (Z44 d)) 117) (tI (AA (Z44 d) 2).1) (.cells (AD.c (AA (Z44 d) 2).2) 117))
def Z47:Blk:=.cells (BD b (CZ b [vN,.own 100000 20 (Z45 d).length,vN,vN])) 41
def Z48:Blk:=.cells (AD.c (AA (Z44 d) 2).2) 117
def Z49:Blk:=.row 20 (Z45 d).length (AL BF.c (Z45 d)) 147
abbrev JF:=AA (AA (Z44 d) 2).2 2
def Z4a:CT:=(42,(Hf:List Av).map (Br 1000 1001),wrI 1001 (.cells (AD.c (AA (Z44 d) 2).2) 117) (tI (JF d).1) (.cells (AD.c (JF d).2) 117))
def Z4b:CT:=(100,([.one (.ptr 1000 0)]:List Av).map (Br 1000 1001),wrI 1001 (.cells (AD.c (JF d).2) 117) (.av (.agg (Ej.c (BM (JF d).2).1))) (.cells (AD.c (BM (JF d).2).2) 117))
abbrev Z4c:AD:=(BM (AA (AA (Z44 d) 2).2 2).2).2
def Z4d:Ej:=(BM (AA (AA (Z44 d) 2).2 2).2).1
def Z4e:CT:=(100,([.one (.ptr 1000 0)]:List Av).map (Br 1000 1001),wrI 1001 (.cells (AD.c (Z4c d)) 117) (.av (.agg (Ej.c (BM (Z4c d)).1))) (.cells (AD.c (BM (Z4c d)).2) 117))
abbrev MJ:=AA (BM (Z4c d)).2 14
def Z4f:CT:=(42,([.one (.ptr 1000 0),.one (.i 14)]:List Av).map (Br 1000 1001),wrI 1001 (.cells (AD.c (BM (Z4c d)).2) 117) (tI (MJ d).1) (.cells (AD.c (MJ d).2) 117))
abbrev Z4g:AD:=(AA (BM (Z4c d)).2 14).2
def Z4h:Blk:=.row 20 ((Z45 d)++[BF.mk ({ data := #[99,50] }:ByteArray) (W64 (1+(JF d).1)) 1 (Z4d d) (BM (Z4c d)).1 (W64 (1+(MJ d).1))]).length (AL BF.c ((Z45 d)++[BF.mk ({ data := #[99,50] }:ByteArray) (W64 (1+(JF d).1)) 1 (Z4d d) (BM (Z4c d)).1 (W64 (1+(MJ d).1))])) 147
def Z4i:Blk:=.cells (BD b (CZ b [vN,.own 100001 20 ((Z45 d)++[BF.mk ({ data := #[99,50] }:ByteArray) (W64 (1+(JF d).1)) 1 (Z4d d) (BM (Z4c d)).1 (W64 (1+(MJ d).1))]).length,vN,vN])) 41
abbrev Z4j:AD:=bif decide (((AA (Z44 d) 2).1:Int)=1) then (Z4g d) else (AA (Z44 d) 2).2
def Z4k:(List BF):=bif decide (((AA (Z44 d) 2).1:Int)=1) then ((Z45 d)++[BF.mk ({ data := #[99,50] }:ByteArray) (W64 (1+(AA (AA (Z44 d) 2).2 2).1)) 1 (Z4d d) (BM (Z4c d)).1 (W64 (1+(AA (BM (Z4c d)).2 14).1))]) else (Z45 d)
def Z4l:CT:=(42,(E5:List Av).map (Br 1000 1001),wrI 1001 (.cells (AD.c (Z4j d)) 117) (tI (AA (Z4j d) 3).1) (.cells (AD.c (AA (Z4j d) 3).2) 117))
def Z4m:Blk:=.cells (BD b (CZ b [vN,.own 100001 20 (Z4k d).length,vN,vN])) 41
def Z4n:Blk:=.cells (AD.c (AA (Z4j d) 3).2) 117
def Z4o:Blk:=.row 20 (Z4k d).length (AL BF.c (Z4k d)) 147
def Z4p:(List Cr):=bif decide (((AA (Z4j d) 3).1:Int)=0) then [Cr.mk ({ data := #[112,111,119,101,114] }:ByteArray) [({ data := #[71,78,68] }:ByteArray)]] else []
def Z4q:CT:=(42,(HZ:List Av).map (Br 1000 1001),wrI 1001 (.cells (AD.c (AA (Z4j d) 3).2) 117) (tI (AA (AA (Z4j d) 3).2 4).1) (.cells (AD.c (AA (AA (Z4j d) 3).2 4).2) 117))
abbrev Z4r:AD:=(AA (AA (Z4j d) 3).2 4).2
abbrev RN (t_:List Cl):List Cl:=(lst 2 Cr.c (Z4p d))::(.own 100001 20 (Z4k d).length)::t_
abbrev Zx:List Cl:=(BD b (CZ b (RN d [vN,vN])))
def Z4s:Blk:=.cells (Zx b d) 41
def Z4t:(List Int):=Eo (AG.mk b.Layers (AQ.mk 0 [] 0) b.Parts [] b.Tracks b.Vias b.Pours b.Keeps b.Slots [] [] [] [])
def Z4u:CT:=(42,([.one (.ptr 1000 0),.one (.i ((Z4t b).length:Int))]:List Av).map (Br 1000 1001),wrI 1001 (.cells (AD.c (Z4r d)) 117) (tI (AA (Z4r d) ((Z4t b).length:Int)).1) (.cells (AD.c (AA (Z4r d) ((Z4t b).length:Int)).2) 117))
abbrev Z4v (d:AD) (b:AG):AD:=(AA (Z4r d) ((Z4t b).length:Int)).2
def Z4w:CT:=(42,([.one (.ptr 1000 0),.one (.i ((Z4t b).length:Int))]:List Av).map (Br 1000 1001),wrI 1001 (.cells (AD.c (Z4v d b)) 117) (tI (AA (Z4v d b) ((Z4t b).length:Int)).1) (.cells (AD.c (AA (Z4v d b) ((Z4t b).length:Int)).2) 117))
abbrev Z4x (d:AD) (b:AG):AD:=(AA (Z4v d b) ((Z4t b).length:Int)).2
abbrev Z4y (d:AD) (b:AG):AD:=bif decide (((AA (AA (Z4j d) 3).2 4).1:Int)=0) then (Z4x d b) else (Z4r d)
def Z4z (d:AD) (b:AG):(List CY):=bif decide (((AA (AA (Z4j d) 3).2 4).1:Int)=0) then [CY.mk ((Z4t b).getD (AA (Z4r d) ((Z4t b).length:Int)).1.toNat default) ((Z4t b).getD (AA (Z4v d b) ((Z4t b).length:Int)).1.toNat default) ({ data := #[99,49] }:ByteArray)] else []
def Z4A (d:AD) (b:AG):CT:=(42,(HZ:List Av).map (Br 1000 1001),wrI 1001 (.cells (AD.c (Z4y d b)) 117) (tI (AA (Z4y d b) 4).1) (.cells (AD.c (AA (Z4y d b) 4).2) 117))
def Z4B (d:AD) (b:AG):CT:=(42,([.one (.ptr 1000 0),.one (.i 8)]:List Av).map (Br 1000 1001),wrI 1001 (.cells (AD.c (AA (Z4y d b) 4).2) 117) (tI (AA (AA (Z4y d b) 4).2 8).1) (.cells (AD.c (AA (AA (Z4y d b) 4).2 8).2) 117))
abbrev Z4C (d:AD) (b:AG):AD:=(AA (AA (Z4y d b) 4).2 8).2
def D3 (b:AG) (d:AD):(AG×AD):=bif decide (((AA (Z4y d b) 4).1:Int)=0) then (AG.mk b.Layers b.Outline b.Parts b.Nets b.Tracks b.Vias b.Pours b.Keeps b.Slots (Z4p d) (Z4k d) (Z4z d b) [Dw.mk ({ data := #[109,49] }:ByteArray) [({ data := #[78,49] }:ByteArray),({ data := #[78,50] }:ByteArray)] (W64 (10*(AA (AA (Z4y d b) 4).2 8).1))],Z4C d b) else (AG.mk b.Layers b.Outline b.Parts b.Nets b.Tracks b.Vias b.Pours b.Keeps b.Slots (Z4p d) (Z4k d) (Z4z d b) [],(AA (Z4y d b) 4).2)
abbrev RY:Nat×Blk:=(1001,.cells (AD.c (Z4r d)) 117)
abbrev RO (d:AD) (b:AG) (t_:List Cl):List Cl:=(lst 2 Cr.c (Z4p d))::(lst 20 BF.c (Z4k d))::(lst 3 CY.c (Z4z d b))::t_
theorem au8 {p:Prop} (h:p:=by repeat (first | with_reducible assumption | exact Ci (DP hll _) | with_reducible refine BQ ?_ | with_reducible refine En ?_ | with_reducible refine De ?_ | with_reducible refine Yv ?_  | with_reducible refine Cp ?_ ?_)):p:=h
theorem au10 {p:Prop} (h:p:=by first | decide | omega | exact oB (b:=AG.mk b.Layers (AQ.mk 0 [] 0) b.Parts [] b.Tracks b.Vias b.Pours b.Keeps b.Slots [] [] [] []) hi | (simp only [Bk];omega)):p:=h
theorem au23 {p:Prop} (h:p:=by first | (simp only [List.length_append,List.length_cons,List.length_nil];decide) | exact jR (by simp only [List.length_append,List.length_cons,List.length_nil];decide) (by simp only [List.length_append,List.length_cons,List.length_nil];decide) | exact cQ (by simp only [List.length_append,List.length_cons,List.length_nil];decide) (by simp only [List.length_append,List.length_cons,List.length_nil];decide) | (unfold maxLen;omega) | (simp only [bY,bX,bW,Tu];omega)):p:=h
set_option maxHeartbeats 2000000 in
theorem aS  (b:AG) (d:AD) (hd:Bg d) (h0:(b.Parts.length:Int)<=1000000) (h1:(b.Tracks.length:Int)<=1000000) (h2:(b.Vias.length:Int)<=1000000) (h3:(b.Pours.length:Int)<=1000000) (h4:(b.Keeps.length:Int)<=1000000) (h5:(b.Slots.length:Int)<=1000000) (hi:1<=(b.Parts.length:Int)):Wr2 Tryz.prog 45 1000 1001 [.one (.ptr 1000 0),.one (.ptr 1001 0)] (.cells [.i b.Layers,.i b.Outline.Kind,lst 7 AH.c b.Outline.Edges,.i b.Outline.R,lst 7 AE.c b.Parts,lst 2 Bi.c b.Nets,lst 6 AM.c b.Tracks,lst 8 Ag.c b.Vias,lst 8 Bc.c b.Pours,lst 5 C4.c b.Keeps,lst 4 Au.c b.Slots,vN,vN,vN,vN] 41) (.cells (AD.c d) 117) (.tup []) (.cells (AG.c (D3 b d).1) 41) (.cells (AD.c (D3 b d).2) 117):=by
 refine Ox Tryz.func45 rfl kr kr kr rfl kr kr kr fun W0 M0 X hX => ?_
 refine AB ?_
 refine Dk DN [18] [] [(6,CO),(7,CO),(9,(Z3R d)),(12,CO),(13,CO),(15,(Z3S d))] [0,1] [18,1000,1001] [Aq CO.2.1,Aq CO.2.1,Aq (Z3R d).2.1,Bt (HW d),Aq CO.2.1,Aq CO.2.1,Aq (Z3S d).2.1,Bt (.cells (AD.c (AA d 10).2) 117)] ⟨ED,[(18,.row 20 2 (Ap 20 2 [.s ({ data := #[99,49] }:ByteArray),.i 1,.i 1,.i AJ.Op,.s AJ.Text,.i AJ.N,.i AJ.Box.X0,.i AJ.Box.Y0,.i AJ.Box.X1,.i AJ.Box.Y1,opL AJ.L,.i AJ.Op,.s AJ.Text,.i AJ.N,.i AJ.Box.X0,.i AJ.Box.Y0,.i AJ.Box.X1,.i AJ.Box.Y1,opL AJ.L,.i (W64 (3+(AA d 10).1)),.s ({ data := #[101,49] }:ByteArray),.i 1,.i 3,.i AJ.Op,.s AJ.Text,.i AJ.N,.i AJ.Box.X0,.i AJ.Box.Y0,.i AJ.Box.X1,.i AJ.Box.Y1,opL AJ.L,.i AJ.Op,.s AJ.Text,.i AJ.N,.i AJ.Box.X0,.i AJ.Box.Y0,.i AJ.Box.X1,.i AJ.Box.Y1,opL AJ.L,.i (W64 (2+(AA (AA d 10).2 8).1))]) 147),(1000,.cells (BD b (CZ b [vN,.own 18 20 2,vN,vN])) 41),(1001,Z3T d)]⟩ (.cons EL (.cons EL (.cons (cWr (BS d 10 au8 au10)) (.cons EL (.cons EL (.cons (cWr (BS (AA d 10).2 8 au8 au10)) .nil)))))) kr (.cons rfl (.cons rfl (.cons rfl (.cons rfl (.cons rfl (.cons rfl (.cons rfl (.cons rfl .nil))))))))<|AF ?_
 refine BI (Cv.trans (A7 (⟨ED,[(18,Z3U d),(1000,Z3V b d),(1001,Z3T d)]⟩) lr (.cons ⟨rfl,Ad 147 (Al (c:=BF.c) (xs:=([BF.mk ({ data := #[99,49] }:ByteArray) 1 1 AJ AJ (W64 (3+(AA d 10).1)),BF.mk ({ data := #[101,49] }:ByteArray) 1 3 AJ AJ (W64 (2+(AA (AA d 10).2 8).1))]:List BF)) rfl kr)⟩ (.cons ⟨rfl,.cells _ (rr9 (rr3 (.cons (.own _ _ au2) (rr (rr .nil)))))⟩ lr))) (Cv.refl _))<|AB<|AB ?_
 refine rb 22 (Z3W d) (.cells (AD.c (AA (AA d 10).2 8).2) 117) ⟨[(0,tP 1000 0),(1,tP 1001 0),(23,tB (decide (((AA (Ey d).2 2).1:Int)=1)))],[(18,Z3U d),(1000,Z3V b d),(1001,.cells (AD.c (Z3X d)) 117)]⟩ (cWr (BS (AA (AA d 10).2 8).2 2 au8 au10))<|AF ?_
 refine Bb (⟨ED,[(1000,.cells (BD b (CZ b [vN,.own 100000 20 (Z45 d).length,vN,vN])) 41),(1001,.cells (AD.c (Z44 d)) 117),(100000,.row 20 (Z45 d).length (AL BF.c (Z45 d)) 147)]⟩) ?_ ?_
 ·refine AW _ rfl (fun h1 => ?_) (fun h1 => ?_)
  ·have g1:=oT h1
   refine dw [] [(29,CO),(30,CO),(32,(Z3Y d)),(35,CO),(36,CO),(38,(Z3Z d))] [Aq CO.2.1,Aq CO.2.1,Aq (Z3Y d).2.1,Bt (.cells (AD.c (Z3X d)) 117),Aq CO.2.1,Aq CO.2.1,Aq (Z3Z d).2.1,Bt (.cells (AD.c (AA (Z3X d) 5).2) 117),[BF.mk ({ data := #[99,49] }:ByteArray) 1 1 AJ AJ (W64 (3+(AA d 10).1)),BF.mk ({ data := #[101,49] }:ByteArray) 1 3 AJ AJ (W64 (2+(AA (AA d 10).2 8).1))].length=[BF.mk ({ data := #[99,49] }:ByteArray) 1 1 AJ AJ (W64 (3+(AA d 10).1)),BF.mk ({ data := #[101,49] }:ByteArray) 1 3 AJ AJ (W64 (2+(AA (AA d 10).2 8).1))].length,([BF.mk ({ data := #[99,49] }:ByteArray) 1 1 AJ AJ (W64 (3+(AA d 10).1)),BF.mk ({ data := #[101,49] }:ByteArray) 1 3 AJ AJ (W64 (2+(AA (AA d 10).2 8).1))].length)+2<=maxLen,(([BF.mk ({ data := #[99,49] }:ByteArray) 1 1 AJ AJ (W64 (3+(AA d 10).1)),BF.mk ({ data := #[101,49] }:ByteArray) 1 3 AJ AJ (W64 (2+(AA (AA d 10).2 8).1))].length)+2)*216<=140737488355328] ⟨ED,[(42,.row 20 (([BF.mk ({ data := #[99,49] }:ByteArray) 1 1 AJ AJ (W64 (3+(AA d 10).1)),BF.mk ({ data := #[101,49] }:ByteArray) 1 3 AJ AJ (W64 (2+(AA (AA d 10).2 8).1))].length)+2) (fun i_ j_=>if i_<([BF.mk ({ data := #[99,49] }:ByteArray) 1 1 AJ AJ (W64 (3+(AA d 10).1)),BF.mk ({ data := #[101,49] }:ByteArray) 1 3 AJ AJ (W64 (2+(AA (AA d 10).2 8).1))].length) then (AL BF.c [BF.mk ({ data := #[99,49] }:ByteArray) 1 1 AJ AJ (W64 (3+(AA d 10).1)),BF.mk ({ data := #[101,49] }:ByteArray) 1 3 AJ AJ (W64 (2+(AA (AA d 10).2 8).1))]) i_ j_ else (Ap 20 2 [.s ({ data := #[119,49] }:ByteArray),.i 1,.i 2,.i AJ.Op,.s AJ.Text,.i AJ.N,.i AJ.Box.X0,.i AJ.Box.Y0,.i AJ.Box.X1,.i AJ.Box.Y1,opL AJ.L,.i AJ.Op,.s AJ.Text,.i AJ.N,.i AJ.Box.X0,.i AJ.Box.Y0,.i AJ.Box.X1,.i AJ.Box.Y1,opL AJ.L,.i (W64 (6+(AA (Z3X d) 5).1)),.s ({ data := #[114,49] }:ByteArray),.i 1,.i 4,.i AJ.Op,.s AJ.Text,.i AJ.N,.i AJ.Box.X0,.i AJ.Box.Y0,.i AJ.Box.X1,.i AJ.Box.Y1,opL AJ.L,.i AJ.Op,.s AJ.Text,.i AJ.N,.i AJ.Box.X0,.i AJ.Box.Y0,.i AJ.Box.X1,.i AJ.Box.Y1,opL AJ.L,.i (W64 (2+(AA (AA (Z3X d) 5).2 4).1))]) (i_-([BF.mk ({ data := #[99,49] }:ByteArray) 1 1 AJ AJ (W64 (3+(AA d 10).1)),BF.mk ({ data := #[101,49] }:ByteArray) 1 3 AJ AJ (W64 (2+(AA (AA d 10).2 8).1))].length)) j_) 147),(1000,.cells (BD b (CZ b [vN,.own 42 20 (([BF.mk ({ data := #[99,49] }:ByteArray) 1 1 AJ AJ (W64 (3+(AA d 10).1)),BF.mk ({ data := #[101,49] }:ByteArray) 1 3 AJ AJ (W64 (2+(AA (AA d 10).2 8).1))].length)+2),vN,vN])) 41),(1001,Z40 d)]⟩ (.cons EL (.cons EL (.cons (cWr (BS (Z3X d) 5 au8 au10)) (.cons EL (.cons EL (.cons (cWr (BS (AA (Z3X d) 5).2 4 au8 au10)) .nil)))))) (.cons rfl (.cons rfl (.cons rfl (.cons rfl (.cons rfl (.cons rfl (.cons rfl (.cons rfl (.cons rfl (.cons au23 (.cons au23 .nil)))))))))))<|AF ?_
   refine Cv.trans (A7 (⟨ED,[(42,Z41 d),(1000,.cells (BD b (CZ b [vN,.own 42 20 ([BF.mk ({ data := #[99,49] }:ByteArray) 1 1 AJ AJ (W64 (3+(AA d 10).1)),BF.mk ({ data := #[101,49] }:ByteArray) 1 3 AJ AJ (W64 (2+(Ey d).1))]++[BF.mk ({ data := #[119,49] }:ByteArray) 1 2 AJ AJ (W64 (6+(AA (Z3X d) 5).1)),BF.mk ({ data := #[114,49] }:ByteArray) 1 4 AJ AJ (W64 (2+(KT d).1))]).length,vN,vN])) 41),(1001,Z40 d)]⟩) lr (.cons ⟨rfl,Ad 147 (A8 (Ay 20 BF.c [BF.mk ({ data := #[99,49] }:ByteArray) 1 1 AJ AJ (W64 (3+(AA d 10).1)),BF.mk ({ data := #[101,49] }:ByteArray) 1 3 AJ AJ (W64 (2+(AA (AA d 10).2 8).1))]) (Al (c:=BF.c) (xs:=([BF.mk ({ data := #[119,49] }:ByteArray) 1 2 AJ AJ (W64 (6+(AA (Z3X d) 5).1)),BF.mk ({ data := #[114,49] }:ByteArray) 1 4 AJ AJ (W64 (2+(AA (AA (Z3X d) 5).2 4).1))]:List BF)) rfl kr))⟩ (.cons ⟨rfl,.cells _ (rr9 (rr3 (.cons (.own _ _ au2) (rr (rr .nil)))))⟩ lr))) (Cv.trans (vr 42 100000 (K:=[1000,1001]) hX) (Cv.trans (ck (⟨ED,[(1000,Z42 b d),(1001,Z40 d),(100000,Z41 d)]⟩)) (Aw ?_)))
   first | rfl | (simp only [h1,Z44,Z45,cond_true,cond_false] <;> rfl)
  refine AV<|AF ?_
  refine Cv.trans (vk [0,1] [18,1000,1001]) (Cv.trans (vr 18 100000 (K:=[1000,1001]) hX) (Cv.trans (ck (⟨ED,[(1000,Z43 b d),(1001,.cells (AD.c (Z3X d)) 117),(100000,Z3U d)]⟩)) (Aw ?_)))
  first | rfl | (simp only [h1,Z44,Z45,cond_true,cond_false] <;> rfl)
 refine AB<|AB ?_
 refine rb 46 (Z46 d) (.cells (AD.c (Z44 d)) 117) ⟨[(0,tP 1000 0),(1,tP 1001 0),(47,tB (decide (((AA (Z44 d) 2).1:Int)=1)))],[(1000,Z47 b d),(1001,Z48 d),(100000,Z49 d)]⟩ (cWr (BS (Z44 d) 2 au8 au10))<|AF ?_
 refine Bb (⟨ED,[(1000,.cells (BD b (CZ b [vN,.own 100001 20 (Z4k d).length,vN,vN])) 41),(1001,.cells (AD.c (Z4j d)) 117),(100001,.row 20 (Z4k d).length (AL BF.c (Z4k d)) 147)]⟩) ?_ ?_
 ·refine AW _ rfl (fun h1 => ?_) (fun h1 => ?_)
  ·have g1:=oT h1
   refine dw [] [(54,(Z4a d)),(57,(Z4b d)),(59,(Z4e d)),(61,(Z4f d))] [Aq (Z4a d).2.1,Bt (.cells (AD.c (AA (Z44 d) 2).2) 117),Aq (Z4b d).2.1,Bt (.cells (AD.c (AA (AA (Z44 d) 2).2 2).2) 117),Aq (Z4e d).2.1,Bt (.cells (AD.c (Z4c d)) 117),Aq (Z4f d).2.1,Bt (.cells (AD.c (BM (Z4c d)).2) 117),(Z45 d).length=(Z45 d).length,(Z45 d).length+1<=maxLen,((Z45 d).length+1)*216<=140737488355328] ⟨ED,[(65,.row 20 ((Z45 d).length+1) (fun i_ j_=>if i_<(Z45 d).length then (AL BF.c (Z45 d)) i_ j_ else (Ap 20 1 [.s ({ data := #[99,50] }:ByteArray),.i (W64 (1+(AA (AA (Z44 d) 2).2 2).1)),.i 1,.i (Z4d d).Op,.s (Z4d d).Text,.i (Z4d d).N,.i (Z4d d).Box.X0,.i (Z4d d).Box.Y0,.i (Z4d d).Box.X1,.i (Z4d d).Box.Y1,opL (Z4d d).L,.i (BM (Z4c d)).1.Op,.s (BM (Z4c d)).1.Text,.i (BM (Z4c d)).1.N,.i (BM (Z4c d)).1.Box.X0,.i (BM (Z4c d)).1.Box.Y0,.i (BM (Z4c d)).1.Box.X1,.i (BM (Z4c d)).1.Box.Y1,opL (BM (Z4c d)).1.L,.i (W64 (1+(AA (BM (Z4c d)).2 14).1))]) (i_-(Z45 d).length) j_) 147),(1000,.cells (BD b (CZ b [vN,.own 65 20 ((Z45 d).length+1),vN,vN])) 41),(1001,.cells (AD.c (Z4g d)) 117)]⟩ (.cons (cWr (BS (AA (Z44 d) 2).2 2 au8 au10)) (.cons (cWr (XI (AA (AA (Z44 d) 2).2 2).2 au8)) (.cons (cWr (XI (Z4c d) au8)) (.cons (cWr (BS (BM (Z4c d)).2 14 au8 au10)) .nil)))) (.cons rfl (.cons rfl (.cons rfl (.cons rfl (.cons rfl (.cons rfl (.cons rfl (.cons rfl (.cons rfl (.cons au23 (.cons au23 .nil)))))))))))<|AF ?_
   refine Cv.trans (A7 (⟨ED,[(65,Z4h d),(1000,.cells (BD b (CZ b [vN,.own 65 20 ((Z45 d)++[BF.mk ({ data := #[99,50] }:ByteArray) (W64 (1+(AA (AA (Z44 d) 2).2 2).1)) 1 (Z4d d) (BM (Z4c d)).1 (W64 (1+(MJ d).1))]).length,vN,vN])) 41),(1001,.cells (AD.c (Z4g d)) 117)]⟩) lr (.cons ⟨rfl,Ad 147 (A8 (Ay 20 BF.c (Z45 d)) (Al (c:=BF.c) (xs:=([BF.mk ({ data := #[99,50] }:ByteArray) (W64 (1+(AA (AA (Z44 d) 2).2 2).1)) 1 (Z4d d) (BM (Z4c d)).1 (W64 (1+(AA (BM (Z4c d)).2 14).1))]:List BF)) rfl kr))⟩ (.cons ⟨rfl,.cells _ (rr9 (rr3 (.cons (.own _ _ au2) (rr (rr .nil)))))⟩ lr))) (Cv.trans (vr 65 100001 (K:=[1000,1001]) hX) (Cv.trans (ck (⟨ED,[(1000,Z4i b d),(1001,.cells (AD.c (Z4g d)) 117),(100001,Z4h d)]⟩)) (Aw ?_)))
   first | rfl | (simp only [h1,Z4j,Z4k,cond_true,cond_false] <;> rfl)
  refine AV<|AF ?_
  refine Cv.trans (vk [0,1] [1000,1001,100000]) (Cv.trans (wr (⟨ED,[(1000,.cells (BD b (CZ b [vN,.own 100001 20 (Z45 d).length,vN,vN])) 41),(1001,Z48 d),(100001,Z49 d)]⟩) 100000 100001 (K:=[1000,1001]) hX) (Aw ?_))
  first | rfl | (simp only [h1,Z4j,Z4k,cond_true,cond_false] <;> rfl)
 refine AB<|AB ?_
 refine rb 69 (Z4l d) (.cells (AD.c (Z4j d)) 117) ⟨[(0,tP 1000 0),(1,tP 1001 0),(70,tB (decide (((AA (Z4j d) 3).1:Int)=0)))],[(1000,Z4m b d),(1001,Z4n d),(100001,Z4o d)]⟩ (cWr (BS (Z4j d) 3 au8 au10))<|AF ?_
 refine Bb (⟨ED,[(1000,.cells (BD b (CZ b [lst 2 Cr.c (Z4p d),.own 100001 20 (Z4k d).length,vN,vN])) 41),(1001,.cells (AD.c (AA (Z4j d) 3).2) 117),(100001,.row 20 (Z4k d).length (AL BF.c (Z4k d)) 147)]⟩) ?_ ?_
 ·refine AW _ rfl (fun h1 => ?_) (fun h1 => ?_)
  ·refine rn ⟨ED,[(1000,.cells (BD b (CZ b [.list true 2 1 (Ap 2 1 [.s ({ data := #[112,111,119,101,114] }:ByteArray),.list true 1 1 (Ap 1 1 [.s ({ data := #[71,78,68] }:ByteArray)])]),.own 100001 20 (Z4k d).length,vN,vN])) 41),(1001,Z4n d),(100001,Z4o d)]⟩ ?_
   refine Cv.trans (A7 (⟨ED,[(1000,.cells (BD b (CZ b [lst 2 Cr.c [Cr.mk ({ data := #[112,111,119,101,114] }:ByteArray) [({ data := #[71,78,68] }:ByteArray)]],.own 100001 20 (Z4k d).length,vN,vN])) 41),(1001,Z4n d),(100001,Z4o d)]⟩) lr (.cons ⟨rfl,.cells _ (rr9 (rr2 (.cons (BZ true (E7 (c:=Cr.c) (xs:=([Cr.mk ({ data := #[112,111,119,101,114] }:ByteArray) [({ data := #[71,78,68] }:ByteArray)]]:List Cr)) (y:=[[.s ({ data := #[112,111,119,101,114] }:ByteArray),.list true 1 1 (Ap 1 1 [.s ({ data := #[71,78,68] }:ByteArray)])]]) (z:=[[.s ({ data := #[112,111,119,101,114] }:ByteArray),lst 1 (fun x=>[.s x]) [({ data := #[71,78,68] }:ByteArray)]]]) rfl kr kr (.cons (rr (.cons (BZ true (Al (c:=(fun x=>[.s x])) (xs:=([({ data := #[71,78,68] }:ByteArray)]:List ByteArray)) rfl kr)) .nil)) .nil))) (rr (rr (rr .nil))))))⟩ lr)) (Aw ?_)
   first | rfl | (simp only [h1,Z4p,cond_true,cond_false] <;> rfl)
  refine AV<|AF ?_
  refine Cv.trans (ck (⟨ED,[(1000,Z4m b d),(1001,Z4n d),(100001,Z4o d)]⟩)) (Cv.trans (A7 (⟨ED,[(1000,.cells (BD b (CZ b [lst 2 Cr.c [],.own 100001 20 (Z4k d).length,vN,vN])) 41),(1001,Z4n d),(100001,Z4o d)]⟩) lr (.cons ⟨rfl,.cells _ (rr9 (rr2 (.cons (Cd 2 Cr.c) (rr (rr (rr .nil))))))⟩ lr)) (Aw ?_))
  first | rfl | (simp only [h1,Z4p,cond_true,cond_false] <;> rfl)
 refine AB<|AB ?_
 refine rb 78 (Z4q d) (.cells (AD.c (AA (Z4j d) 3).2) 117) ⟨[(0,tP 1000 0),(1,tP 1001 0),(79,tB (decide (((AA (AA (Z4j d) 3).2 4).1:Int)=0)))],[(1000,Z4s b d),(RY d),(100001,Z4o d)]⟩ (cWr (BS (AA (Z4j d) 3).2 4 au8 au10))<|AF ?_
 refine Bb (⟨ED,[(1000,.cells (BD b (CZ b [lst 2 Cr.c (Z4p d),.own 100001 20 (Z4k d).length,lst 3 CY.c (Z4z d b),vN])) 41),(1001,.cells (AD.c (Z4y d b)) 117),(100001,.row 20 (Z4k d).length (AL BF.c (Z4k d)) 147)]⟩) ?_ ?_
 ·refine AW _ rfl (fun h1 => ?_) (fun h1 => ?_)
  ·have g1:=oT h1
   refine AB<|rs 83 (ceI [.agg (Zx b d)] (Wb (AG.mk b.Layers (AQ.mk 0 [] 0) b.Parts [] b.Tracks b.Vias b.Pours b.Keeps b.Slots [] [] [] []))) ⟨[(0,tP 1000 0),(1,tP 1001 0),(4,tO (lst 1 eIn (Z4t b)))],[(1000,Z4s b d),(RY d),(100001,Z4o d)]⟩ (Cy (iW (AG.mk b.Layers (AQ.mk 0 [] 0) b.Parts [] b.Tracks b.Vias b.Pours b.Keeps b.Slots [] [] [] []) au11 au11 au11 au11 au11 au11) (.cons (.agg (rr (.cons (.any _) (.cons (.any _) (.cons (.any _) (rr (.cons (.any _) (rr5 (.cons (.any _) (.cons (.any _) (.cons (.any _) (.cons (.any _) .nil)))))))))))) .nil))<|AF ?_
   refine dw [] [(89,(Z4u b d)),(96,(Z4w b d))] [Aq (Z4u b d).2.1,Bt (.cells (AD.c (Z4r d)) 117),0<=((AA (Z4r d) ((Z4t b).length:Int)).1:Int)/\((AA (Z4r d) ((Z4t b).length:Int)).1:Int)<(((Z4t b).length:Nat):Int),Aq (Z4w b d).2.1,Bt (.cells (AD.c (Z4v d b)) 117),0<=((AA (Z4v d b) ((Z4t b).length:Int)).1:Int)/\((AA (Z4v d b) ((Z4t b).length:Int)).1:Int)<(((Z4t b).length:Nat):Int)] ⟨ED,[(1000,.cells (BD b (CZ b (RN d [.list true 3 1 (Ap 3 1 [.i ((Z4t b).getD (AA (Z4r d) ((Z4t b).length:Int)).1.toNat default),.i ((Z4t b).getD (AA (Z4v d b) ((Z4t b).length:Int)).1.toNat default),.s ({ data := #[99,49] }:ByteArray)]),vN]))) 41),(1001,.cells (AD.c (Z4x d b)) 117),(100001,Z4o d)]⟩ (.cons (cWr (BS (Z4r d) ((Z4t b).length:Int) au8 au10)) (.cons (cWr (BS (Z4v d b) ((Z4t b).length:Int) au8 au10)) .nil)) (.cons rfl (.cons rfl (.cons (by first | exact Jm _ _ _ (by decide) (by decide) (by decide) | exact UJ (b:=AG.mk b.Layers (AQ.mk 0 [] 0) b.Parts [] b.Tracks b.Vias b.Pours b.Keeps b.Slots [] [] [] []) _ hi (by assumption) (by assumption) (by assumption) (by assumption) (by assumption) (by assumption) | decide | omega) (.cons rfl (.cons rfl (.cons (by first | exact Jm _ _ _ (by decide) (by decide) (by decide) | exact UJ (b:=AG.mk b.Layers (AQ.mk 0 [] 0) b.Parts [] b.Tracks b.Vias b.Pours b.Keeps b.Slots [] [] [] []) _ hi (by assumption) (by assumption) (by assumption) (by assumption) (by assumption) (by assumption) | decide | omega) .nil))))))<|AF ?_
   refine Cv.trans (A7 (⟨ED,[(1000,.cells (BD b (CZ b [lst 2 Cr.c (Z4p d),.own 100001 20 (Z4k d).length,lst 3 CY.c [CY.mk ((Z4t b).getD (AA (Z4r d) ((Z4t b).length:Int)).1.toNat default) ((Z4t b).getD (AA (Z4v d b) ((Z4t b).length:Int)).1.toNat default) ({ data := #[99,49] }:ByteArray)],vN])) 41),(1001,.cells (AD.c (Z4x d b)) 117),(100001,Z4o d)]⟩) lr (.cons ⟨rfl,.cells _ (rr9 (rr4 (.cons (BZ true (Al (c:=CY.c) (xs:=([CY.mk ((Z4t b).getD (AA (Z4r d) ((Z4t b).length:Int)).1.toNat default) ((Z4t b).getD (AA (Z4v d b) ((Z4t b).length:Int)).1.toNat default) ({ data := #[99,49] }:ByteArray)]:List CY)) rfl kr)) (rr .nil))))⟩ lr)) (Aw ?_)
   first | rfl | (simp only [h1,Z4y,Z4z,cond_true,cond_false] <;> rfl)
  refine AV<|AF ?_
  refine Cv.trans (ck (⟨ED,[(1000,Z4s b d),(RY d),(100001,Z4o d)]⟩)) (Cv.trans (A7 (⟨ED,[(1000,.cells (BD b (CZ b [lst 2 Cr.c (Z4p d),.own 100001 20 (Z4k d).length,lst 3 CY.c [],vN])) 41),(RY d),(100001,Z4o d)]⟩) lr (.cons ⟨rfl,.cells _ (rr9 (rr4 (.cons (Cd 3 CY.c) (rr .nil))))⟩ lr)) (Aw ?_))
  first | rfl | (simp only [h1,Z4y,Z4z,cond_true,cond_false] <;> rfl)
 refine AB<|rb 104 (Z4A d b) (.cells (AD.c (Z4y d b)) 117) ⟨[(0,tP 1000 0),(1,tP 1001 0),(105,tB (decide (((AA (Z4y d b) 4).1:Int)=0)))],[(1000,.cells (BD b (CZ b (RN d [lst 3 CY.c (Z4z d b),vN]))) 41),(1001,.cells (AD.c (AA (Z4y d b) 4).2) 117),(100001,Z4o d)]⟩ (cWr (BS (Z4y d b) 4 au8 au10))<|AF ?_
 refine AW _ rfl (fun h1 => ?_) (fun h1 => ?_)
 ·have g1:=oT h1
  refine rb 109 (Z4B d b) (.cells (AD.c (AA (Z4y d b) 4).2) 117) ⟨[],[(1000,.cells (BD b (CZ b (RN d [lst 3 CY.c (Z4z d b),.list true 3 1 (Ap 3 1 [.s ({ data := #[109,49] }:ByteArray),.list true 1 2 (Ap 1 2 [.s ({ data := #[78,49] }:ByteArray),.s ({ data := #[78,50] }:ByteArray)]),.i (W64 (10*(AA (AA (Z4y d b) 4).2 8).1))])]))) 41),(1001,.cells (AD.c (Z4C d b)) 117),(100001,Z4o d)]⟩ (cWr (BS (AA (Z4y d b) 4).2 8 au8 au10)) ?_
  exact yn (Cv.trans (vf 100001 20 (Z4k d).length (AL BF.c (Z4k d)) 147 (K:=[1000,1001]) hX (.cons ⟨rfl,rfl⟩ .nil)) (Cv.refl _)) (.tup []) ⟨Ae rfl,⟨.cells (BD b (CZ b (RO d b [.list true 3 1 (Ap 3 1 [.s ({ data := #[109,49] }:ByteArray),.list true 1 2 (Ap 1 2 [.s ({ data := #[78,49] }:ByteArray),.s ({ data := #[78,50] }:ByteArray)]),.i (W64 (10*(AA (AA (Z4y d b) 4).2 8).1))])]))) 41,by kernel_rfl,S2 (y:=.cells (BD b (CZ b (RO d b [lst 3 Dw.c [Dw.mk ({ data := #[109,49] }:ByteArray) [({ data := #[78,49] }:ByteArray),({ data := #[78,50] }:ByteArray)] (W64 (10*(AA (AA (Z4y d b) 4).2 8).1))]]))) 41) (.cells _ (rr9 (rr5 (.cons (BZ true (E7 (c:=Dw.c) (xs:=([Dw.mk ({ data := #[109,49] }:ByteArray) [({ data := #[78,49] }:ByteArray),({ data := #[78,50] }:ByteArray)] (W64 (10*(AA (AA (Z4y d b) 4).2 8).1))]:List Dw)) (y:=[[.s ({ data := #[109,49] }:ByteArray),.list true 1 2 (Ap 1 2 [.s ({ data := #[78,49] }:ByteArray),.s ({ data := #[78,50] }:ByteArray)]),.i (W64 (10*(AA (AA (Z4y d b) 4).2 8).1))]]) (z:=[[.s ({ data := #[109,49] }:ByteArray),lst 1 (fun x=>[.s x]) [({ data := #[78,49] }:ByteArray),({ data := #[78,50] }:ByteArray)],.i (W64 (10*(AA (AA (Z4y d b) 4).2 8).1))]]) rfl kr kr (.cons (rr (.cons (BZ true (Al (c:=(fun x=>[.s x])) (xs:=([({ data := #[78,49] }:ByteArray),({ data := #[78,50] }:ByteArray)]:List ByteArray)) rfl kr)) (rr .nil))) .nil))) .nil)))) (by first | (simp only [D3,h1,cond_true,cond_false];done) | (simp only [D3,h1,cond_true,cond_false];kernel_rfl))⟩,.cells (AD.c (Z4C d b)) 117,by kernel_rfl,Da (by first | (simp only [D3,h1,cond_true,cond_false];done) | (simp only [D3,h1,cond_true,cond_false];kernel_rfl))⟩
 have g1:=oF h1
 refine AV ?_
 exact yn (Cv.trans (vf 100001 20 (Z4k d).length (AL BF.c (Z4k d)) 147 (K:=[1000,1001]) hX (.cons ⟨rfl,rfl⟩ .nil)) (Cv.refl _)) (.tup []) ⟨Ae rfl,⟨.cells (BD b (CZ b (RO d b [vN]))) 41,by kernel_rfl,S2 (y:=.cells (BD b (CZ b (RO d b [lst 3 Dw.c []]))) 41) (.cells _ (rr9 (rr5 (.cons (Cd 3 Dw.c) .nil)))) (by first | (simp only [D3,h1,cond_true,cond_false];done) | (simp only [D3,h1,cond_true,cond_false];kernel_rfl))⟩,.cells (AD.c (AA (Z4y d b) 4).2) 117,by kernel_rfl,Da (by first | (simp only [D3,h1,cond_true,cond_false];done) | (simp only [D3,h1,cond_true,cond_false];kernel_rfl))⟩
end
section
open Go.RowKit
theorem PR {v a:Int} {d:AD} {n:Int} (h:v<W64 (a+(AA d n).1)) (h0:0<n) (h1:n<=1000000) (ha:0<=a) (hb:a<=1000000):v<a+n-1:=by
 have:=DM d n h0 (by omega)
 rw [Ah (by omega) (by omega)] at h
 omega
theorem H1 {p q:Prop} [Decidable p] [Decidable q] {r:Bool} (h:(bif bif decide p then decide q else false then r else (bif bif decide p then decide q else false then false else false))=true):q:=by
 by_cases hp:p
 ·rw [decide_eq_true hp] at h
  by_cases hq:q
  ·exact hq
  rw [decide_eq_false hq] at h;cases h
 rw [decide_eq_false hp] at h;cases h
theorem XY {n:Nat} (h:(0:Int)<(n:Int)):0<n:=by omega
theorem Qn {c2 c1:Bool} {a b c:A5} {L:List A5} (hL:L=bif c2 then [a,b] else bif c1 then [c] else []):L.length<=2:=by
 subst hL;cases c2 <;> cases c1 <;> simp
theorem Xn {c2 c1:Bool} {a b c:A5} {L:List A5} {k:Int} (hk:0<=k/\k<2) (ha:a.Legs.length=2) (hc:c.Legs.length=2) (hL:L=bif c2 then [a,b] else bif c1 then [c] else []) (h:(0:Int)<(L.length:Int)):0<=k/\k<(((L.getD 0 default).Legs.length:Nat):Int):=by
 subst hL
 cases c2 with
 | true=>show 0<=k/\k<((a.Legs.length:Nat):Int);rw [ha];exact hk
 | false =>
  cases c1 with
  | true=>show 0<=k/\k<((c.Legs.length:Nat):Int);rw [hc];exact hk
  | false=>exact absurd h (by simp)
theorem dJ {α:Type} {L:List α} (h:L.length<=2):L.length+1<=maxLen:=by unfold maxLen;omega
theorem dK {α:Type} {L:List α} (h:L.length<=2):(L.length+1)*32<=140737488355328:=by omega
def Z4D:Blk:=.cells OW 82
variable (r:As) (name:ByteArray) (l:List Int) (v6_1:List BJ) (v8:Int) (x0:AC) (radius:Int) (v5:AD) (x1:AC)
abbrev I5:=AA (AD.mk l 0) 5
def Z4E:CT:=(42,(Kc:List Av).map (Br 1000 14),wrI 14 (.cells [lst 1 eIn l,.i 0] 117) (tI (I5 l).1) (.cells (AD.c (I5 l).2) 117))
def Z4F:Tv:=tI (W64 (2+(I5 l).1))
def Z4G:Blk:=.cells (AD.c (I5 l).2) 117
abbrev Hi:Bool:=(decide (((W64 (2+(I5 l).1)):Int)<4))
def Z4H:Tv:=tB (Hi l)
abbrev MK:Av:=.one (.ptr 14 0)
def Z4I:Tv:=.grd ((Hi l)=true) MK
def Z4J:Blk:=.row 2 ([]:List A5).length (AL A5.c ([]:List A5)) 180
abbrev Hj:Bool:=(decide ((4:Int)<=(W64 (2+(I5 l).1))))
def Z4K:Tv:=tB (Hj l)
def Z4L:Tv:=.grd ((Hj l)=true) MK
def Z4M:Blk:=.row 7 ([]:List BJ).length (AL BJ.c ([]:List BJ)) 102
def Z4N:Blk:=.cells (Uz name) 82
def Z4O:Blk:=.cells [.s name,.own 100000 7 v6_1.length,vN] 82
def Z4P:Blk:=.row 7 v6_1.length (AL BJ.c v6_1) 102
abbrev ML:Blk:=.cells (AD.c (AA v5 2).2) 117
abbrev MC:Blk:=.cells (AD.c v5) 117
def Z4Q:CT:=(42,(Hf:List Av).map (Br 1000 14),wrI 14 (MC v5) (tI (AA v5 2).1) (ML v5))
def Z4R:Blk:=.cells [.s (Ai v8),.i 0,vN,.i 0,.i (W64 (30*v8)),.i (W64 (10*(AA v5 2).1)),.i 0] 102
def Z4S:Blk:=.cells [.i (W64 (30*v8)),.i (W64 (10*(AA v5 2).1))] 66
abbrev Hg:=AA (AA v5 2).2 3
def Z4T:CT:=(42,(E5:List Av).map (Br 1000 14),wrI 14 (ML v5) (tI (Hg v5).1) (.cells (AD.c (Hg v5).2) 117))
def Z4U:Blk:=.cells (AD.c (Hg v5).2) 117
def Z4V:AQ:=Hd (As.mk (W64 ((W64 (30*v8))-6)) (W64 ((W64 (10*(AA v5 2).1))-6)) (W64 ((W64 (30*v8))+6)) (W64 ((W64 (10*(AA v5 2).1))+6)))
def Z4W:CT:=(42,(E5:List Av).map (Br 1000 14),wrI 14 (.cells (AD.c (Hg v5).2) 117) (tI (AA (Hg v5).2 3).1) (.cells (AD.c (AA (Hg v5).2 3).2) 117))
abbrev Z4X:AD:=(AA (AA (AA v5 2).2 3).2 3).2
def Z4Y:AQ:=LG (AC.mk (W64 (30*v8)) (W64 (10*(AA v5 2).1))) (W64 (4+(AA (AA (AA v5 2).2 3).2 3).1))
abbrev Z4Z:AD:=bif decide (((AA (AA v5 2).2 3).1:Int)=0) then (AA (AA v5 2).2 3).2 else (bif decide (((AA (AA v5 2).2 3).1:Int)=1) then (Z4X v5) else (AA (AA v5 2).2 3).2)
def Z50 (v5:AD) (v8:Int):(List AH):=bif decide (((AA (AA v5 2).2 3).1:Int)=0) then (Z4V v8 v5).Edges else (bif decide (((AA (AA v5 2).2 3).1:Int)=1) then (Z4Y v8 v5).Edges else [AH.mk 1 (AC.mk (W64 ((W64 (30*v8))-2)) (W64 (10*(AA v5 2).1))) (AC.mk (W64 ((W64 (30*v8))+2)) (W64 (10*(AA v5 2).1))) (AC.mk 0 0)])
def Z51:CT:=(42,(HZ:List Av).map (Br 1000 14),wrI 14 (.cells (AD.c (Z4Z v5)) 117) (tI (AA (Z4Z v5) 4).1) (.cells (AD.c (AA (Z4Z v5) 4).2) 117))
def Z52:CT:=(42,(Hf:List Av).map (Br 1000 14),wrI 14 (.cells (AD.c (AA (Z4Z v5) 4).2) 117) (tI (AA (AA (Z4Z v5) 4).2 2).1) (.cells (AD.c (AA (AA (Z4Z v5) 4).2 2).2) 117))
abbrev Z53:AD:=(AA (AA (Z4Z v5) 4).2 2).2
def Z54:CT:=(42,(E5:List Av).map (Br 1000 14),wrI 14 (MC v5) (tI (AA v5 3).1) (.cells (AD.c (AA v5 3).2) 117))
abbrev Z55:AD:=bif decide (((W64 (2+(AA (AD.mk l 0) 5).1)):Int)<4) then (AA v5 3).2 else v5
def Z56:CT:=(42,(Hf:List Av).map (Br 1000 14),wrI 14 (.cells (AD.c (Z55 l v5)) 117) (tI (AA (Z55 l v5) 2).1) (.cells (AD.c (AA (Z55 l v5) 2).2) 117))
def Z57:Blk:=.cells (AD.c (AA (Z55 l v5) 2).2) 117
abbrev U9:=[A5.mk 0 [Bn.mk (Ai 0) 1,Bn.mk (Ai 1) (AA (Z55 l v5) 2).1]]
def Z58:Blk:=.row 2 ((U9 l v5).length) (AL A5.c (U9 l v5)) 180
abbrev Z59:AD:=bif bif decide (((W64 (2+(AA (AD.mk l 0) 5).1)):Int)<4) then (bif decide (((W64 (2+(AA (AD.mk l 0) 5).1)):Int)<4) then decide ((0:Int)<(AA v5 3).1) else false) else (bif decide (((W64 (2+(AA (AD.mk l 0) 5).1)):Int)<4) then false else false) then (AA (Z55 l v5) 2).2 else (Z55 l v5)
def Z5a:(List A5):=bif bif decide (((W64 (2+(AA (AD.mk l 0) 5).1)):Int)<4) then (bif decide (((W64 (2+(AA (AD.mk l 0) 5).1)):Int)<4) then decide ((0:Int)<(AA v5 3).1) else false) else (bif decide (((W64 (2+(AA (AD.mk l 0) 5).1)):Int)<4) then false else false) then [A5.mk 0 [Bn.mk (Ai 0) 1,Bn.mk (Ai 1) (AA (Z55 l v5) 2).1]] else ([]:List A5)
def Z5b:CT:=(42,(E5:List Av).map (Br 1000 14),wrI 14 (.cells (AD.c (Z59 l v5)) 117) (tI (AA (Z59 l v5) 3).1) (.cells (AD.c (AA (Z59 l v5) 3).2) 117))
def Z5c:Blk:=.row 2 (Z5a l v5).length (AL A5.c (Z5a l v5)) 180
abbrev Z5d:AD:=bif decide ((4:Int)<=(W64 (2+(AA (AD.mk l 0) 5).1))) then (AA (Z59 l v5) 3).2 else (Z59 l v5)
abbrev GH:=AA (Z5d l v5) 2
def Z5e:CT:=(42,(Hf:List Av).map (Br 1000 14),wrI 14 (.cells (AD.c (Z5d l v5)) 117) (tI (GH l v5).1) (.cells (AD.c (GH l v5).2) 117))
def Z5f:Blk:=.cells (AD.c (GH l v5).2) 117
abbrev VV:=[A5.mk 1 [Bn.mk (Ai 0) (GH l v5).1,Bn.mk (Ai 1) (GH l v5).1],A5.mk 1 [Bn.mk (Ai 2) (GH l v5).1,Bn.mk (Ai 3) (GH l v5).1]]
def Z5g:Blk:=.row 2 ((VV l v5).length) (AL A5.c (VV l v5)) 180
abbrev Z5h:AD:=bif bif decide ((4:Int)<=(W64 (2+(AA (AD.mk l 0) 5).1))) then (bif decide ((4:Int)<=(W64 (2+(AA (AD.mk l 0) 5).1))) then decide ((0:Int)<(AA (Z59 l v5) 3).1) else false) else (bif decide ((4:Int)<=(W64 (2+(AA (AD.mk l 0) 5).1))) then false else false) then (AA (Z5d l v5) 2).2 else (Z5d l v5)
def Z5i:(List A5):=bif bif decide ((4:Int)<=(W64 (2+(AA (AD.mk l 0) 5).1))) then (bif decide ((4:Int)<=(W64 (2+(AA (AD.mk l 0) 5).1))) then decide ((0:Int)<(AA (Z59 l v5) 3).1) else false) else (bif decide ((4:Int)<=(W64 (2+(AA (AD.mk l 0) 5).1))) then false else false) then [A5.mk 1 [Bn.mk (Ai 0) (AA (Z5d l v5) 2).1,Bn.mk (Ai 1) (AA (Z5d l v5) 2).1],A5.mk 1 [Bn.mk (Ai 2) (AA (Z5d l v5) 2).1,Bn.mk (Ai 3) (AA (Z5d l v5) 2).1]] else (Z5a l v5)
def Z5j:CT:=(42,(Hf:List Av).map (Br 1000 14),wrI 14 (.cells (AD.c (Z5h l v5)) 117) (tI (AA (Z5h l v5) 2).1) (.cells (AD.c (AA (Z5h l v5) 2).2) 117))
def Z5k:Blk:=.row 2 (Z5i l v5).length (AL A5.c (Z5i l v5)) 180
abbrev Z5l:AD:=bif bif decide (((W64 (2+(AA (AD.mk l 0) 5).1)):Int)=6) then decide ((0:Int)<(((Z5i l v5).length:Nat):Int)) else false then (AA (Z5h l v5) 2).2 else (Z5h l v5)
def Z5m:CT:=(42,(E5:List Av).map (Br 1000 14),wrI 14 (.cells (AD.c (Z5l l v5)) 117) (tI (AA (Z5l l v5) 3).1) (.cells (AD.c (AA (Z5l l v5) 3).2) 117))
abbrev VX:=[A5.mk (AA (Z5l l v5) 3).1 [Bn.mk (Ai 5) (((Z5i l v5).getD 0 default).Legs.getD 0 default).Group,Bn.mk (Ai 4) (((Z5i l v5).getD 0 default).Legs.getD 1 default).Group]]
def Z5n:Blk:=.row 2 ((Z5i l v5)++(VX l v5)).length (AL A5.c ((Z5i l v5)++(VX l v5))) 180
def Z5o:(List A5):=bif bif bif decide (((W64 (2+(AA (AD.mk l 0) 5).1)):Int)=6) then decide ((0:Int)<(((Z5i l v5).length:Nat):Int)) else false then (bif bif decide (((W64 (2+(AA (AD.mk l 0) 5).1)):Int)=6) then decide ((0:Int)<(((Z5i l v5).length:Nat):Int)) else false then decide (((AA (Z5h l v5) 2).1:Int)=1) else false) else (bif bif decide (((W64 (2+(AA (AD.mk l 0) 5).1)):Int)=6) then decide ((0:Int)<(((Z5i l v5).length:Nat):Int)) else false then false else false) then ((Z5i l v5)++[A5.mk (AA (Z5l l v5) 3).1 [Bn.mk (Ai 5) (((Z5i l v5).getD 0 default).Legs.getD 0 default).Group,Bn.mk (Ai 4) (((Z5i l v5).getD 0 default).Legs.getD 1 default).Group]]) else (Z5i l v5)
def Z5p:Blk:=.row 2 (Z5o l v5).length (AL A5.c (Z5o l v5)) 180
def Z5q (name:ByteArray) (v6_1:List BJ) (l:(List Int)) (v5:AD):Blk:=.cells [.s name,.own 100000 7 v6_1.length,.own 100001 2 ((U9 l v5).length)] 82
def Z5r:Blk:=.cells [.s name,.own 100000 7 v6_1.length,.own 100001 2 ([]:List A5).length] 82
def Z5s (name:ByteArray) (v6_1:List BJ) (l:(List Int)) (v5:AD):Blk:=.cells [.s name,.own 100000 7 v6_1.length,.own 100001 2 (Z5a l v5).length] 82
def Z5t (name:ByteArray) (v6_1:List BJ) (l:(List Int)) (v5:AD):Blk:=.cells [.s name,.own 100000 7 v6_1.length,.own 100002 2 ((VV l v5).length)] 82
def Z5u (name:ByteArray) (v6_1:List BJ) (l:(List Int)) (v5:AD):Blk:=.cells [.s name,.own 100000 7 v6_1.length,.own 100002 2 (Z5i l v5).length] 82
def Z5v (name:ByteArray) (v6_1:List BJ) (l:(List Int)) (v5:AD):Blk:=.cells [.s name,.own 100000 7 v6_1.length,.own 100003 2 ((Z5i l v5)++(VX l v5)).length] 82
def C2 (l:(List Int)) (name:ByteArray):Nat->List BJ->AD->Int->AR
 | 0,_,_,_=>default
 | n0+1,v6_1,v5,v8=>bif decide ((v8:Int)<(W64 (2+(AA (AD.mk l 0) 5).1))) then ((C2 l name n0) (v6_1++[BJ.mk (Ai v8) (AQ.mk (bif decide (((AA (AA v5 2).2 3).1:Int)=0) then (Z4V v8 v5).Kind else (bif decide (((AA (AA v5 2).2 3).1:Int)=1) then (Z4Y v8 v5).Kind else 1)) (Z50 v5 v8) (bif decide (((AA (AA v5 2).2 3).1:Int)=0) then (Z4V v8 v5).R else (bif decide (((AA (AA v5 2).2 3).1:Int)=1) then (Z4Y v8 v5).R else 4))) (AC.mk (W64 (30*v8)) (W64 (10*(AA v5 2).1))) (W64 ((W64 (2*(AA (Z4Z v5) 4).1))*(AA (AA (Z4Z v5) 4).2 2).1))]) (Z53 v5) (v8+1)) else (AR.mk name v6_1 (Z5o l v5))
def BB (l:(List Int)) (name:ByteArray):AR:=C2 l name (((W64 (2+(AA (AD.mk l 0) 5).1))-0).toNat+1) ([]:List BJ) (AA (AD.mk l 0) 5).2 0
def Jz (l:(List Int)) (name:ByteArray):CT:=(39,[.one (lst 1 eIn l),.one (.s name)],.val [] (.av (.agg (AR.c (BB l name)))))
abbrev pN (v5:AD) (v8:Int):=(bif decide (((Hg v5).1:Int)=0) then (Z4V v8 v5).Kind else (bif decide (((Hg v5).1:Int)=1) then (Z4Y v8 v5).Kind else 1))
abbrev pM (v5:AD) (v8:Int):=(bif decide (((Hg v5).1:Int)=0) then (Z4V v8 v5).R else (bif decide (((Hg v5).1:Int)=1) then (Z4Y v8 v5).R else 4))
abbrev YB:=(v6_1++[BJ.mk (Ai v8) (AQ.mk (pN v5 v8) (Z50 v5 v8) (pM v5 v8)) (AC.mk (W64 (30*v8)) (W64 (10*(AA v5 2).1))) (W64 ((W64 (2*(AA (Z4Z v5) 4).1))*(AA (AA (Z4Z v5) 4).2 2).1))])
abbrev LK:=(bif decide (((W64 (2+(I5 l).1)):Int)=6) then decide ((0:Int)<(((Z5i l v5).length:Nat):Int)) else false)
abbrev GT:Bool:=(decide (((W64 (2+(I5 l).1)):Int)=6))
abbrev Bv (t_:List (Nat×Tv)):List (Nat×Tv):=(4,tP 4 0)::(5,tP 14 0)::(6,tP 6 0)::t_
abbrev I7:List (Nat×Tv):=(Bv [(7,Z4F l)])
abbrev QF:List (Nat×Tv):=(Bv [(7,Z4F l),(8,tI v8),(9,tP 9 0)])
abbrev Ke:Nat×Blk:=(100000,.row 7 v6_1.length (AL BJ.c v6_1) 102)
abbrev Zm:List Cl:=[.s (Ai v8),.i (pN v5 v8),lst 7 AH.c (Z50 v5 v8),.i (pM v5 v8),.i (W64 (30*v8)),.i (W64 (10*(AA v5 2).1)),.i (W64 ((W64 (2*(AA (Z4Z v5) 4).1))*(AA (AA (Z4Z v5) 4).2 2).1))]
abbrev Rx:List (Nat×Tv):=(Bv [(7,Z4F l),(8,tI 0)])
abbrev Ob:List (Nat×Tv):=[(4,tP 4 0),(6,tP 6 0)]
abbrev JB:=AA (AA v5 2).2 3
abbrev OP:Nat×Tv:=(7,tI (W64 (2+(I5 l).1)))
abbrev RX:Nat×Blk:=(14,.cells (AD.c (Z53 v5)) 117)
abbrev OM:Nat×Blk:=(14,.cells (AD.c v5) 117)
abbrev RS (name:ByteArray) (v6_1:List BJ) (l:List Int) (v5:AD) (t_:List (Nat×Blk)):List (Nat×Blk):=(4,Z4D)::(6,Z5s name v6_1 l v5)::(14,.cells (AD.c (Z59 l v5)) 117)::(100000,Z4P v6_1)::t_
abbrev RR (name:ByteArray) (v6_1:List BJ) (l:List Int) (v5:AD) (t_:List (Nat×Blk)):List (Nat×Blk):=(4,Z4D)::(6,Z5u name v6_1 l v5)::(14,.cells (AD.c (Z5h l v5)) 117)::(100000,Z4P v6_1)::t_
set_option maxHeartbeats 2000000 in
theorem iK (l:(List Int)) (name:ByteArray) (hl:(l.length:Int)<=9223372036854775807):PuP 39 (Jz l name).2.1 (.av (.agg (AR.c (BB l name)))):=by
 refine pwf Tryz.func39 fun W0 M0 => ?_
 have hd0:=Ci hl
 refine AB<|rn ⟨[(0,tO (lst 1 eIn l)),(1,tO (.s name)),(4,tP 4 0)],[(4,Z4D)]⟩<|AB ?_
 refine rn ⟨[(1,tO (.s name)),(4,tP 4 0),(5,tP 14 0)],[(4,Z4D),(14,.cells [lst 1 eIn l,.i 0] 117)]⟩<|AB ?_
 refine rn ⟨(Bv []),[(4,Z4D),(6,.cells [.s name,vN,vN] 82),(14,.cells [lst 1 eIn l,.i 0] 117)]⟩<|AB ?_
 refine rb 18 (Z4E l) (.cells [lst 1 eIn l,.i 0] 117) ⟨(I7 l),[(4,Z4D),(6,.cells [.s name,vN,vN] 82),(14,Z4G l)]⟩ (cWr (BS (AD.mk l 0) 5 au8 au10))<|AF ?_
 refine AB<|AB ?_
 refine rn ⟨(Rx l),[(4,Z4D),(6,.cells [.s name,vN,vN] 82),(14,Z4G l)]⟩<|AO ?_
 refine BI (Cv.trans (wg (⟨(Rx l),[(100000,.row 7 0 (fun _ _=>default) 102),(4,Z4D),(6,.cells [.s name,.own 100000 7 0,vN] 82),(14,Z4G l)]⟩) 100000 7 (fun _ _=>default) 102 [] [(6,[1])] hk0) (Cv.trans (A7 (⟨(Rx l),[(100000,Z4M),(4,Z4D),(6,Z4N name),(14,Z4G l)]⟩) lr (.cons ⟨rfl,Ad 102 (B3 7 (fun _ _=>default) BJ.c)⟩ (.cons ⟨rfl,.refl _⟩ (.cons ⟨rfl,.cells _ (rr (.cons (.own _ _ au2) (rr .nil)))⟩ lr)))) (Cv.trans (ck (⟨(Rx l),[(4,Z4D),(6,Z4N name),(14,Z4G l),(100000,Z4M)]⟩)) (Cv.refl _)))) ?_
 refine A0 (ι:=Nat×List BJ×AD×Int) (fun x=>⟨(Bv [(7,Z4F l),(8,tI x.2.2.2)]),[(4,Z4D),(6,.cells [.s name,.own 100000 7 x.2.1.length,vN] 82),(14,.cells (AD.c x.2.2.1) 117),(100000,.row 7 x.2.1.length (AL BJ.c x.2.1) 102)]⟩) (fun x=>((W64 (2+(AA (AD.mk l 0) 5).1))-x.2.2.2).toNat<x.1/\(Bg x.2.2.1/\0<=x.2.2.2/\(x.2.2.2<=(W64 (2+(AA (AD.mk l 0) 5).1))\/x.2.2.2=0)/\(x.2.1.length:Int)<=0+1*(x.2.2.2-0))/\C2 l name x.1 x.2.1 x.2.2.1 x.2.2.2=BB l name) (fun x=>x.1) ?_ (((W64 (2+(AA (AD.mk l 0) 5).1))-0).toNat+1,([]:List BJ),(AA (AD.mk l 0) 5).2,0) ⟨Nat.lt_succ_self _,⟨(by show Bg ((AA (AD.mk l 0) 5).2);repeat (first | with_reducible assumption | exact Ci (DP hll _) | with_reducible refine BQ ?_ | with_reducible refine En ?_ | with_reducible refine De ?_ | with_reducible refine DD ?_  | with_reducible refine Cp ?_ ?_)),ax0,ax0,ax0⟩,(by simp only [BB,cond_true,cond_false])⟩
 rintro ⟨n0,v6_1,v5,v8⟩ ⟨hm0,hinv0,hF0⟩
 try dsimp only at hm0 hinv0 hF0
 cases n0 with | zero=>exact nz hm0 | succ n0 => ?_
 have hi0_0:=hinv0.1
 refine AB<|AB ?_
 refine rn ⟨(Bv [(7,Z4F l),(8,tI v8),(22,tB (decide ((v8:Int)<(W64 (2+(AA (AD.mk l 0) 5).1)))))]),[(4,Z4D),(6,Z4O name v6_1),(OM v5),(100000,Z4P v6_1)]⟩ ?_
 refine AW _ rfl (fun h1 => ?_) (fun h1 => ?_)
 ·have g1:=oT h1
  have k1:=SZ g1 (by decide) (by decide) (by decide) (by decide)
  have kk1:=PR g1 (by decide) (by decide) (by decide) (by decide)
  refine AV<|AF ?_
  refine AB<|AO<|AB ?_
  refine rc [(26,CW v8),(30,(Z4Q v5))] [Aq (CW v8).2.1,Aq (Z4Q v5).2.1,Bt (MC v5)] ⟨(QF l v8),[(4,Z4D),(6,Z4O name v6_1),(9,Z4R v8 v5),(14,.cells (AD.c (AA v5 2).2) 117),(100000,Z4P v6_1)]⟩ (.cons (EX v8 au11) (.cons (cWr (BS v5 2 au8 au10)) .nil)) (.cons rfl (.cons rfl (.cons rfl .nil)))<|AF<|AB ?_
  refine rn ⟨(Bv [(7,Z4F l),(8,tI v8),(9,tP 9 0),(10,tP 10 0)]),[(4,Z4D),(6,Z4O name v6_1),(9,Z4R v8 v5),(10,Z4S v8 v5),(14,.cells (AD.c (AA v5 2).2) 117),(100000,Z4P v6_1)]⟩ ?_
  refine AB<|AB ?_
  refine rb 37 (Z4T v5) (ML v5) ⟨(Bv [(7,Z4F l),(8,tI v8),(9,tP 9 0),(10,tP 10 0),(37,tI (Hg v5).1)]),[(4,Z4D),(6,Z4O name v6_1),(9,Z4R v8 v5),(10,Z4S v8 v5),(14,Z4U v5),(100000,Z4P v6_1)]⟩ (cWr (BS (AA v5 2).2 3 au8 au10))<|AF ?_
  refine Bb (⟨(Bv [(OP l),(8,tI v8),(9,tP 9 0)]),[Ct,(6,.cells [.s name,.own 100000 7 v6_1.length,vN] 82),(9,.cells [.s (Ai v8),.i (bif decide (((Hg v5).1:Int)=0) then (Z4V v8 v5).Kind else (bif decide (((Hg v5).1:Int)=1) then (Z4Y v8 v5).Kind else 1)),lst 7 AH.c (Z50 v5 v8),.i (bif decide (((Hg v5).1:Int)=0) then (Z4V v8 v5).R else (bif decide (((Hg v5).1:Int)=1) then (Z4Y v8 v5).R else 4)),.i (W64 (30*v8)),.i (W64 (10*(AA v5 2).1)),.i 0] 102),(14,.cells (AD.c (Z4Z v5)) 117),(Ke v6_1)]⟩) ?_ ?_
  ·refine AO<|AB ?_
   refine rn ⟨(Bv [(7,Z4F l),(8,tI v8),(9,tP 9 0),(10,tP 10 0),(37,tI (Hg v5).1),(54,tB (decide (((AA (AA v5 2).2 3).1:Int)=0)))]),[(4,Z4D),(6,Z4O name v6_1),(9,Z4R v8 v5),(10,Z4S v8 v5),(14,Z4U v5),(100000,Z4P v6_1)]⟩ ?_
   refine AW _ rfl (fun h2 => ?_) (fun h2 => ?_)
   ·refine rs 69 (K9 (As.mk (W64 ((W64 (30*v8))-6)) (W64 ((W64 (10*(AA v5 2).1))-6)) (W64 ((W64 (30*v8))+6)) (W64 ((W64 (10*(AA v5 2).1))+6)))) ⟨(QF l v8),[(4,Z4D),(6,Z4O name v6_1),(9,.cells [.s (Ai v8),.i (Z4V v8 v5).Kind,lst 7 AH.c (Z4V v8 v5).Edges,.i (Z4V v8 v5).R,.i (W64 (30*v8)),.i (W64 (10*(AA v5 2).1)),.i 0] 102),(14,Z4U v5),(100000,Z4P v6_1)]⟩ (SP (As.mk (W64 ((W64 (30*v8))-6)) (W64 ((W64 (10*(AA v5 2).1))-6)) (W64 ((W64 (30*v8))+6)) (W64 ((W64 (10*(AA v5 2).1))+6))))<|BA<|AF ?_
    refine Aw ?_
    first | rfl | (simp only [h2,Z4Z,Z50,cond_true,cond_false] <;> rfl)
   have g2:=oF h2
   refine AB<|rn ⟨(Bv [(7,Z4F l),(8,tI v8),(9,tP 9 0),(10,tP 10 0),(71,tB (decide (((AA (AA v5 2).2 3).1:Int)=1)))]),[(4,Z4D),(6,Z4O name v6_1),(9,Z4R v8 v5),(10,Z4S v8 v5),(14,Z4U v5),(100000,Z4P v6_1)]⟩ ?_
   refine AW _ rfl (fun h3 => ?_) (fun h3 => ?_)
   ·have g3:=oT h3
    refine dw [] [(75,(Z4W v5)),(77,Mu (AC.mk (W64 (30*v8)) (W64 (10*(AA v5 2).1))) (W64 (4+(AA (Hg v5).2 3).1)))] [Aq (Z4W v5).2.1,Bt (.cells (AD.c (AA (AA v5 2).2 3).2) 117),Aq (Mu (AC.mk (W64 (30*v8)) (W64 (10*(AA v5 2).1))) (W64 (4+(AA (AA (AA v5 2).2 3).2 3).1))).2.1] ⟨(QF l v8),[(4,Z4D),(6,Z4O name v6_1),(9,.cells [.s (Ai v8),.i (Z4Y v8 v5).Kind,lst 7 AH.c (Z4Y v8 v5).Edges,.i (Z4Y v8 v5).R,.i (W64 (30*v8)),.i (W64 (10*(AA v5 2).1)),.i 0] 102),(14,.cells (AD.c (Z4X v5)) 117),(100000,Z4P v6_1)]⟩ (.cons (cWr (BS (AA (AA v5 2).2 3).2 3 au8 au10)) (.cons (XO (AC.mk (W64 (30*v8)) (W64 (10*(AA v5 2).1))) (W64 (4+(AA (AA (AA v5 2).2 3).2 3).1))) .nil)) (.cons rfl (.cons rfl (.cons rfl .nil)))<|BA<|AF ?_
    refine Aw ?_
    first | rfl | (simp only [h2,h3,Z4Z,Z50,cond_true,cond_false] <;> rfl)
   refine rg ⟨(QF l v8),[(4,Z4D),(6,Z4O name v6_1),(9,.cells [.s (Ai v8),.i 1,.list true 7 1 (Ap 7 1 [.i 1,.i (W64 ((W64 (30*v8))-2)),.i (W64 (10*(AA v5 2).1)),.i (W64 ((W64 (30*v8))+2)),.i (W64 (10*(AA v5 2).1)),.i 0,.i 0]),.i 4,.i (W64 (30*v8)),.i (W64 (10*(AA v5 2).1)),.i 0] 102),(14,Z4U v5),(100000,Z4P v6_1)]⟩<|BA<|AF ?_
   refine Cv.trans (A7 (⟨(QF l v8),[(4,Z4D),(6,Z4O name v6_1),(9,.cells [.s (Ai v8),.i 1,lst 7 AH.c [AH.mk 1 (AC.mk (W64 ((W64 (30*v8))-2)) (W64 (10*(AA v5 2).1))) (AC.mk (W64 ((W64 (30*v8))+2)) (W64 (10*(AA v5 2).1))) (AC.mk 0 0)],.i 4,.i (W64 (30*v8)),.i (W64 (10*(AA v5 2).1)),.i 0] 102),(14,Z4U v5),(100000,Z4P v6_1)]⟩) lr (.cons ⟨rfl,.refl _⟩ (.cons ⟨rfl,.refl _⟩ (.cons ⟨rfl,.cells _ (rr2 (.cons (BZ true (Al (c:=AH.c) (xs:=([AH.mk 1 (AC.mk (W64 ((W64 (30*v8))-2)) (W64 (10*(AA v5 2).1))) (AC.mk (W64 ((W64 (30*v8))+2)) (W64 (10*(AA v5 2).1))) (AC.mk 0 0)]:List AH)) rfl kr)) (rr (rr (rr (rr .nil))))))⟩ lr)))) (Aw ?_)
   first | rfl | (simp only [h2,h3,Z4Z,Z50,cond_true,cond_false] <;> rfl)
  refine AB<|rc [(80,(Z51 v5)),(83,(Z52 v5))] [Aq (Z51 v5).2.1,Bt (.cells (AD.c (Z4Z v5)) 117),Aq (Z52 v5).2.1,Bt (.cells (AD.c (AA (Z4Z v5) 4).2) 117)] ⟨(QF l v8),[(4,Z4D),(6,Z4O name v6_1),(9,.cells (Zm v8 v5) 102),(RX v5),(100000,Z4P v6_1)]⟩ (.cons (cWr (BS (Z4Z v5) 4 au8 au10)) (.cons (cWr (BS (AA (Z4Z v5) 4).2 2 au8 au10)) .nil)) (.cons rfl (.cons rfl (.cons rfl (.cons rfl .nil))))<|AF ?_
  refine rc [] [v6_1.length=v6_1.length,v6_1.length+1<=maxLen,(v6_1.length+1)*80<=140737488355328] ⟨(Bv [(7,Z4F l),(8,tI v8)]),[(4,Z4D),(6,.cells [.s name,.own 90 7 (v6_1.length+1),vN] 82),(RX v5),(90,.row 7 (v6_1.length+1) (fun i_ j_=>if i_<v6_1.length then (AL BJ.c v6_1) i_ j_ else (Ap 7 1 (Zm v8 v5)) (i_-v6_1.length) j_) 102)]⟩ .nil (.cons rfl (.cons au3 (.cons au3 .nil)))<|BA<|AF ?_
  refine BI (Cv.trans (A7 (⟨(Bv [(7,Z4F l),(8,tI v8)]),[(4,Z4D),(6,.cells [.s name,.own 90 7 (YB v6_1 v8 v5).length,vN] 82),(RX v5),(90,.row 7 (YB v6_1 v8 v5).length (AL BJ.c (YB v6_1 v8 v5)) 102)]⟩) lr (.cons ⟨rfl,.refl _⟩ (.cons ⟨rfl,.cells _ (rr (.cons (.own _ _ au2) (rr .nil)))⟩ (.cons ⟨rfl,.refl _⟩ (.cons ⟨rfl,Ad 102 (A8 (Ay 7 BJ.c v6_1) (Al (c:=BJ.c) (xs:=([BJ.mk (Ai v8) (AQ.mk (bif decide (((AA (AA v5 2).2 3).1:Int)=0) then (Z4V v8 v5).Kind else (bif decide (((AA (AA v5 2).2 3).1:Int)=1) then (Z4Y v8 v5).Kind else 1)) (Z50 v5 v8) (bif decide (((AA (AA v5 2).2 3).1:Int)=0) then (Z4V v8 v5).R else (bif decide (((AA (AA v5 2).2 3).1:Int)=1) then (Z4Y v8 v5).R else 4))) (AC.mk (W64 (30*v8)) (W64 (10*(AA v5 2).1))) (W64 ((W64 (2*(AA (Z4Z v5) 4).1))*(AA (AA (Z4Z v5) 4).2 2).1))]:List BJ)) rfl kr))⟩ .nil))))) (Cv.refl _)) ?_
  refine rg ⟨(Bv [(7,Z4F l),(8,tI (W64 (v8+1)))]),[(4,Z4D),(6,.cells [.s name,.own 90 7 (YB v6_1 v8 v5).length,vN] 82),(RX v5),(90,.row 7 (YB v6_1 v8 v5).length (AL BJ.c (YB v6_1 v8 v5)) 102)]⟩ ?_
  (try rw [(show W64 (v8+1)=v8+1 from Ah oM au5)])
  refine AF ?_
  refine ⟨(n0,v6_1++[BJ.mk (Ai v8) (AQ.mk (bif decide (((AA (AA v5 2).2 3).1:Int)=0) then (Z4V v8 v5).Kind else (bif decide (((AA (AA v5 2).2 3).1:Int)=1) then (Z4Y v8 v5).Kind else 1)) (Z50 v5 v8) (bif decide (((AA (AA v5 2).2 3).1:Int)=0) then (Z4V v8 v5).R else (bif decide (((AA (AA v5 2).2 3).1:Int)=1) then (Z4Y v8 v5).R else 4))) (AC.mk (W64 (30*v8)) (W64 (10*(AA v5 2).1))) (W64 ((W64 (2*(AA (Z4Z v5) 4).1))*(AA (AA (Z4Z v5) 4).2 2).1))],Z53 v5,v8+1),⟨?_,?_,(by rw [<- hF0];simp only [C2,h1,cond_true,cond_false])⟩,Nat.lt_succ_self _,Cv.trans (vr 90 100000 hk0) (Aw kr)⟩
  ·show ((W64 (2+(AA (AD.mk l 0) 5).1))-(v8+1)).toNat<n0;omega
  exact ⟨(by show Bg (Z53 v5);repeat (first | with_reducible assumption | exact Ci (DP hll _) | with_reducible refine BQ ?_ | with_reducible refine En ?_ | with_reducible refine De ?_ | with_reducible refine DD ?_  | with_reducible refine Cp ?_ ?_)),ax0,ax0,ax0⟩
 have g1:=oF h1
 have k1:=Sh g1 (by decide) (by decide) (by decide) (by decide)
 refine A3<|Ar ?_
 refine Ar<|A4 ?_
 refine AF<|AB<|AB ?_
 refine Bb (⟨(Bv [(OP l),(98,tB (bif decide (((W64 (2+(AA (AD.mk l 0) 5).1)):Int)<4) then (bif decide (((W64 (2+(AA (AD.mk l 0) 5).1)):Int)<4) then decide ((0:Int)<(AA v5 3).1) else false) else (bif decide (((W64 (2+(AA (AD.mk l 0) 5).1)):Int)<4) then false else false)))]),[Ct,(6,.cells [.s name,.own 100000 7 v6_1.length,vN] 82),(14,.cells (AD.c (Z55 l v5)) 117),(Ke v6_1)]⟩) ?_ ?_
 ·refine Ug (Hi l) (fun h2 => ?_) (fun h2 => ?_)
  ·have g2:=oT h2
   refine EP ?_
   refine HS DN 4 [] [] [] [4,5,6,7,94,95] [4,6,14,100000] [] ⟨(Bv [(7,Z4F l),(94,Z4H l),(95,Z4I l)]),[(4,Z4D),(6,Z4O name v6_1),(OM v5),(100000,Z4P v6_1)]⟩ .nil kr .nil ?_
   refine Pm DN 2 true ((Hi l)=true) [] [(96,(Z54 v5))] [((Hi l)=true)->((Hi l)=true),Aq (Z54 v5).2.1,Bt (MC v5)] ⟨(Bv [(7,Z4F l),(94,Z4H l),(95,Z4I l),(96,tI (AA v5 3).1)]),[(4,Z4D),(6,Z4O name v6_1),(14,.cells (AD.c (AA v5 3).2) 117),(100000,Z4P v6_1)]⟩ rfl kr h2 (.cons (cWr (BS v5 3 au8 au10)) .nil) kr (.cons id (.cons rfl (.cons rfl .nil))) ?_
   refine F8 DN [] [] [] [4,5,6,7,98] [4,6,14,100000] [(Hi l)=true->((Hi l)=true)] ⟨(Bv [(7,Z4F l),(98,tB (bif decide (((W64 (2+(I5 l).1)):Int)<4) then decide ((0:Int)<(AA v5 3).1) else false))]),[(4,Z4D),(6,Z4O name v6_1),(14,.cells (AD.c (AA v5 3).2) 117),(100000,Z4P v6_1)]⟩ .nil kr (.cons id .nil)<|AF ?_
   refine Aw ?_
   first | rfl | (simp only [h2,Z55,cond_true,cond_false] <;> rfl)
  have g2:=oF h2
  refine EP ?_
  refine HS DN 4 [] [] [] [4,5,6,7,94,95] [4,6,14,100000] [] ⟨(Bv [(7,Z4F l),(94,Z4H l),(95,Z4I l)]),[(4,Z4D),(6,Z4O name v6_1),(OM v5),(100000,Z4P v6_1)]⟩ .nil kr .nil ?_
  refine G5 2 true ((Hi l)=true) ⟨(Bv [(7,Z4F l),(94,Z4H l),(95,Z4I l),(96,.grd ((Hi l)=true) (.one (.b false)))]),[(4,Z4D),(6,Z4O name v6_1),(OM v5),(100000,Z4P v6_1)]⟩ rfl kr (fun e=>by rw [h2] at e;cases e) kr kr ?_
  refine F8 DN [] [] [] [4,5,6,7,98] [4,6,14,100000] [¬ ((Hi l)=true),(Hi l)=true->((Hi l)=true)] ⟨(Bv [(7,Z4F l),(98,tB (bif decide (((W64 (2+(I5 l).1)):Int)<4) then false else false))]),[(4,Z4D),(6,Z4O name v6_1),(OM v5),(100000,Z4P v6_1)]⟩ .nil kr (.cons (fun e=>by rw [h2] at e;cases e) (.cons id .nil))<|AF ?_
  refine Aw ?_
  first | rfl | (simp only [h2,Z55,cond_true,cond_false] <;> rfl)
 refine Bb (⟨(Bv [(OP l)]),[Ct,(6,.cells [.s name,.own 100000 7 v6_1.length,.own 100001 2 (Z5a l v5).length] 82),(14,.cells (AD.c (Z59 l v5)) 117),(Ke v6_1),(100001,.row 2 (Z5a l v5).length (AL A5.c (Z5a l v5)) 180)]⟩) ?_ ?_
 ·refine AW (bif decide (((W64 (2+(AA (AD.mk l 0) 5).1)):Int)<4) then (bif decide (((W64 (2+(AA (AD.mk l 0) 5).1)):Int)<4) then decide ((0:Int)<(AA v5 3).1) else false) else (bif decide (((W64 (2+(AA (AD.mk l 0) 5).1)):Int)<4) then false else false)) kr (fun h2 => ?_) (fun h2 => ?_)
  ·refine Dk DN [107] [] [(99,CW 0),(101,CW 1),(103,(Z56 l v5))] [4,5,6,7] [4,6,14,107,100000] [Aq (CW 0).2.1,Aq (CW 1).2.1,Aq (Z56 l v5).2.1,Bt (.cells (AD.c (Z55 l v5)) 117)] ⟨(I7 l),[(4,Z4D),(6,.cells [.s name,.own 100000 7 v6_1.length,.own 107 2 1] 82),(14,Z57 l v5),(107,.row 2 1 (Ap 2 1 [.i 0,.list true 2 2 (Ap 2 2 [.s (Ai 0),.i 1,.s (Ai 1),.i (AA (Z55 l v5) 2).1])]) 180),(100000,Z4P v6_1)]⟩ (.cons (EX 0 au11) (.cons (EX 1 au11) (.cons (cWr (BS (Z55 l v5) 2 au8 au10)) .nil))) kr (.cons rfl (.cons rfl (.cons rfl (.cons rfl .nil))))<|AF ?_
   refine Cv.trans (A7 (⟨(I7 l),[(4,Z4D),(6,.cells [.s name,.own 100000 7 v6_1.length,.own 107 2 ([A5.mk 0 [Bn.mk (Ai 0) 1,Bn.mk (Ai 1) (AA (Z55 l v5) 2).1]].length)] 82),(14,Z57 l v5),(107,Z58 l v5),(100000,Z4P v6_1)]⟩) lr (.cons ⟨rfl,.refl _⟩ (.cons ⟨rfl,.cells _ (rr2 (.cons (.own _ _ au2) .nil))⟩ (.cons ⟨rfl,.refl _⟩ (.cons ⟨rfl,Ad 180 (E7 (c:=A5.c) (xs:=([A5.mk 0 [Bn.mk (Ai 0) 1,Bn.mk (Ai 1) (AA (Z55 l v5) 2).1]]:List A5)) (y:=[[.i 0,.list true 2 2 (Ap 2 2 [.s (Ai 0),.i 1,.s (Ai 1),.i (AA (Z55 l v5) 2).1])]]) (z:=[[.i 0,lst 2 Bn.c [Bn.mk (Ai 0) 1,Bn.mk (Ai 1) (AA (Z55 l v5) 2).1]]]) rfl kr kr (.cons (rr (.cons (BZ true (Al (c:=Bn.c) (xs:=([Bn.mk (Ai 0) 1,Bn.mk (Ai 1) (AA (Z55 l v5) 2).1]:List Bn)) rfl kr)) .nil)) .nil))⟩ lr))))) (Cv.trans (vr 107 100001 hk0) (Cv.trans (ck (⟨(I7 l),[(4,Z4D),(6,Z5q name v6_1 l v5),(14,Z57 l v5),(100000,Z4P v6_1),(100001,Z58 l v5)]⟩)) (Aw ?_)))
   first | rfl | (simp only [h2,Z59,Z5a,cond_true,cond_false] <;> rfl)
  refine AV<|AF ?_
  refine Cv.trans (vk [4,5,6,7] [4,6,14,100000]) (Cv.trans (wg (⟨(I7 l),[(100001,.row 2 0 (fun _ _=>default) 180),(4,Z4D),(6,.cells [.s name,.own 100000 7 v6_1.length,.own 100001 2 0] 82),(14,.cells (AD.c (Z55 l v5)) 117),(100000,Z4P v6_1)]⟩) 100001 2 (fun _ _=>default) 180 [] [(6,[2])] hk0) (Cv.trans (A7 (⟨(I7 l),[(100001,Z4J),(4,Z4D),(6,Z5r name v6_1),(14,.cells (AD.c (Z55 l v5)) 117),(100000,Z4P v6_1)]⟩) lr (.cons ⟨rfl,Ad 180 (B3 2 (fun _ _=>default) A5.c)⟩ (.cons ⟨rfl,.refl _⟩ (.cons ⟨rfl,.cells _ (rr2 (.cons (.own _ _ au2) .nil))⟩ lr)))) (Cv.trans (ck (⟨(I7 l),[(4,Z4D),(6,Z5r name v6_1),(14,.cells (AD.c (Z55 l v5)) 117),(100000,Z4P v6_1),(100001,Z4J)]⟩)) (Aw ?_))))
  first | rfl | (simp only [h2,Z59,Z5a,cond_true,cond_false] <;> rfl)
 refine AB<|AB ?_
 refine Bb (⟨(Bv [(OP l),(115,tB (bif decide ((4:Int)<=(W64 (2+(AA (AD.mk l 0) 5).1))) then (bif decide ((4:Int)<=(W64 (2+(AA (AD.mk l 0) 5).1))) then decide ((0:Int)<(AA (Z59 l v5) 3).1) else false) else (bif decide ((4:Int)<=(W64 (2+(AA (AD.mk l 0) 5).1))) then false else false)))]),[Ct,(6,.cells [.s name,.own 100000 7 v6_1.length,.own 100001 2 (Z5a l v5).length] 82),(14,.cells (AD.c (Z5d l v5)) 117),(Ke v6_1),(100001,.row 2 (Z5a l v5).length (AL A5.c (Z5a l v5)) 180)]⟩) ?_ ?_
 ·refine Ug (Hj l) (fun h2 => ?_) (fun h2 => ?_)
  ·have g2:=oT h2
   refine EP ?_
   refine HS DN 4 [] [] [] [4,5,6,7,111,112] [4,6,14,100000,100001] [] ⟨(Bv [(7,Z4F l),(111,Z4K l),(112,Z4L l)]),(RS name v6_1 l v5 [(100001,Z5c l v5)])⟩ .nil kr .nil ?_
   refine Pm DN 2 true ((Hj l)=true) [] [(113,(Z5b l v5))] [((Hj l)=true)->((Hj l)=true),Aq (Z5b l v5).2.1,Bt (.cells (AD.c (Z59 l v5)) 117)] ⟨(Bv [(7,Z4F l),(111,Z4K l),(112,Z4L l),(113,tI (AA (Z59 l v5) 3).1)]),[(4,Z4D),(6,Z5s name v6_1 l v5),(14,.cells (AD.c (AA (Z59 l v5) 3).2) 117),(100000,Z4P v6_1),(100001,Z5c l v5)]⟩ rfl kr h2 (.cons (cWr (BS (Z59 l v5) 3 au8 au10)) .nil) kr (.cons id (.cons rfl (.cons rfl .nil))) ?_
   refine F8 DN [] [] [] [4,5,6,7,115] [4,6,14,100000,100001] [(Hj l)=true->((Hj l)=true)] ⟨(Bv [(7,Z4F l),(115,tB (bif decide ((4:Int)<=(W64 (2+(I5 l).1))) then decide ((0:Int)<(AA (Z59 l v5) 3).1) else false))]),[(4,Z4D),(6,Z5s name v6_1 l v5),(14,.cells (AD.c (AA (Z59 l v5) 3).2) 117),(100000,Z4P v6_1),(100001,Z5c l v5)]⟩ .nil kr (.cons id .nil)<|AF ?_
   refine Aw ?_
   first | rfl | (simp only [h2,Z5d,cond_true,cond_false] <;> rfl)
  have g2:=oF h2
  refine EP ?_
  refine HS DN 4 [] [] [] [4,5,6,7,111,112] [4,6,14,100000,100001] [] ⟨(Bv [(7,Z4F l),(111,Z4K l),(112,Z4L l)]),(RS name v6_1 l v5 [(100001,Z5c l v5)])⟩ .nil kr .nil ?_
  refine G5 2 true ((Hj l)=true) ⟨(Bv [(7,Z4F l),(111,Z4K l),(112,Z4L l),(113,.grd ((Hj l)=true) (.one (.b false)))]),(RS name v6_1 l v5 [(100001,Z5c l v5)])⟩ rfl kr (fun e=>by rw [h2] at e;cases e) kr kr ?_
  refine F8 DN [] [] [] [4,5,6,7,115] [4,6,14,100000,100001] [¬ ((Hj l)=true),(Hj l)=true->((Hj l)=true)] ⟨(Bv [(7,Z4F l),(115,tB (bif decide ((4:Int)<=(W64 (2+(I5 l).1))) then false else false))]),(RS name v6_1 l v5 [(100001,Z5c l v5)])⟩ .nil kr (.cons (fun e=>by rw [h2] at e;cases e) (.cons id .nil))<|AF ?_
  refine Aw ?_
  first | rfl | (simp only [h2,Z5d,cond_true,cond_false] <;> rfl)
 refine Bb (⟨(Bv [(OP l)]),[Ct,(6,.cells [.s name,.own 100000 7 v6_1.length,.own 100002 2 (Z5i l v5).length] 82),(14,.cells (AD.c (Z5h l v5)) 117),(Ke v6_1),(100002,.row 2 (Z5i l v5).length (AL A5.c (Z5i l v5)) 180)]⟩) ?_ ?_
 ·refine AW (bif decide ((4:Int)<=(W64 (2+(AA (AD.mk l 0) 5).1))) then (bif decide ((4:Int)<=(W64 (2+(AA (AD.mk l 0) 5).1))) then decide ((0:Int)<(AA (Z59 l v5) 3).1) else false) else (bif decide ((4:Int)<=(W64 (2+(AA (AD.mk l 0) 5).1))) then false else false)) kr (fun h2 => ?_) (fun h2 => ?_)
  ·refine AB<|rb 117 (Z5e l v5) (.cells (AD.c (Z5d l v5)) 117) ⟨(Bv [(7,Z4F l),(11,tI (GH l v5).1)]),[(4,Z4D),(6,Z5s name v6_1 l v5),(14,Z5f l v5),(100000,Z4P v6_1),(100001,Z5c l v5)]⟩ (cWr (BS (Z5d l v5) 2 au8 au10))<|AF ?_
   refine Dk DN [134] [] [(118,CW 0),(121,CW 1),(126,CW 2),(129,CW 3)] [4,5,6,7] [4,6,14,134,100000] [Aq (CW 0).2.1,Aq (CW 1).2.1,Aq (CW 2).2.1,Aq (CW 3).2.1] ⟨(I7 l),[(4,Z4D),(6,.cells [.s name,.own 100000 7 v6_1.length,.own 134 2 2] 82),(14,Z5f l v5),(134,.row 2 2 (Ap 2 2 [.i 1,.list true 2 2 (Ap 2 2 [.s (Ai 0),.i (GH l v5).1,.s (Ai 1),.i (GH l v5).1]),.i 1,.list true 2 2 (Ap 2 2 [.s (Ai 2),.i (GH l v5).1,.s (Ai 3),.i (GH l v5).1])]) 180),(100000,Z4P v6_1)]⟩ (.cons (EX 0 au11) (.cons (EX 1 au11) (.cons (EX 2 au11) (.cons (EX 3 au11) .nil)))) kr (.cons rfl (.cons rfl (.cons rfl (.cons rfl .nil))))<|AF ?_
   refine Cv.trans (A7 (⟨(I7 l),[(4,Z4D),(6,.cells [.s name,.own 100000 7 v6_1.length,.own 134 2 ([A5.mk 1 [Bn.mk (Ai 0) (AA (Z5d l v5) 2).1,Bn.mk (Ai 1) (AA (Z5d l v5) 2).1],A5.mk 1 [Bn.mk (Ai 2) (AA (Z5d l v5) 2).1,Bn.mk (Ai 3) (AA (Z5d l v5) 2).1]].length)] 82),(14,Z5f l v5),(134,Z5g l v5),(100000,Z4P v6_1)]⟩) lr (.cons ⟨rfl,.refl _⟩ (.cons ⟨rfl,.cells _ (rr2 (.cons (.own _ _ au2) .nil))⟩ (.cons ⟨rfl,.refl _⟩ (.cons ⟨rfl,Ad 180 (E7 (c:=A5.c) (xs:=([A5.mk 1 [Bn.mk (Ai 0) (AA (Z5d l v5) 2).1,Bn.mk (Ai 1) (AA (Z5d l v5) 2).1],A5.mk 1 [Bn.mk (Ai 2) (AA (Z5d l v5) 2).1,Bn.mk (Ai 3) (AA (Z5d l v5) 2).1]]:List A5)) (y:=[[.i 1,.list true 2 2 (Ap 2 2 [.s (Ai 0),.i (AA (Z5d l v5) 2).1,.s (Ai 1),.i (AA (Z5d l v5) 2).1])],[.i 1,.list true 2 2 (Ap 2 2 [.s (Ai 2),.i (AA (Z5d l v5) 2).1,.s (Ai 3),.i (AA (Z5d l v5) 2).1])]]) (z:=[[.i 1,lst 2 Bn.c [Bn.mk (Ai 0) (AA (Z5d l v5) 2).1,Bn.mk (Ai 1) (AA (Z5d l v5) 2).1]],[.i 1,lst 2 Bn.c [Bn.mk (Ai 2) (AA (Z5d l v5) 2).1,Bn.mk (Ai 3) (AA (Z5d l v5) 2).1]]]) rfl kr kr (.cons (rr (.cons (BZ true (Al (c:=Bn.c) (xs:=([Bn.mk (Ai 0) (AA (Z5d l v5) 2).1,Bn.mk (Ai 1) (AA (Z5d l v5) 2).1]:List Bn)) rfl kr)) .nil)) (.cons (rr (.cons (BZ true (Al (c:=Bn.c) (xs:=([Bn.mk (Ai 2) (AA (Z5d l v5) 2).1,Bn.mk (Ai 3) (AA (Z5d l v5) 2).1]:List Bn)) rfl kr)) .nil)) .nil)))⟩ lr))))) (Cv.trans (vr 134 100002 hk0) (Cv.trans (ck (⟨(I7 l),[(4,Z4D),(6,Z5t name v6_1 l v5),(14,Z5f l v5),(100000,Z4P v6_1),(100002,Z5g l v5)]⟩)) (Aw ?_)))
   first | rfl | (simp only [h2,Z5h,Z5i,cond_true,cond_false] <;> rfl)
  refine AV<|AF ?_
  refine Cv.trans (vk [4,5,6,7] [4,6,14,100000,100001]) (Cv.trans (wr (⟨(I7 l),[(4,Z4D),(6,.cells [.s name,.own 100000 7 v6_1.length,.own 100002 2 (Z5a l v5).length] 82),(14,.cells (AD.c (Z5d l v5)) 117),(100000,Z4P v6_1),(100002,Z5c l v5)]⟩) 100001 100002 hk0) (Aw ?_))
  first | rfl | (simp only [h2,Z5h,Z5i,cond_true,cond_false] <;> rfl)
 refine AB<|AB ?_
 refine Bb (⟨(Bv [(148,tB (bif bif decide (((W64 (2+(AA (AD.mk l 0) 5).1)):Int)=6) then decide ((0:Int)<(((Z5i l v5).length:Nat):Int)) else false then (bif bif decide (((W64 (2+(AA (AD.mk l 0) 5).1)):Int)=6) then decide ((0:Int)<(((Z5i l v5).length:Nat):Int)) else false then decide (((AA (Z5h l v5) 2).1:Int)=1) else false) else (bif bif decide (((W64 (2+(AA (AD.mk l 0) 5).1)):Int)=6) then decide ((0:Int)<(((Z5i l v5).length:Nat):Int)) else false then false else false)))]),[Ct,(6,.cells [.s name,.own 100000 7 v6_1.length,.own 100002 2 (Z5i l v5).length] 82),(14,.cells (AD.c (Z5l l v5)) 117),(Ke v6_1),(100002,.row 2 (Z5i l v5).length (AL A5.c (Z5i l v5)) 180)]⟩) ?_ ?_
 ·refine Ug (bif decide (((W64 (2+(AA (AD.mk l 0) 5).1)):Int)=6) then decide ((0:Int)<(((Z5i l v5).length:Nat):Int)) else false) (fun h2 => ?_) (fun h2 => ?_)
  ·have g2:=HT h2
   refine EP ?_
   refine HS DN 10 [] [] [] [4,5,6,144,145] [4,6,14,100000,100002] [((GT l)=true)->((GT l)=true),((GT l)=true)->((GT l)=true),((GT l)=true)->((GT l)=true),(GT l)=true->((GT l)=true)] ⟨(Bv [(144,tB (LK l v5)),(145,.grd ((LK l v5)=true) MK)]),(RR name v6_1 l v5 [(100002,Z5k l v5)])⟩ .nil kr (.cons id (.cons id (.cons id (.cons id .nil)))) ?_
   refine Pm DN 8 true ((bif decide (((W64 (2+(AA (AD.mk l 0) 5).1)):Int)=6) then decide ((0:Int)<(((Z5i l v5).length:Nat):Int)) else false)=true) [] [(146,(Z5j l v5))] [((bif decide (((W64 (2+(AA (AD.mk l 0) 5).1)):Int)=6) then decide ((0:Int)<(((Z5i l v5).length:Nat):Int)) else false)=true)->((bif decide (((W64 (2+(AA (AD.mk l 0) 5).1)):Int)=6) then decide ((0:Int)<(((Z5i l v5).length:Nat):Int)) else false)=true),Aq (Z5j l v5).2.1,Bt (.cells (AD.c (Z5h l v5)) 117)] ⟨(Bv [(144,tB (LK l v5)),(145,.grd ((LK l v5)=true) MK),(146,tI (AA (Z5h l v5) 2).1)]),[(4,Z4D),(6,Z5u name v6_1 l v5),(14,.cells (AD.c (AA (Z5h l v5) 2).2) 117),(100000,Z4P v6_1),(100002,Z5k l v5)]⟩ rfl kr h2 (.cons (cWr (BS (Z5h l v5) 2 au8 au10)) .nil) kr (.cons id (.cons rfl (.cons rfl .nil))) ?_
   refine F8 DN [] [] [] [4,5,6,148] [4,6,14,100000,100002] [(bif decide (((W64 (2+(AA (AD.mk l 0) 5).1)):Int)=6) then decide ((0:Int)<(((Z5i l v5).length:Nat):Int)) else false)=true->((bif decide (((W64 (2+(AA (AD.mk l 0) 5).1)):Int)=6) then decide ((0:Int)<(((Z5i l v5).length:Nat):Int)) else false)=true)] ⟨(Bv [(148,tB (bif bif decide (((W64 (2+(I5 l).1)):Int)=6) then decide ((0:Int)<(((Z5i l v5).length:Nat):Int)) else false then decide (((AA (Z5h l v5) 2).1:Int)=1) else false))]),[(4,Z4D),(6,Z5u name v6_1 l v5),(14,.cells (AD.c (AA (Z5h l v5) 2).2) 117),(100000,Z4P v6_1),(100002,Z5k l v5)]⟩ .nil kr (.cons id .nil)<|AF ?_
   refine Aw ?_
   first | rfl | (simp only [h2,Z5l,cond_true,cond_false] <;> rfl)
  refine EP ?_
  refine HS DN 10 [] [] [] [4,5,6,144,145] [4,6,14,100000,100002] [((GT l)=true)->((GT l)=true),((GT l)=true)->((GT l)=true),((GT l)=true)->((GT l)=true),(GT l)=true->((GT l)=true)] ⟨(Bv [(144,tB (LK l v5)),(145,.grd ((LK l v5)=true) MK)]),(RR name v6_1 l v5 [(100002,Z5k l v5)])⟩ .nil kr (.cons id (.cons id (.cons id (.cons id .nil)))) ?_
  refine G5 8 true ((bif decide (((W64 (2+(AA (AD.mk l 0) 5).1)):Int)=6) then decide ((0:Int)<(((Z5i l v5).length:Nat):Int)) else false)=true) ⟨(Bv [(144,tB (LK l v5)),(145,.grd ((LK l v5)=true) MK),(146,.grd ((LK l v5)=true) (.one (.b false)))]),(RR name v6_1 l v5 [(100002,Z5k l v5)])⟩ rfl kr (fun e=>by rw [h2] at e;cases e) kr kr ?_
  refine F8 DN [] [] [] [4,5,6,148] [4,6,14,100000,100002] [¬ ((bif decide (((W64 (2+(AA (AD.mk l 0) 5).1)):Int)=6) then decide ((0:Int)<(((Z5i l v5).length:Nat):Int)) else false)=true),(bif decide (((W64 (2+(AA (AD.mk l 0) 5).1)):Int)=6) then decide ((0:Int)<(((Z5i l v5).length:Nat):Int)) else false)=true->((bif decide (((W64 (2+(AA (AD.mk l 0) 5).1)):Int)=6) then decide ((0:Int)<(((Z5i l v5).length:Nat):Int)) else false)=true)] ⟨(Bv [(148,tB (bif bif decide (((W64 (2+(I5 l).1)):Int)=6) then decide ((0:Int)<(((Z5i l v5).length:Nat):Int)) else false then false else false))]),(RR name v6_1 l v5 [(100002,Z5k l v5)])⟩ .nil kr (.cons (fun e=>by rw [h2] at e;cases e) (.cons id .nil))<|AF ?_
  refine Aw ?_
  first | rfl | (simp only [h2,Z5l,cond_true,cond_false] <;> rfl)
 refine Bb (⟨Ob,[Ct,(6,.cells [.s name,.own 100000 7 v6_1.length,.own 100003 2 (Z5o l v5).length] 82),(Ke v6_1),(100003,.row 2 (Z5o l v5).length (AL A5.c (Z5o l v5)) 180)]⟩) ?_ ?_
 ·refine AW (bif bif decide (((W64 (2+(AA (AD.mk l 0) 5).1)):Int)=6) then decide ((0:Int)<(((Z5i l v5).length:Nat):Int)) else false then (bif bif decide (((W64 (2+(AA (AD.mk l 0) 5).1)):Int)=6) then decide ((0:Int)<(((Z5i l v5).length:Nat):Int)) else false then decide (((AA (Z5h l v5) 2).1:Int)=1) else false) else (bif bif decide (((W64 (2+(AA (AD.mk l 0) 5).1)):Int)=6) then decide ((0:Int)<(((Z5i l v5).length:Nat):Int)) else false then false else false)) kr (fun h2 => ?_) (fun h2 => ?_)
  ·refine dw [] [(152,(Z5m l v5)),(153,CW 5),(163,CW 4)] [Aq (Z5m l v5).2.1,Bt (.cells (AD.c (Z5l l v5)) 117),Aq (CW 5).2.1,0<=(0:Int)/\(0:Int)<(((Z5i l v5).length:Nat):Int),0<(Z5i l v5).length,0<=(0:Int)/\(0:Int)<((((Z5i l v5).getD 0 default).Legs.length:Nat):Int),Aq (CW 4).2.1,0<=(0:Int)/\(0:Int)<(((Z5i l v5).length:Nat):Int),0<(Z5i l v5).length,0<=(1:Int)/\(1:Int)<((((Z5i l v5).getD 0 default).Legs.length:Nat):Int),(Z5i l v5).length=(Z5i l v5).length,(Z5i l v5).length+1<=maxLen,((Z5i l v5).length+1)*32<=140737488355328] ⟨Ob,[(4,Z4D),(6,.cells [.s name,.own 100000 7 v6_1.length,.own 176 2 ((Z5i l v5).length+1)] 82),(176,.row 2 ((Z5i l v5).length+1) (fun i_ j_=>if i_<(Z5i l v5).length then (AL A5.c (Z5i l v5)) i_ j_ else (Ap 2 1 [.i (AA (Z5l l v5) 3).1,.list true 2 2 (Ap 2 2 [.s (Ai 5),.i (((Z5i l v5).getD 0 default).Legs.getD 0 default).Group,.s (Ai 4),.i (((Z5i l v5).getD 0 default).Legs.getD 1 default).Group])]) (i_-(Z5i l v5).length) j_) 180),(100000,Z4P v6_1)]⟩ (.cons (cWr (BS (Z5l l v5) 3 au8 au10)) (.cons (EX 5 au11) (.cons (EX 4 au11) .nil))) (.cons rfl (.cons rfl (.cons rfl (.cons ⟨by decide,(H1 (by with_reducible assumption))⟩ (.cons (XY (H1 (by with_reducible assumption))) (.cons (Xn (by decide) rfl rfl rfl (H1 (by with_reducible assumption))) (.cons rfl (.cons ⟨by decide,(H1 (by with_reducible assumption))⟩ (.cons (XY (H1 (by with_reducible assumption))) (.cons (Xn (by decide) rfl rfl rfl (H1 (by with_reducible assumption))) (.cons rfl (.cons (dJ (Qn rfl)) (.cons (dK (Qn rfl)) .nil)))))))))))))<|AF ?_
   refine Cv.trans (A7 (⟨Ob,[(4,Z4D),(6,.cells [.s name,.own 100000 7 v6_1.length,.own 176 2 ((Z5i l v5)++[A5.mk (AA (Z5l l v5) 3).1 [Bn.mk (Ai 5) (((Z5i l v5).getD 0 default).Legs.getD 0 default).Group,Bn.mk (Ai 4) (((Z5i l v5).getD 0 default).Legs.getD 1 default).Group]]).length] 82),(176,Z5n l v5),(100000,Z4P v6_1)]⟩) lr (.cons ⟨rfl,.refl _⟩ (.cons ⟨rfl,.cells _ (rr2 (.cons (.own _ _ au2) .nil))⟩ (.cons ⟨rfl,Ad 180 (A8 (Ay 2 A5.c (Z5i l v5)) (E7 (c:=A5.c) (xs:=([A5.mk (AA (Z5l l v5) 3).1 [Bn.mk (Ai 5) (((Z5i l v5).getD 0 default).Legs.getD 0 default).Group,Bn.mk (Ai 4) (((Z5i l v5).getD 0 default).Legs.getD 1 default).Group]]:List A5)) (y:=[[.i (AA (Z5l l v5) 3).1,.list true 2 2 (Ap 2 2 [.s (Ai 5),.i (((Z5i l v5).getD 0 default).Legs.getD 0 default).Group,.s (Ai 4),.i (((Z5i l v5).getD 0 default).Legs.getD 1 default).Group])]]) (z:=[[.i (AA (Z5l l v5) 3).1,lst 2 Bn.c [Bn.mk (Ai 5) (((Z5i l v5).getD 0 default).Legs.getD 0 default).Group,Bn.mk (Ai 4) (((Z5i l v5).getD 0 default).Legs.getD 1 default).Group]]]) rfl kr kr (.cons (rr (.cons (BZ true (Al (c:=Bn.c) (xs:=([Bn.mk (Ai 5) (((Z5i l v5).getD 0 default).Legs.getD 0 default).Group,Bn.mk (Ai 4) (((Z5i l v5).getD 0 default).Legs.getD 1 default).Group]:List Bn)) rfl kr)) .nil)) .nil)))⟩ lr)))) (Cv.trans (vr 176 100003 hk0) (Cv.trans (ck (⟨Ob,[(4,Z4D),(6,Z5v name v6_1 l v5),(100000,Z4P v6_1),(100003,Z5n l v5)]⟩)) (Aw ?_)))
   first | rfl | (simp only [h2,Z5o,cond_true,cond_false] <;> rfl)
  refine AV<|AF ?_
  refine Cv.trans (vk [4,6] [4,6,100000,100002]) (Cv.trans (wr (⟨Ob,[(4,Z4D),(6,.cells [.s name,.own 100000 7 v6_1.length,.own 100003 2 (Z5i l v5).length] 82),(100000,Z4P v6_1),(100003,Z5k l v5)]⟩) 100002 100003 hk0) (Aw ?_))
  first | rfl | (simp only [h2,Z5o,cond_true,cond_false] <;> rfl)
 refine AB<|rn ⟨[(4,tP 4 0)],[(4,.cells [.s name,.own 100000 7 v6_1.length,.own 100003 2 (Z5o l v5).length] 82),(100000,Z4P v6_1),(100003,Z5p l v5)]⟩<|Ab ?_
 exact yl (Cv.trans (vf 100000 7 v6_1.length (AL BJ.c v6_1) 102 hk0 (.cons ⟨rfl,rfl⟩ .nil)) (Cv.trans (vf 100003 2 (Z5o l v5).length (AL A5.c (Z5o l v5)) 180 hk0 (.cons ⟨rfl,rfl⟩ .nil)) (Cv.refl _))) (.av (.agg [.s name,lst 7 BJ.c v6_1,lst 2 A5.c (Z5o l v5)])) (Ae (by rw [<- hF0];first | (simp only [C2,h1,cond_true,cond_false] <;> rfl)))
theorem Ts (l:(List Int)) (name:ByteArray) (hl:(l.length:Int)<=9223372036854775807):OKc (Jz l name):=cPu<|iK l name hl
def J0 (x0:AC) (x1:AC):AH:=AH.mk 1 x0 x1 (AC.mk 0 0)
def Fv:CT:=(94,[.agg (AC.c x0),.agg (AC.c x1)],.val [] (.av (.agg (AH.c (J0 x0 x1)))))
theorem gZ (x0:AC) (x1:AC):PuP 94 (Fv x0 x1).2.1 (.av (.agg (AH.c (J0 x0 x1)))):=by
 refine pwf Tryz.func94 fun W0 M0 => ?_
 refine AB<|rn ⟨Kf,(ZZ x0 x1)⟩<|AB ?_
 refine rn ⟨[(4,tP 4 0)],[(4,.cells (Ri x0 x1) 68)]⟩<|Ab ?_
 exact xl (.av (.agg (Ri x0 x1))) (Ae (by rfl))
theorem LU (x0:AC) (x1:AC):OKc (Fv x0 x1):=cPu<|gZ x0 x1
def Z5w:Blk:=.cells [.i 0,vN,.i 0] 28
def Z5x:Blk:=.cells [.i 2,vN,.i 0] 28
def Z5y:Blk:=.cells [.i (W64 (r.X1-radius)),.i (W64 (r.Y0+radius)),.i (W64 (r.X1-radius)),.i (W64 (r.Y1-radius)),.i (W64 (r.X0+radius)),.i (W64 (r.Y1-radius)),.i (W64 (r.X0+radius)),.i (W64 (r.Y0+radius))] 199
def Z5z:AH:=FB (AC.mk (W64 (r.X1-radius)) (W64 (r.Y0+radius))) radius 3 2
def Z5A:AH:=FB (AC.mk (W64 (r.X1-radius)) (W64 (r.Y1-radius))) radius 4 2
def Z5B:Blk:=.cells (AH.c (Z5A r radius)) 68
def Z5C:AH:=J0 (Z5z r radius).B (Z5A r radius).A
def Z5D:Blk:=.cells [.i 2,.own 77 7 ([Z5z r radius,Z5C r radius].length),.i 0] 28
def Z5E:Blk:=.row 7 ([Z5z r radius,Z5C r radius].length) (AL AH.c [Z5z r radius,Z5C r radius]) 68
def Z5F:Blk:=.cells [.i 2,.own 100000 7 ([Z5z r radius,Z5C r radius].length),.i 0] 28
def Z5G:AH:=FB (AC.mk (W64 (r.X0+radius)) (W64 (r.Y1-radius))) radius 5 2
def Z5H:Blk:=.cells (AH.c (Z5G r radius)) 68
def Z5I:AH:=J0 (Z5A r radius).B (Z5G r radius).A
def Z5J:Blk:=.cells [.i 2,.own 77 7 ([Z5z r radius,Z5C r radius]++[Z5A r radius,Z5I r radius]).length,.i 0] 28
def Z5K:Blk:=.row 7 ([Z5z r radius,Z5C r radius]++[Z5A r radius,Z5I r radius]).length (AL AH.c ([Z5z r radius,Z5C r radius]++[Z5A r radius,Z5I r radius])) 68
def Z5L:Blk:=.cells [.i 2,.own 100001 7 ([Z5z r radius,Z5C r radius]++[Z5A r radius,Z5I r radius]).length,.i 0] 28
def Z5M:AH:=FB (AC.mk (W64 (r.X0+radius)) (W64 (r.Y0+radius))) radius 6 2
def Z5N:Blk:=.cells (AH.c (Z5M r radius)) 68
def Z5O:AH:=J0 (Z5G r radius).B (Z5M r radius).A
def Z5P:Blk:=.cells [.i 2,.own 77 7 (([Z5z r radius,Z5C r radius]++[Z5A r radius,Z5I r radius])++[Z5G r radius,Z5O r radius]).length,.i 0] 28
abbrev Zb:=AL AH.c (([Z5z r radius,Z5C r radius]++[Z5A r radius,Z5I r radius])++[Z5G r radius,Z5O r radius])
def Z5Q:Blk:=.row 7 (([Z5z r radius,Z5C r radius]++[Z5A r radius,Z5I r radius])++[Z5G r radius,Z5O r radius]).length (Zb r radius) 68
def Z5R:Blk:=.cells [.i 2,.own 100002 7 (([Z5z r radius,Z5C r radius]++[Z5A r radius,Z5I r radius])++[Z5G r radius,Z5O r radius]).length,.i 0] 28
def Z5S:AH:=FB (AC.mk (W64 (r.X1-radius)) (W64 (r.Y0+radius))) radius 7 2
def Z5T:AH:=J0 (Z5M r radius).B (Z5S r radius).A
def Z5U:Blk:=.cells [.i 2,.own 77 7 ((([Z5z r radius,Z5C r radius]++[Z5A r radius,Z5I r radius])++[Z5G r radius,Z5O r radius])++[Z5M r radius,Z5T r radius]).length,.i 0] 28
def Z5V:Blk:=.row 7 ((([Z5z r radius,Z5C r radius]++[Z5A r radius,Z5I r radius])++[Z5G r radius,Z5O r radius])++[Z5M r radius,Z5T r radius]).length (AL AH.c ((([Z5z r radius,Z5C r radius]++[Z5A r radius,Z5I r radius])++[Z5G r radius,Z5O r radius])++[Z5M r radius,Z5T r radius])) 68
def Z5W:Blk:=.cells [.i 2,.own 100003 7 ((([Z5z r radius,Z5C r radius]++[Z5A r radius,Z5I r radius])++[Z5G r radius,Z5O r radius])++[Z5M r radius,Z5T r radius]).length,.i 0] 28
def Gh (r:As) (radius:Int):AQ:=AQ.mk 2 ((([Z5z r radius,Z5C r radius]++[Z5A r radius,Z5I r radius])++[Z5G r radius,Z5O r radius])++[Z5M r radius,Z5T r radius]) 0
def Mt:CT:=(43,[.agg (As.c r),.one (.i radius)],.val [] (.av (.agg (AQ.c (Gh r radius)))))
abbrev Df (t_:List (Nat×Tv)):List (Nat×Tv):=(1,tI radius)::(4,tP 4 0)::(5,tP 5 0)::(6,tP 6 0)::t_
abbrev Rq:List (Nat×Tv):=(Df radius [(7,tI 1)])
abbrev Rp:List (Nat×Tv):=(Df radius [(7,tI 2)])
abbrev Ro:List (Nat×Tv):=(Df radius [(7,tI 3)])
abbrev U8:List (Nat×Tv):=(Df radius [(7,tI 0)])
theorem YX (r:As) (radius:Int):PuP 43 (Mt r radius).2.1 (.av (.agg (AQ.c (Gh r radius)))):=by
 refine pwf Tryz.func43 fun W0 M0 => ?_
 refine AB<|rn ⟨[(1,tI radius),(2,tP 2 0),(4,tP 4 0)],[(2,.cells (As.c r) 90),(4,Z5w)]⟩<|AB ?_
 refine rn ⟨[(1,tI radius),(2,tP 2 0),(4,tP 4 0),(5,tP 5 0)],[(2,.cells (As.c r) 90),(4,Z5w),(5,Z5x)]⟩<|AB ?_
 refine rn ⟨(Df radius []),[(4,Z5w),(5,Z5x),(6,Z5y r radius)]⟩ ?_
 refine AB<|AB ?_
 refine rn ⟨(U8 radius),[(4,Z5w),(5,Z5x),(6,Z5y r radius)]⟩<|AO ?_
 refine Ea 5 ?_
 refine Bf<|AB<|AB ?_
 refine rn ⟨(Df radius [(7,tI 0),(49,tB true)]),[(4,Z5w),(5,Z5x),(6,Z5y r radius)]⟩ ?_
 refine Bj kr<|AV ?_
 refine AF<|AB ?_
 refine AO<|AB ?_
 refine rc [(58,CE (AC.mk (W64 (r.X1-radius)) (W64 (r.Y0+radius))) radius 3 2)] [0<=(0:Int)/\(0:Int)<(4:Int),Aq (CE (AC.mk (W64 (r.X1-radius)) (W64 (r.Y0+radius))) radius 3 2).2.1] ⟨(Df radius [(7,tI 0),(8,tP 8 0)]),[(4,Z5w),(5,Z5x),(6,Z5y r radius),(8,.cells (AH.c (Z5z r radius)) 68)]⟩ (.cons (Dv (AC.mk (W64 (r.X1-radius)) (W64 (r.Y0+radius))) radius 3 2) .nil) (.cons (by decide) (.cons rfl .nil))<|AF<|AB ?_
 refine rc [(67,CE (AC.mk (W64 (r.X1-radius)) (W64 (r.Y1-radius))) radius 4 2)] [(4:Int)≠0,0<=(1:Int)/\(1:Int)<(4:Int),Aq (CE (AC.mk (W64 (r.X1-radius)) (W64 (r.Y1-radius))) radius 4 2).2.1] ⟨(Df radius [(7,tI 0),(8,tP 8 0),(9,tP 9 0)]),[(4,Z5w),(5,Z5x),(6,Z5y r radius),(8,.cells (AH.c (Z5z r radius)) 68),(9,Z5B r radius)]⟩ (.cons (Dv (AC.mk (W64 (r.X1-radius)) (W64 (r.Y1-radius))) radius 4 2) .nil) (.cons au17 (.cons (by decide) (.cons rfl .nil)))<|AF ?_
 refine dw [] [(75,Fv (Z5z r radius).B (Z5A r radius).A)] [Aq (Fv (Z5z r radius).B (Z5A r radius).A).2.1,2<=maxLen,2*56<=140737488355328] ⟨(U8 radius),[(4,Z5w),(5,.cells [.i 2,.own 77 7 2,.i 0] 28),(6,Z5y r radius),(77,.row 7 2 (Ap 7 2 [.i (Z5z r radius).Kind,.i (Z5z r radius).A.X,.i (Z5z r radius).A.Y,.i (Z5z r radius).B.X,.i (Z5z r radius).B.Y,.i (Z5z r radius).C.X,.i (Z5z r radius).C.Y,.i (Z5C r radius).Kind,.i (Z5C r radius).A.X,.i (Z5C r radius).A.Y,.i (Z5C r radius).B.X,.i (Z5C r radius).B.Y,.i (Z5C r radius).C.X,.i (Z5C r radius).C.Y]) 68)]⟩ (.cons (LU (Z5z r radius).B (Z5A r radius).A) .nil) (.cons rfl (.cons au3 (.cons au3 .nil)))<|BA<|AF ?_
 refine BI (Cv.trans (A7 (⟨(U8 radius),[(4,Z5w),(5,Z5D r radius),(6,Z5y r radius),(77,Z5E r radius)]⟩) lr (.cons ⟨rfl,.refl _⟩ (.cons ⟨rfl,.cells _ (rr (.cons (.own _ _ au2) (rr .nil)))⟩ (.cons ⟨rfl,.refl _⟩ (.cons ⟨rfl,Ad 68 (Al (c:=AH.c) (xs:=([Z5z r radius,Z5C r radius]:List AH)) rfl kr)⟩ .nil))))) (Cv.refl _)) ?_
 refine rn ⟨(Rq radius),[(4,Z5w),(5,Z5D r radius),(6,Z5y r radius),(77,Z5E r radius)]⟩ ?_
 refine Bf ?_
 refine BI (Cv.trans (wr (⟨(Rq radius),[(4,Z5w),(5,Z5F r radius),(6,Z5y r radius),(100000,Z5E r radius)]⟩) 77 100000 hk0) (Cv.refl _))<|AB<|AB ?_
 refine rn ⟨(Df radius [(7,tI 1),(49,tB true)]),[(4,Z5w),(5,Z5F r radius),(6,Z5y r radius),(100000,Z5E r radius)]⟩ ?_
 refine Bj kr<|AV ?_
 refine AF<|AB ?_
 refine AO<|AB ?_
 refine rc [(58,CE (AC.mk (W64 (r.X1-radius)) (W64 (r.Y1-radius))) radius 4 2)] [0<=(1:Int)/\(1:Int)<(4:Int),Aq (CE (AC.mk (W64 (r.X1-radius)) (W64 (r.Y1-radius))) radius 4 2).2.1] ⟨(Df radius [(7,tI 1),(8,tP 8 0)]),[(4,Z5w),(5,Z5F r radius),(6,Z5y r radius),(8,Z5B r radius),(100000,Z5E r radius)]⟩ (.cons (Dv (AC.mk (W64 (r.X1-radius)) (W64 (r.Y1-radius))) radius 4 2) .nil) (.cons (by decide) (.cons rfl .nil))<|AF<|AB ?_
 refine rc [(67,CE (AC.mk (W64 (r.X0+radius)) (W64 (r.Y1-radius))) radius 5 2)] [(4:Int)≠0,0<=(2:Int)/\(2:Int)<(4:Int),Aq (CE (AC.mk (W64 (r.X0+radius)) (W64 (r.Y1-radius))) radius 5 2).2.1] ⟨(Df radius [(7,tI 1),(8,tP 8 0),(9,tP 9 0)]),[(4,Z5w),(5,Z5F r radius),(6,Z5y r radius),(8,Z5B r radius),(9,Z5H r radius),(100000,Z5E r radius)]⟩ (.cons (Dv (AC.mk (W64 (r.X0+radius)) (W64 (r.Y1-radius))) radius 5 2) .nil) (.cons au17 (.cons (by decide) (.cons rfl .nil)))<|AF ?_
 refine dw [] [(75,Fv (Z5A r radius).B (Z5G r radius).A)] [Aq (Fv (Z5A r radius).B (Z5G r radius).A).2.1,[Z5z r radius,Z5C r radius].length=[Z5z r radius,Z5C r radius].length,([Z5z r radius,Z5C r radius].length)+2<=maxLen,(([Z5z r radius,Z5C r radius].length)+2)*56<=140737488355328] ⟨(Rq radius),[(4,Z5w),(5,.cells [.i 2,.own 77 7 (([Z5z r radius,Z5C r radius].length)+2),.i 0] 28),(6,Z5y r radius),(77,.row 7 (([Z5z r radius,Z5C r radius].length)+2) (fun i_ j_=>if i_<([Z5z r radius,Z5C r radius].length) then (AL AH.c [Z5z r radius,Z5C r radius]) i_ j_ else (Ap 7 2 [.i (Z5A r radius).Kind,.i (Z5A r radius).A.X,.i (Z5A r radius).A.Y,.i (Z5A r radius).B.X,.i (Z5A r radius).B.Y,.i (Z5A r radius).C.X,.i (Z5A r radius).C.Y,.i (Z5I r radius).Kind,.i (Z5I r radius).A.X,.i (Z5I r radius).A.Y,.i (Z5I r radius).B.X,.i (Z5I r radius).B.Y,.i (Z5I r radius).C.X,.i (Z5I r radius).C.Y]) (i_-([Z5z r radius,Z5C r radius].length)) j_) 68)]⟩ (.cons (LU (Z5A r radius).B (Z5G r radius).A) .nil) (.cons rfl (.cons rfl (.cons au3 (.cons au3 .nil))))<|BA<|AF ?_
 refine BI (Cv.trans (A7 (⟨(Rq radius),[(4,Z5w),(5,Z5J r radius),(6,Z5y r radius),(77,Z5K r radius)]⟩) lr (.cons ⟨rfl,.refl _⟩ (.cons ⟨rfl,.cells _ (rr (.cons (.own _ _ au2) (rr .nil)))⟩ (.cons ⟨rfl,.refl _⟩ (.cons ⟨rfl,Ad 68 (A8 (Ay 7 AH.c [Z5z r radius,Z5C r radius]) (Al (c:=AH.c) (xs:=([Z5A r radius,Z5I r radius]:List AH)) rfl kr))⟩ .nil))))) (Cv.refl _)) ?_
 refine rn ⟨(Rp radius),[(4,Z5w),(5,Z5J r radius),(6,Z5y r radius),(77,Z5K r radius)]⟩ ?_
 refine Bf ?_
 refine BI (Cv.trans (wr (⟨(Rp radius),[(4,Z5w),(5,Z5L r radius),(6,Z5y r radius),(100001,Z5K r radius)]⟩) 77 100001 hk0) (Cv.refl _))<|AB<|AB ?_
 refine rn ⟨(Df radius [(7,tI 2),(49,tB true)]),[(4,Z5w),(5,Z5L r radius),(6,Z5y r radius),(100001,Z5K r radius)]⟩ ?_
 refine Bj kr<|AV ?_
 refine AF<|AB ?_
 refine AO<|AB ?_
 refine rc [(58,CE (AC.mk (W64 (r.X0+radius)) (W64 (r.Y1-radius))) radius 5 2)] [0<=(2:Int)/\(2:Int)<(4:Int),Aq (CE (AC.mk (W64 (r.X0+radius)) (W64 (r.Y1-radius))) radius 5 2).2.1] ⟨(Df radius [(7,tI 2),(8,tP 8 0)]),[(4,Z5w),(5,Z5L r radius),(6,Z5y r radius),(8,Z5H r radius),(100001,Z5K r radius)]⟩ (.cons (Dv (AC.mk (W64 (r.X0+radius)) (W64 (r.Y1-radius))) radius 5 2) .nil) (.cons (by decide) (.cons rfl .nil))<|AF<|AB ?_
 refine rc [(67,CE (AC.mk (W64 (r.X0+radius)) (W64 (r.Y0+radius))) radius 6 2)] [(4:Int)≠0,0<=(3:Int)/\(3:Int)<(4:Int),Aq (CE (AC.mk (W64 (r.X0+radius)) (W64 (r.Y0+radius))) radius 6 2).2.1] ⟨(Df radius [(7,tI 2),(8,tP 8 0),(9,tP 9 0)]),[(4,Z5w),(5,Z5L r radius),(6,Z5y r radius),(8,Z5H r radius),(9,Z5N r radius),(100001,Z5K r radius)]⟩ (.cons (Dv (AC.mk (W64 (r.X0+radius)) (W64 (r.Y0+radius))) radius 6 2) .nil) (.cons au17 (.cons (by decide) (.cons rfl .nil)))<|AF ?_
 refine dw [] [(75,Fv (Z5G r radius).B (Z5M r radius).A)] [Aq (Fv (Z5G r radius).B (Z5M r radius).A).2.1,([Z5z r radius,Z5C r radius]++[Z5A r radius,Z5I r radius]).length=([Z5z r radius,Z5C r radius]++[Z5A r radius,Z5I r radius]).length,([Z5z r radius,Z5C r radius]++[Z5A r radius,Z5I r radius]).length+2<=maxLen,(([Z5z r radius,Z5C r radius]++[Z5A r radius,Z5I r radius]).length+2)*56<=140737488355328] ⟨(Rp radius),[(4,Z5w),(5,.cells [.i 2,.own 77 7 (([Z5z r radius,Z5C r radius]++[Z5A r radius,Z5I r radius]).length+2),.i 0] 28),(6,Z5y r radius),(77,.row 7 (([Z5z r radius,Z5C r radius]++[Z5A r radius,Z5I r radius]).length+2) (fun i_ j_=>if i_<([Z5z r radius,Z5C r radius]++[Z5A r radius,Z5I r radius]).length then (AL AH.c ([Z5z r radius,Z5C r radius]++[Z5A r radius,Z5I r radius])) i_ j_ else (Ap 7 2 [.i (Z5G r radius).Kind,.i (Z5G r radius).A.X,.i (Z5G r radius).A.Y,.i (Z5G r radius).B.X,.i (Z5G r radius).B.Y,.i (Z5G r radius).C.X,.i (Z5G r radius).C.Y,.i (Z5O r radius).Kind,.i (Z5O r radius).A.X,.i (Z5O r radius).A.Y,.i (Z5O r radius).B.X,.i (Z5O r radius).B.Y,.i (Z5O r radius).C.X,.i (Z5O r radius).C.Y]) (i_-([Z5z r radius,Z5C r radius]++[Z5A r radius,Z5I r radius]).length) j_) 68)]⟩ (.cons (LU (Z5G r radius).B (Z5M r radius).A) .nil) (.cons rfl (.cons rfl (.cons au3 (.cons au3 .nil))))<|BA<|AF ?_
 refine BI (Cv.trans (A7 (⟨(Rp radius),[(4,Z5w),(5,Z5P r radius),(6,Z5y r radius),(77,Z5Q r radius)]⟩) lr (.cons ⟨rfl,.refl _⟩ (.cons ⟨rfl,.cells _ (rr (.cons (.own _ _ au2) (rr .nil)))⟩ (.cons ⟨rfl,.refl _⟩ (.cons ⟨rfl,Ad 68 (A8 (Ay 7 AH.c ([Z5z r radius,Z5C r radius]++[Z5A r radius,Z5I r radius])) (Al (c:=AH.c) (xs:=([Z5G r radius,Z5O r radius]:List AH)) rfl kr))⟩ .nil))))) (Cv.refl _)) ?_
 refine rn ⟨(Ro radius),[(4,Z5w),(5,Z5P r radius),(6,Z5y r radius),(77,Z5Q r radius)]⟩ ?_
 refine Bf ?_
 refine BI (Cv.trans (wr (⟨(Ro radius),[(4,Z5w),(5,Z5R r radius),(6,Z5y r radius),(100002,Z5Q r radius)]⟩) 77 100002 hk0) (Cv.refl _))<|AB<|AB ?_
 refine rn ⟨(Df radius [(7,tI 3),(49,tB true)]),[(4,Z5w),(5,Z5R r radius),(6,Z5y r radius),(100002,Z5Q r radius)]⟩ ?_
 refine Bj kr<|AV ?_
 refine AF<|AB ?_
 refine AO<|AB ?_
 refine rc [(58,CE (AC.mk (W64 (r.X0+radius)) (W64 (r.Y0+radius))) radius 6 2)] [0<=(3:Int)/\(3:Int)<(4:Int),Aq (CE (AC.mk (W64 (r.X0+radius)) (W64 (r.Y0+radius))) radius 6 2).2.1] ⟨(Df radius [(7,tI 3),(8,tP 8 0)]),[(4,Z5w),(5,Z5R r radius),(6,Z5y r radius),(8,Z5N r radius),(100002,Z5Q r radius)]⟩ (.cons (Dv (AC.mk (W64 (r.X0+radius)) (W64 (r.Y0+radius))) radius 6 2) .nil) (.cons (by decide) (.cons rfl .nil))<|AF<|AB ?_
 refine rc [(67,CE (AC.mk (W64 (r.X1-radius)) (W64 (r.Y0+radius))) radius 7 2)] [(4:Int)≠0,0<=(0:Int)/\(0:Int)<(4:Int),Aq (CE (AC.mk (W64 (r.X1-radius)) (W64 (r.Y0+radius))) radius 7 2).2.1] ⟨(Df radius [(7,tI 3),(8,tP 8 0),(9,tP 9 0)]),[(4,Z5w),(5,Z5R r radius),(6,Z5y r radius),(8,Z5N r radius),(9,.cells (AH.c (Z5S r radius)) 68),(100002,Z5Q r radius)]⟩ (.cons (Dv (AC.mk (W64 (r.X1-radius)) (W64 (r.Y0+radius))) radius 7 2) .nil) (.cons au17 (.cons (by decide) (.cons rfl .nil)))<|AF ?_
 refine dw [] [(75,Fv (Z5M r radius).B (Z5S r radius).A)] [Aq (Fv (Z5M r radius).B (Z5S r radius).A).2.1,(([Z5z r radius,Z5C r radius]++[Z5A r radius,Z5I r radius])++[Z5G r radius,Z5O r radius]).length=(([Z5z r radius,Z5C r radius]++[Z5A r radius,Z5I r radius])++[Z5G r radius,Z5O r radius]).length,(([Z5z r radius,Z5C r radius]++[Z5A r radius,Z5I r radius])++[Z5G r radius,Z5O r radius]).length+2<=maxLen,((([Z5z r radius,Z5C r radius]++[Z5A r radius,Z5I r radius])++[Z5G r radius,Z5O r radius]).length+2)*56<=140737488355328] ⟨(Ro radius),[(4,Z5w),(5,.cells [.i 2,.own 77 7 ((([Z5z r radius,Z5C r radius]++[Z5A r radius,Z5I r radius])++[Z5G r radius,Z5O r radius]).length+2),.i 0] 28),(6,Z5y r radius),(77,.row 7 ((([Z5z r radius,Z5C r radius]++[Z5A r radius,Z5I r radius])++[Z5G r radius,Z5O r radius]).length+2) (fun i_ j_=>if i_<(([Z5z r radius,Z5C r radius]++[Z5A r radius,Z5I r radius])++[Z5G r radius,Z5O r radius]).length then (Zb r radius) i_ j_ else (Ap 7 2 [.i (Z5M r radius).Kind,.i (Z5M r radius).A.X,.i (Z5M r radius).A.Y,.i (Z5M r radius).B.X,.i (Z5M r radius).B.Y,.i (Z5M r radius).C.X,.i (Z5M r radius).C.Y,.i (Z5T r radius).Kind,.i (Z5T r radius).A.X,.i (Z5T r radius).A.Y,.i (Z5T r radius).B.X,.i (Z5T r radius).B.Y,.i (Z5T r radius).C.X,.i (Z5T r radius).C.Y]) (i_-(([Z5z r radius,Z5C r radius]++[Z5A r radius,Z5I r radius])++[Z5G r radius,Z5O r radius]).length) j_) 68)]⟩ (.cons (LU (Z5M r radius).B (Z5S r radius).A) .nil) (.cons rfl (.cons rfl (.cons au3 (.cons au3 .nil))))<|BA<|AF ?_
 refine BI (Cv.trans (A7 (⟨(Ro radius),[(4,Z5w),(5,Z5U r radius),(6,Z5y r radius),(77,Z5V r radius)]⟩) lr (.cons ⟨rfl,.refl _⟩ (.cons ⟨rfl,.cells _ (rr (.cons (.own _ _ au2) (rr .nil)))⟩ (.cons ⟨rfl,.refl _⟩ (.cons ⟨rfl,Ad 68 (A8 (Ay 7 AH.c (([Z5z r radius,Z5C r radius]++[Z5A r radius,Z5I r radius])++[Z5G r radius,Z5O r radius])) (Al (c:=AH.c) (xs:=([Z5M r radius,Z5T r radius]:List AH)) rfl kr))⟩ .nil))))) (Cv.refl _)) ?_
 refine rn ⟨(Df radius [(7,tI 4)]),[(4,Z5w),(5,Z5U r radius),(6,Z5y r radius),(77,Z5V r radius)]⟩ ?_
 refine Bf ?_
 refine BI (Cv.trans (wr (⟨(Df radius [(7,tI 4)]),[(4,Z5w),(5,Z5W r radius),(6,Z5y r radius),(100003,Z5V r radius)]⟩) 77 100003 hk0) (Cv.refl _))<|AB<|AB ?_
 refine rn ⟨(Df radius [(7,tI 4),(49,tB false)]),[(4,Z5w),(5,Z5W r radius),(6,Z5y r radius),(100003,Z5V r radius)]⟩ ?_
 refine D5 kr<|A3 ?_
 refine Ar<|Ar ?_
 refine A4<|AF<|AB ?_
 refine rn ⟨[(4,tP 4 0)],[(4,Z5W r radius),(100003,Z5V r radius)]⟩<|Ab ?_
 exact yl (Cv.trans (vf 100003 7 ((([Z5z r radius,Z5C r radius]++[Z5A r radius,Z5I r radius])++[Z5G r radius,Z5O r radius])++[Z5M r radius,Z5T r radius]).length (AL AH.c ((([Z5z r radius,Z5C r radius]++[Z5A r radius,Z5I r radius])++[Z5G r radius,Z5O r radius])++[Z5M r radius,Z5T r radius])) 68 hk0 (.cons ⟨rfl,rfl⟩ .nil)) (Cv.refl _)) (.av (.agg [.i 2,lst 7 AH.c ((([Z5z r radius,Z5C r radius]++[Z5A r radius,Z5I r radius])++[Z5G r radius,Z5O r radius])++[Z5M r radius,Z5T r radius]),.i 0])) (Ae (by rfl))
theorem V8 (r:As) (radius:Int):OKc (Mt r radius):=cPu<|YX r radius
end
section
open Go.RowKit
theorem Qd (l:List Int) (name:ByteArray):∀ (n:Nat) (v:List BJ) (d:AD) (k:Int),0<=k->k<=W64 (2+(AA (AD.mk l 0) 5).1)->((W64 (2+(AA (AD.mk l 0) 5).1))-k).toNat<n ->
  (C2 l name n v d k).Name=name/\((C2 l name n v d k).Pads.length:Int)=v.length+(W64 (2+(AA (AD.mk l 0) 5).1)-k)
 | 0,v,d,k,_,_,h=>absurd h (Nat.not_lt_zero _)
 | n+1,v,d,k,h0,h1,h2=>by
  unfold C2
  by_cases h:k<W64 (2+(AA (AD.mk l 0) 5).1)
  ·simp only [h,decide_true,cond_true]
   obtain ⟨e1,e2⟩:=Qd l name n (v++[_]) _ (k+1) (by omega) (by omega) (by omega)
   refine ⟨e1,e2.trans ?_⟩
   simp only [List.length_append,List.length_cons,List.length_nil]
   omega
  simp only [h,decide_false,cond_false]
  refine ⟨by first | trivial | rfl,?_⟩
  show (v.length:Int)=_
  omega
theorem Fa (l:List Int) (name:ByteArray):(BB l name).Name=name/\2<=((BB l name).Pads.length:Int)/\((BB l name).Pads.length:Int)<=6:=by
 have hn:=DM (AD.mk l 0) 5 (by decide) (by decide)
 have hw:W64 (2+(AA (AD.mk l 0) 5).1)=2+(AA (AD.mk l 0) 5).1:=Ah (by omega) (by omega)
 obtain ⟨e1,e2⟩:=Qd l name (((W64 (2+(AA (AD.mk l 0) 5).1))-0).toNat+1) [] (AA (AD.mk l 0) 5).2 0 (by omega) (by omega) (by omega)
 refine ⟨e1,?_⟩
 unfold BB
 rw [e2,hw]
 simp only [List.length_nil]
 omega
theorem Qm {a c:AR}:BX [a,c] a.Name=(a,true):=by
 unfold BX Do
 simp [Z14]
theorem Qk {a c:AR} (h:¬ a.Name.toList=c.Name.toList):BX [a,c] c.Name=(c,true):=by
 have hb:(a.Name.toList==c.Name.toList)=false:=by simp [h]
 unfold BX Do
 simp [Do,Z14,hb]
def Pp (types:List AR) (xs:List AE):Prop:=∀ k:Int,0<=k->k<(xs.length:Int)->1<=((BX types (xs.getD k.toNat default).Type').1.Pads.length:Int)/\((BX types (xs.getD k.toNat default).Type').1.Pads.length:Int)<=6
theorem XF {types:List AR}:Pp types ([]:List AE):=fun k h0 h1=>absurd h1 (by simp only [List.length_nil];omega)
theorem XG {types:List AR} {xs:List AE} {p:AE} (h:Pp types xs) (hp:1<=((BX types p.Type').1.Pads.length:Int)/\((BX types p.Type').1.Pads.length:Int)<=6):Pp types (xs++[p]):=by
 intro k h0 h1
 simp only [List.length_append,List.length_cons,List.length_nil] at h1
 by_cases hk:k.toNat<xs.length
 ·rw [List.getD_eq_getElem?_getD,List.getElem?_append_left hk,<- List.getD_eq_getElem?_getD]
  exact h k h0 oM
 rw [List.getD_eq_getElem?_getD,List.getElem?_append_right oM,show k.toNat-xs.length=0 by omega]
 exact hp
theorem QN (a c:List Int) (i:Int) (hi:0<=i/\i<2):1<=((BX [BB a { data := #[82] },BB c { data := #[81] }] (([BB a { data := #[82] },BB c { data := #[81] }]:List AR).getD i.toNat default).Name).1.Pads.length:Int)/\((BX [BB a { data := #[82] },BB c { data := #[81] }] (([BB a { data := #[82] },BB c { data := #[81] }]:List AR).getD i.toNat default).Name).1.Pads.length:Int)<=6:=by
 have ha:=Fa a { data := #[82] }
 have hc:=Fa c { data := #[81] }
 have h01:i=0\/i=1:=by omega
 rcases h01 with rfl | rfl
 ·show 1<=((BX [BB a { data := #[82] },BB c { data := #[81] }] (BB a { data := #[82] }).Name).1.Pads.length:Int)/\((BX [BB a { data := #[82] },BB c { data := #[81] }] (BB a { data := #[82] }).Name).1.Pads.length:Int)<=6
  rw [Qm]
  exact ⟨by show 1<=((BB a { data := #[82] }).Pads.length:Int);omega,ha.2.2⟩
 show 1<=((BX [BB a { data := #[82] },BB c { data := #[81] }] (BB c { data := #[81] }).Name).1.Pads.length:Int)/\((BX [BB a { data := #[82] },BB c { data := #[81] }] (BB c { data := #[81] }).Name).1.Pads.length:Int)<=6
 rw [Qk (by rw [ha.1,hc.1];decide +kernel)]
 exact ⟨by show 1<=((BB c { data := #[81] }).Pads.length:Int);omega,hc.2.2⟩
theorem Yh {d:AD} (h:(AA d 5).1<3) (h0:¬ (AA d 5).1=0) (h1:¬ (AA d 5).1=1):(AA d 5).1=2:=by
 have:=DM d 5 (by decide) (by decide)
 omega
theorem aV {b:AG} {types:List AR} (h:Pp types b.Parts):N6 b types:=fun k h0 h1=>(h k h0 h1).1
def DA (v:List Ak) (m:Int):Prop:=(v.length:Int)<=m
theorem Ev {α:Type} {c:Bool} {a b:List α} {m:Int} (ha:(a.length:Int)<=m) (hb:(b.length:Int)<=m):((bif c then a else b).length:Int)<=m:=by cases c <;> assumption
theorem Ew {α:Type} {a:List α} {x:α} {m:Int} (h:(a.length:Int)+1<=m):((a++[x]).length:Int)<=m:=by simp only [List.length_append,List.length_cons,List.length_nil];omega
theorem mA {d:AD} {a c:AR}:0<=(AA d 2).1/\(AA d 2).1<((([a,c]:List AR).length:Nat):Int):=DM d 2 (by decide) (by decide)
theorem Z6 {v:Int} {a b c:ByteArray} (h0:0<=v) (h:v<3):0<=v/\v<((([a,b,c]:List ByteArray).length:Nat):Int):=⟨h0,h⟩
theorem nF {b B:AG} (h:Ll b B) (hb:(b.Parts.length:Int)<=1000000):(B.Parts.length:Int)<=1000000:=by rw [h.par];exact hb
theorem iO {b B:AG} (h:Ll b B) (hb:1<=(b.Parts.length:Int)):1<=(B.Parts.length:Int):=by rw [h.par];exact hb
theorem nC {b B:AG} (h:Ll b B):(B.Tracks.length:Int)<=1000000:=by have:=h.trk;omega
theorem nB {b B:AG} (h:Ll b B):(B.Vias.length:Int)<=1000000:=by have:=h.via;omega
theorem nE {b B:AG} (h:Ll b B):(B.Pours.length:Int)<=1000000:=by have:=h.pou;omega
theorem nG {b B:AG} (h:Ll b B):(B.Keeps.length:Int)<=1000000:=by have:=h.kee;omega
theorem nD {b B:AG} (h:Ll b B):(B.Slots.length:Int)<=1000000:=by have:=h.slo;omega
variable (v6_4:List AE) (v31_1':List Ak) (v5'':AD) (v10:Int) (l:List (List Int)) (v31_1 v31_3' v31_3:List Ak) (v8:Int) (v31_5':List Ak) (v13:Int) (v31_5:List Ak) (v5 v5':AD)
def Z5X:Tv:=.av (oL l)
def Z5Y:Blk:=.cells W3 41
def Z5Z:AR:=BB (Aa l 0) ({ data := #[82] }:ByteArray)
def Z60:AR:=BB (Aa l 1) ({ data := #[81] }:ByteArray)
def Z61:Tv:=.av (.one (lst 3 AR.c [Z5Z l,Z60 l]))
def Z62:Blk:=.cells [lst 1 eIn (Aa l 2),.i 0] 117
abbrev KU:=As.mk 0 0 400 400
def Z63:Blk:=.cells [.i 2,.i (Hd KU).Kind,lst 7 AH.c (Hd KU).Edges,.i (Hd KU).R,vN,.own 31 2 3,vN,vN,vN,vN,vN,vN,vN,vN,vN] 41
def Z64:Blk:=.rowx 2 3 (fun _ _=>default) 120 [(0,[.s ({ data := #[78,49] }:ByteArray),vN]),(1,[.s ({ data := #[78,50] }:ByteArray),vN]),(2,[.s ({ data := #[71,78,68] }:ByteArray),vN])]
abbrev Gq:=AA (AD.mk (Aa l 2) 0) 3
def Z65:CT:=(42,(E5:List Av).map (Br 1000 25),wrI 25 (.cells [lst 1 eIn (Aa l 2),.i 0] 117) (tI (Gq l).1) (.cells (AD.c (Gq l).2) 117))
def Z66:Blk:=.cells (AD.c (Gq l).2) 117
def Z67:AQ:=bif decide (((AA (AD.mk (Aa l 2) 0) 3).1:Int)=0) then (Gh (As.mk 0 0 400 400) 50) else (Hd (As.mk 0 0 400 400))
def Z68:CT:=(42,(E5:List Av).map (Br 1000 25),wrI 25 (.cells (AD.c (Gq l).2) 117) (tI (AA (Gq l).2 3).1) (.cells (AD.c (AA (Gq l).2 3).2) 117))
abbrev Z69:AD:=(AA (AA (AD.mk (Aa l 2) 0) 3).2 3).2
def Z6a:Tv:=tI (W64 (1+(AA (Gq l).2 3).1))
abbrev GG (t_:List Cl):List Cl:=(.i 2)::(.i (Z67 l).Kind)::(lst 7 AH.c (Z67 l).Edges)::(.i (Z67 l).R)::t_
def Z6b:Blk:=.cells (GG l [vN,.own 31 2 3,vN,vN,vN,vN,vN,vN,vN,vN,vN]) 41
def Z6c:Blk:=.cells [lst 1 eIn (Aa l 3),.i 0] 117
def Z6d:Blk:=.row 7 ([]:List AE).length (AL AE.c ([]:List AE)) 78
def Z6e:Blk:=.cells (GG l [.own 100000 7 ([]:List AE).length,.own 31 2 3,vN,vN,vN,vN,vN,vN,vN,vN,vN]) 41
def Z6f (l:(List (List Int))) (v6_4:List AE):Blk:=.cells (GG l [.own 100000 7 v6_4.length,.own 31 2 3,vN,vN,vN,vN,vN,vN,vN,vN,vN]) 41
def Z6g:Blk:=.row 7 v6_4.length (AL AE.c v6_4) 78
def Z6h:CT:=(42,(Hf:List Av).map (Br 1000 25),wrI 25 (MC v5) (tI (AA v5 2).1) (ML v5))
abbrev GI:=AA (AA v5 2).2 4
def Z6i:CT:=(42,(HZ:List Av).map (Br 1000 25),wrI 25 (ML v5) (tI (GI v5).1) (.cells (AD.c (GI v5).2) 117))
def Z6j:CT:=(42,(E5:List Av).map (Br 1000 25),wrI 25 (.cells (AD.c (GI v5).2) 117) (tI (AA (GI v5).2 3).1) (.cells (AD.c (AA (GI v5).2 3).2) 117))
abbrev Z6k:AD:=(AA (AA (AA v5 2).2 4).2 3).2
abbrev Gl:=AA (Z6k v5) 5
def Z6l:CT:=(42,(Kc:List Av).map (Br 1000 25),wrI 25 (.cells (AD.c (Z6k v5)) 117) (tI (Gl v5).1) (.cells (AD.c (Gl v5).2) 117))
def Z6m:CT:=(42,(E5:List Av).map (Br 1000 25),wrI 25 (.cells (AD.c (Gl v5).2) 117) (tI (AA (Gl v5).2 3).1) (.cells (AD.c (AA (Gl v5).2 3).2) 117))
abbrev Z6n:AD:=(AA (AA (Z6k v5) 5).2 3).2
def Z6o:CT:=(42,(E5:List Av).map (Br 1000 25),wrI 25 (.cells (AD.c (Z6n v5)) 117) (tI (AA (Z6n v5) 3).1) (.cells (AD.c (AA (Z6n v5) 3).2) 117))
def Z6p:Blk:=.cells (AD.c (AA (Z6n v5) 3).2) 117
abbrev LJ:Bool:=(decide (((AA (GI v5).2 3).1:Int)=0))
abbrev ZB:=AC.mk (W64 ((W64 (80+(W64 (100*v8))))+(W64 (5*(Gl v5).1)))) (W64 ((W64 (100+(W64 (80*(AA (Gl v5).2 3).1))))+(W64 (5*(AA (Z6n v5) 3).1))))
def Z6q (l:(List (List Int))) (v6_4:List AE) (v8:Int) (v5:AD):Blk:=.cells (GG l [.own 86 7 (v6_4++[AE.mk (W64 (1+v8)) (([({ data := #[82,49] }:ByteArray),({ data := #[82,50] }:ByteArray),({ data := #[120,47,82,49] }:ByteArray)]:List ByteArray).getD v8.toNat ⟨#[]⟩) ([Z5Z l,Z60 l].getD (AA v5 2).1.toNat default).Name (ZB v8 v5) (GI v5).1 (LJ v5)]).length,.own 31 2 3,vN,vN,vN,vN,vN,vN,vN,vN,vN]) 41
def Z6r (v6_4:List AE) (v8:Int) (l:(List (List Int))) (v5:AD):Blk:=.row 7 (v6_4++[AE.mk (W64 (1+v8)) (([({ data := #[82,49] }:ByteArray),({ data := #[82,50] }:ByteArray),({ data := #[120,47,82,49] }:ByteArray)]:List ByteArray).getD v8.toNat ⟨#[]⟩) ([Z5Z l,Z60 l].getD (AA v5 2).1.toNat default).Name (ZB v8 v5) (GI v5).1 (LJ v5)]).length (AL AE.c (v6_4++[AE.mk (W64 (1+v8)) (([({ data := #[82,49] }:ByteArray),({ data := #[82,50] }:ByteArray),({ data := #[120,47,82,49] }:ByteArray)]:List ByteArray).getD v8.toNat ⟨#[]⟩) ([Z5Z l,Z60 l].getD (AA v5 2).1.toNat default).Name (ZB v8 v5) (GI v5).1 (LJ v5)])) 78
def Z6s:Blk:=.row 2 ([]:List Ak).length (AL Ak.c ([]:List Ak)) 106
def Z6t:Blk:=.row 2 v31_1.length (AL Ak.c v31_1) 106
def Z6u:Blk:=.row 2 v31_3.length (AL Ak.c v31_3) 106
def Z6v:Blk:=.row 2 v31_5.length (AL Ak.c v31_5) 106
def Z6w (l:(List (List Int))) (v6_4:List AE):Blk:=.cells (GG l [lst 7 AE.c v6_4,.own 31 2 3,vN,vN,vN,vN,vN,vN,vN,vN,vN]) 41
def Z6x:Tv:=tB (decide ((v10:Int)<(W64 (1+(AA (Gq l).2 3).1))))
def Z6y (l:(List (List Int))) (v6_4:List AE) (v10:Int):AR:=(BX [Z5Z l,Z60 l] (v6_4.getD v10.toNat default).Type').1
def Z6z (l:(List (List Int))) (v6_4:List AE) (v10:Int):Blk:=.cells (AR.c (Z6y l v6_4 v10)) 82
def Z6A:Blk:=.row 2 v31_1'.length (AL Ak.c v31_1') 106
def Z6B:Blk:=.row 2 v31_3'.length (AL Ak.c v31_3') 106
def Z6C:Blk:=.row 2 v31_5'.length (AL Ak.c v31_5') 106
def Z6D:CT:=(42,(Kc:List Av).map (Br 1000 91),wrI 91 (.cells (AD.c v5'') 117) (tI (AA v5'' 5).1) (.cells (AD.c (AA v5'' 5).2) 117))
abbrev I1:=[Ak.mk (v6_4.getD v10.toNat default).Ref ((Z6y l v6_4 v10).Pads.getD v13.toNat default).Name]
def Z6E (v31_1':List Ak) (v6_4:List AE) (v10:Int) (l:(List (List Int))) (v13:Int):Blk:=.row 2 (v31_1'++(I1 v6_4 v10 l v13)).length (AL Ak.c (v31_1'++(I1 v6_4 v10 l v13))) 106
def Z6F (v31_3':List Ak) (v6_4:List AE) (v10:Int) (l:(List (List Int))) (v13:Int):Blk:=.row 2 (v31_3'++(I1 v6_4 v10 l v13)).length (AL Ak.c (v31_3'++(I1 v6_4 v10 l v13))) 106
def Z6G (v31_5':List Ak) (v6_4:List AE) (v10:Int) (l:(List (List Int))) (v13:Int):Blk:=.row 2 (v31_5'++(I1 v6_4 v10 l v13)).length (AL Ak.c (v31_5'++(I1 v6_4 v10 l v13))) 106
def Z6H (v5'':AD) (v31_1':List Ak) (v6_4:List AE) (v10:Int) (l:(List (List Int))) (v13:Int):(List Ak):=bif decide (((AA v5'' 5).1:Int)<3) then (bif decide (((AA v5'' 5).1:Int)=0) then (v31_1'++[Ak.mk (v6_4.getD v10.toNat default).Ref ((Z6y l v6_4 v10).Pads.getD v13.toNat default).Name]) else v31_1') else v31_1'
def Z6I (v5'':AD) (v31_3':List Ak) (v6_4:List AE) (v10:Int) (l:(List (List Int))) (v13:Int):(List Ak):=bif decide (((AA v5'' 5).1:Int)<3) then (bif decide (((AA v5'' 5).1:Int)=0) then v31_3' else (bif decide (((AA v5'' 5).1:Int)=1) then (v31_3'++[Ak.mk (v6_4.getD v10.toNat default).Ref ((Z6y l v6_4 v10).Pads.getD v13.toNat default).Name]) else v31_3')) else v31_3'
def Z6J (v5'':AD) (v31_5':List Ak) (v6_4:List AE) (v10:Int) (l:(List (List Int))) (v13:Int):(List Ak):=bif decide (((AA v5'' 5).1:Int)<3) then (bif decide (((AA v5'' 5).1:Int)=0) then v31_5' else (bif decide (((AA v5'' 5).1:Int)=1) then v31_5' else (v31_5'++[Ak.mk (v6_4.getD v10.toNat default).Ref ((Z6y l v6_4 v10).Pads.getD v13.toNat default).Name]))) else v31_5'
def Z6K (v5'':AD) (v31_1':List Ak) (v6_4:List AE) (v10:Int) (l:(List (List Int))) (v13:Int):Blk:=.row 2 (Z6H v5'' v31_1' v6_4 v10 l v13).length (AL Ak.c (Z6H v5'' v31_1' v6_4 v10 l v13)) 106
def Z6L (v5'':AD) (v31_3':List Ak) (v6_4:List AE) (v10:Int) (l:(List (List Int))) (v13:Int):Blk:=.row 2 (Z6I v5'' v31_3' v6_4 v10 l v13).length (AL Ak.c (Z6I v5'' v31_3' v6_4 v10 l v13)) 106
def Z6M (v5'':AD) (v31_5':List Ak) (v6_4:List AE) (v10:Int) (l:(List (List Int))) (v13:Int):Blk:=.row 2 (Z6J v5'' v31_5' v6_4 v10 l v13).length (AL Ak.c (Z6J v5'' v31_5' v6_4 v10 l v13)) 106
def Z6N (l:(List (List Int))) (v6_4:List AE) (v31_1:List Ak) (v31_3:List Ak) (v31_5:List Ak):AG:=Bp (AG.mk 2 (Z67 l) v6_4 [Bi.mk ({ data := #[78,49] }:ByteArray) v31_1,Bi.mk ({ data := #[78,50] }:ByteArray) v31_3,Bi.mk ({ data := #[71,78,68] }:ByteArray) v31_5] [] [] [] [] [] [] [] [] []) [Z5Z l,Z60 l] l
abbrev W4 (l:List (List Int)) (v6_4:List AE) (v31_1:List Ak) (v31_3:List Ak) (v31_5:List Ak):List Cl:=[.i (Z6N l v6_4 v31_1 v31_3 v31_5).Layers,.i (Z6N l v6_4 v31_1 v31_3 v31_5).Outline.Kind,lst 7 AH.c (Z6N l v6_4 v31_1 v31_3 v31_5).Outline.Edges,.i (Z6N l v6_4 v31_1 v31_3 v31_5).Outline.R,lst 7 AE.c (Z6N l v6_4 v31_1 v31_3 v31_5).Parts,lst 2 Bi.c (Z6N l v6_4 v31_1 v31_3 v31_5).Nets,lst 6 AM.c (Z6N l v6_4 v31_1 v31_3 v31_5).Tracks,lst 8 Ag.c (Z6N l v6_4 v31_1 v31_3 v31_5).Vias,lst 8 Bc.c (Z6N l v6_4 v31_1 v31_3 v31_5).Pours,lst 5 C4.c (Z6N l v6_4 v31_1 v31_3 v31_5).Keeps,lst 4 Au.c (Z6N l v6_4 v31_1 v31_3 v31_5).Slots,vN,vN,vN,vN]
def Z6O (l:(List (List Int))) (v6_4:List AE) (v31_1:List Ak) (v31_3:List Ak) (v31_5:List Ak):CT:=(44,([.one (.ptr 1000 0),.one (lst 3 AR.c [Z5Z l,Z60 l]),.one (lst 1 (fun x=>[lst 1 eIn x]) l)]:List Av).map (Br 1000 6),wrI 6 (.cells (GG l [lst 7 AE.c v6_4,lst 2 Bi.c [Bi.mk ({ data := #[78,49] }:ByteArray) v31_1,Bi.mk ({ data := #[78,50] }:ByteArray) v31_3,Bi.mk ({ data := #[71,78,68] }:ByteArray) v31_5],vN,vN,vN,vN,vN,vN,vN,vN,vN]) 41) (.tup []) (.cells (W4 l v6_4 v31_1 v31_3 v31_5) 41))
def Z6P (l:(List (List Int))) (v6_4:List AE) (v31_1:List Ak) (v31_3:List Ak) (v31_5:List Ak):AG×AD:=D3 (AG.mk (Z6N l v6_4 v31_1 v31_3 v31_5).Layers (Z6N l v6_4 v31_1 v31_3 v31_5).Outline (Z6N l v6_4 v31_1 v31_3 v31_5).Parts (Z6N l v6_4 v31_1 v31_3 v31_5).Nets (Z6N l v6_4 v31_1 v31_3 v31_5).Tracks (Z6N l v6_4 v31_1 v31_3 v31_5).Vias (Z6N l v6_4 v31_1 v31_3 v31_5).Pours (Z6N l v6_4 v31_1 v31_3 v31_5).Keeps (Z6N l v6_4 v31_1 v31_3 v31_5).Slots [] [] [] []) (AD.mk (Aa l 7) 0)
def Z6Q (l:(List (List Int))) (v6_4:List AE) (v31_1:List Ak) (v31_3:List Ak) (v31_5:List Ak):CT:=(45,(On:List Av).map (FV 1000 6 1001 151),lY 6 151 (.cells (W4 l v6_4 v31_1 v31_3 v31_5) 41) (.cells [lst 1 eIn (Aa l 7),.i 0] 117) (.tup []) (.cells (AG.c (Z6P l v6_4 v31_1 v31_3 v31_5).1) 41) (.cells (AD.c (Z6P l v6_4 v31_1 v31_3 v31_5).2) 117))
def Z6R:Blk:=.rowx 2 3 (fun _ _=>default) 120 [(0,[.s ({ data := #[78,49] }:ByteArray),.own 100001 2 ([]:List Ak).length]),(1,[.s ({ data := #[78,50] }:ByteArray),.own 100002 2 ([]:List Ak).length]),(2,[.s ({ data := #[71,78,68] }:ByteArray),.own 100003 2 ([]:List Ak).length])]
def Z6S:Blk:=.rowx 2 3 (fun _ _=>default) 120 [(0,[.s ({ data := #[78,49] }:ByteArray),.own 100001 2 v31_1.length]),(1,[.s ({ data := #[78,50] }:ByteArray),.own 100002 2 v31_3.length]),(2,[.s ({ data := #[71,78,68] }:ByteArray),.own 100003 2 v31_5.length])]
def Z6T:Blk:=.rowx 2 3 (fun _ _=>default) 120 [(0,[.s ({ data := #[78,49] }:ByteArray),.own 100001 2 v31_1'.length]),(1,[.s ({ data := #[78,50] }:ByteArray),.own 100002 2 v31_3'.length]),(2,[.s ({ data := #[71,78,68] }:ByteArray),.own 100003 2 v31_5'.length])]
def Z6U (v31_1':List Ak) (v6_4:List AE) (v10:Int) (l:(List (List Int))) (v13:Int) (v31_3':List Ak) (v31_5':List Ak):Blk:=.rowx 2 3 (fun _ _=>default) 120 [(0,[.s ({ data := #[78,49] }:ByteArray),.own 100004 2 (v31_1'++(I1 v6_4 v10 l v13)).length]),(1,[.s ({ data := #[78,50] }:ByteArray),.own 100005 2 v31_3'.length]),(2,[.s ({ data := #[71,78,68] }:ByteArray),.own 100006 2 v31_5'.length])]
def Z6V (v31_1':List Ak) (v31_3':List Ak) (v6_4:List AE) (v10:Int) (l:(List (List Int))) (v13:Int) (v31_5':List Ak):Blk:=.rowx 2 3 (fun _ _=>default) 120 [(0,[.s ({ data := #[78,49] }:ByteArray),.own 100004 2 v31_1'.length]),(1,[.s ({ data := #[78,50] }:ByteArray),.own 100005 2 (v31_3'++(I1 v6_4 v10 l v13)).length]),(2,[.s ({ data := #[71,78,68] }:ByteArray),.own 100006 2 v31_5'.length])]
def Z6W (v31_1':List Ak) (v31_3':List Ak) (v31_5':List Ak) (v6_4:List AE) (v10:Int) (l:(List (List Int))) (v13:Int):Blk:=.rowx 2 3 (fun _ _=>default) 120 [(0,[.s ({ data := #[78,49] }:ByteArray),.own 100004 2 v31_1'.length]),(1,[.s ({ data := #[78,50] }:ByteArray),.own 100005 2 v31_3'.length]),(2,[.s ({ data := #[71,78,68] }:ByteArray),.own 100006 2 (v31_5'++(I1 v6_4 v10 l v13)).length])]
def D0 (l:(List (List Int))) (v6_4:List AE) (v5:AD) (v8:Int) (v31_1:List Ak) (v31_3:List Ak) (v31_5:List Ak) (v5':AD) (v10:Int) (K0:List AE->AD->Int->(AG×(List AR))) (K1:List Ak->List Ak->List Ak->AD->Int->(AG×(List AR))):Nat->List Ak->List Ak->List Ak->AD->Int->(AG×(List AR))
 | 0,_,_,_,_,_=>default
 | n2+1,v31_1',v31_3',v31_5',v5'',v13=>bif decide ((v13:Int)<((Z6y l v6_4 v10).Pads.length:Int)) then ((D0 l v6_4 v5 v8 v31_1 v31_3 v31_5 v5' v10 K0 K1 n2) (Z6H v5'' v31_1' v6_4 v10 l v13) (Z6I v5'' v31_3' v6_4 v10 l v13) (Z6J v5'' v31_5' v6_4 v10 l v13) (AA v5'' 5).2 (v13+1)) else (K1 v31_1' v31_3' v31_5' v5'' (v10+1))
def Db (l:(List (List Int))) (v6_4:List AE) (v5:AD) (v8:Int) (K0:List AE->AD->Int->(AG×(List AR))):Nat->List Ak->List Ak->List Ak->AD->Int->(AG×(List AR))
 | 0,_,_,_,_,_=>default
 | n1+1,v31_1,v31_3,v31_5,v5',v10=>bif decide ((v10:Int)<(W64 (1+(AA (AA (AD.mk (Aa l 2) 0) 3).2 3).1))) then (D0 l v6_4 v5 v8 v31_1 v31_3 v31_5 v5' v10 K0 (Db l v6_4 v5 v8 K0 n1) ((((Z6y l v6_4 v10).Pads.length:Int)-0).toNat+1) v31_1 v31_3 v31_5 v5' 0) else ((Z6P l v6_4 v31_1 v31_3 v31_5).1,[Z5Z l,Z60 l])
def Ck (l:(List (List Int))):Nat->List AE->AD->Int->(AG×(List AR))
 | 0,_,_,_=>default
 | n0+1,v6_4,v5,v8=>bif decide ((v8:Int)<(W64 (1+(AA (AA (AD.mk (Aa l 2) 0) 3).2 3).1))) then ((Ck l n0) (v6_4++[AE.mk (W64 (1+v8)) (([({ data := #[82,49] }:ByteArray),({ data := #[82,50] }:ByteArray),({ data := #[120,47,82,49] }:ByteArray)]:List ByteArray).getD v8.toNat ⟨#[]⟩) ([Z5Z l,Z60 l].getD (AA v5 2).1.toNat default).Name (AC.mk (W64 ((W64 (80+(W64 (100*v8))))+(W64 (5*(AA (Z6k v5) 5).1)))) (W64 ((W64 (100+(W64 (80*(AA (AA (Z6k v5) 5).2 3).1))))+(W64 (5*(AA (Z6n v5) 3).1))))) (AA (AA v5 2).2 4).1 (decide (((AA (AA (AA v5 2).2 4).2 3).1:Int)=0))]) (AA (Z6n v5) 3).2 (v8+1)) else (Db l v6_4 v5 v8 (Ck l n0) (((W64 (1+(AA (AA (AD.mk (Aa l 2) 0) 3).2 3).1))-0).toNat+1) ([]:List Ak) ([]:List Ak) ([]:List Ak) (AD.mk (Aa l 3) 0) 0)
def BW (l:(List (List Int))):(AG×(List AR)):=Ck l (((W64 (1+(AA (AA (AD.mk (Aa l 2) 0) 3).2 3).1))-0).toNat+1) ([]:List AE) (Z69 l) 0
def Sx:CT:=(10,[.one (lst 1 (fun x=>[lst 1 eIn x]) l)],.val [] (.tup [.agg (AG.c (BW l).1),.one (lst 3 AR.c (BW l).2)]))
abbrev HJ:Nat×Blk:=(91,.cells (AD.c (AA v5'' 5).2) 117)
abbrev JE:Nat×Blk:=(91,.cells (AD.c v5') 117)
abbrev VD:=Ap 2 1 [.s (v6_4.getD v10.toNat default).Ref,.s ((Z6y l v6_4 v10).Pads.getD v13.toNat default).Name]
abbrev OX:Nat×Blk:=(25,.cells (AD.c (Z69 l)) 117)
abbrev Cb (t_:List (Nat×Tv)):List (Nat×Tv):=(0,Z5X l)::(2,tP 2 0)::(4,Z61 l)::(5,tP 91 0)::(6,tP 6 0)::(7,Z6a l)::t_
abbrev D8 (t_:List (Nat×Tv)):List (Nat×Tv):=(0,Z5X l)::(2,tP 2 0)::(4,Z61 l)::(5,tP 25 0)::t_
abbrev EE (l:List (List Int)) (v6_4:List AE) (v10:Int) (t_:List (Nat×Blk)):List (Nat×Blk):=(2,Z5Y)::(6,Z6f l v6_4)::(11,Z6z l v6_4 v10)::t_
theorem au13 {p:Prop} (h:p:=by first | (with_reducible exact DP hll _) | with_reducible assumption | omega | decide | (simp only [List.length_cons,List.length_nil,List.length_append];omega) | (exact aV (by assumption)) | ((refine And.intro ?_ ?_ <;> simp;done)) | ((simp only;exact nF (IX _ _ _) (by show (v6_4.length:Int)≤_;omega))) | ((simp only;exact iO (IX _ _ _) (by show 1≤(v6_4.length:Int);omega))) | ((simp only;exact nC (IX _ _ _))) | ((simp only;exact nB (IX _ _ _))) | ((simp only;exact nE (IX _ _ _))) | ((simp only;exact nG (IX _ _ _))) | ((simp only;exact nD (IX _ _ _))) | assumption):p:=h
theorem au14 {p:Prop} (h:p:=by first | exact Jm _ _ _ (by decide) (by decide) (by decide) | exact mA | exact Z6 (by omega) (by omega) | decide | omega):p:=h
theorem au19 {p:Prop} (h:p:=by first | (unfold DA at *;unfold maxLen;omega) | (unfold DA at *;omega) | (unfold maxLen;omega) | omega | (simp only [bY,bX,bW,Tu];omega)):p:=h
set_option maxHeartbeats 4000000 in
theorem iJ (l:(List (List Int))) (hl:(l.length:Int)<=9223372036854775807) (hll:∀ x∈l,(x.length:Int)<=9223372036854775807):PuP 10 (Sx l).2.1 (.tup [.agg (AG.c (BW l).1),.one (lst 3 AR.c (BW l).2)]):=by
 refine pwf Tryz.func10 fun W0 M0 => ?_
 have hmany:1<=W64 (1+(AA (AA (AD.mk (Aa l 2) 0) 3).2 3).1):=by have:=DM (AA (AD.mk (Aa l 2) 0) 3).2 3 (by decide) (by decide);rw [Ah oM oM];omega
 refine AB<|rn ⟨[(0,Z5X l),(2,tP 2 0)],[(2,Z5Y)]⟩<|AB ?_
 refine rc [(16,EY l 0),(17,Jz (Aa l 0) ({ data := #[82] }:ByteArray)),(19,EY l 1),(20,Jz (Aa l 1) ({ data := #[81] }:ByteArray))] [Aq (EY l 0).2.1,Aq (Jz (Aa l 0) ({ data := #[82] }:ByteArray)).2.1,Aq (EY l 1).2.1,Aq (Jz (Aa l 1) ({ data := #[81] }:ByteArray)).2.1] ⟨[(0,Z5X l),(2,tP 2 0),(4,.av (.one (.list true 3 2 (Ap 3 2 [.s (Z5Z l).Name,lst 7 BJ.c (Z5Z l).Pads,lst 2 A5.c (Z5Z l).Gates,.s (Z60 l).Name,lst 7 BJ.c (Z60 l).Pads,lst 2 A5.c (Z60 l).Gates]))))],[(2,Z5Y)]⟩ (.cons (F5 l 0 au13) (.cons (Ts (Aa l 0) ({ data := #[82] }:ByteArray) au13) (.cons (F5 l 1 au13) (.cons (Ts (Aa l 1) ({ data := #[81] }:ByteArray) au13) .nil)))) (.cons rfl (.cons rfl (.cons rfl (.cons rfl .nil))))<|AF ?_
 refine BI (Cv.trans (A7 (⟨[(0,Z5X l),(2,tP 2 0),(4,Z61 l)],[(2,Z5Y)]⟩) (.cons ⟨rfl,.refl _⟩ (.cons ⟨rfl,.refl _⟩ (.cons ⟨rfl,.av (.one (BZ true (Al (c:=AR.c) (xs:=([Z5Z l,Z60 l]:List AR)) rfl kr)))⟩ .nil))) lr) (Cv.refl _))<|AB ?_
 refine rs 23 (EY l 2) ⟨(D8 l []),[(2,Z5Y),(25,Z62 l)]⟩ (F5 l 2 au13)<|AF<|AB ?_
 refine Dk DN [31] [] [(27,K9 KU)] [0,2,4,5,6] [2,6,25,31] [Aq (K9 (As.mk 0 0 400 400)).2.1] ⟨(D8 l [(6,tP 6 0)]),[(2,Z5Y),(6,Z63),(25,Z62 l),(31,.row 2 3 (Ap 2 3 [.s ({ data := #[78,49] }:ByteArray),vN,.s ({ data := #[78,50] }:ByteArray),vN,.s ({ data := #[71,78,68] }:ByteArray),vN]) 120)]⟩ (.cons (SP (As.mk 0 0 400 400)) .nil) kr (.cons rfl .nil)<|AF ?_
 refine BI (Cv.trans (dZ (⟨(D8 l [(6,tP 6 0)]),[(2,Z5Y),(6,Z63),(25,Z62 l),(31,Z64)]⟩) 31 2 3 (Ap 2 3 [.s ({ data := #[78,49] }:ByteArray),vN,.s ({ data := #[78,50] }:ByteArray),vN,.s ({ data := #[71,78,68] }:ByteArray),vN]) 120 kr kr kr) (Cv.refl _))<|AB<|AB ?_
 refine rb 34 (Z65 l) (.cells [lst 1 eIn (Aa l 2),.i 0] 117) ⟨(D8 l [(6,tP 6 0),(35,tB (decide (((Gq l).1:Int)=0)))]),[(2,Z5Y),(6,Z63),(25,Z66 l),(31,Z64)]⟩ (cWr (BS (AD.mk (Aa l 2) 0) 3 au8 au10))<|AF ?_
 refine Bb (⟨[(0,.av (oL l)),(2,tP 2 0),(4,tO (lst 3 AR.c [Z5Z l,Z60 l])),(5,tP 25 0),(6,tP 6 0)],[(2,.cells W3 41),(6,.cells [.i 2,.i (Z67 l).Kind,lst 7 AH.c (Z67 l).Edges,.i (Z67 l).R,vN,.own 31 2 3,vN,vN,vN,vN,vN,vN,vN,vN,vN] 41),(25,.cells (AD.c (Gq l).2) 117),(31,.rowx 2 3 (fun _ _=>default) 120 [(0,[.s ({ data := #[78,49] }:ByteArray),vN]),(1,[.s ({ data := #[78,50] }:ByteArray),vN]),(2,[.s ({ data := #[71,78,68] }:ByteArray),vN])])]⟩) ?_ ?_
 ·refine AW _ rfl (fun h1 => ?_) (fun h1 => ?_)
  ·refine rs 37 (Mt (As.mk 0 0 400 400) 50) ⟨(D8 l [(6,tP 6 0)]),[(2,Z5Y),(6,.cells [.i 2,.i (Gh KU 50).Kind,lst 7 AH.c (Gh KU 50).Edges,.i (Gh KU 50).R,vN,.own 31 2 3,vN,vN,vN,vN,vN,vN,vN,vN,vN] 41),(25,Z66 l),(31,Z64)]⟩ (V8 (As.mk 0 0 400 400) 50)<|AF ?_
   refine Aw ?_
   first | rfl | (simp only [h1,Z67,cond_true,cond_false] <;> rfl)
  refine AV<|AF ?_
  refine Cv.trans (ck (⟨(D8 l [(6,tP 6 0)]),[(2,Z5Y),(6,Z63),(25,Z66 l),(31,Z64)]⟩)) (Aw ?_)
  first | rfl | (simp only [h1,Z67,cond_true,cond_false] <;> rfl)
 refine AB<|rb 40 (Z68 l) (.cells (AD.c (AA (AD.mk (Aa l 2) 0) 3).2) 117) ⟨(D8 l [(6,tP 6 0),(7,Z6a l)]),[(2,Z5Y),(6,Z6b l),(OX l),(31,Z64)]⟩ (cWr (BS (AA (AD.mk (Aa l 2) 0) 3).2 3 au8 au10))<|AF ?_
 refine AB<|AB ?_
 refine rn ⟨(D8 l [(6,tP 6 0),(7,Z6a l),(8,tI 0)]),[(2,Z5Y),(6,Z6b l),(OX l),(31,Z64)]⟩<|AO ?_
 refine BI (Cv.trans (wg (⟨(D8 l [(6,tP 6 0),(7,Z6a l),(8,tI 0)]),[(100000,.row 7 0 (fun _ _=>default) 78),(2,Z5Y),(6,.cells (GG l [.own 100000 7 0,.own 31 2 3,vN,vN,vN,vN,vN,vN,vN,vN,vN]) 41),(OX l),(31,Z64)]⟩) 100000 7 (fun _ _=>default) 78 [] [(6,[4])] hk0) (Cv.trans (A7 (⟨(D8 l [(6,tP 6 0),(7,Z6a l),(8,tI 0)]),[(100000,Z6d),(2,Z5Y),(6,Z6e l),(OX l),(31,Z64)]⟩) lr (.cons ⟨rfl,Ad 78 (B3 7 (fun _ _=>default) AE.c)⟩ (.cons ⟨rfl,.refl _⟩ (.cons ⟨rfl,.cells _ (rr4 (.cons (.own _ _ au2) (rr (rr (rr (rr (rr (rr (rr (rr (rr (rr .nil))))))))))))⟩ lr)))) (Cv.trans (ck (⟨(D8 l [(6,tP 6 0),(7,Z6a l),(8,tI 0)]),[(2,Z5Y),(6,Z6e l),(OX l),(31,Z64),(100000,Z6d)]⟩)) (Cv.refl _)))) ?_
 refine A0 (ι:=Nat×List AE×AD×Int) (fun x=>⟨(D8 l [(6,tP 6 0),(7,Z6a l),(8,tI x.2.2.2)]),[(2,Z5Y),(6,.cells (GG l [.own 100000 7 x.2.1.length,.own 31 2 3,vN,vN,vN,vN,vN,vN,vN,vN,vN]) 41),(25,.cells (AD.c x.2.2.1) 117),(31,Z64),(100000,.row 7 x.2.1.length (AL AE.c x.2.1) 78)]⟩) (fun x=>((W64 (1+(AA (AA (AD.mk (Aa l 2) 0) 3).2 3).1))-x.2.2.2).toNat<x.1/\((x.2.1.length:Int)=x.2.2.2/\Pp [BB (Aa l 0) ({ data := #[82] }:ByteArray),BB (Aa l 1) ({ data := #[81] }:ByteArray)] x.2.1/\Bg x.2.2.1/\0<=x.2.2.2/\(x.2.2.2<=(W64 (1+(AA (AA (AD.mk (Aa l 2) 0) 3).2 3).1))\/x.2.2.2=0)/\(x.2.1.length:Int)<=0+1*(x.2.2.2-0))/\Ck l x.1 x.2.1 x.2.2.1 x.2.2.2=BW l) (fun x=>x.1) ?_ (((W64 (1+(AA (AA (AD.mk (Aa l 2) 0) 3).2 3).1))-0).toNat+1,([]:List AE),Z69 l,0) ⟨Nat.lt_succ_self _,⟨ax0,(by show Pp [BB (Aa l 0) ({ data := #[82] }:ByteArray),BB (Aa l 1) ({ data := #[81] }:ByteArray)] ([]:List AE);first | exact XF | exact XG (by assumption) (QN _ _ _ (DM _ 2 (by decide) (by decide))) | assumption),(by show Bg (Z69 l);repeat (first | with_reducible assumption | exact Ci (DP hll _) | with_reducible refine BQ ?_ | with_reducible refine En ?_ | with_reducible refine De ?_ | with_reducible refine DD ?_  | with_reducible refine Cp ?_ ?_)),ax0,ax0,ax0⟩,(by simp only [BW,cond_true,cond_false])⟩
 rintro ⟨n0,v6_4,v5,v8⟩ ⟨hm0,hinv0,hF0⟩
 try dsimp only at hm0 hinv0 hF0
 cases n0 with | zero=>exact nz hm0 | succ n0 => ?_
 have hi0_1:=hinv0.2.1
 have hi0_2:=hinv0.2.2.1
 refine AB<|AB ?_
 refine rn ⟨(D8 l [(6,tP 6 0),(7,Z6a l),(8,tI v8),(44,tB (decide ((v8:Int)<(W64 (1+(AA (AA (AD.mk (Aa l 2) 0) 3).2 3).1)))))]),[(2,Z5Y),(6,Z6f l v6_4),(25,.cells (AD.c v5) 117),(31,Z64),(100000,Z6g v6_4)]⟩ ?_
 refine AW (decide ((v8:Int)<(W64 (1+(AA (AA (AD.mk (Aa l 2) 0) 3).2 3).1)))) kr (fun h1 => ?_) (fun h1 => ?_)
 ·have g1:=oT h1
  have k1:=SZ g1 (by decide) (by decide) (by decide) (by decide)
  have kk1:=PR g1 (by decide) (by decide) (by decide) (by decide)
  refine AV<|AF ?_
  refine AB<|AO<|AB ?_
  refine dw [] [(55,(Z6h v5)),(60,(Z6i v5)),(62,(Z6j v5))] [0<=(v8:Int)/\(v8:Int)<((3:Nat):Int),Aq (Z6h v5).2.1,Bt (MC v5),0<=((AA v5 2).1:Int)/\((AA v5 2).1:Int)<(([Z5Z l,Z60 l].length:Nat):Int),Aq (Z6i v5).2.1,Bt (ML v5),Aq (Z6j v5).2.1,Bt (.cells (AD.c (AA (AA v5 2).2 4).2) 117)] ⟨(D8 l [(6,tP 6 0),(7,Z6a l),(8,tI v8),(9,tP 9 0)]),[(2,Z5Y),(6,Z6f l v6_4),(9,.cells [.i (W64 (1+v8)),.s (([({ data := #[82,49] }:ByteArray),({ data := #[82,50] }:ByteArray),({ data := #[120,47,82,49] }:ByteArray)]:List ByteArray).getD v8.toNat ⟨#[]⟩),.s ([Z5Z l,Z60 l].getD (AA v5 2).1.toNat default).Name,.i 0,.i 0,.i (GI v5).1,.b (LJ v5)] 78),(25,.cells (AD.c (Z6k v5)) 117),(31,Z64),(100000,Z6g v6_4)]⟩ (.cons (cWr (BS v5 2 au8 au10)) (.cons (cWr (BS (AA v5 2).2 4 au8 au10)) (.cons (cWr (BS (AA (AA v5 2).2 4).2 3 au8 au10)) .nil))) (.cons au14 (.cons rfl (.cons rfl (.cons au14 (.cons rfl (.cons rfl (.cons rfl (.cons rfl .nil))))))))<|AF<|AB ?_
  refine rc [(69,(Z6l v5)),(73,(Z6m v5)),(77,(Z6o v5))] [Aq (Z6l v5).2.1,Bt (.cells (AD.c (Z6k v5)) 117),Aq (Z6m v5).2.1,Bt (.cells (AD.c (AA (Z6k v5) 5).2) 117),Aq (Z6o v5).2.1,Bt (.cells (AD.c (Z6n v5)) 117)] ⟨(D8 l [(6,tP 6 0),(7,Z6a l),(8,tI v8),(9,tP 9 0)]),[(2,Z5Y),(6,Z6f l v6_4),(9,.cells [.i (W64 (1+v8)),.s (([({ data := #[82,49] }:ByteArray),({ data := #[82,50] }:ByteArray),({ data := #[120,47,82,49] }:ByteArray)]:List ByteArray).getD v8.toNat ⟨#[]⟩),.s ([Z5Z l,Z60 l].getD (AA v5 2).1.toNat default).Name,.i (W64 ((W64 (80+(W64 (100*v8))))+(W64 (5*(Gl v5).1)))),.i (W64 ((W64 (100+(W64 (80*(AA (Gl v5).2 3).1))))+(W64 (5*(AA (Z6n v5) 3).1)))),.i (GI v5).1,.b (LJ v5)] 78),(25,Z6p v5),(31,Z64),(100000,Z6g v6_4)]⟩ (.cons (cWr (BS (Z6k v5) 5 au8 au10)) (.cons (cWr (BS (AA (Z6k v5) 5).2 3 au8 au10)) (.cons (cWr (BS (Z6n v5) 3 au8 au10)) .nil))) (.cons rfl (.cons rfl (.cons rfl (.cons rfl (.cons rfl (.cons rfl .nil))))))<|AF ?_
  refine rc [] [v6_4.length=v6_4.length,v6_4.length+1<=maxLen,(v6_4.length+1)*72<=140737488355328] ⟨(D8 l [(6,tP 6 0),(7,Z6a l),(8,tI v8)]),[(2,Z5Y),(6,.cells (GG l [.own 86 7 (v6_4.length+1),.own 31 2 3,vN,vN,vN,vN,vN,vN,vN,vN,vN]) 41),(25,Z6p v5),(31,Z64),(86,.row 7 (v6_4.length+1) (fun i_ j_=>if i_<v6_4.length then (AL AE.c v6_4) i_ j_ else (Ap 7 1 [.i (W64 (1+v8)),.s (([({ data := #[82,49] }:ByteArray),({ data := #[82,50] }:ByteArray),({ data := #[120,47,82,49] }:ByteArray)]:List ByteArray).getD v8.toNat ⟨#[]⟩),.s ([Z5Z l,Z60 l].getD (AA v5 2).1.toNat default).Name,.i (W64 ((W64 (80+(W64 (100*v8))))+(W64 (5*(Gl v5).1)))),.i (W64 ((W64 (100+(W64 (80*(AA (Gl v5).2 3).1))))+(W64 (5*(AA (Z6n v5) 3).1)))),.i (GI v5).1,.b (LJ v5)]) (i_-v6_4.length) j_) 78)]⟩ .nil (.cons rfl (.cons au19 (.cons au19 .nil)))<|BA<|AF ?_
  refine BI (Cv.trans (A7 (⟨(D8 l [(6,tP 6 0),(7,Z6a l),(8,tI v8)]),[(2,Z5Y),(6,Z6q l v6_4 v8 v5),(25,Z6p v5),(31,Z64),(86,Z6r v6_4 v8 l v5)]⟩) lr (.cons ⟨rfl,.refl _⟩ (.cons ⟨rfl,.cells _ (rr4 (.cons (.own _ _ au2) (rr (rr (rr (rr (rr (rr (rr (rr (rr (rr .nil))))))))))))⟩ (.cons ⟨rfl,.refl _⟩ (.cons ⟨rfl,.refl _⟩ (.cons ⟨rfl,Ad 78 (A8 (Ay 7 AE.c v6_4) (Al (c:=AE.c) (xs:=([AE.mk (W64 (1+v8)) (([({ data := #[82,49] }:ByteArray),({ data := #[82,50] }:ByteArray),({ data := #[120,47,82,49] }:ByteArray)]:List ByteArray).getD v8.toNat ⟨#[]⟩) ([Z5Z l,Z60 l].getD (AA v5 2).1.toNat default).Name (AC.mk (W64 ((W64 (80+(W64 (100*v8))))+(W64 (5*(AA (Z6k v5) 5).1)))) (W64 ((W64 (100+(W64 (80*(AA (AA (Z6k v5) 5).2 3).1))))+(W64 (5*(AA (Z6n v5) 3).1))))) (AA (AA v5 2).2 4).1 (LJ v5)]:List AE)) rfl kr))⟩ .nil)))))) (Cv.refl _)) ?_
  refine rg ⟨(D8 l [(6,tP 6 0),(7,Z6a l),(8,tI (W64 (v8+1)))]),[(2,Z5Y),(6,Z6q l v6_4 v8 v5),(25,Z6p v5),(31,Z64),(86,Z6r v6_4 v8 l v5)]⟩ ?_
  (try rw [(show W64 (v8+1)=v8+1 from Ah oM au5)])
  refine AF ?_
  refine ⟨(n0,v6_4++[AE.mk (W64 (1+v8)) (([({ data := #[82,49] }:ByteArray),({ data := #[82,50] }:ByteArray),({ data := #[120,47,82,49] }:ByteArray)]:List ByteArray).getD v8.toNat ⟨#[]⟩) ([Z5Z l,Z60 l].getD (AA v5 2).1.toNat default).Name (AC.mk (W64 ((W64 (80+(W64 (100*v8))))+(W64 (5*(AA (Z6k v5) 5).1)))) (W64 ((W64 (100+(W64 (80*(AA (AA (Z6k v5) 5).2 3).1))))+(W64 (5*(AA (Z6n v5) 3).1))))) (AA (AA v5 2).2 4).1 (LJ v5)],(AA (Z6n v5) 3).2,v8+1),⟨?_,?_,(by rw [<- hF0];simp only [Ck,h1,cond_true,cond_false])⟩,Nat.lt_succ_self _,Cv.trans (vr 86 100000 hk0) (Aw kr)⟩
  ·show ((W64 (1+(AA (AA (AD.mk (Aa l 2) 0) 3).2 3).1))-(v8+1)).toNat<n0;omega
  exact ⟨ax0,(by show Pp [BB (Aa l 0) ({ data := #[82] }:ByteArray),BB (Aa l 1) ({ data := #[81] }:ByteArray)] (v6_4++[AE.mk (W64 (1+v8)) (([({ data := #[82,49] }:ByteArray),({ data := #[82,50] }:ByteArray),({ data := #[120,47,82,49] }:ByteArray)]:List ByteArray).getD v8.toNat ⟨#[]⟩) ([Z5Z l,Z60 l].getD (AA v5 2).1.toNat default).Name (AC.mk (W64 ((W64 (80+(W64 (100*v8))))+(W64 (5*(AA (Z6k v5) 5).1)))) (W64 ((W64 (100+(W64 (80*(AA (AA (Z6k v5) 5).2 3).1))))+(W64 (5*(AA (Z6n v5) 3).1))))) (AA (AA v5 2).2 4).1 (LJ v5)]);first | exact XF | exact XG (by assumption) (QN _ _ _ (DM _ 2 (by decide) (by decide))) | assumption),(by show Bg ((AA (Z6n v5) 3).2);repeat (first | with_reducible assumption | exact Ci (DP hll _) | with_reducible refine BQ ?_ | with_reducible refine En ?_ | with_reducible refine De ?_ | with_reducible refine DD ?_  | with_reducible refine Cp ?_ ?_)),ax0,ax0,ax0⟩
 have g1:=oF h1
 have k1:=Sh g1 (by decide) (by decide) (by decide) (by decide)
 refine A3<|Ar ?_
 refine Ar<|A4 ?_
 refine AF<|AB ?_
 refine rs 89 (EY l 3) ⟨(Cb l []),[(2,Z5Y),(6,Z6f l v6_4),(31,Z64),(91,Z6c l),(100000,Z6g v6_4)]⟩ (F5 l 3 au13)<|AF ?_
 refine AB<|AB ?_
 refine rn ⟨(Cb l [(10,tI 0)]),[(2,Z5Y),(6,Z6f l v6_4),(31,Z64),(91,Z6c l),(100000,Z6g v6_4)]⟩<|AO ?_
 refine BI (Cv.trans (vg 100001 2 (fun _ _=>default) 106 [] [(31,[1])] hk0) (Cv.trans (vg 100002 2 (fun _ _=>default) 106 [] [(31,[3])] hk0) (Cv.trans (wg (⟨(Cb l [(10,tI 0)]),[(100003,.row 2 0 (fun _ _=>default) 106),(100002,.row 2 0 (fun _ _=>default) 106),(100001,.row 2 0 (fun _ _=>default) 106),(2,Z5Y),(6,Z6f l v6_4),(31,.rowx 2 3 (fun _ _=>default) 120 [(0,[.s ({ data := #[78,49] }:ByteArray),.own 100001 2 0]),(1,[.s ({ data := #[78,50] }:ByteArray),.own 100002 2 0]),(2,[.s ({ data := #[71,78,68] }:ByteArray),.own 100003 2 0])]),(91,Z6c l),(100000,Z6g v6_4)]⟩) 100003 2 (fun _ _=>default) 106 [] [(31,[5])] hk0) (Cv.trans (A7 (⟨(Cb l [(10,tI 0)]),[(100003,Z6s),(100002,Z6s),(100001,Z6s),(2,Z5Y),(6,Z6f l v6_4),(31,Z6R),(91,Z6c l),(100000,Z6g v6_4)]⟩) lr (.cons ⟨rfl,Ad 106 (B3 2 (fun _ _=>default) Ak.c)⟩ (.cons ⟨rfl,Ad 106 (B3 2 (fun _ _=>default) Ak.c)⟩ (.cons ⟨rfl,Ad 106 (B3 2 (fun _ _=>default) Ak.c)⟩ (.cons ⟨rfl,.refl _⟩ (.cons ⟨rfl,.refl _⟩ (.cons ⟨rfl,.rowx _ _ _ _ (.cons ⟨rfl,(rr (.cons (.own _ _ au2) .nil))⟩ (.cons ⟨rfl,(rr (.cons (.own _ _ au2) .nil))⟩ (.cons ⟨rfl,(rr (.cons (.own _ _ au2) .nil))⟩ .nil)))⟩ lr))))))) (Cv.trans (ck (⟨(Cb l [(10,tI 0)]),[(2,Z5Y),(6,Z6f l v6_4),(31,Z6R),(91,Z6c l),(100000,Z6g v6_4),(100001,Z6s),(100002,Z6s),(100003,Z6s)]⟩)) (Cv.refl _)))))) ?_
 refine A0 (ι:=Nat×List Ak×List Ak×List Ak×AD×Int) (fun x=>⟨(Cb l [(10,tI x.2.2.2.2.2)]),[(2,Z5Y),(6,Z6f l v6_4),(31,.rowx 2 3 (fun _ _=>default) 120 [(0,[.s ({ data := #[78,49] }:ByteArray),.own 100001 2 x.2.1.length]),(1,[.s ({ data := #[78,50] }:ByteArray),.own 100002 2 x.2.2.1.length]),(2,[.s ({ data := #[71,78,68] }:ByteArray),.own 100003 2 x.2.2.2.1.length])]),(91,.cells (AD.c x.2.2.2.2.1) 117),(100000,Z6g v6_4),(100001,.row 2 x.2.1.length (AL Ak.c x.2.1) 106),(100002,.row 2 x.2.2.1.length (AL Ak.c x.2.2.1) 106),(100003,.row 2 x.2.2.2.1.length (AL Ak.c x.2.2.2.1) 106)]⟩) (fun x=>((W64 (1+(AA (AA (AD.mk (Aa l 2) 0) 3).2 3).1))-x.2.2.2.2.2).toNat<x.1/\(DA x.2.1 (6*x.2.2.2.2.2)/\DA x.2.2.1 (6*x.2.2.2.2.2)/\DA x.2.2.2.1 (6*x.2.2.2.2.2)/\Bg x.2.2.2.2.1/\0<=x.2.2.2.2.2/\(x.2.2.2.2.2<=(W64 (1+(AA (AA (AD.mk (Aa l 2) 0) 3).2 3).1))\/x.2.2.2.2.2=0))/\Db l v6_4 v5 v8 (Ck l n0) x.1 x.2.1 x.2.2.1 x.2.2.2.1 x.2.2.2.2.1 x.2.2.2.2.2=BW l) (fun x=>x.1) ?_ (((W64 (1+(AA (AA (AD.mk (Aa l 2) 0) 3).2 3).1))-0).toNat+1,([]:List Ak),([]:List Ak),([]:List Ak),AD.mk (Aa l 3) 0,0) ⟨Nat.lt_succ_self _,⟨(by show DA ([]:List Ak) (6*0);unfold DA at *;repeat (first | omega | exact Ew oM | refine Ev ?_ ?_ | (simp;done))),(by show DA ([]:List Ak) (6*0);unfold DA at *;repeat (first | omega | exact Ew oM | refine Ev ?_ ?_ | (simp;done))),(by show DA ([]:List Ak) (6*0);unfold DA at *;repeat (first | omega | exact Ew oM | refine Ev ?_ ?_ | (simp;done))),(by show Bg (AD.mk (Aa l 3) 0);repeat (first | with_reducible assumption | exact Ci (DP hll _) | with_reducible refine BQ ?_ | with_reducible refine En ?_ | with_reducible refine De ?_ | with_reducible refine DD ?_  | with_reducible refine Cp ?_ ?_)),ax0,ax0⟩,(by rw [<- hF0];simp only [Ck,h1,cond_true,cond_false])⟩
 rintro ⟨n1,v31_1,v31_3,v31_5,v5',v10⟩ ⟨hm1,hinv1,hF1⟩
 try dsimp only at hm1 hinv1 hF1
 cases n1 with | zero=>exact nz hm1 | succ n1 => ?_
 have hi1_0:=hinv1.1
 have hi1_1:=hinv1.2.1
 have hi1_2:=hinv1.2.2.1
 have hi1_3:=hinv1.2.2.2.1
 refine AB<|AB ?_
 refine rn ⟨(Cb l [(10,tI v10),(94,Z6x v10 l)]),[(2,Z5Y),(6,Z6f l v6_4),(31,Z6S v31_1 v31_3 v31_5),(JE v5'),(100000,Z6g v6_4),(100001,Z6t v31_1),(100002,Z6u v31_3),(100003,Z6v v31_5)]⟩ ?_
 refine AW (decide ((v10:Int)<(W64 (1+(AA (AA (AD.mk (Aa l 2) 0) 3).2 3).1)))) kr (fun h2 => ?_) (fun h2 => ?_)
 ·have g2:=oT h2
  have k2:=SZ g2 (by decide) (by decide) (by decide) (by decide)
  have kk2:=PR g2 (by decide) (by decide) (by decide) (by decide)
  refine AV<|AF ?_
  refine AB<|AO<|AB ?_
  refine rc [(105,LA [Z5Z l,Z60 l] (v6_4.getD v10.toNat default).Type')] [0<=(v10:Int)/\(v10:Int)<((v6_4.length:Nat):Int),v10.toNat<v6_4.length,Aq (LA [Z5Z l,Z60 l] (v6_4.getD v10.toNat default).Type').2.1] ⟨(Cb l [(10,tI v10),(11,tP 11 0)]),(EE l v6_4 v10 [(31,Z6S v31_1 v31_3 v31_5),(JE v5'),(100000,Z6g v6_4),(100001,Z6t v31_1),(100002,Z6u v31_3),(100003,Z6v v31_5)])⟩ (.cons (SR [Z5Z l,Z60 l] (v6_4.getD v10.toNat default).Type' au13) .nil) (.cons au14 (.cons au14 (.cons rfl .nil)))<|AF<|AB ?_
  refine rn ⟨(Cb l [(10,tI v10),(11,tP 11 0),(13,tI 0)]),(EE l v6_4 v10 [(31,Z6S v31_1 v31_3 v31_5),(JE v5'),(100000,Z6g v6_4),(100001,Z6t v31_1),(100002,Z6u v31_3),(100003,Z6v v31_5)])⟩<|AO ?_
  refine A0 (ι:=Nat×List Ak×List Ak×List Ak×AD×Int) (fun x=>⟨(Cb l [(10,tI v10),(11,tP 11 0),(13,tI x.2.2.2.2.2)]),(EE l v6_4 v10 [(31,.rowx 2 3 (fun _ _=>default) 120 [(0,[.s ({ data := #[78,49] }:ByteArray),.own 100001 2 x.2.1.length]),(1,[.s ({ data := #[78,50] }:ByteArray),.own 100002 2 x.2.2.1.length]),(2,[.s ({ data := #[71,78,68] }:ByteArray),.own 100003 2 x.2.2.2.1.length])]),(91,.cells (AD.c x.2.2.2.2.1) 117),(100000,Z6g v6_4),(100001,.row 2 x.2.1.length (AL Ak.c x.2.1) 106),(100002,.row 2 x.2.2.1.length (AL Ak.c x.2.2.1) 106),(100003,.row 2 x.2.2.2.1.length (AL Ak.c x.2.2.2.1) 106)])⟩) (fun x=>(((Z6y l v6_4 v10).Pads.length:Int)-x.2.2.2.2.2).toNat<x.1/\(DA x.2.1 (6*v10+x.2.2.2.2.2)/\DA x.2.2.1 (6*v10+x.2.2.2.2.2)/\DA x.2.2.2.1 (6*v10+x.2.2.2.2.2)/\Bg x.2.2.2.2.1/\0<=x.2.2.2.2.2/\(x.2.2.2.2.2<=((Z6y l v6_4 v10).Pads.length:Int)\/x.2.2.2.2.2=0))/\D0 l v6_4 v5 v8 v31_1 v31_3 v31_5 v5' v10 (Ck l n0) (Db l v6_4 v5 v8 (Ck l n0) n1) x.1 x.2.1 x.2.2.1 x.2.2.2.1 x.2.2.2.2.1 x.2.2.2.2.2=BW l) (fun x=>x.1) ?_ ((((Z6y l v6_4 v10).Pads.length:Int)-0).toNat+1,v31_1,v31_3,v31_5,v5',0) ⟨Nat.lt_succ_self _,⟨(by show DA v31_1 (6*v10+0);unfold DA at *;repeat (first | omega | exact Ew oM | refine Ev ?_ ?_ | (simp;done))),(by show DA v31_3 (6*v10+0);unfold DA at *;repeat (first | omega | exact Ew oM | refine Ev ?_ ?_ | (simp;done))),(by show DA v31_5 (6*v10+0);unfold DA at *;repeat (first | omega | exact Ew oM | refine Ev ?_ ?_ | (simp;done))),(by show Bg v5';repeat (first | with_reducible assumption | exact Ci (DP hll _) | with_reducible refine BQ ?_ | with_reducible refine En ?_ | with_reducible refine De ?_ | with_reducible refine DD ?_  | with_reducible refine Cp ?_ ?_)),ax0,ax0⟩,(by rw [<- hF1];simp only [Db,h2,cond_true,cond_false])⟩
  rintro ⟨n2,v31_1',v31_3',v31_5',v5'',v13⟩ ⟨hm2,hinv2,hF2⟩
  try dsimp only at hm2 hinv2 hF2
  cases n2 with | zero=>exact nz hm2 | succ n2 => ?_
  have hi2_0:=hinv2.1
  have hi2_1:=hinv2.2.1
  have hi2_2:=hinv2.2.2.1
  have hi2_3:=hinv2.2.2.2.1
  have hp6:((Z6y l v6_4 v10).Pads.length:Int)<=6:=(hi0_1 v10 oM oM).2
  refine AB<|AB ?_
  refine rn ⟨(Cb l [(10,tI v10),(11,tP 11 0),(13,tI v13),(112,tB (decide ((v13:Int)<((Z6y l v6_4 v10).Pads.length:Int))))]),(EE l v6_4 v10 [(31,Z6T v31_1' v31_3' v31_5'),(91,.cells (AD.c v5'') 117),(100000,Z6g v6_4),(100001,Z6A v31_1'),(100002,Z6B v31_3'),(100003,Z6C v31_5')])⟩ ?_
  refine AW _ rfl (fun h3 => ?_) (fun h3 => ?_)
  ·have g3:=oT h3
   refine AV<|AF<|AB ?_
   refine Bb (⟨[(0,.av (oL l)),(2,tP 2 0),(4,tO (lst 3 AR.c [Z5Z l,Z60 l])),(5,tP 91 0),(6,tP 6 0),(7,tI (W64 (1+(AA (Gq l).2 3).1))),(10,tI v10),(11,tP 11 0),(13,tI v13)],[(2,.cells W3 41),(6,.cells [.i 2,.i (Z67 l).Kind,lst 7 AH.c (Z67 l).Edges,.i (Z67 l).R,.own 100000 7 v6_4.length,.own 31 2 3,vN,vN,vN,vN,vN,vN,vN,vN,vN] 41),(11,.cells (AR.c (Z6y l v6_4 v10)) 82),(31,.rowx 2 3 (fun _ _=>default) 120 [(0,[.s ({ data := #[78,49] }:ByteArray),.own 100004 2 (Z6H v5'' v31_1' v6_4 v10 l v13).length]),(1,[.s ({ data := #[78,50] }:ByteArray),.own 100005 2 (Z6I v5'' v31_3' v6_4 v10 l v13).length]),(2,[.s ({ data := #[71,78,68] }:ByteArray),.own 100006 2 (Z6J v5'' v31_5' v6_4 v10 l v13).length])]),(HJ v5''),(100000,.row 7 v6_4.length (AL AE.c v6_4) 78),(100004,.row 2 (Z6H v5'' v31_1' v6_4 v10 l v13).length (AL Ak.c (Z6H v5'' v31_1' v6_4 v10 l v13)) 106),(100005,.row 2 (Z6I v5'' v31_3' v6_4 v10 l v13).length (AL Ak.c (Z6I v5'' v31_3' v6_4 v10 l v13)) 106),(100006,.row 2 (Z6J v5'' v31_5' v6_4 v10 l v13).length (AL Ak.c (Z6J v5'' v31_5' v6_4 v10 l v13)) 106)]⟩) ?_ ?_
   ·refine AO<|AB ?_
    refine rb 116 (Z6D v5'') (.cells (AD.c v5'') 117) ⟨(Cb l [(10,tI v10),(11,tP 11 0),(13,tI v13),(14,tI (AA v5'' 5).1)]),(EE l v6_4 v10 [(31,Z6T v31_1' v31_3' v31_5'),(HJ v5''),(100000,Z6g v6_4),(100001,Z6A v31_1'),(100002,Z6B v31_3'),(100003,Z6C v31_5')])⟩ (cWr (BS v5'' 5 au8 au10))<|AF<|AB ?_
    refine rn ⟨(Cb l [(10,tI v10),(11,tP 11 0),(13,tI v13),(14,tI (AA v5'' 5).1),(118,tB (decide (((AA v5'' 5).1:Int)<3)))]),(EE l v6_4 v10 [(31,Z6T v31_1' v31_3' v31_5'),(HJ v5''),(100000,Z6g v6_4),(100001,Z6A v31_1'),(100002,Z6B v31_3'),(100003,Z6C v31_5')])⟩ ?_
    refine AW _ rfl (fun h4 => ?_) (fun h4 => ?_)
    ·have g4:=oT h4
     refine Ug (decide (((AA v5'' 5).1:Int)=0)) (fun h5 => ?_) (fun h5 => ?_)
     ·have g5:=oT h5
      (try rw [g5])
      refine dw [] [] [0<=(0:Int)/\(0:Int)<((3:Nat):Int),0<=(v10:Int)/\(v10:Int)<((v6_4.length:Nat):Int),v10.toNat<v6_4.length,0<=(v13:Int)/\(v13:Int)<(((Z6y l v6_4 v10).Pads.length:Nat):Int),v31_1'.length=v31_1'.length,v31_1'.length+1<=maxLen,(v31_1'.length+1)*32<=140737488355328,0<=(0:Int)/\(0:Int)<((3:Nat):Int)] ⟨(Cb l [(10,tI v10),(11,tP 11 0),(13,tI v13)]),(EE l v6_4 v10 [(31,.rowx 2 3 (fun _ _=>default) 120 [(0,[.s ({ data := #[78,49] }:ByteArray),.own 142 2 (v31_1'.length+1)]),(1,[.s ({ data := #[78,50] }:ByteArray),.own 100002 2 v31_3'.length]),(2,[.s ({ data := #[71,78,68] }:ByteArray),.own 100003 2 v31_5'.length])]),(HJ v5''),(142,.row 2 (v31_1'.length+1) (fun i_ j_=>if i_<v31_1'.length then (AL Ak.c v31_1') i_ j_ else (VD v6_4 v10 l v13) (i_-v31_1'.length) j_) 106),(100000,Z6g v6_4),(100002,Z6B v31_3'),(100003,Z6C v31_5')])⟩ .nil (.cons au14 (.cons au14 (.cons au14 (.cons au14 (.cons rfl (.cons au19 (.cons au19 (.cons au14 .nil))))))))<|BA<|AF ?_
      refine Cv.trans (A7 (⟨(Cb l [(10,tI v10),(11,tP 11 0),(13,tI v13)]),(EE l v6_4 v10 [(31,.rowx 2 3 (fun _ _=>default) 120 [(0,[.s ({ data := #[78,49] }:ByteArray),.own 142 2 (v31_1'++(I1 v6_4 v10 l v13)).length]),(1,[.s ({ data := #[78,50] }:ByteArray),.own 100002 2 v31_3'.length]),(2,[.s ({ data := #[71,78,68] }:ByteArray),.own 100003 2 v31_5'.length])]),(HJ v5''),(142,Z6E v31_1' v6_4 v10 l v13),(100000,Z6g v6_4),(100002,Z6B v31_3'),(100003,Z6C v31_5')])⟩) lr (.cons ⟨rfl,.refl _⟩ (.cons ⟨rfl,.refl _⟩ (.cons ⟨rfl,.refl _⟩ (.cons ⟨rfl,.rowx _ _ _ _ (.cons ⟨rfl,(rr (.cons (.own _ _ au2) .nil))⟩ (.cons ⟨rfl,(rr2 .nil)⟩ (.cons ⟨rfl,(rr2 .nil)⟩ .nil)))⟩ (.cons ⟨rfl,.refl _⟩ (.cons ⟨rfl,Ad 106 (A8 (Ay 2 Ak.c v31_1') (Al (c:=Ak.c) (xs:=([Ak.mk (v6_4.getD v10.toNat default).Ref ((Z6y l v6_4 v10).Pads.getD v13.toNat default).Name]:List Ak)) rfl kr))⟩ lr))))))) (Cv.trans (vr 142 100004 hk0) (Cv.trans (vr 100002 100005 hk0) (Cv.trans (vr 100003 100006 hk0) (Cv.trans (ck (⟨(Cb l [(10,tI v10),(11,tP 11 0),(13,tI v13)]),(EE l v6_4 v10 [(31,Z6U v31_1' v6_4 v10 l v13 v31_3' v31_5'),(HJ v5''),(100000,Z6g v6_4),(100004,Z6E v31_1' v6_4 v10 l v13),(100005,Z6B v31_3'),(100006,Z6C v31_5')])⟩)) (Aw ?_)))))
      first | rfl | (simp only [h4,h5,Z6H,Z6I,Z6J,cond_true,cond_false] <;> rfl)
     have g5:=oF h5
     refine Ug (decide (((AA v5'' 5).1:Int)=1)) (fun h6 => ?_) (fun h6 => ?_)
     ·have g6:=oT h6
      (try rw [g6])
      refine dw [] [] [0<=(1:Int)/\(1:Int)<((3:Nat):Int),0<=(v10:Int)/\(v10:Int)<((v6_4.length:Nat):Int),v10.toNat<v6_4.length,0<=(v13:Int)/\(v13:Int)<(((Z6y l v6_4 v10).Pads.length:Nat):Int),v31_3'.length=v31_3'.length,v31_3'.length+1<=maxLen,(v31_3'.length+1)*32<=140737488355328,0<=(1:Int)/\(1:Int)<((3:Nat):Int)] ⟨(Cb l [(10,tI v10),(11,tP 11 0),(13,tI v13)]),(EE l v6_4 v10 [(31,.rowx 2 3 (fun _ _=>default) 120 [(0,[.s ({ data := #[78,49] }:ByteArray),.own 100001 2 v31_1'.length]),(1,[.s ({ data := #[78,50] }:ByteArray),.own 142 2 (v31_3'.length+1)]),(2,[.s ({ data := #[71,78,68] }:ByteArray),.own 100003 2 v31_5'.length])]),(HJ v5''),(142,.row 2 (v31_3'.length+1) (fun i_ j_=>if i_<v31_3'.length then (AL Ak.c v31_3') i_ j_ else (VD v6_4 v10 l v13) (i_-v31_3'.length) j_) 106),(100000,Z6g v6_4),(100001,Z6A v31_1'),(100003,Z6C v31_5')])⟩ .nil (.cons au14 (.cons au14 (.cons au14 (.cons au14 (.cons rfl (.cons au19 (.cons au19 (.cons au14 .nil))))))))<|BA<|AF ?_
      refine Cv.trans (A7 (⟨(Cb l [(10,tI v10),(11,tP 11 0),(13,tI v13)]),(EE l v6_4 v10 [(31,.rowx 2 3 (fun _ _=>default) 120 [(0,[.s ({ data := #[78,49] }:ByteArray),.own 100001 2 v31_1'.length]),(1,[.s ({ data := #[78,50] }:ByteArray),.own 142 2 (v31_3'++(I1 v6_4 v10 l v13)).length]),(2,[.s ({ data := #[71,78,68] }:ByteArray),.own 100003 2 v31_5'.length])]),(HJ v5''),(142,Z6F v31_3' v6_4 v10 l v13),(100000,Z6g v6_4),(100001,Z6A v31_1'),(100003,Z6C v31_5')])⟩) lr (.cons ⟨rfl,.refl _⟩ (.cons ⟨rfl,.refl _⟩ (.cons ⟨rfl,.refl _⟩ (.cons ⟨rfl,.rowx _ _ _ _ (.cons ⟨rfl,(rr2 .nil)⟩ (.cons ⟨rfl,(rr (.cons (.own _ _ au2) .nil))⟩ (.cons ⟨rfl,(rr2 .nil)⟩ .nil)))⟩ (.cons ⟨rfl,.refl _⟩ (.cons ⟨rfl,Ad 106 (A8 (Ay 2 Ak.c v31_3') (Al (c:=Ak.c) (xs:=([Ak.mk (v6_4.getD v10.toNat default).Ref ((Z6y l v6_4 v10).Pads.getD v13.toNat default).Name]:List Ak)) rfl kr))⟩ lr))))))) (Cv.trans (vr 100001 100004 hk0) (Cv.trans (vr 142 100005 hk0) (Cv.trans (vr 100003 100006 hk0) (Cv.trans (ck (⟨(Cb l [(10,tI v10),(11,tP 11 0),(13,tI v13)]),(EE l v6_4 v10 [(31,Z6V v31_1' v31_3' v6_4 v10 l v13 v31_5'),(HJ v5''),(100000,Z6g v6_4),(100004,Z6A v31_1'),(100005,Z6F v31_3' v6_4 v10 l v13),(100006,Z6C v31_5')])⟩)) (Aw ?_)))))
      first | rfl | (simp only [h4,h5,h6,Z6H,Z6I,Z6J,cond_true,cond_false] <;> rfl)
     have g6:=oF h6
     have g7:((AA v5'' 5).1:Int)=2:=Yh (by with_reducible assumption) (by with_reducible assumption) (by with_reducible assumption)
     (try rw [g7])
     refine dw [] [] [0<=(2:Int)/\(2:Int)<((3:Nat):Int),0<=(v10:Int)/\(v10:Int)<((v6_4.length:Nat):Int),v10.toNat<v6_4.length,0<=(v13:Int)/\(v13:Int)<(((Z6y l v6_4 v10).Pads.length:Nat):Int),v31_5'.length=v31_5'.length,v31_5'.length+1<=maxLen,(v31_5'.length+1)*32<=140737488355328,0<=(2:Int)/\(2:Int)<((3:Nat):Int)] ⟨(Cb l [(10,tI v10),(11,tP 11 0),(13,tI v13)]),(EE l v6_4 v10 [(31,.rowx 2 3 (fun _ _=>default) 120 [(0,[.s ({ data := #[78,49] }:ByteArray),.own 100001 2 v31_1'.length]),(1,[.s ({ data := #[78,50] }:ByteArray),.own 100002 2 v31_3'.length]),(2,[.s ({ data := #[71,78,68] }:ByteArray),.own 142 2 (v31_5'.length+1)])]),(HJ v5''),(142,.row 2 (v31_5'.length+1) (fun i_ j_=>if i_<v31_5'.length then (AL Ak.c v31_5') i_ j_ else (VD v6_4 v10 l v13) (i_-v31_5'.length) j_) 106),(100000,Z6g v6_4),(100001,Z6A v31_1'),(100002,Z6B v31_3')])⟩ .nil (.cons au14 (.cons au14 (.cons au14 (.cons au14 (.cons rfl (.cons au19 (.cons au19 (.cons au14 .nil))))))))<|BA<|AF ?_
     refine Cv.trans (A7 (⟨(Cb l [(10,tI v10),(11,tP 11 0),(13,tI v13)]),(EE l v6_4 v10 [(31,.rowx 2 3 (fun _ _=>default) 120 [(0,[.s ({ data := #[78,49] }:ByteArray),.own 100001 2 v31_1'.length]),(1,[.s ({ data := #[78,50] }:ByteArray),.own 100002 2 v31_3'.length]),(2,[.s ({ data := #[71,78,68] }:ByteArray),.own 142 2 (v31_5'++(I1 v6_4 v10 l v13)).length])]),(HJ v5''),(142,Z6G v31_5' v6_4 v10 l v13),(100000,Z6g v6_4),(100001,Z6A v31_1'),(100002,Z6B v31_3')])⟩) lr (.cons ⟨rfl,.refl _⟩ (.cons ⟨rfl,.refl _⟩ (.cons ⟨rfl,.refl _⟩ (.cons ⟨rfl,.rowx _ _ _ _ (.cons ⟨rfl,(rr2 .nil)⟩ (.cons ⟨rfl,(rr2 .nil)⟩ (.cons ⟨rfl,(rr (.cons (.own _ _ au2) .nil))⟩ .nil)))⟩ (.cons ⟨rfl,.refl _⟩ (.cons ⟨rfl,Ad 106 (A8 (Ay 2 Ak.c v31_5') (Al (c:=Ak.c) (xs:=([Ak.mk (v6_4.getD v10.toNat default).Ref ((Z6y l v6_4 v10).Pads.getD v13.toNat default).Name]:List Ak)) rfl kr))⟩ lr))))))) (Cv.trans (vr 100001 100004 hk0) (Cv.trans (vr 100002 100005 hk0) (Cv.trans (vr 142 100006 hk0) (Cv.trans (ck (⟨(Cb l [(10,tI v10),(11,tP 11 0),(13,tI v13)]),(EE l v6_4 v10 [(31,Z6W v31_1' v31_3' v31_5' v6_4 v10 l v13),(HJ v5''),(100000,Z6g v6_4),(100004,Z6A v31_1'),(100005,Z6B v31_3'),(100006,Z6G v31_5' v6_4 v10 l v13)])⟩)) (Aw ?_)))))
     first | rfl | (simp only [h4,h5,h6,Z6H,Z6I,Z6J,cond_true,cond_false] <;> rfl)
    refine AV<|BA<|AF ?_
    refine Cv.trans (vk [0,2,4,5,6,7,10,11,13] [2,6,11,31,91,100000,100001,100002,100003]) (Cv.trans (vr 100001 100004 hk0) (Cv.trans (vr 100002 100005 hk0) (Cv.trans (wr (⟨(Cb l [(10,tI v10),(11,tP 11 0),(13,tI v13)]),(EE l v6_4 v10 [(31,.rowx 2 3 (fun _ _=>default) 120 [(0,[.s ({ data := #[78,49] }:ByteArray),.own 100004 2 v31_1'.length]),(1,[.s ({ data := #[78,50] }:ByteArray),.own 100005 2 v31_3'.length]),(2,[.s ({ data := #[71,78,68] }:ByteArray),.own 100006 2 v31_5'.length])]),(HJ v5''),(100000,Z6g v6_4),(100004,Z6A v31_1'),(100005,Z6B v31_3'),(100006,Z6C v31_5')])⟩) 100003 100006 hk0) (Aw ?_))))
    first | rfl | (simp only [h4,Z6H,Z6I,Z6J,cond_true,cond_false] <;> rfl)
   refine rg ⟨(Cb l [(10,tI v10),(11,tP 11 0),(13,tI (W64 (v13+1)))]),(EE l v6_4 v10 [(31,.rowx 2 3 (fun _ _=>default) 120 [(0,[.s ({ data := #[78,49] }:ByteArray),.own 100004 2 (Z6H v5'' v31_1' v6_4 v10 l v13).length]),(1,[.s ({ data := #[78,50] }:ByteArray),.own 100005 2 (Z6I v5'' v31_3' v6_4 v10 l v13).length]),(2,[.s ({ data := #[71,78,68] }:ByteArray),.own 100006 2 (Z6J v5'' v31_5' v6_4 v10 l v13).length])]),(HJ v5''),(100000,Z6g v6_4),(100004,Z6K v5'' v31_1' v6_4 v10 l v13),(100005,Z6L v5'' v31_3' v6_4 v10 l v13),(100006,Z6M v5'' v31_5' v6_4 v10 l v13)])⟩ ?_
   (try rw [(show W64 (v13+1)=v13+1 from Ah oM au5)])
   refine AF ?_
   refine ⟨(n2,Z6H v5'' v31_1' v6_4 v10 l v13,Z6I v5'' v31_3' v6_4 v10 l v13,Z6J v5'' v31_5' v6_4 v10 l v13,(AA v5'' 5).2,v13+1),⟨?_,?_,(by rw [<- hF2];simp only [D0,h3,cond_true,cond_false])⟩,Nat.lt_succ_self _,Cv.trans (vr 100004 100001 hk0) (Cv.trans (vr 100005 100002 hk0) (Cv.trans (vr 100006 100003 hk0) (Aw kr)))⟩
   ·show (((Z6y l v6_4 v10).Pads.length:Int)-(v13+1)).toNat<n2;omega
   exact ⟨(by show DA (Z6H v5'' v31_1' v6_4 v10 l v13) (6*v10+(v13+1));unfold DA at *;repeat (first | omega | exact Ew oM | refine Ev ?_ ?_ | (simp;done))),(by show DA (Z6I v5'' v31_3' v6_4 v10 l v13) (6*v10+(v13+1));unfold DA at *;repeat (first | omega | exact Ew oM | refine Ev ?_ ?_ | (simp;done))),(by show DA (Z6J v5'' v31_5' v6_4 v10 l v13) (6*v10+(v13+1));unfold DA at *;repeat (first | omega | exact Ew oM | refine Ev ?_ ?_ | (simp;done))),(by show Bg ((AA v5'' 5).2);repeat (first | with_reducible assumption | exact Ci (DP hll _) | with_reducible refine BQ ?_ | with_reducible refine En ?_ | with_reducible refine De ?_ | with_reducible refine DD ?_  | with_reducible refine Cp ?_ ?_)),ax0,ax0⟩
  have g3:=oF h3
  refine A3<|Ar ?_
  refine Ar<|A4 ?_
  refine BA<|AF ?_
  refine rg ⟨(Cb l [(10,tI (W64 (v10+1)))]),[(2,Z5Y),(6,Z6f l v6_4),(31,Z6T v31_1' v31_3' v31_5'),(91,.cells (AD.c v5'') 117),(100000,Z6g v6_4),(100001,Z6A v31_1'),(100002,Z6B v31_3'),(100003,Z6C v31_5')]⟩ ?_
  (try rw [(show W64 (v10+1)=v10+1 from Ah oM au5)])
  refine AF ?_
  refine ⟨(n1,v31_1',v31_3',v31_5',v5'',v10+1),⟨?_,?_,(by rw [<- hF2];simp only [D0,h3,cond_true,cond_false])⟩,Nat.lt_succ_self _,Aw kr⟩
  ·show ((W64 (1+(AA (AA (AD.mk (Aa l 2) 0) 3).2 3).1))-(v10+1)).toNat<n1;omega
  exact ⟨(by show DA v31_1' (6*(v10+1));unfold DA at *;repeat (first | omega | exact Ew oM | refine Ev ?_ ?_ | (simp;done))),(by show DA v31_3' (6*(v10+1));unfold DA at *;repeat (first | omega | exact Ew oM | refine Ev ?_ ?_ | (simp;done))),(by show DA v31_5' (6*(v10+1));unfold DA at *;repeat (first | omega | exact Ew oM | refine Ev ?_ ?_ | (simp;done))),(by show Bg v5'';repeat (first | with_reducible assumption | exact Ci (DP hll _) | with_reducible refine BQ ?_ | with_reducible refine En ?_ | with_reducible refine De ?_ | with_reducible refine DD ?_  | with_reducible refine Cp ?_ ?_)),ax0,ax0⟩
 have g2:=oF h2
 have k2:=Sh g2 (by decide) (by decide) (by decide) (by decide)
 refine A3<|Ar ?_
 refine Ar<|A4 ?_
 refine AF<|AB ?_
 refine BI (Cv.trans (wf (⟨(Cb l [(10,tI v10),(94,Z6x v10 l)]),[(2,Z5Y),(6,Z6w l v6_4),(31,Z6S v31_1 v31_3 v31_5),(JE v5'),(100001,Z6t v31_1),(100002,Z6u v31_3),(100003,Z6v v31_5)]⟩) 100000 7 v6_4.length (AL AE.c v6_4) 78 hk0 (.cons ⟨rfl,rfl⟩ .nil)) (Cv.refl _)) ?_
 refine BI (Cv.trans (vf 100001 2 v31_1.length (AL Ak.c v31_1) 106 hk0 (.cons ⟨rfl,rfl⟩ .nil)) (Cv.trans (vf 100002 2 v31_3.length (AL Ak.c v31_3) 106 hk0 (.cons ⟨rfl,rfl⟩ .nil)) (Cv.trans (wf (⟨(Cb l [(10,tI v10),(94,Z6x v10 l)]),[(2,Z5Y),(6,Z6w l v6_4),(31,.rowx 2 3 (fun _ _=>default) 120 [(0,[.s ({ data := #[78,49] }:ByteArray),lst 2 Ak.c v31_1]),(1,[.s ({ data := #[78,50] }:ByteArray),lst 2 Ak.c v31_3]),(2,[.s ({ data := #[71,78,68] }:ByteArray),lst 2 Ak.c v31_5])]),(JE v5')]⟩) 100003 2 v31_5.length (AL Ak.c v31_5) 106 hk0 (.cons ⟨rfl,rfl⟩ .nil)) (Cv.trans (eB (⟨(Cb l [(10,tI v10),(94,Z6x v10 l)]),[(2,Z5Y),(6,Z6w l v6_4),(31,.row 2 3 (Ap 2 3 [.s ({ data := #[78,49] }:ByteArray),lst 2 Ak.c v31_1,.s ({ data := #[78,50] }:ByteArray),lst 2 Ak.c v31_3,.s ({ data := #[71,78,68] }:ByteArray),lst 2 Ak.c v31_5]) 120),(JE v5')]⟩) 31 2 3 (fun _ _=>default) 120 [[.s ({ data := #[78,49] }:ByteArray),lst 2 Ak.c v31_1],[.s ({ data := #[78,50] }:ByteArray),lst 2 Ak.c v31_3],[.s ({ data := #[71,78,68] }:ByteArray),lst 2 Ak.c v31_5]] kr kr kr kr) (Cv.trans (A7 (⟨(Cb l [(10,tI v10),(94,Z6x v10 l)]),[(2,Z5Y),(6,.cells (GG l [lst 7 AE.c v6_4,.own 31 2 ([Bi.mk ({ data := #[78,49] }:ByteArray) v31_1,Bi.mk ({ data := #[78,50] }:ByteArray) v31_3,Bi.mk ({ data := #[71,78,68] }:ByteArray) v31_5].length),vN,vN,vN,vN,vN,vN,vN,vN,vN]) 41),(31,.row 2 ([Bi.mk ({ data := #[78,49] }:ByteArray) v31_1,Bi.mk ({ data := #[78,50] }:ByteArray) v31_3,Bi.mk ({ data := #[71,78,68] }:ByteArray) v31_5].length) (AL Bi.c [Bi.mk ({ data := #[78,49] }:ByteArray) v31_1,Bi.mk ({ data := #[78,50] }:ByteArray) v31_3,Bi.mk ({ data := #[71,78,68] }:ByteArray) v31_5]) 120),(JE v5')]⟩) lr (.cons ⟨rfl,.refl _⟩ (.cons ⟨rfl,.cells _ (rr5 (.cons (.own _ _ au2) (rr (rr (rr (rr (rr (rr (rr (rr (rr .nil)))))))))))⟩ (.cons ⟨rfl,Ad 120 (Al (c:=Bi.c) (xs:=([Bi.mk ({ data := #[78,49] }:ByteArray) v31_1,Bi.mk ({ data := #[78,50] }:ByteArray) v31_3,Bi.mk ({ data := #[71,78,68] }:ByteArray) v31_5]:List Bi)) rfl kr)⟩ lr)))) (Cv.trans (wf (⟨(Cb l [(10,tI v10),(94,Z6x v10 l)]),[(2,Z5Y),(6,.cells (GG l [lst 7 AE.c v6_4,lst 2 Bi.c [Bi.mk ({ data := #[78,49] }:ByteArray) v31_1,Bi.mk ({ data := #[78,50] }:ByteArray) v31_3,Bi.mk ({ data := #[71,78,68] }:ByteArray) v31_5],vN,vN,vN,vN,vN,vN,vN,vN,vN]) 41),(JE v5')]⟩) 31 2 ([Bi.mk ({ data := #[78,49] }:ByteArray) v31_1,Bi.mk ({ data := #[78,50] }:ByteArray) v31_3,Bi.mk ({ data := #[71,78,68] }:ByteArray) v31_5].length) (AL Bi.c [Bi.mk ({ data := #[78,49] }:ByteArray) v31_1,Bi.mk ({ data := #[78,50] }:ByteArray) v31_3,Bi.mk ({ data := #[71,78,68] }:ByteArray) v31_5]) 120 hk0 (.cons ⟨rfl,rfl⟩ .nil)) (Cv.refl _))))))) ?_
 refine rb 147 (Z6O l v6_4 v31_1 v31_3 v31_5) (.cells (GG l [lst 7 AE.c v6_4,lst 2 Bi.c [Bi.mk ({ data := #[78,49] }:ByteArray) v31_1,Bi.mk ({ data := #[78,50] }:ByteArray) v31_3,Bi.mk ({ data := #[71,78,68] }:ByteArray) v31_5],vN,vN,vN,vN,vN,vN,vN,vN,vN]) 41) ⟨[(0,Z5X l),(2,tP 2 0),(4,Z61 l),(6,tP 6 0)],[(2,Z5Y),(6,.cells (W4 l v6_4 v31_1 v31_3 v31_5) 41)]⟩ (cWr (Vt (AG.mk 2 (Z67 l) v6_4 [Bi.mk ({ data := #[78,49] }:ByteArray) v31_1,Bi.mk ({ data := #[78,50] }:ByteArray) v31_3,Bi.mk ({ data := #[71,78,68] }:ByteArray) v31_5] [] [] [] [] [] [] [] [] []) [Z5Z l,Z60 l] l au13 au13 au13 au13 au13 au13))<|AF<|AB ?_
 refine rc [(149,EY l 7),(152,(Z6Q l v6_4 v31_1 v31_3 v31_5))] [Aq (EY l 7).2.1,Aq (Z6Q l v6_4 v31_1 v31_3 v31_5).2.1,fF [.cells (W4 l v6_4 v31_1 v31_3 v31_5) 41,.cells [lst 1 eIn (Aa l 7),.i 0] 117]] ⟨[(2,tP 2 0),(4,Z61 l),(6,tP 6 0)],[(2,Z5Y),(6,.cells (AG.c (Z6P l v6_4 v31_1 v31_3 v31_5).1) 41)]⟩ (.cons (F5 l 7 au13) (.cons (Wa (fun _ _=>kr) kr rfl rfl kr kr (aS (AG.mk (Z6N l v6_4 v31_1 v31_3 v31_5).Layers (Z6N l v6_4 v31_1 v31_3 v31_5).Outline (Z6N l v6_4 v31_1 v31_3 v31_5).Parts (Z6N l v6_4 v31_1 v31_3 v31_5).Nets (Z6N l v6_4 v31_1 v31_3 v31_5).Tracks (Z6N l v6_4 v31_1 v31_3 v31_5).Vias (Z6N l v6_4 v31_1 v31_3 v31_5).Pours (Z6N l v6_4 v31_1 v31_3 v31_5).Keeps (Z6N l v6_4 v31_1 v31_3 v31_5).Slots [] [] [] []) (AD.mk (Aa l 7) 0) au8 au13 au13 au13 au13 au13 au13 au13)) .nil)) (.cons rfl (.cons rfl (.cons rfl .nil)))<|AF<|AB ?_
 refine rn ⟨[(2,tP 2 0),(3,Z61 l)],[(2,.cells (AG.c (Z6P l v6_4 v31_1 v31_3 v31_5).1) 41)]⟩<|Ab ?_
 exact xl (.tup [.agg (AG.c (Z6P l v6_4 v31_1 v31_3 v31_5).1),.one (lst 3 AR.c [Z5Z l,Z60 l])]) (Ae (by rw [<- hF1];first | (simp only [Db,h2,cond_true,cond_false] <;> rfl)))
theorem bR (l:(List (List Int))) (hl:(l.length:Int)<=9223372036854775807) (hll:∀ x∈l,(x.length:Int)<=9223372036854775807):OKc (Sx l):=cPu<|iJ l hl hll
end
abbrev nN1:ByteArray:={ data := #[78,49] }
abbrev nN2:ByteArray:={ data := #[78,50] }
abbrev nGND:ByteArray:={ data := #[71,78,68] }
theorem YK (r:As):(Hd r).Edges.length=4:=rfl
theorem Yt (p:AC) (r:Int):(LG p r).Edges.length=1:=rfl
def Mz (n:Nat) (l:List A5):Prop:=l.length<=n/\∀ g∈l,LE g
theorem WN {n:Nat} {c:Bool} {a b:List A5} (ha:Mz n a) (hb:Mz n b):Mz n (bif c then a else b):=by cases c <;> assumption
theorem WM {n:Nat}:Mz n []:=⟨Nat.zero_le _,fun g hg=>by cases hg⟩
theorem Sf {n:Nat} {g:A5} {l:List A5} (hg:LE g) (h:Mz n l):Mz (n+1) (g::l):=⟨Nat.succ_le_succ h.1,fun x hx=>(List.mem_cons.1 hx).elim (fun e=>e▸hg) (h.2 x)⟩
theorem oC {n:Nat} {g:A5} {l:List A5} (hg:LE g) (h:Mz n l):Mz (n+1) (l++[g]):=⟨by rw [List.length_append];exact Nat.succ_le_succ h.1,fun x hx=>(List.mem_append.1 hx).elim (h.2 x) (fun e=>by rw [List.mem_singleton.1 e];exact hg)⟩
theorem Xo {k:Int} {a c:Bn}:LE (A5.mk k [a,c]):=(by decide:((2:Nat):Int)<=1000000)
theorem gs_up {n m:Nat} {l:List A5} (h:Mz n l) (k:n<=m):Mz m l:=⟨Nat.le_trans h.1 k,h.2⟩
theorem Yj (l:List Int) (d:AD):Mz 3 (Z5o l d):=by
 have h1:Mz 2 (Z5a l d):=WN (Sf Xo WM) WM
 have h2:Mz 2 (Z5i l d):=WN (Sf Xo (Sf Xo WM)) h1
 exact WN (oC Xo h2) (gs_up h2 (by decide))
theorem SX (d:AD) (k:Int):((Z50 d k).length:Int)<=1000000:=by
 unfold Z50 Z4V Z4Y
 cases decide ((AA (AA d 2).2 3).1=0) with
 | true=>rw [cond_true,YK];decide
 | false =>
  rw [cond_false]
  cases decide ((AA (AA d 2).2 3).1=1) with
  | true=>rw [cond_true,Yt];decide
  | false=>exact (by decide:((1:Nat):Int)<=1000000)
theorem Qc (l:List Int) (name:ByteArray):∀ (n:Nat) (v:List BJ) (d:AD) (k:Int),(∀ p∈v,Uj p)->(v.length:Int)<=1000000->((v.length:Int)+(W64 (2+(AA (AD.mk l 0) 5).1)-k)<=1000000)->((W64 (2+(AA (AD.mk l 0) 5).1))-k).toNat<n ->
  LC (C2 l name n v d k)
 | 0,v,d,k,_,_,_,h=>absurd h (Nat.not_lt_zero _)
 | n+1,v,d,k,hv,h0,h1,h2=>by
  unfold C2
  by_cases h:k<W64 (2+(AA (AD.mk l 0) 5).1)
  ·rw [decide_eq_true h,cond_true]
   refine Qc l name n _ _ (k+1) (fun p hp => ?_) (by simp only [List.length_append,List.length_cons,List.length_nil];omega) (by simp only [List.length_append,List.length_cons,List.length_nil];omega) (by omega)
   rcases List.mem_append.1 hp with hp | hp
   ·exact hv p hp
   rw [List.mem_singleton.1 hp]
   exact SX d k
  rw [decide_eq_false h,cond_false]
  have hg:=Yj l d
  exact ⟨h0,by have:=hg.1;show ((Z5o l d).length:Int)<=1000000;omega,hv,hg.2⟩
theorem UB (l:List Int) (name:ByteArray):LC (BB l name):=by
 have hn:=DM (AD.mk l 0) 5 (by decide) (by decide)
 have hw:W64 (2+(AA (AD.mk l 0) 5).1)=2+(AA (AD.mk l 0) 5).1:=Ah (by omega) (by omega)
 unfold BB
 exact Qc l name _ [] _ 0 (fun p hp=>by cases hp) (by decide) (by simp only [List.length_nil];omega) (by omega)
theorem Xa (l:List (List Int)) (v6_4:List AE) (v5:AD) (v8:Int) (a1 a3 a5:List Ak) (d1:AD) (v10:Int) (K0:List AE->AD->Int->(AG×(List AR))) (K1:List Ak->List Ak->List Ak->AD->Int->(AG×(List AR))) (hK:∀ a b c d,B4 (K1 a b c d (v10+1)).2):∀ (n:Nat) (x y z:List Ak) (d:AD) (k:Int),0<=k->(((BX [BB (Aa l 0) ({ data := #[82] }:ByteArray),BB (Aa l 1) ({ data := #[81] }:ByteArray)] (v6_4.getD v10.toNat default).Type').1.Pads.length:Int)-k).toNat<n->B4 (D0 l v6_4 v5 v8 a1 a3 a5 d1 v10 K0 K1 n x y z d k).2
 | 0,x,y,z,d,k,_,h=>absurd h (Nat.not_lt_zero _)
 | n+1,x,y,z,d,k,k0,h=>by
  unfold D0
  show B4 (bif decide ((k:Int)<((BX [BB (Aa l 0) ({ data := #[82] }:ByteArray),BB (Aa l 1) ({ data := #[81] }:ByteArray)] (v6_4.getD v10.toNat default).Type').1.Pads.length:Int)) then (_:AG×List AR) else _).2
  by_cases hc:(k:Int)<((BX [BB (Aa l 0) ({ data := #[82] }:ByteArray),BB (Aa l 1) ({ data := #[81] }:ByteArray)] (v6_4.getD v10.toNat default).Type').1.Pads.length:Int)
  ·rw [decide_eq_true hc]
   exact Xa l v6_4 v5 v8 a1 a3 a5 d1 v10 K0 K1 hK n _ _ _ _ _ (by omega) (by omega)
  rw [decide_eq_false hc]
  exact hK _ _ _ _
theorem lZ (a c:List Int) (x y:ByteArray):B4 [BB a x,BB c y]:=by
 refine ⟨(by decide:((2:Nat):Int)<=1000000),fun t ht => ?_⟩
 simp only [List.mem_cons,List.not_mem_nil,or_false] at ht
 rcases ht with rfl | rfl <;> exact UB _ _
theorem Xc (l:List (List Int)) (v6_4:List AE) (v5:AD) (v8:Int) (K0:List AE->AD->Int->(AG×(List AR))):∀ (n:Nat) (x y z:List Ak) (d:AD) (k:Int),0<=k->(W64 (1+(AA (AA (AD.mk (Aa l 2) 0) 3).2 3).1)-k).toNat<n->B4 (Db l v6_4 v5 v8 K0 n x y z d k).2
 | 0,x,y,z,d,k,_,h=>absurd h (Nat.not_lt_zero _)
 | n+1,x,y,z,d,k,k0,h=>by
  unfold Db
  by_cases hc:k<W64 (1+(AA (AA (AD.mk (Aa l 2) 0) 3).2 3).1)
  ·simp only [hc,decide_true,cond_true]
   exact Xa l v6_4 v5 v8 x y z d k K0 _ (fun a b c e=>Xc l v6_4 v5 v8 K0 n a b c e (k+1) (by omega) (by omega)) _ _ _ _ _ 0 (by omega) (Nat.lt_succ_self _)
  simp only [hc,decide_false,cond_false]
  exact lZ _ _ _ _
theorem Xd (l:List (List Int)):∀ (n:Nat) (v:List AE) (d:AD) (k:Int),0<=k->(W64 (1+(AA (AA (AD.mk (Aa l 2) 0) 3).2 3).1)-k).toNat<n->B4 (Ck l n v d k).2
 | 0,v,d,k,_,h=>absurd h (Nat.not_lt_zero _)
 | n+1,v,d,k,k0,h=>by
  unfold Ck
  by_cases hc:k<W64 (1+(AA (AA (AD.mk (Aa l 2) 0) 3).2 3).1)
  ·simp only [hc,decide_true,cond_true]
   exact Xd l n _ _ _ (by omega) (by omega)
  simp only [hc,decide_false,cond_false]
  exact Xc l v d k _ _ _ _ _ _ 0 (by omega) (Nat.lt_succ_self _)
theorem WG (l:List (List Int)):B4 (BW l).2:=by
 unfold BW
 exact Xd l _ _ _ 0 (by omega) (Nat.lt_succ_self _)
def Ix {α:Type} [Inhabited α] (P:Nat->α->Prop) (v:List α):Prop:=∀ k,k<v.length->P k (v.getD k default)
theorem Sa {α:Type} [Inhabited α] {P:Nat->α->Prop}:Ix P ([]:List α):=fun k h=>absurd h (Nat.not_lt_zero _)
theorem Sb {α:Type} [Inhabited α] {P:Nat->α->Prop} {v:List α} {x:α} (h:Ix P v) (hx:P v.length x):Ix P (v++[x]):=by
 intro k hk
 by_cases h1:k<v.length
 ·rw [List.getD_eq_getElem?_getD,List.getElem?_append_left h1,<- List.getD_eq_getElem?_getD];exact h k h1
 have e:k=v.length:=by simp only [List.length_append,List.length_cons,List.length_nil] at hk;omega
 subst e
 rw [List.getD_eq_getElem?_getD,List.getElem?_append_right (Nat.le_refl _),Nat.sub_self];exact hx
theorem cS {α:Type} [Inhabited α] {P:Nat->α->Prop} {v:List α} {x:α} (h:Ix P v) (hx:x∈v):∃ k,k<v.length/\v.getD k default=x/\P k x:=by
 obtain ⟨k,hk,e⟩:=List.getElem_of_mem hx
 have e2:v.getD k default=x:=by rw [List.getD_eq_getElem?_getD,List.getElem?_eq_getElem hk];exact e
 exact ⟨k,hk,e2,e2▸h k hk⟩
structure pG (k:Nat) (p:BJ):Prop where
 lt:k<6
 name:p.Name=Ai k
 drill:0<=p.Drill/\p.Drill<=6
 shp:∃ y:Int,0<=y/\y<=10/\p.At=AC.mk (30*(k:Int)) y/\(p.Shape=Hd (As.mk (30*(k:Int)-6) (y-6) (30*(k:Int)+6) (y+6))\/(∃ r:Int,4<=r/\r<=6/\p.Shape=LG (AC.mk (30*(k:Int)) y) r)\/p.Shape=AQ.mk 1 [AH.mk 1 (AC.mk (30*(k:Int)-2) y) (AC.mk (30*(k:Int)+2) y) (AC.mk 0 0)] 4)
theorem CN {d:AD} {n:Int} (h0:0<n) (h1:n<=1000000):0<=(AA d n).1/\(AA d n).1<n:=DM d n h0 (by omega)
theorem Qe (l:List Int) (name:ByteArray):∀ (n:Nat) (v:List BJ) (d:AD) (k:Int),Ix pG v->(v.length:Int)=k->k<=W64 (2+(AA (AD.mk l 0) 5).1)->(W64 (2+(AA (AD.mk l 0) 5).1)-k).toNat<n->Ix pG (C2 l name n v d k).Pads
 | 0,v,d,k,_,_,_,h=>absurd h (Nat.not_lt_zero _)
 | n+1,v,d,k,hv,hl,hk,h=>by
  have hn:=CN (d:=AD.mk l 0) (n:=5) (by decide) (by decide)
  have hw:W64 (2+(AA (AD.mk l 0) 5).1)=2+(AA (AD.mk l 0) 5).1:=Ah (by omega) (by omega)
  unfold C2
  by_cases hc:k<W64 (2+(AA (AD.mk l 0) 5).1)
  ·rw [decide_eq_true hc,cond_true]
   refine Qe l name n _ _ _ (Sb hv ?_) (by simp only [List.length_append,List.length_cons,List.length_nil];omega) (by omega) (by omega)
   have hk6:v.length<6:=by omega
   have hy:=CN (d:=d) (n:=2) (by decide) (by decide)
   have hr:=CN (d:=(AA (AA d 2).2 3).2) (n:=3) (by decide) (by decide)
   have h4:=CN (d:=Z4Z d) (n:=4) (by decide) (by decide)
   have h2:=CN (d:=(AA (Z4Z d) 4).2) (n:=2) (by decide) (by decide)
   have e1:W64 (30*k)=30*(v.length:Int):=by rw [Ah (by omega) (by omega)];omega
   have e2:W64 (10*(AA d 2).1)=10*(AA d 2).1:=Ah (by omega) (by omega)
   refine ⟨hk6,by rw [<- hl],?_,10*(AA d 2).1,by omega,by omega,by show AC.mk _ _=_;rw [e1,e2],?_⟩
   ·show 0<=W64 (W64 (2*(AA (Z4Z d) 4).1)*(AA (AA (Z4Z d) 4).2 2).1)/\W64 (W64 (2*(AA (Z4Z d) 4).1)*(AA (AA (Z4Z d) 4).2 2).1)<=6
    rw [Ah (x:=2*(AA (Z4Z d) 4).1) (by omega) (by omega)]
    have h01:(AA (AA (Z4Z d) 4).2 2).1=0\/(AA (AA (Z4Z d) 4).2 2).1=1:=by omega
    rcases h01 with h01 | h01 <;> rw [h01] <;> rw [Ah (by omega) (by omega)] <;> omega
   show (AQ.mk _ (Z50 d k) _=_)\/_
   unfold Z50 Z4V Z4Y
   rw [e1,e2]
   cases decide ((AA (AA d 2).2 3).1=0) with
   | true =>
    simp only [cond_true]
    left
    rw [Ah (x:=30*(v.length:Int)-6) (by omega) (by omega),Ah (x:=10*(AA d 2).1-6) (by omega) (by omega),Ah (x:=30*(v.length:Int)+6) (by omega) (by omega),Ah (x:=10*(AA d 2).1+6) (by omega) (by omega)]
   | false =>
    simp only [cond_false]
    right
    cases decide ((AA (AA d 2).2 3).1=1) with
    | true =>
     simp only [cond_true]
     left
     exact ⟨W64 (4+(AA (AA (AA d 2).2 3).2 3).1),by rw [Ah (by omega) (by omega)];omega,by rw [Ah (by omega) (by omega)];omega,rfl⟩
    | false =>
     simp only [cond_false]
     right
     rw [Ah (x:=30*(v.length:Int)-2) (by omega) (by omega),Ah (x:=30*(v.length:Int)+2) (by omega) (by omega)]
  rw [decide_eq_false hc,cond_false]
  exact hv
theorem UC (l:List Int) (name:ByteArray):Ix pG (BB l name).Pads:=by
 have hn:=CN (d:=AD.mk l 0) (n:=5) (by decide) (by decide)
 have hw:W64 (2+(AA (AD.mk l 0) 5).1)=2+(AA (AD.mk l 0) 5).1:=Ah (by omega) (by omega)
 unfold BB
 exact Qe l name _ [] _ 0 Sa rfl (by omega) (by omega)
abbrev nR:ByteArray:={ data := #[82] }
abbrev nQ:ByteArray:={ data := #[81] }
abbrev refs3:List ByteArray:=[({ data := #[82,49] }:ByteArray),({ data := #[82,50] }:ByteArray),({ data := #[120,47,82,49] }:ByteArray)]
structure Q6 (k:Nat) (p:AE):Prop where
 id:p.Id=1+(k:Int)
 ref:p.Ref=refs3.getD k ⟨#[]⟩
 typ:p.Type'=nR\/p.Type'=nQ
 turn:0<=p.Turn/\p.Turn<4
 x:80<=p.At.X/\p.At.X<=300
 y:100<=p.At.Y/\p.At.Y<=270
abbrev Kl (l:List (List Int)):List AR:=[Z5Z l,Z60 l]
theorem YF (l:List (List Int)) {i:Int} (hi:0<=i/\i<2):((Kl l).getD i.toNat default).Name=nR\/((Kl l).getD i.toNat default).Name=nQ:=by
 have h01:i=0\/i=1:=by omega
 rcases h01 with rfl | rfl
 ·exact .inl (Fa _ _).1
 exact .inr (Fa _ _).1
theorem TJ (l:List (List Int)) {x:ByteArray} (h:x=nR\/x=nQ):∃ a,BX (Kl l) x=(BB a x,true)/\BB a x∈Kl l:=by
 have h0:=(Fa (Aa l 0) nR).1
 have h1:=(Fa (Aa l 1) nQ).1
 rcases h with rfl | rfl
 ·refine ⟨Aa l 0,?_,List.mem_cons_self ..⟩
  have:=Qm (a:=Z5Z l) (c:=Z60 l)
  rw [show (Z5Z l).Name=nR from h0] at this
  exact this
 refine ⟨Aa l 1,?_,List.mem_cons_of_mem _ (List.mem_cons_self ..)⟩
 have:=Qk (a:=Z5Z l) (c:=Z60 l) (by rw [show (Z5Z l).Name=nR from h0,show (Z60 l).Name=nQ from h1];decide +kernel)
 rw [show (Z60 l).Name=nQ from h1] at this
 exact this
theorem US (l:List (List Int)) {x:ByteArray} (h:x=nR\/x=nQ):((BX (Kl l) x).1.Pads.length:Int)<=6:=by
 obtain ⟨a,e,_⟩:=TJ l h
 rw [e]
 exact (Fa a x).2.2
theorem PA (v5'':AD) (v:List Ak) (v6_4:List AE) (v10:Int) (l:List (List Int)) (v13:Int):(Z6H v5'' v v6_4 v10 l v13).length<=v.length+1/\(Z6I v5'' v v6_4 v10 l v13).length<=v.length+1/\(Z6J v5'' v v6_4 v10 l v13).length<=v.length+1:=by
 unfold Z6H Z6I Z6J
 cases decide ((AA v5'' 5).1<3) <;> cases decide ((AA v5'' 5).1=0) <;> cases decide ((AA v5'' 5).1=1) <;> simp
theorem Xe (l:List (List Int)) (v6_4:List AE) (v5:AD) (v8:Int) (a1 a3 a5:List Ak) (d1:AD) (v10:Int) (K0:List AE->AD->Int->(AG×(List AR))) (K1:List Ak->List Ak->List Ak->AD->Int->(AG×(List AR))) (Q:AG×List AR->Prop) (M:Nat) (hK:∀ a b c d,a.length<=M->b.length<=M->c.length<=M->Q (K1 a b c d (v10+1))) :
  ∀ (n:Nat) (x y z:List Ak) (d:AD) (k:Int),0<=k->(x.length:Int)+((Z6y l v6_4 v10).Pads.length-k)<=M->(y.length:Int)+((Z6y l v6_4 v10).Pads.length-k)<=M->(z.length:Int)+((Z6y l v6_4 v10).Pads.length-k)<=M->k<=(Z6y l v6_4 v10).Pads.length->(((Z6y l v6_4 v10).Pads.length:Int)-k).toNat<n->Q (D0 l v6_4 v5 v8 a1 a3 a5 d1 v10 K0 K1 n x y z d k)
 | 0,x,y,z,d,k,_,_,_,_,_,h=>absurd h (Nat.not_lt_zero _)
 | n+1,x,y,z,d,k,k0,hx,hy,hz,hk,h=>by
  unfold D0
  by_cases hc:(k:Int)<((Z6y l v6_4 v10).Pads.length:Int)
  ·rw [decide_eq_true hc,cond_true]
   have p1:=(PA d x v6_4 v10 l k).1
   have p2:=(PA d y v6_4 v10 l k).2.1
   have p3:=(PA d z v6_4 v10 l k).2.2
   exact Xe l v6_4 v5 v8 a1 a3 a5 d1 v10 K0 K1 Q M hK n _ _ _ _ _ (by omega) (by omega) (by omega) (by omega) (by omega) (by omega)
  rw [decide_eq_false hc,cond_false]
  exact hK _ _ _ _ (by omega) (by omega) (by omega)
theorem Xf (l:List (List Int)) (v6_4:List AE) (v5:AD) (v8:Int) (K0:List AE->AD->Int->(AG×(List AR))) (Q:AG×List AR->Prop) (hp:Ix Q6 v6_4) (hm:(v6_4.length:Int)=W64 (1+(AA (AA (AD.mk (Aa l 2) 0) 3).2 3).1)) (h3:v6_4.length<=3) (hQ:∀ x y z:List Ak,x.length<=18->y.length<=18->z.length<=18->Q ((Z6P l v6_4 x y z).1,Kl l)) :
  ∀ (n:Nat) (x y z:List Ak) (d:AD) (k:Int),0<=k->(x.length:Int)<=6*k->(y.length:Int)<=6*k->(z.length:Int)<=6*k->k<=(v6_4.length:Int)->((v6_4.length:Int)-k).toNat<n->Q (Db l v6_4 v5 v8 K0 n x y z d k)
 | 0,x,y,z,d,k,_,_,_,_,_,h=>absurd h (Nat.not_lt_zero _)
 | n+1,x,y,z,d,k,k0,hx,hy,hz,hk,h=>by
  unfold Db
  rw [<- hm]
  by_cases hc:k<(v6_4.length:Int)
  ·rw [decide_eq_true hc,cond_true]
   have hg:=US l (hp k.toNat (by omega)).typ
   have hg:((Z6y l v6_4 k).Pads.length:Int)<=6:=hg
   exact Xe l v6_4 v5 v8 x y z d k K0 _ Q (6*(k+1)).toNat (fun a b c e ha hb hc'=>Xf l v6_4 v5 v8 K0 Q hp hm h3 hQ n a b c e (k+1) (by omega) (by omega) (by omega) (by omega) (by omega) (by omega)) _ _ _ _ _ 0 (by omega) (by omega) (by omega) (by omega) (by omega) (by omega)
  rw [decide_eq_false hc,cond_false]
  exact hQ _ _ _ (by omega) (by omega) (by omega)
theorem Xg (l:List (List Int)) (Q:AG×List AR->Prop) (hQ:∀ (v:List AE) (x y z:List Ak),Ix Q6 v->1<=v.length->v.length<=3->x.length<=18->y.length<=18->z.length<=18->Q ((Z6P l v x y z).1,Kl l)) :
  ∀ (n:Nat) (v:List AE) (d:AD) (k:Int),Ix Q6 v->(v.length:Int)=k->k<=W64 (1+(AA (AA (AD.mk (Aa l 2) 0) 3).2 3).1)->(W64 (1+(AA (AA (AD.mk (Aa l 2) 0) 3).2 3).1)-k).toNat<n->Q (Ck l n v d k)
 | 0,v,d,k,_,_,_,h=>absurd h (Nat.not_lt_zero _)
 | n+1,v,d,k,hv,hl,hk,h=>by
  have hn:=CN (d:=(AA (AD.mk (Aa l 2) 0) 3).2) (n:=3) (by decide) (by decide)
  have hw:W64 (1+(AA (AA (AD.mk (Aa l 2) 0) 3).2 3).1)=1+(AA (AA (AD.mk (Aa l 2) 0) 3).2 3).1:=Ah (by omega) (by omega)
  unfold Ck
  by_cases hc:k<W64 (1+(AA (AA (AD.mk (Aa l 2) 0) 3).2 3).1)
  ·rw [decide_eq_true hc,cond_true]
   refine Xg l Q hQ n _ _ _ (Sb hv ?_) (by simp only [List.length_append,List.length_cons,List.length_nil];omega) (by omega) (by omega)
   have h2:=CN (d:=d) (n:=2) (by decide) (by decide)
   have h4:=CN (d:=(AA d 2).2) (n:=4) (by decide) (by decide)
   have h5:=CN (d:=Z6k d) (n:=5) (by decide) (by decide)
   have h6:=CN (d:=(AA (Z6k d) 5).2) (n:=3) (by decide) (by decide)
   have h7:=CN (d:=Z6n d) (n:=3) (by decide) (by decide)
   refine ⟨?_,by rw [<- hl];rfl,YF l h2,h4,?_,?_⟩
   ·show W64 (1+k)=_
    rw [Ah (by omega) (by omega)];omega
   ·show 80<=W64 (W64 (80+W64 (100*k))+W64 (5*(AA (Z6k d) 5).1))/\W64 (W64 (80+W64 (100*k))+W64 (5*(AA (Z6k d) 5).1))<=300
    rw [Ah (x:=100*k) (by omega) (by omega),Ah (x:=80+100*k) (by omega) (by omega),Ah (x:=5*(AA (Z6k d) 5).1) (by omega) (by omega),Ah (by omega) (by omega)]
    omega
   show 100<=W64 (W64 (100+W64 (80*(AA (AA (Z6k d) 5).2 3).1))+W64 (5*(AA (Z6n d) 3).1))/\W64 (W64 (100+W64 (80*(AA (AA (Z6k d) 5).2 3).1))+W64 (5*(AA (Z6n d) 3).1))<=270
   rw [Ah (x:=80*(AA (AA (Z6k d) 5).2 3).1) (by omega) (by omega),Ah (x:=100+80*(AA (AA (Z6k d) 5).2 3).1) (by omega) (by omega),Ah (x:=5*(AA (Z6n d) 3).1) (by omega) (by omega),Ah (by omega) (by omega)]
   omega
  rw [decide_eq_false hc,cond_false]
  exact Xf l v d k _ Q hv (by omega) (by omega) (fun x y z hx hy hz=>hQ v x y z hv (by omega) (by omega) hx hy hz) _ [] [] [] _ 0 (by omega) (by simp) (by simp) (by simp) (by omega) (by omega)
theorem cK (l:List (List Int)) (Q:AG×List AR->Prop) (hQ:∀ (v:List AE) (x y z:List Ak),Ix Q6 v->1<=v.length->v.length<=3->x.length<=18->y.length<=18->z.length<=18->Q ((Z6P l v x y z).1,Kl l)):Q (BW l):=by
 have hn:=CN (d:=(AA (AD.mk (Aa l 2) 0) 3).2) (n:=3) (by decide) (by decide)
 have hw:W64 (1+(AA (AA (AD.mk (Aa l 2) 0) 3).2 3).1)=1+(AA (AA (AD.mk (Aa l 2) 0) 3).2 3).1:=Ah (by omega) (by omega)
 unfold BW
 exact Xg l Q hQ _ [] _ 0 Sa rfl (by omega) (by omega)
def PtB (p:AC):Prop:=(-900<=p.X/\p.X<=900) /\ -900<=p.Y/\p.Y<=900
theorem PO {x:Int} (h : -500<=x/\x<=500) : -500<=W64 (0-x)/\W64 (0-x)<=500:=by rw [Ah (by omega) (by omega)];omega
theorem fE {x y:Int} (h : -500<=x/\x<=500) (k : -400<=y/\y<=400) : -900<=W64 (x+y)/\W64 (x+y)<=900:=by rw [Ah (by omega) (by omega)];omega
theorem eY {m:AX} {p:AC} (hp:(-500<=p.X/\p.X<=500) /\ -500<=p.Y/\p.Y<=500) (ha:(-400<=m.At.X/\m.At.X<=400) /\ -400<=m.At.Y/\m.At.Y<=400):PtB (AY m p):=by
 have h1:(-500<=(Bw p m.Mirror).X/\(Bw p m.Mirror).X<=500) /\ -500<=(Bw p m.Mirror).Y/\(Bw p m.Mirror).Y<=500:=by
  unfold Bw
  cases m.Mirror with
  | true=>exact ⟨PO hp.1,hp.2⟩
  | false=>exact hp
 have h2:∀ q:AC,((-500<=q.X/\q.X<=500) /\ -500<=q.Y/\q.Y<=500)->(-500<=(CH q m.Turn).X/\(CH q m.Turn).X<=500) /\ -500<=(CH q m.Turn).Y/\(CH q m.Turn).Y<=500:=fun q hq=>by
  unfold CH
  cases decide (B2 m.Turn=1) with
  | true=>exact ⟨PO hq.2,hq.1⟩
  | false =>
   cases decide (B2 m.Turn=2) with
   | true=>exact ⟨PO hq.1,PO hq.2⟩
   | false =>
    cases decide (B2 m.Turn=3) with
    | true=>exact ⟨hq.2,PO hq.1⟩
    | false=>exact hq
 have h3:=h2 _ h1
 exact ⟨fE h3.1 ha.1,fE h3.2 ha.2⟩
theorem gF (b:AG) (l:List (List Int)) (d:AD) (hP:Ix Q6 b.Parts):PtB (Bo b (Kl l) d).1:=by
 have h12:=CN (d:=d) (n:=12) (by decide) (by decide)
 have h6:=CN (d:=(AA d 12).2) (n:=6) (by decide) (by decide)
 unfold Bo
 cases hq:(bif decide ((AA d 12).1<8) then decide ((0:Int)<(b.Parts.length:Int)) else false) with
 | true =>
  have hi:=TM hq
  rw [cond_true]
  show PtB (Z20 b d (Kl l))
  have hp:=hP (Int.tmod (AA d 12).1 (b.Parts.length:Int)).toNat (by omega)
  obtain ⟨a,e,_⟩:=TJ l hp.typ
  have hx:=hp.x
  have hy:=hp.y
  unfold Z20
  refine eY ?_ (by show (-400<=(Z1Y b d).At.X/\(Z1Y b d).At.X<=400) /\ -400<=(Z1Y b d).At.Y/\(Z1Y b d).At.Y<=400;unfold Z1Y;omega)
  unfold Z1Z Z1Y
  rw [e]
  generalize (Int.tmod (AA (AA d 12).2 6).1 _).toNat=k
  by_cases hk:k<(BB a (b.Parts.getD (Int.tmod (AA d 12).1 (b.Parts.length:Int)).toNat default).Type').Pads.length
  ·obtain ⟨h1,_,_,y,hy0,hy1,hat,_⟩:=UC a _ k hk
   show (-500<=((BB a (b.Parts.getD (Int.tmod (AA d 12).1 (b.Parts.length:Int)).toNat default).Type').Pads.getD k default).At.X/\_)/\_
   rw [hat]
   simp only
   omega
  rw [List.getD_eq_getElem?_getD,List.getElem?_eq_none (by show (BB a (b.Parts.getD (Int.tmod (AA d 12).1 (b.Parts.length:Int)).toNat default).Type').Pads.length<=k;omega)]
  exact (by decide:(-500<=(0:Int)/\(0:Int)<=500) /\ -500<=(0:Int)/\(0:Int)<=500)
 | false =>
  rw [cond_false]
  show (-900<=W64 (30+Int.tmod (W64 (40*(AA d 12).1)) 360)/\W64 (30+Int.tmod (W64 (40*(AA d 12).1)) 360)<=900) /\ -900<=W64 (30+W64 (60*(AA (AA d 12).2 6).1))/\W64 (30+W64 (60*(AA (AA d 12).2 6).1))<=900
  rw [Ah (x:=40*(AA d 12).1) (by omega) (by omega),Int.tmod_eq_emod_of_nonneg (by omega),Ah (x:=60*(AA (AA d 12).2 6).1) (by omega) (by omega),Ah (by omega) (by omega),Ah (by omega) (by omega)]
  omega
structure Pn (k:Nat) (t:AM):Prop where
 id:t.Id=11+(k:Int)
 lay:1<=t.Layer/\t.Layer<=2
 kind:t.Shape.Kind=1
 r:3<=t.Shape.R/\t.Shape.R<=6
 edg:∃ a c d,PtB a/\PtB c/\t.Shape.Edges=(Cj a c d).1
structure kE (k:Nat) (v:Ag):Prop where
 id:v.Id=21+(k:Int)
 lay:v.From=1/\v.To=2
 r:6<=v.R/\v.R<=10
 at_:PtB v.At
 drill:4<=v.Drill/\v.Drill<=8
def lU (s:Au):Prop:=∃ r p,3<=r/\r<=6/\PtB p/\s.Shape=AQ.mk 1 [E1 p (AC.mk (W64 (p.X+25)) (W64 (p.Y+10)))] r
def fI (p:Bc):Prop:=p.Rects.length<=2
def fL (p:C4):Prop:=p.Shape.Edges.length=4
abbrev X8 (b:AG) (types:List AR):Prop:=∀ d,PtB (Bo (AG.mk b.Layers b.Outline b.Parts [] [] [] [] [] [] [] [] [] []) types d).1
abbrev kG (b:AG) (Q:AG->Prop):Prop:=∀ (v1:List AM) (v2:List Ag) (v3:List Bc) (v4:List C4) (v5:List Au),Ix Pn v1->v1.length<=5->Ix kE v2->v2.length<=2->v3.length<=2->v4.length<=1->v5.length<=1->(∀ s∈v5,lU s)->(∀ p∈v3,fI p)->(∀ p∈v4,fL p)->Q (AG.mk b.Layers b.Outline b.Parts b.Nets v1 v2 v3 v4 v5 [] [] [] [])
theorem bT (b:AG) (types:List AR) (l:List (List Int)) (v1:List AM) (v6:AD) (v7:ByteArray) (v9:Int) (v2:List Ag) (v6':AD) (v11:Int) (K0:List AM->AD->ByteArray->Int->AG) (K1:List Ag->AD->Int->AG) (Q:AG->Prop) (hs:X8 b types) (hQ:kG b Q) (h1:Ix Pn v1) (h1l:v1.length<=5) (h2:Ix kE v2) (h2l:v2.length<=2) :
  ∀ (n:Nat) (v:List Bc) (d:AD) (k:Int),(∀ p∈v,fI p)->0<=k->(v.length:Int)<=k->k<=(AA v6' 3).1->((AA v6' 3).1-k).toNat<n->Q (CC b types l v1 v6 v7 v9 v2 v6' v11 K0 K1 n v d k)
 | 0,v,d,k,_,_,_,_,h=>absurd h (Nat.not_lt_zero _)
 | n+1,v,d,k,hv,k0,kv,kk,h=>by
  have hb:=CN (d:=v6') (n:=3) (by decide) (by decide)
  unfold CC
  by_cases hc:k<(AA v6' 3).1
  ·rw [decide_eq_true hc,cond_true]
   exact bT b types l v1 v6 v7 v9 v2 v6' v11 K0 K1 Q hs hQ h1 h1l h2 h2l n _ _ _ (fun p hp=>by
    rcases List.mem_append.1 hp with hp | hp
    ·exact hv p hp
    rw [List.mem_singleton.1 hp]
    show (Z3m b d).length<=2
    unfold Z3m
    cases decide ((AA (AA (Z3e b d) 6).2 3).1=0) <;> simp) (by omega) (by simp only [List.length_append,List.length_cons,List.length_nil];omega) (by omega) (by omega)
  rw [decide_eq_false hc,cond_false]
  have h4:(Z2j l b types).length<=1:=by
   unfold Z2j
   cases decide ((AA (AD.mk (Aa l 6) 0) 3).1=0) <;> simp
  have h4k:∀ p∈Z2j l b types,fL p:=by
   unfold Z2j
   cases decide ((AA (AD.mk (Aa l 6) 0) 3).1=0) with
   | true=>intro p hp;rw [cond_true] at hp;rw [List.mem_singleton.1 hp];rfl
   | false=>intro p hp;cases hp
  cases decide ((AA (Z2i l b types) 3).1=0) with
  | true =>
   rw [cond_true]
   refine hQ _ _ _ _ _ h1 h1l h2 h2l (by omega) h4 (by simp) (fun s hm => ?_) hv h4k
   rw [List.mem_singleton.1 hm]
   have hr:=CN (d:=Z2o b types l) (n:=4) (by decide) (by decide)
   exact ⟨W64 (3+(AA (Z2o b types l) 4).1),Z2p b types l,by rw [Ah (by omega) (by omega)];omega,by rw [Ah (by omega) (by omega)];omega,hs _,rfl⟩
  | false =>
   rw [cond_false]
   exact hQ _ _ _ _ _ h1 h1l h2 h2l (by omega) h4 (by simp) (fun s hm=>by cases hm) hv h4k
theorem bU (b:AG) (types:List AR) (l:List (List Int)) (v1:List AM) (v6:AD) (v7:ByteArray) (v9:Int) (K0:List AM->AD->ByteArray->Int->AG) (Q:AG->Prop) (hs:X8 b types) (hQ:kG b Q) (h1:Ix Pn v1) (h1l:v1.length<=5) :
  ∀ (n:Nat) (v:List Ag) (d:AD) (k:Int),Ix kE v->(v.length:Int)=k->k<=(AA (AD.mk (Aa l 5) 0) 3).1->((AA (AD.mk (Aa l 5) 0) 3).1-k).toNat<n->Q (CS b types l v1 v6 v7 v9 K0 n v d k)
 | 0,v,d,k,_,_,_,h=>absurd h (Nat.not_lt_zero _)
 | n+1,v,d,k,hv,kv,kk,h=>by
  have hb:=CN (d:=AD.mk (Aa l 5) 0) (n:=3) (by decide) (by decide)
  unfold CS
  by_cases hc:k<(AA (AD.mk (Aa l 5) 0) 3).1
  ·rw [decide_eq_true hc,cond_true]
   refine bU b types l v1 v6 v7 v9 K0 Q hs hQ h1 h1l n _ _ _ (Sb hv ?_) (by simp only [List.length_append,List.length_cons,List.length_nil];omega) (by omega) (by omega)
   have h5:=CN (d:=Z2T b types d) (n:=5) (by decide) (by decide)
   have h3:=CN (d:=(AA (Z2T b types d) 5).2) (n:=3) (by decide) (by decide)
   refine ⟨?_,⟨rfl,rfl⟩,?_,hs _,?_⟩
   ·show W64 (21+k)=_
    rw [Ah (by omega) (by omega)];omega
   ·show 6<=W64 (6+_)/\W64 (6+_)<=10
    rw [Ah (by omega) (by omega)];omega
   show 4<=W64 (4+W64 (2*_))/\W64 (4+W64 (2*_))<=8
   rw [Ah (x:=2*_) (by omega) (by omega),Ah (by omega) (by omega)];omega
  rw [decide_eq_false hc,cond_false]
  have hd:=CN (d:=d) (n:=3) (by decide) (by decide)
  exact bT b types l v1 v6 v7 v9 v d k K0 _ Q hs hQ h1 h1l hv (by omega) _ [] _ 0 (fun p hp=>by cases hp) (by omega) (by simp) (by omega) (by omega)
theorem bV (b:AG) (types:List AR) (l:List (List Int)) (Q:AG->Prop) (hs:X8 b types) (hQ:kG b Q) :
  ∀ (n:Nat) (v:List AM) (d:AD) (s:ByteArray) (k:Int),Ix Pn v->(v.length:Int)=k->k<=(AA (Z24 b l) 6).1->((AA (Z24 b l) 6).1-k).toNat<n->Q (Bz b types l n v d s k)
 | 0,v,d,s,k,_,_,_,h=>absurd h (Nat.not_lt_zero _)
 | n+1,v,d,s,k,hv,kv,kk,h=>by
  have hb:=CN (d:=Z24 b l) (n:=6) (by decide) (by decide)
  unfold Bz
  by_cases hc:k<(AA (Z24 b l) 6).1
  ·rw [decide_eq_true hc,cond_true]
   refine bV b types l Q hs hQ n _ _ _ _ (Sb hv ?_) (by simp only [List.length_append,List.length_cons,List.length_nil];omega) (by omega) (by omega)
   have h2:=CN (d:=d) (n:=2) (by decide) (by decide)
   have h4:=CN (d:=(AA d 2).2) (n:=4) (by decide) (by decide)
   refine ⟨?_,?_,rfl,?_,_,_,_,?_,?_,rfl⟩
   ·show W64 (11+k)=_
    rw [Ah (by omega) (by omega)];omega
   ·show 1<=W64 (1+_)/\W64 (1+_)<=2
    rw [Ah (by omega) (by omega)];omega
   ·show 3<=W64 (3+_)/\W64 (3+_)<=6
    rw [Ah (by omega) (by omega)];omega
   ·exact hs _
   exact hs _
  rw [decide_eq_false hc,cond_false]
  exact bU b types l v d s k _ Q hs hQ hv (by omega) _ [] _ 0 Sa rfl (by have:=CN (d:=AD.mk (Aa l 5) 0) (n:=3) (by decide) (by decide);omega) (by omega)
theorem iZ (b:AG) (types:List AR) (l:List (List Int)) (Q:AG->Prop) (hs:X8 b types) (hQ:kG b Q):Q (Bp b types l):=by
 have hb:=CN (d:=Z24 b l) (n:=6) (by decide) (by decide)
 unfold Bp
 exact bV b types l Q hs hQ _ [] _ _ 0 Sa rfl (by omega) (by omega)
structure Lm (B:AG) (T:List AR) (l:List (List Int)):Prop where
 lay:B.Layers=2
 types:T=Kl l
 par:Ix Q6 B.Parts
 parl:1<=B.Parts.length/\B.Parts.length<=3
 net:∃ p q r,B.Nets=[Bi.mk nN1 p,Bi.mk nN2 q,Bi.mk nGND r]/\p.length<=18/\q.length<=18/\r.length<=18
 trk:Ix Pn B.Tracks
 trkl:B.Tracks.length<=5
 via:Ix kE B.Vias
 vial:B.Vias.length<=2
 slot:∀ s∈B.Slots,lU s
 slotl:B.Slots.length<=1
 poul:B.Pours.length<=2
 keel:B.Keeps.length<=1
 pour:∀ p∈B.Pours,fI p
 keep:∀ p∈B.Keeps,fL p
theorem nP {α:Type} {c:Bool} {a b:AG×α} {T:List AR} {l:List (List Int)} (h:Lm a.1 T l) (k:Lm b.1 T l):Lm (bif c then a else b).1 T l:=by cases c <;> assumption
theorem cJ (l:List (List Int)):Lm (BW l).1 (BW l).2 l:=by
 refine cK l (fun x=>Lm x.1 x.2 l) fun v x y z hv h1 h3 hx hy hz => ?_
 show Lm (Z6P l v x y z).1 (Kl l) l
 unfold Z6P
 have ho:=iZ (AG.mk 2 (Z67 l) v [Bi.mk nN1 x,Bi.mk nN2 y,Bi.mk nGND z] [] [] [] [] [] [] [] [] []) (Kl l) l
  (fun B=>Lm B (Kl l) l) (fun d=>gF _ l d hv) (fun v1 v2 v3 v4 v5 a b c e f g h i j k=>⟨rfl,rfl,hv,⟨h1,h3⟩,⟨x,y,z,rfl,hx,hy,hz⟩,a,b,c,e,i,h,f,g,j,k⟩)
 have ho:Lm (Z6N l v x y z) (Kl l) l:=ho
 obtain ⟨a1,a2,a3,a4,a5,a6,a7,a8,a9,a10,a11,a12,a13,a14,a15⟩:=ho
 unfold D3
 exact nP ⟨a1,a2,a3,a4,a5,a6,a7,a8,a9,a10,a11,a12,a13,a14,a15⟩ ⟨a1,a2,a3,a4,a5,a6,a7,a8,a9,a10,a11,a12,a13,a14,a15⟩
def C27 (x:Int):Prop := -67108864<=x/\x<=67108864
def RP (p:AC):Prop:=C27 p.X/\C27 p.Y
instance (x:Int):Decidable (C27 x):=by unfold C27;infer_instance
instance (p:AC):Decidable (RP p):=by unfold RP;infer_instance
def Odd (e:AH):Prop:=¬ (e.A.X-e.C.X=0↔e.A.Y-e.C.Y=0)
def QL (e:AH):Prop:=Odd e/\e.B.X-e.C.X = -(e.A.Y-e.C.Y)/\e.B.Y-e.C.Y=e.A.X-e.C.X
def QR (e:AH):Prop:=Odd e/\e.B.X-e.C.X=e.A.Y-e.C.Y/\e.B.Y-e.C.Y = -(e.A.X-e.C.X)
def Wh (e:AH):Prop:=RP e.A/\RP e.B/\RP e.C
def pI (e:AH):Prop:=(e.Kind=1/\e.C.X=0/\e.C.Y=0)\/(e.Kind=2/\QL e)\/(e.Kind=3/\QR e)
def OkE (e:AH):Prop:=Wh e/\pI e
instance (e:AH):Decidable (QL e):=by unfold QL Odd;infer_instance
instance (e:AH):Decidable (QR e):=by unfold QR Odd;infer_instance
instance (e:AH):Decidable (Wh e):=by unfold Wh;infer_instance
instance (e:AH):Decidable (pI e):=by unfold pI;infer_instance
instance (e:AH):Decidable (OkE e):=by unfold OkE;infer_instance
def cr (a b p:AC):Int:=(b.X-a.X)*(p.Y-a.Y)-(b.Y-a.Y)*(p.X-a.X)
def d2 (p c:AC):Int:=(p.X-c.X)*(p.X-c.X)+(p.Y-c.Y)*(p.Y-c.Y)
def InB (e:AH) (p:AC):Prop:=(min e.A.X e.B.X<=p.X/\p.X<=max e.A.X e.B.X)/\min e.A.Y e.B.Y<=p.Y/\p.Y<=max e.A.Y e.B.Y
instance (e:AH) (p:AC):Decidable (InB e p):=by unfold InB;infer_instance
def Mx (e:AH):Prop:=e.C.X<e.A.X\/e.C.X<e.B.X
instance (e:AH):Decidable (Mx e):=by unfold Mx;infer_instance
def Bey (e:AH) (p:AC):Prop:=if e.Kind=1 then (if e.A.Y<e.B.Y then 0<cr e.A e.B p else cr e.A e.B p<0) else if Mx e then d2 p e.C<d2 e.A e.C else d2 e.A e.C<d2 p e.C
instance (e:AH) (p:AC):Decidable (Bey e p):=by unfold Bey;infer_instance
def InR (e:AH) (p:AC):Prop:=(min e.A.Y e.B.Y<=p.Y/\p.Y<max e.A.Y e.B.Y)/\p.X<max e.A.X e.B.X
instance (e:AH) (p:AC):Decidable (InR e p):=by unfold InR;infer_instance
theorem WX {α:Type} [Inhabited α] {l:List α} {k:Nat} (h:k<l.length):l.drop k=l.getD k default::l.drop (k+1):=by
 rw [List.drop_eq_getElem_cons h,List.getD_eq_getElem?_getD,List.getElem?_eq_getElem h]
 rfl
theorem T5 (s:AQ) (m:AX):∀ (n k:Nat) (l:List AH),k<=s.Edges.length->s.Edges.length-k<n->l=(s.Edges.take k).map (fun e=>Dq e m)++s.Edges.drop k->Fi s m n l (k:Int)=⟨s.Kind,s.Edges.map (fun e=>Dq e m),s.R⟩
 | 0,k,l,hk,hn,_=>by omega
 | n+1,k,l,hk,hn,hl=>by
  unfold Fi
  by_cases hlt:k<s.Edges.length
  ·rw [decide_eq_true (show (k:Int)<((s.Edges.length:Nat):Int) by omega)]
   simp only [cond_true,Int.toNat_natCast]
   rw [show ((k:Int)+1)=((k+1:Nat):Int) by omega]
   refine T5 s m n (k+1) _ (by omega) (by omega) ?_
   subst hl
   have hlen:((s.Edges.take k).map (fun e=>Dq e m)).length=k:=by simp;omega
   have hd:s.Edges.drop k=s.Edges[k]::s.Edges.drop (k+1):=List.drop_eq_getElem_cons hlt
   rw [hd]
   have h1:((s.Edges.take k).map (fun e=>Dq e m)++s.Edges[k]::s.Edges.drop (k+1)).getD k default=s.Edges[k]:=by
    rw [List.getD_eq_getElem?_getD,List.getElem?_append_right (by omega),hlen,Nat.sub_self];rfl
   rw [h1,List.set_append_right _ _ (by omega),hlen,Nat.sub_self,List.set_cons_zero,List.take_succ_eq_append_getElem hlt,List.map_append,List.append_assoc]
   rfl
  rw [decide_eq_false (show ¬ (k:Int)<((s.Edges.length:Nat):Int) by omega)]
  subst hl
  rw [List.drop_of_length_le (by omega),List.take_of_length_le (by omega),List.append_nil]
  rfl
theorem cG (s:AQ) (m:AX):E3 s m=⟨s.Kind,s.Edges.map (fun e=>Dq e m),s.R⟩:=by
 unfold E3
 have:=T5 s m ((((s.Edges.length:Nat):Int)-0).toNat+1) 0 s.Edges (by omega) (by omega) (by simp)
 exact this
theorem kQ (t:Int):A64 t 3=t % 4:=by
 unfold A64
 have h3:(BitVec.ofInt 64 3).toNat=2 ^ 2-1:=by decide
 rw [BitVec.toNat_and,h3,Nat.and_two_pow_sub_one_eq_mod,BitVec.toNat_ofInt,IntKind.wrap_i64]
 omega
theorem Vb (t:Int):B2 t=t % 4:=by
 unfold B2
 rcases Int.lt_or_le t 0 with h | h
 ·have b1:=Int.emod_nonneg (-t) (show (4:Int)≠0 by omega)
  rw [show t.tmod 4 = -((-t) % 4) by rw [<- Int.tmod_eq_emod_of_nonneg (by omega),Int.neg_tmod,Int.neg_neg]]
  rw [Ah (by omega) (by omega),Int.tmod_eq_emod_of_nonneg (by omega)]
  omega
 rw [Int.tmod_eq_emod_of_nonneg h,Ah (by omega) (by omega),Int.tmod_eq_emod_of_nonneg (by omega)]
 omega
structure Mat where
 a:Int
 b:Int
 c:Int
 d:Int
def Mat.ok (M:Mat) (s:Int):Prop:=(M.a=0/\M.d=0/\(M.b=1\/M.b = -1)/\M.c = -s*M.b)\/(M.b=0/\M.c=0/\(M.a=1\/M.a = -1)/\M.d=s*M.a)
theorem Nr (a c:Ak):A2 a c=true↔a=c:=by
 constructor
 ·intro h
  unfold A2 at h
  obtain ⟨a1,a2⟩:=a
  obtain ⟨c1,c2⟩:=c
  simp only [Bool.and_eq_true] at h
  rw [eW h.1,eW h.2]
 rintro rfl
 unfold A2 eqS
 simp
def PS (v:List (Ak×ByteArray)) (q:Ak):ByteArray:=match v.find? (fun e=>A2 e.1 q) with
 | some e=>e.2
 | none=>⟨#[]⟩
theorem jP (v:List (Ak×ByteArray)) (q:Ak):(bif EC A2 v q then (v.getD (C8 A2 v q) default).2 else ⟨#[]⟩)=PS v q:=by
 unfold EC C8 PS
 induction v with
 | nil=>rfl
 | cons e v ih =>
  rw [List.any_cons,List.findIdx_cons,List.find?_cons]
  cases h:A2 e.1 q with
  | true=>rfl
  | false=>exact ih
theorem cO (v:List (Ak×ByteArray)) (k q:Ak) (x:ByteArray):PS (GM A2 v k x) q=bif A2 k q then x else PS v q:=by
 have hn:GM A2 [] k x=[(k,x)]:=rfl
 have hc:∀ e (w:List (Ak×ByteArray)),GM A2 (e::w) k x=bif A2 e.1 k then (k,x)::w else e::GM A2 w k x:=fun e w=>by
  unfold GM EC C8
  rw [List.any_cons,List.findIdx_cons]
  cases h:A2 e.1 k with
  | true=>rfl
  | false =>
   simp only [Bool.false_or,cond_false]
   cases w.any (fun e=>A2 e.1 k) <;> rfl
 induction v with
 | nil =>
  rw [hn]
  unfold PS
  rw [List.find?_cons]
  cases A2 k q <;> rfl
 | cons e v ih =>
  rw [hc]
  cases h1:A2 e.1 k with
  | true =>
   have e1:=(Nr e.1 k).1 h1
   rw [cond_true]
   unfold PS
   rw [List.find?_cons,List.find?_cons,e1]
   cases A2 k q <;> rfl
  | false =>
   rw [cond_false]
   unfold PS at ih ⊢
   rw [List.find?_cons,List.find?_cons]
   cases h2:A2 e.1 q with
   | true =>
    have e2:=(Nr e.1 q).1 h2
    cases h3:A2 k q with
    | true =>
     rw [(Nr k q).1 h3,<- e2,(Nr e.1 e.1).2 rfl] at h1
     cases h1
    | false=>rfl
   | false=>exact ih
theorem UD (n:Bi) (q:Ak):∀ (ps:List Ak) (v:List (Ak×ByteArray)),PS (ps.foldl (fun v p=>GM A2 v p n.Name) v) q=bif ps.any (fun p=>A2 p q) then n.Name else PS v q
 | [],v=>rfl
 | p::ps,v=>by
  rw [List.foldl_cons,UD n q ps,cO,List.any_cons]
  cases h1:A2 p q with
  | true =>
   cases ps.any (fun p=>A2 p q) <;> rfl
  | false=>rw [cond_false,Bool.false_or]
theorem Yl (b:AG) (q:Ak):PS (KC b) q=match b.Nets.find? (fun n=>n.Pins.any fun p=>A2 p q) with | some n=>n.Name | none=>⟨#[]⟩:=by
 unfold KC
 rw [List.foldl_reverse]
 generalize b.Nets=l
 induction l with
 | nil=>rfl
 | cons n l ih =>
  rw [List.foldr_cons,List.find?_cons]
  unfold cE
  rw [UD]
  cases n.Pins.any (fun p=>A2 p q) with
  | true=>rfl
  | false=>exact ih
theorem Dm (m:AX) (p:AC):Ac m p=AY m p:=by
 have ht:CP m=m.Turn % 4:=kQ m.Turn
 unfold AY Z09 Bw CH Ac
 rw [Vb]
 generalize (bif m.Mirror then (W64 (0-p.X)) else p.X)=x at *
 have h4:m.Turn % 4=0\/m.Turn % 4=1\/m.Turn % 4=2\/m.Turn % 4=3:=by omega
 rcases h4 with h | h | h | h <;> rw [h] at ht ⊢ <;> rw [ht]
 ·show CF m p 1 ⟨x,p.Y⟩ 0=_
  simp only [CF,ht,Int.reduceLT,decide_false,cond_false,Gc,CI,Int.reduceEq,if_true]
 ·show CF m p 2 ⟨x,p.Y⟩ 0=_
  simp only [CF,ht,Int.reduceLT,Int.reduceAdd,decide_true,cond_true,decide_false,cond_false,Gc,CI,Int.reduceEq,if_true,if_false]
 ·show CF m p 3 ⟨x,p.Y⟩ 0=_
  simp only [CF,ht,Int.reduceLT,Int.reduceAdd,decide_true,cond_true,decide_false,cond_false,Gc,CI,Int.reduceEq,if_true,if_false]
 show CF m p 4 ⟨x,p.Y⟩ 0=_
 have e:∀ u v:Int,W64 (W64 (0-W64 (0-u))+v)=W64 (u+v):=fun u v=>by simp only [Bk];omega
 simp only [CF,ht,Int.reduceLT,Int.reduceAdd,decide_true,cond_true,decide_false,cond_false,Gc,CI,Int.reduceEq,if_false,e]
theorem cF (e:AH) (m:AX):Dq e m=G9 e m:=by
 obtain ⟨k,a,b,c⟩:=e
 unfold Dq G9
 simp only
 by_cases h1:k=1
 ·subst h1
  rw [if_pos rfl]
  unfold P2 Ce
  rw [Dm,Dm]
  cases m.Mirror <;> rfl
 rw [if_neg h1]
 by_cases h2:k=2
 ·subst h2
  rw [if_pos rfl]
  unfold P1 Ce
  rw [Dm,Dm,Dm]
  cases m.Mirror <;> rfl
 rw [if_neg h2]
 by_cases h3:k=3
 ·subst h3
  rw [if_pos rfl]
  unfold P0 Ce
  rw [Dm,Dm,Dm]
  cases m.Mirror <;> rfl
 rw [if_neg h3]
 unfold Pz Ce
 simp only
 rw [Dm,Dm,Dm,decide_eq_false h2,decide_eq_false h3]
 cases m.Mirror <;> rfl
theorem T6 (s:AQ) (m:AX):∀ (n k:Nat) (l:List AH),k<=s.Edges.length->s.Edges.length-k<n->E4 s m n l (k:Int)=⟨s.Kind,l++(s.Edges.drop k).map (fun e=>Dq e m),s.R⟩
 | 0,k,l,hk,hn=>by omega
 | n+1,k,l,hk,hn=>by
  unfold E4
  by_cases hlt:k<s.Edges.length
  ·rw [decide_eq_true (show (k:Int)<((s.Edges.length:Nat):Int) by omega)]
   simp only [cond_true]
   rw [show ((k:Int)+1)=((k+1:Nat):Int) by omega,T6 s m n (k+1) _ (by omega) (by omega),WX hlt]
   unfold Z1h
   rw [Int.toNat_natCast,<- cF]
   simp
  rw [decide_eq_false (show ¬ (k:Int)<((s.Edges.length:Nat):Int) by omega)]
  rw [List.drop_of_length_le (by omega)]
  simp
theorem cH (s:AQ) (m:AX):Fx s m=E3 s m:=by
 rw [cG]
 unfold Fx
 have:=T6 s m ((((s.Edges.length:Nat):Int)-0).toNat+1) 0 [] (by omega) (by omega)
 exact this
theorem nN (b:AG) (q:Ak) (k:Nat) (K0:Int->ByteArray) (m:Nat) (hm:(b.Nets.getD k default).Pins.length<m):Ec b q k K0 m 0=bif (b.Nets.getD k default).Pins.any (fun p=>A2 p q) then (b.Nets.getD k default).Name else K0 ((k:Int)+1):=by
 have h:=Sj (fun p=>A2 p q) (fun _=>(b.Nets.getD k default).Name) (K0 ((k:Int)+1)) (b.Nets.getD k default).Pins (Ec b q k K0) (fun m v=>by
  rw [Ec]
  unfold Z1d Z1c A2 eqS
  rw [Int.toNat_natCast,Int.toNat_natCast,Bool.and_true]) (b.Nets.getD k default).Pins.length 0 m rfl (Nat.zero_le _) hm
 rw [List.drop_zero] at h
 refine h.trans ?_
 cases hf:(b.Nets.getD k default).Pins.find? (fun p=>A2 p q) with
 | some x =>
  have:(b.Nets.getD k default).Pins.any (fun p=>A2 p q)=true:=List.any_eq_true.2 ⟨x,List.mem_of_find?_eq_some hf,List.find?_some (p:=fun p=>A2 p q) hf⟩
  rw [this];rfl
 | none =>
  have:(b.Nets.getD k default).Pins.any (fun p=>A2 p q)=false:=List.any_eq_false.2 fun x hx=>List.find?_eq_none.1 hf x hx
  rw [this];rfl
theorem nO (b:AG) (q:Ak):Ir b q=PS (KC b) q:=by
 rw [Yl]
 have h:=Sj (fun n:Bi=>n.Pins.any fun p=>A2 p q) (fun n=>n.Name) (⟨#[]⟩:ByteArray) b.Nets (Ed b q) (fun m v=>by
  rw [Ed]
  have:=nN b q v (Ed b q m) ((((b.Nets.getD ((v:Nat):Int).toNat default).Pins.length:Int)-0).toNat+1) (by rw [Int.toNat_natCast];omega)
  rw [this]) b.Nets.length 0 (((((b.Nets.length:Int)))-0).toNat+1) rfl (Nat.zero_le _) (by omega)
 rw [List.drop_zero] at h
 unfold Ir
 refine h.trans ?_
 cases b.Nets.find? (fun n=>n.Pins.any fun p=>A2 p q) <;> rfl
theorem jU (b:AG) (x:AE×BJ):Lq b x.1 x.2=Gz b (KC b) x:=by
 unfold Lq Gz
 rw [nO,<- jP,cH]
 rfl
theorem oD {types:List AR} {name:ByteArray} (h:(Be types name).2=false):(Be types name).1.Pads=[]:=by
 rw [Iw] at *
 unfold UV at *
 cases hf:types.find? (fun t=>GU t name) with
 | none=>rfl
 | some t=>rw [hf] at h;cases h
theorem Pa {α γ:Type} (f:α->List γ):∀ (xs:List α) (acc:List γ),xs.foldl (fun acc x=>acc++f x) acc=acc++xs.flatMap f
 | [],acc=>by simp
 | x::xs,acc=>by rw [List.foldl_cons,Pa f xs,List.flatMap_cons,List.append_assoc]
theorem Py (b:AG) (types:List AR):C0 b types=DV b types:=by
 rw [Us]
 have h:=Mi (BR b) (fun acc p=>acc++(FE types p).map (Gz b (KC b))) (C1 b types) (fun acc _=>acc) (fun m acc v=>by
  rw [C1]
  generalize hp:(BR b).getD v default=p
  have hw:Z1q types b v=(Be types p.Type').1:=by unfold Z1q;rw [Int.toNat_natCast,hp,H7]
  have h1:=Mi (Be types p.Type').1.Pads (fun acc q=>acc++[Gz b (KC b) (p,q)]) (ET b types acc v (C1 b types m)) (fun acc _=>C1 b types m acc ((v:Int)+1)) (fun m2 acc2 i=>by
   rw [ET]
   unfold Z1u Z1t
   rw [hw,Int.toNat_natCast,Int.toNat_natCast,hp,H7,<- jU]
   cases hk:(Be types p.Type').2 with
   | true=>rfl
   | false =>
    rw [oD hk,decide_eq_false (by simp only [List.length_nil];omega)]
    rfl) (Be types p.Type').1.Pads.length 0 ((((Z1q types b v).Pads.length:Int)-0).toNat+1) acc rfl (Nat.zero_le _) (by rw [hw];omega)
  rw [List.drop_zero,Hy] at h1
  have e:(FE types p).map (Gz b (KC b))=(Be types p.Type').1.Pads.map fun q=>Gz b (KC b) (p,q):=by unfold FE;rw [List.map_map];rfl
  rw [e]
  have h2:ET b types acc v (C1 b types m) ((((Z1q types b v).Pads.length:Int)-0).toNat+1) acc 0=C1 b types m (acc++(Be types p.Type').1.Pads.map fun q=>Gz b (KC b) (p,q)) ((v:Int)+1):=h1
  rw [<- h2]) (BR b).length 0 (((((BR b).length:Int))-0).toNat+1) [] rfl (Nat.zero_le _) (by omega)
 rw [List.drop_zero,Pa,List.nil_append,PD] at h
 unfold Af
 rw [List.map_flatMap]
 rw [<- h]
 unfold C0
 rw [PD]
 rfl
end Go.Proofs.YtheobjkgllmnmaaGreat
