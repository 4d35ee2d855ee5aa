/-
  No statement is proved in this text. It holds a part of what the proof of ItemsPads needs.
-/
import Derived.Test.YtheobjkgllmnmaaGreatItemsPadsQe
namespace Go.Proofs.YtheobjkgllmnmaaGreat
set_option maxRecDepth 100000
set_option linter.unusedVariables false
set_option linter.unusedSimpArgs false
open Go.RowKit
section
open Go.RowKit
def AJ:Ej:=Ej.mk 1 (⟨#[]⟩) 0 (Ak.mk 0 0 0 0) (OpL.mk 0 (fun _ _=>default))
def CJ:CT:=(99,[],.val [] (.av (.agg (Ej.c AJ))))
abbrev Te:List Cl:=[.i 1,.s (⟨#[]⟩),.i 0,.i 0,.i 0,.i 0,.i 0,vN]
theorem bV  : E5 Tryz.prog 99 (CJ ).2.1 (.av (.agg (Ej.c AJ))):=by
 refine pwf Tryz.func99 fun W0 M0 => ?_
 refine AB<|rn ⟨[(0,tP 0 0)],[(0,.cells [.i 0,.s (⟨#[]⟩),.i 0,.i 0,.i 0,.i 0,.i 0,vN] 145)]⟩<|AB ?_
 refine rn ⟨[(0,tP 0 0)],[(0,.cells Te 145)]⟩<|AW ?_
 exact xl (.av (.agg Te)) (Du (y:=.av (.agg [.i 1,.s (⟨#[]⟩),.i 0,.i 0,.i 0,.i 0,.i 0,opL (OpL.mk 0 (fun _ _=>default))])) (.av (.agg (rr5 (rr2 (.cons (.nil _ _) .nil))))) (by rfl))
theorem EV  : OKc (CJ ):=cPu<|bV
def Z39:Blk:=.cells [.i 0,.s (⟨#[]⟩),.i 0,.i 0,.i 0,.i 0,.i 0,vN] 145
variable (b:AH) (d:AD) (v4 v5 v6 v7 v8 v9:Int)
abbrev GZ:Blk:=.cells (AD.c (AA d 9).2) 117
def Z3a:CT:=(42,([.one (.ptr 1000 0),.one (.i 9)]:List Av).map (Bq 1000 1000),wrI 1000 (Hx d) (tI (AA d 9).1) (GZ d))
abbrev I0:=AA (AA d 9).2 2
def Z3b:CT:=(42,(IE:List Av).map (Bq 1000 1000),wrI 1000 (GZ d) (tI (I0 d).1) (.cells (AD.c (I0 d).2) 117))
def Z3c:Blk:=.cells (AD.c (I0 d).2) 117
def Z3d:CT:=(42,(Lm:List Av).map (Bq 1000 1000),wrI 1000 (GZ d) (tI (AA (AA d 9).2 5).1) (.cells (AD.c (AA (AA d 9).2 5).2) 117))
def Z3e:CT:=(42,(E8:List Av).map (Bq 1000 1000),wrI 1000 (GZ d) (tI (AA (AA d 9).2 3).1) (.cells (AD.c (AA (AA d 9).2 3).2) 117))
def Z3f:CT:=(42,(QD:List Av).map (Bq 1000 1000),wrI 1000 (GZ d) (tI (AA (AA d 9).2 6).1) (.cells (AD.c (AA (AA d 9).2 6).2) 117))
def Z3g:CT:=(42,(Hz:List Av).map (Bq 1000 1000),wrI 1000 (.cells (AD.c (I0 d).2) 117) (tI (AA (I0 d).2 4).1) (.cells (AD.c (AA (I0 d).2 4).2) 117))
abbrev Z3h:AD:=(AA (AA (AA d 9).2 2).2 4).2
def BL (d:AD):(Ej×AD):=bif decide (((AA d 9).1:Int)=0) then (Ej.mk 2 (([({ data := #[78,49] }:ByteArray),({ data := #[71,78,68] }:ByteArray)]:List ByteArray).getD (AA (AA d 9).2 2).1.toNat ⟨#[]⟩) 0 (Ak.mk 0 0 0 0) (OpL.mk 0 (fun _ _=>default)),(AA (AA d 9).2 2).2) else (bif decide (((AA d 9).1:Int)=1) then (Ej.mk 3 ({ data := #[112,111,119,101,114] }:ByteArray) 0 (Ak.mk 0 0 0 0) (OpL.mk 0 (fun _ _=>default)),(AA d 9).2) else (bif decide (((AA d 9).1:Int)=2) then (Ej.mk 4 (⟨#[]⟩) (W64 (1+(AA (AA d 9).2 5).1)) (Ak.mk 0 0 0 0) (OpL.mk 0 (fun _ _=>default)),(AA (AA d 9).2 5).2) else (bif decide (((AA d 9).1:Int)=3) then (Ej.mk 5 (⟨#[]⟩) (W64 (1+(AA (AA d 9).2 2).1)) (Ak.mk 0 0 0 0) (OpL.mk 0 (fun _ _=>default)),(AA (AA d 9).2 2).2) else (bif decide (((AA d 9).1:Int)=4) then (Ej.mk 6 (⟨#[]⟩) (W64 (1+(AA (AA d 9).2 3).1)) (Ak.mk 0 0 0 0) (OpL.mk 0 (fun _ _=>default)),(AA (AA d 9).2 3).2) else (bif decide (((AA d 9).1:Int)=5) then (Ej.mk 7 (⟨#[]⟩) 0 (Ak.mk 0 0 (W64 (100+(W64 (50*(AA (AA d 9).2 6).1)))) 400) (OpL.mk 0 (fun _ _=>default)),(AA (AA d 9).2 6).2) else (bif decide (((AA d 9).1:Int)=6) then (Ej.mk 8 (⟨#[]⟩) 0 (Ak.mk 0 0 0 0) (OpL.mk 1 (As 8 1 [.i 5,.s (⟨#[]⟩),.i (W64 (1+(AA (AA d 9).2 2).1)),.i 0,.i 0,.i 0,.i 0,vN])),(AA (AA d 9).2 2).2) else (bif decide (((AA d 9).1:Int)=7) then (Ej.mk (W64 (9+(AA (AA d 9).2 2).1)) (⟨#[]⟩) 0 (Ak.mk 0 0 0 0) (OpL.mk 2 (As 8 2 [.i 4,.s (⟨#[]⟩),.i (W64 (1+(AA (AA (AA d 9).2 2).2 4).1)),.i 0,.i 0,.i 0,.i 0,vN,.i 2,.s ({ data := #[71,78,68] }:ByteArray),.i 0,.i 0,.i 0,.i 0,.i 0,vN])),Z3h d) else (Ej.mk 1 (⟨#[]⟩) 0 (Ak.mk 0 0 0 0) (OpL.mk 0 (fun _ _=>default)),(AA d 9).2))))))))
abbrev Tl:List Cl:=[.i 5,.s (⟨#[]⟩),.i (W64 (1+(I0 d).1)),.i 0,.i 0,.i 0,.i 0,vN]
abbrev HF:Nat×Blk:=(1000,.cells (AD.c (AA d 9).2) 117)
abbrev fJ:List Cl:=[.i 7,.s (⟨#[]⟩),.i 0,.i 0,.i 0,.i (W64 (100+(W64 (50*(AA (AA d 9).2 6).1)))),.i 400,vN]
abbrev uG:Nat×Tv:=(4,tI (AA d 9).1)
abbrev fB:List Cl:=[.i 4,.s (⟨#[]⟩),.i (W64 (1+(AA (AA d 9).2 5).1)),.i 0,.i 0,.i 0,.i 0,vN]
abbrev fA:List Cl:=[.i 6,.s (⟨#[]⟩),.i (W64 (1+(AA (AA d 9).2 3).1)),.i 0,.i 0,.i 0,.i 0,vN]
abbrev eW:List Cl:=[.i 8,.s (⟨#[]⟩),.i 0,.i 0,.i 0,.i 0,.i 0,.list true 8 1 (As 8 1 (Tl d))]
abbrev J1 (t_:List (Nat×Tv)):List (Nat×Tv):=(0,tP 1000 0)::(2,tP 2 0)::(uG d)::t_
theorem ZV  (d:AD) (hd:Bh d):Wr Tryz.prog 100 1000 [.one (.ptr 1000 0)] (.cells (AD.c d) 117) (.av (.agg (Ej.c (BL d).1))) (.cells (AD.c (BL d).2) 117):=by
 refine IK Tryz.func100 rfl kr kr kr kr fun W0 M0 X hX => ?_
 refine AB<|rn ⟨[(0,tP 1000 0),(2,tP 2 0)],[(2,Z39),(KE d)]⟩ ?_
 refine AB<|AB ?_
 refine rb 4 (Z3a d) (Hx d) ⟨(J1 d []),[(2,Z39),(HF d)]⟩ (cWr (BU d 9 au6 au8))<|AG ?_
 refine AR<|AB ?_
 refine rn ⟨(J1 d [(5,tB (decide (((AA d 9).1:Int)=0)))]),[(2,Z39),(HF d)]⟩ ?_
 refine AV _ rfl (fun h1 => ?_) (fun h1 => ?_)
 ·have g1:=oT h1
  refine AB<|rc [(9,(Z3b d))] [Ap (Z3b d).2.1,Bv (GZ d),0<=((AA (AA d 9).2 2).1:Int)/\((AA (AA d 9).2 2).1:Int)<((2:Nat):Int)] ⟨[(2,tP 2 0)],[(2,.cells [.i 2,.s (([({ data := #[78,49] }:ByteArray),({ data := #[71,78,68] }:ByteArray)]:List ByteArray).getD (I0 d).1.toNat ⟨#[]⟩),.i 0,.i 0,.i 0,.i 0,.i 0,vN] 145),(1000,Z3c d)]⟩ (.cons (cWr (BU (AA d 9).2 2 au6 au8)) .nil) (.cons rfl (.cons rfl (.cons (by first | exact Kn _ _ _ (by decide) (by decide) (by decide) | decide | omega) .nil)))<|AG ?_
  refine AW<|Bo<|A7 ?_
  exact xl (.av (.agg [.i 2,.s (([({ data := #[78,49] }:ByteArray),({ data := #[71,78,68] }:ByteArray)]:List ByteArray).getD (AA (AA d 9).2 2).1.toNat ⟨#[]⟩),.i 0,.i 0,.i 0,.i 0,.i 0,vN])) ⟨Du (y:=.av (.agg [.i 2,.s (([({ data := #[78,49] }:ByteArray),({ data := #[71,78,68] }:ByteArray)]:List ByteArray).getD (AA (AA d 9).2 2).1.toNat ⟨#[]⟩),.i 0,.i 0,.i 0,.i 0,.i 0,opL (OpL.mk 0 (fun _ _=>default))])) (.av (.agg (rr5 (rr2 (.cons (.nil _ _) .nil))))) (by unfold BL;rw [h1];rfl),.cells (AD.c (AA (AA d 9).2 2).2) 117,by kernel_rfl,Dk (by unfold BL;rw [h1];kernel_rfl)⟩
 have g1:=oF h1
 refine AB<|rn ⟨(J1 d [(13,tB (decide (((AA d 9).1:Int)=1)))]),[(2,Z39),(HF d)]⟩ ?_
 refine AV _ rfl (fun h2 => ?_) (fun h2 => ?_)
 ·refine AB<|rn ⟨[(2,tP 2 0)],[(2,.cells [.i 3,.s ({ data := #[112,111,119,101,114] }:ByteArray),.i 0,.i 0,.i 0,.i 0,.i 0,vN] 145),(HF d)]⟩ ?_
  refine AW<|Bo<|A7 ?_
  exact xl (.av (.agg [.i 3,.s ({ data := #[112,111,119,101,114] }:ByteArray),.i 0,.i 0,.i 0,.i 0,.i 0,vN])) ⟨Du (y:=.av (.agg [.i 3,.s ({ data := #[112,111,119,101,114] }:ByteArray),.i 0,.i 0,.i 0,.i 0,.i 0,opL (OpL.mk 0 (fun _ _=>default))])) (.av (.agg (rr5 (rr2 (.cons (.nil _ _) .nil))))) (by unfold BL;rw [h1,h2];rfl),.cells (AD.c (AA d 9).2) 117,by kernel_rfl,Dk (by unfold BL;rw [h1,h2];kernel_rfl)⟩
 have g2:=oF h2
 refine AB<|rn ⟨(J1 d [(16,tB (decide (((AA d 9).1:Int)=2)))]),[(2,Z39),(HF d)]⟩ ?_
 refine AV _ rfl (fun h3 => ?_) (fun h3 => ?_)
 ·have g3:=oT h3
  refine AB<|rb 19 (Z3d d) (GZ d) ⟨[(2,tP 2 0)],[(2,.cells (fB d) 145),(1000,.cells (AD.c (AA (AA d 9).2 5).2) 117)]⟩ (cWr (BU (AA d 9).2 5 au6 au8))<|AG ?_
  refine AW<|Bo<|A7 ?_
  exact xl (.av (.agg (fB d))) ⟨Du (y:=.av (.agg [.i 4,.s (⟨#[]⟩),.i (W64 (1+(AA (AA d 9).2 5).1)),.i 0,.i 0,.i 0,.i 0,opL (OpL.mk 0 (fun _ _=>default))])) (.av (.agg (rr5 (rr2 (.cons (.nil _ _) .nil))))) (by unfold BL;rw [h1,h2,h3];rfl),.cells (AD.c (AA (AA d 9).2 5).2) 117,by kernel_rfl,Dk (by unfold BL;rw [h1,h2,h3];kernel_rfl)⟩
 have g3:=oF h3
 refine AB<|rn ⟨(J1 d [(22,tB (decide (((AA d 9).1:Int)=3)))]),[(2,Z39),(HF d)]⟩ ?_
 refine AV _ rfl (fun h4 => ?_) (fun h4 => ?_)
 ·have g4:=oT h4
  refine AB<|rb 25 (Z3b d) (GZ d) ⟨[(2,tP 2 0)],[(2,.cells (Tl d) 145),(1000,Z3c d)]⟩ (cWr (BU (AA d 9).2 2 au6 au8))<|AG ?_
  refine AW<|Bo<|A7 ?_
  exact xl (.av (.agg (Tl d))) ⟨Du (y:=.av (.agg [.i 5,.s (⟨#[]⟩),.i (W64 (1+(AA (AA d 9).2 2).1)),.i 0,.i 0,.i 0,.i 0,opL (OpL.mk 0 (fun _ _=>default))])) (.av (.agg (rr5 (rr2 (.cons (.nil _ _) .nil))))) (by unfold BL;rw [h1,h2,h3,h4];rfl),.cells (AD.c (AA (AA d 9).2 2).2) 117,by kernel_rfl,Dk (by unfold BL;rw [h1,h2,h3,h4];kernel_rfl)⟩
 have g4:=oF h4
 refine AB<|rn ⟨(J1 d [(28,tB (decide (((AA d 9).1:Int)=4)))]),[(2,Z39),(HF d)]⟩ ?_
 refine AV _ rfl (fun h5 => ?_) (fun h5 => ?_)
 ·have g5:=oT h5
  refine AB<|rb 31 (Z3e d) (GZ d) ⟨[(2,tP 2 0)],[(2,.cells (fA d) 145),(1000,.cells (AD.c (AA (AA d 9).2 3).2) 117)]⟩ (cWr (BU (AA d 9).2 3 au6 au8))<|AG ?_
  refine AW<|Bo<|A7 ?_
  exact xl (.av (.agg (fA d))) ⟨Du (y:=.av (.agg [.i 6,.s (⟨#[]⟩),.i (W64 (1+(AA (AA d 9).2 3).1)),.i 0,.i 0,.i 0,.i 0,opL (OpL.mk 0 (fun _ _=>default))])) (.av (.agg (rr5 (rr2 (.cons (.nil _ _) .nil))))) (by unfold BL;rw [h1,h2,h3,h4,h5];rfl),.cells (AD.c (AA (AA d 9).2 3).2) 117,by kernel_rfl,Dk (by unfold BL;rw [h1,h2,h3,h4,h5];kernel_rfl)⟩
 have g5:=oF h5
 refine AB<|rn ⟨(J1 d [(34,tB (decide (((AA d 9).1:Int)=5)))]),[(2,Z39),(HF d)]⟩ ?_
 refine AV _ rfl (fun h6 => ?_) (fun h6 => ?_)
 ·have g6:=oT h6
  refine AB<|rb 37 (Z3f d) (GZ d) ⟨[(2,tP 2 0)],[(2,.cells (fJ d) 145),(1000,.cells (AD.c (AA (AA d 9).2 6).2) 117)]⟩ (cWr (BU (AA d 9).2 6 au6 au8))<|AG ?_
  refine AW<|Bo<|A7 ?_
  exact xl (.av (.agg (fJ d))) ⟨Du (y:=.av (.agg [.i 7,.s (⟨#[]⟩),.i 0,.i 0,.i 0,.i (W64 (100+(W64 (50*(AA (AA d 9).2 6).1)))),.i 400,opL (OpL.mk 0 (fun _ _=>default))])) (.av (.agg (rr5 (rr2 (.cons (.nil _ _) .nil))))) (by unfold BL;rw [h1,h2,h3,h4,h5,h6];rfl),.cells (AD.c (AA (AA d 9).2 6).2) 117,by kernel_rfl,Dk (by unfold BL;rw [h1,h2,h3,h4,h5,h6];kernel_rfl)⟩
 have g6:=oF h6
 refine AB<|rn ⟨(J1 d [(42,tB (decide (((AA d 9).1:Int)=6)))]),[(2,Z39),(HF d)]⟩ ?_
 refine AV _ rfl (fun h7 => ?_) (fun h7 => ?_)
 ·have g7:=oT h7
  refine AB<|rb 45 (Z3b d) (GZ d) ⟨[(2,tP 2 0)],[(2,.cells (eW d) 145),(1000,Z3c d)]⟩ (cWr (BU (AA d 9).2 2 au6 au8))<|AG ?_
  refine AW<|Bo<|A7 ?_
  exact xl (.av (.agg (eW d))) ⟨Du (y:=.av (.agg [.i 8,.s (⟨#[]⟩),.i 0,.i 0,.i 0,.i 0,.i 0,opL (OpL.mk 1 (As 8 1 (Tl d)))])) (.av (.agg (rr5 (rr2 (.cons (.list true false _ _ _ _ (fun _ _ _ _=>.refl _) (fun h=>by cases h)) .nil))))) (by unfold BL;rw [h1,h2,h3,h4,h5,h6,h7];rfl),.cells (AD.c (AA (AA d 9).2 2).2) 117,by kernel_rfl,Dk (by unfold BL;rw [h1,h2,h3,h4,h5,h6,h7];kernel_rfl)⟩
 have g7:=oF h7
 refine AB<|rn ⟨[(0,tP 1000 0),(2,tP 2 0),(50,tB (decide (((AA d 9).1:Int)=7)))],[(2,Z39),(HF d)]⟩ ?_
 refine AV _ rfl (fun h8 => ?_) (fun h8 => ?_)
 ·have g8:=oT h8
  refine AB<|rc [(53,(Z3b d)),(56,(Z3g d))] [Ap (Z3b d).2.1,Bv (GZ d),Ap (Z3g d).2.1,Bv (.cells (AD.c (AA (AA d 9).2 2).2) 117)] ⟨[(2,tP 2 0)],[(2,.cells [.i (W64 (9+(I0 d).1)),.s (⟨#[]⟩),.i 0,.i 0,.i 0,.i 0,.i 0,.list true 8 2 (As 8 2 [.i 4,.s (⟨#[]⟩),.i (W64 (1+(AA (I0 d).2 4).1)),.i 0,.i 0,.i 0,.i 0,vN,.i 2,.s ({ data := #[71,78,68] }:ByteArray),.i 0,.i 0,.i 0,.i 0,.i 0,vN])] 145),(1000,.cells (AD.c (Z3h d)) 117)]⟩ (.cons (cWr (BU (AA d 9).2 2 au6 au8)) (.cons (cWr (BU (AA (AA d 9).2 2).2 4 au6 au8)) .nil)) (.cons rfl (.cons rfl (.cons rfl (.cons rfl .nil))))<|AG ?_
  refine AW<|Bo<|A7 ?_
  exact xl (.av (.agg [.i (W64 (9+(AA (AA d 9).2 2).1)),.s (⟨#[]⟩),.i 0,.i 0,.i 0,.i 0,.i 0,.list true 8 2 (As 8 2 [.i 4,.s (⟨#[]⟩),.i (W64 (1+(AA (AA (AA d 9).2 2).2 4).1)),.i 0,.i 0,.i 0,.i 0,vN,.i 2,.s ({ data := #[71,78,68] }:ByteArray),.i 0,.i 0,.i 0,.i 0,.i 0,vN])])) ⟨Du (y:=.av (.agg [.i (W64 (9+(AA (AA d 9).2 2).1)),.s (⟨#[]⟩),.i 0,.i 0,.i 0,.i 0,.i 0,opL (OpL.mk 2 (As 8 2 [.i 4,.s (⟨#[]⟩),.i (W64 (1+(AA (AA (AA d 9).2 2).2 4).1)),.i 0,.i 0,.i 0,.i 0,vN,.i 2,.s ({ data := #[71,78,68] }:ByteArray),.i 0,.i 0,.i 0,.i 0,.i 0,vN]))])) (.av (.agg (rr5 (rr2 (.cons (.list true false _ _ _ _ (fun _ _ _ _=>.refl _) (fun h=>by cases h)) .nil))))) (by unfold BL;rw [h1,h2,h3,h4,h5,h6,h7,h8];rfl),.cells (AD.c (Z3h d)) 117,by kernel_rfl,Dk (by unfold BL;rw [h1,h2,h3,h4,h5,h6,h7,h8];kernel_rfl)⟩
 refine AY<|BN ?_
 refine AG<|AB ?_
 refine rn ⟨[(2,tP 2 0)],[(2,.cells Te 145),(HF d)]⟩<|AW ?_
 exact xl (.av (.agg Te)) ⟨Du (y:=.av (.agg [.i 1,.s (⟨#[]⟩),.i 0,.i 0,.i 0,.i 0,.i 0,opL (OpL.mk 0 (fun _ _=>default))])) (.av (.agg (rr5 (rr2 (.cons (.nil _ _) .nil))))) (by unfold BL;rw [h1,h2,h3,h4,h5,h6,h7,h8];rfl),.cells (AD.c (AA d 9).2) 117,by kernel_rfl,Dk (by unfold BL;rw [h1,h2,h3,h4,h5,h6,h7,h8];kernel_rfl)⟩
theorem dJ {d:AD} (h:Bh d):Bh (BL d).2:=by
 unfold BL
 exact Dx (BT (BT h)) (Dx (BT h) (Dx (BT (BT h)) (Dx (BT (BT h)) (Dx (BT (BT h)) (Dx (BT (BT h)) (Dx (BT (BT h)) (Dx (BT (BT (BT h))) (BT h))))))))
abbrev fW:List Cl:=[.i b.Layers,.any,.any,.any,lst 7 AE.c b.Parts,.any,lst 6 Ab.c b.Tracks,lst 8 A4.c b.Vias,lst 8 Be.c b.Pours,lst 5 C8.c b.Keeps,lst 4 Ar.c b.Slots,.any,.any,.any,.any]
def Z3i:Blk:=.cells (fW b) 41
def Z3j:Blk:=.row 1 ([]:List Int).length (AO eIn ([]:List Int)) 3
def Z3k:Tv:=.av (.one (.own 100000 1 ([]:List Int).length))
abbrev Pw:=b.Parts.getD v4.toNat default
def Z3l (v3:List Int) (b:AH) (v4:Int):Blk:=.row 1 (v3++[(Pw b v4).Id]).length (AO eIn (v3++[(Pw b v4).Id])) 3
abbrev P0:=b.Tracks.getD v5.toNat default
def Z3m (v3':List Int) (b:AH) (v5:Int):Blk:=.row 1 (v3'++[(P0 b v5).Id]).length (AO eIn (v3'++[(P0 b v5).Id])) 3
abbrev Ps:=b.Vias.getD v6.toNat default
def Z3n (v3'':List Int) (b:AH) (v6:Int):Blk:=.row 1 (v3''++[(Ps b v6).Id]).length (AO eIn (v3''++[(Ps b v6).Id])) 3
abbrev Pv:=b.Pours.getD v7.toNat default
def Z3o (v3''':List Int) (b:AH) (v7:Int):Blk:=.row 1 (v3'''++[(Pv b v7).Id]).length (AO eIn (v3'''++[(Pv b v7).Id])) 3
abbrev Px:=b.Keeps.getD v8.toNat default
def Z3p (v3'''':List Int) (b:AH) (v8:Int):Blk:=.row 1 (v3''''++[(Px b v8).Id]).length (AO eIn (v3''''++[(Px b v8).Id])) 3
abbrev Pu:=b.Slots.getD v9.toNat default
def Z3q (v3''''':List Int) (b:AH) (v9:Int):Blk:=.row 1 (v3'''''++[(Pu b v9).Id]).length (AO eIn (v3'''''++[(Pu b v9).Id])) 3
def F5 (b:AH) (v3:List Int) (v4:Int) (v3':List Int) (v5:Int) (v3'':List Int) (v6:Int) (v3''':List Int) (v7:Int) (v3'''':List Int) (v8:Int) (K0:List Int->Int->(List Int)) (K1:List Int->Int->(List Int)) (K2:List Int->Int->(List Int)) (K3:List Int->Int->(List Int)) (K4:List Int->Int->(List Int)):Nat->List Int->Int->(List Int)
 | 0,_,_=>default
 | n5+1,v3''''',v9=>bif decide ((v9:Int)<(b.Slots.length:Int)) then ((F5 b v3 v4 v3' v5 v3'' v6 v3''' v7 v3'''' v8 K0 K1 K2 K3 K4 n5) (v3'''''++[(b.Slots.getD v9.toNat default).Id]) (v9+1)) else v3'''''
def Ee (b:AH) (v3:List Int) (v4:Int) (v3':List Int) (v5:Int) (v3'':List Int) (v6:Int) (v3''':List Int) (v7:Int) (K0:List Int->Int->(List Int)) (K1:List Int->Int->(List Int)) (K2:List Int->Int->(List Int)) (K3:List Int->Int->(List Int)):Nat->List Int->Int->(List Int)
 | 0,_,_=>default
 | n4+1,v3'''',v8=>bif decide ((v8:Int)<(b.Keeps.length:Int)) then ((Ee b v3 v4 v3' v5 v3'' v6 v3''' v7 K0 K1 K2 K3 n4) (v3''''++[(b.Keeps.getD v8.toNat default).Id]) (v8+1)) else (F5 b v3 v4 v3' v5 v3'' v6 v3''' v7 v3'''' v8 K0 K1 K2 K3 (Ee b v3 v4 v3' v5 v3'' v6 v3''' v7 K0 K1 K2 K3 n4) (((b.Slots.length:Int)-0).toNat+1) v3'''' 0)
def D2 (b:AH) (v3:List Int) (v4:Int) (v3':List Int) (v5:Int) (v3'':List Int) (v6:Int) (K0:List Int->Int->(List Int)) (K1:List Int->Int->(List Int)) (K2:List Int->Int->(List Int)):Nat->List Int->Int->(List Int)
 | 0,_,_=>default
 | n3+1,v3''',v7=>bif decide ((v7:Int)<(b.Pours.length:Int)) then ((D2 b v3 v4 v3' v5 v3'' v6 K0 K1 K2 n3) (v3'''++[(b.Pours.getD v7.toNat default).Id]) (v7+1)) else (Ee b v3 v4 v3' v5 v3'' v6 v3''' v7 K0 K1 K2 (D2 b v3 v4 v3' v5 v3'' v6 K0 K1 K2 n3) (((b.Keeps.length:Int)-0).toNat+1) v3''' 0)
def Cm (b:AH) (v3:List Int) (v4:Int) (v3':List Int) (v5:Int) (K0:List Int->Int->(List Int)) (K1:List Int->Int->(List Int)):Nat->List Int->Int->(List Int)
 | 0,_,_=>default
 | n2+1,v3'',v6=>bif decide ((v6:Int)<(b.Vias.length:Int)) then ((Cm b v3 v4 v3' v5 K0 K1 n2) (v3''++[(b.Vias.getD v6.toNat default).Id]) (v6+1)) else (D2 b v3 v4 v3' v5 v3'' v6 K0 K1 (Cm b v3 v4 v3' v5 K0 K1 n2) (((b.Pours.length:Int)-0).toNat+1) v3'' 0)
def Bp (b:AH) (v3:List Int) (v4:Int) (K0:List Int->Int->(List Int)):Nat->List Int->Int->(List Int)
 | 0,_,_=>default
 | n1+1,v3',v5=>bif decide ((v5:Int)<(b.Tracks.length:Int)) then ((Bp b v3 v4 K0 n1) (v3'++[(b.Tracks.getD v5.toNat default).Id]) (v5+1)) else (Cm b v3 v4 v3' v5 K0 (Bp b v3 v4 K0 n1) (((b.Vias.length:Int)-0).toNat+1) v3' 0)
def BC (b:AH):Nat->List Int->Int->(List Int)
 | 0,_,_=>default
 | n0+1,v3,v4=>bif decide ((v4:Int)<(b.Parts.length:Int)) then ((BC b n0) (v3++[(b.Parts.getD v4.toNat default).Id]) (v4+1)) else (Bp b v3 v4 (BC b n0) (((b.Tracks.length:Int)-0).toNat+1) v3 0)
def En (b:AH):(List Int):=BC b (((b.Parts.length:Int)-0).toNat+1) ([]:List Int) 0
def Yt:CT:=(101,[.agg (fW b)],.val [] (.av (.one (lst 1 eIn (En b)))))
theorem vI (b:AH) (h0:(b.Parts.length:Int)<=1000000) (h1:(b.Tracks.length:Int)<=1000000) (h2:(b.Vias.length:Int)<=1000000) (h3:(b.Pours.length:Int)<=1000000) (h4:(b.Keeps.length:Int)<=1000000) (h5:(b.Slots.length:Int)<=1000000):PuP 101 (Yt b).2.1 (tO (lst 1 eIn (En b))):=by
 refine pwf Tryz.func101 fun W0 M0 => ?_
 refine AB<|rn ⟨[(1,tP 1 0)],[(1,Z3i b)]⟩<|AB ?_
 refine rn ⟨[(1,tP 1 0),(3,.av (.one vN))],[(1,Z3i b)]⟩ ?_
 refine AB<|AB ?_
 refine rn ⟨[(1,tP 1 0),(3,.av (.one vN)),(4,tI 0)],[(1,Z3i b)]⟩<|AR ?_
 refine BS (Cv.trans (wg (⟨[(1,tP 1 0),(3,tO (.own 100000 1 0)),(4,tI 0)],[(100000,.row 1 0 (fun _ _=>default) 3),(1,Z3i b)]⟩) 100000 1 (fun _ _=>default) 3 [(3,[0])] [] hk0) (Cv.trans (BM (⟨[(1,tP 1 0),(3,Z3k),(4,tI 0)],[(100000,Z3j),(1,Z3i b)]⟩) (.cons ⟨rfl,.refl _⟩ (.cons ⟨rfl,.av (.one (.own _ _ au2))⟩ lr)) (.cons ⟨rfl,Am 3 (Cb 1 (fun _ _=>default) eIn)⟩ lr)) (Cv.trans (ck (⟨[(1,tP 1 0),(3,Z3k),(4,tI 0)],[(1,Z3i b),(100000,Z3j)]⟩)) (Cv.refl _)))) ?_
 refine BB (ι:=Nat×List Int×Int) (fun x=>⟨[(1,tP 1 0),(3,tO (.own 100000 1 x.2.1.length)),(4,tI x.2.2)],[(1,Z3i b),(100000,.row 1 x.2.1.length (AO eIn x.2.1) 3)]⟩) (fun x=>((b.Parts.length:Int)-x.2.2).toNat<x.1/\(0<=x.2.2/\(x.2.2<=(b.Parts.length:Int)\/x.2.2=0)/\(x.2.1.length:Int)<=0+1*(x.2.2-0))/\BC b x.1 x.2.1 x.2.2=En b) (fun x=>x.1) ?_ (((b.Parts.length:Int)-0).toNat+1,([]:List Int),0) ⟨Nat.lt_succ_self _,⟨ax0,ax0,ax0⟩,(by simp only [En,cond_true,cond_false])⟩
 rintro ⟨n0,v3,v4⟩ ⟨hm0,hinv0,hF0⟩
 try dsimp only at hm0 hinv0 hF0
 cases n0 with | zero=>exact nz hm0 | succ n0 => ?_
 refine AB<|AB ?_
 refine rn ⟨[(1,tP 1 0),(3,tO (.own 100000 1 v3.length)),(4,tI v4),(14,tB (decide ((v4:Int)<(b.Parts.length:Int))))],[(1,Z3i b),(100000,.row 1 v3.length (AO eIn v3) 3)]⟩ ?_
 refine AV _ rfl (fun h1 => ?_) (fun h1 => ?_)
 ·have g1:=oT h1
  refine AY<|AG ?_
  refine AB<|AR ?_
  refine rc [] [0<=(v4:Int)/\(v4:Int)<((b.Parts.length:Nat):Int),v3.length=v3.length,v3.length+1<=maxLen,(v3.length+1)*8<=140737488355328] ⟨[(1,tP 1 0),(3,tO (.own 25 1 (v3.length+1))),(4,tI v4)],[(1,Z3i b),(25,.row 1 (v3.length+1) (fun i_ j_=>if i_<v3.length then (AO eIn v3) i_ j_ else (As 1 1 [.i (Pw b v4).Id]) (i_-v3.length) j_) 3)]⟩ .nil (.cons au0 (.cons rfl (.cons au3 (.cons au3 .nil))))<|BN<|AG ?_
  refine BS (Cv.trans (BM (⟨[(1,tP 1 0),(3,tO (.own 25 1 (v3++[(Pw b v4).Id]).length)),(4,tI v4)],[(1,Z3i b),(25,Z3l v3 b v4)]⟩) (.cons ⟨rfl,.refl _⟩ (.cons ⟨rfl,.av (.one (.own _ _ au2))⟩ lr)) (.cons ⟨rfl,.refl _⟩ (.cons ⟨rfl,Am 3 (BR (BI 1 eIn v3) (Aq (c:=eIn) (xs:=([(b.Parts.getD v4.toNat default).Id]:List Int)) rfl kr))⟩ .nil))) (Cv.refl _)) ?_
  refine rg ⟨[(1,tP 1 0),(3,tO (.own 25 1 (v3++[(Pw b v4).Id]).length)),(4,tI (W64 (v4+1)))],[(1,Z3i b),(25,Z3l v3 b v4)]⟩ ?_
  (try rw [(show W64 (v4+1)=v4+1 from Af oM au5)])
  refine AG ?_
  refine ⟨(n0,v3++[(b.Parts.getD v4.toNat default).Id],v4+1),⟨?_,?_,(by rw [<- hF0];simp only [BC,h1,cond_true,cond_false])⟩,Nat.lt_succ_self _,Cv.trans (vr 25 100000 hk0) (Ay kr)⟩
  ·show ((b.Parts.length:Int)-(v4+1)).toNat<n0;omega
  exact ⟨ax0,ax0,ax0⟩
 have g1:=oF h1
 refine BF<|A3 ?_
 refine A3<|BG ?_
 refine AG<|AB<|AB ?_
 refine rn ⟨[(1,tP 1 0),(3,tO (.own 100000 1 v3.length)),(5,tI 0)],[(1,Z3i b),(100000,.row 1 v3.length (AO eIn v3) 3)]⟩<|AR ?_
 refine BB (ι:=Nat×List Int×Int) (fun x=>⟨[(1,tP 1 0),(3,tO (.own 100000 1 x.2.1.length)),(5,tI x.2.2)],[(1,Z3i b),(100000,.row 1 x.2.1.length (AO eIn x.2.1) 3)]⟩) (fun x=>((b.Tracks.length:Int)-x.2.2).toNat<x.1/\(0<=x.2.2/\(x.2.2<=(b.Tracks.length:Int)\/x.2.2=0)/\(x.2.1.length:Int)<=(v3.length:Int)+1*(x.2.2-0))/\Bp b v3 v4 (BC b n0) x.1 x.2.1 x.2.2=En b) (fun x=>x.1) ?_ (((b.Tracks.length:Int)-0).toNat+1,v3,0) ⟨Nat.lt_succ_self _,⟨ax0,ax0,ax0⟩,(by rw [<- hF0];simp only [BC,h1,cond_true,cond_false])⟩
 rintro ⟨n1,v3',v5⟩ ⟨hm1,hinv1,hF1⟩
 try dsimp only at hm1 hinv1 hF1
 cases n1 with | zero=>exact nz hm1 | succ n1 => ?_
 refine AB<|AB ?_
 refine rn ⟨[(1,tP 1 0),(3,tO (.own 100000 1 v3'.length)),(5,tI v5),(30,tB (decide ((v5:Int)<(b.Tracks.length:Int))))],[(1,Z3i b),(100000,.row 1 v3'.length (AO eIn v3') 3)]⟩ ?_
 refine AV _ rfl (fun h2 => ?_) (fun h2 => ?_)
 ·have g2:=oT h2
  refine AY<|AG ?_
  refine AB<|AR ?_
  refine rc [] [0<=(v5:Int)/\(v5:Int)<((b.Tracks.length:Nat):Int),v3'.length=v3'.length,v3'.length+1<=maxLen,(v3'.length+1)*8<=140737488355328] ⟨[(1,tP 1 0),(3,tO (.own 41 1 (v3'.length+1))),(5,tI v5)],[(1,Z3i b),(41,.row 1 (v3'.length+1) (fun i_ j_=>if i_<v3'.length then (AO eIn v3') i_ j_ else (As 1 1 [.i (P0 b v5).Id]) (i_-v3'.length) j_) 3)]⟩ .nil (.cons au0 (.cons rfl (.cons au3 (.cons au3 .nil))))<|BN<|AG ?_
  refine BS (Cv.trans (BM (⟨[(1,tP 1 0),(3,tO (.own 41 1 (v3'++[(P0 b v5).Id]).length)),(5,tI v5)],[(1,Z3i b),(41,Z3m v3' b v5)]⟩) (.cons ⟨rfl,.refl _⟩ (.cons ⟨rfl,.av (.one (.own _ _ au2))⟩ lr)) (.cons ⟨rfl,.refl _⟩ (.cons ⟨rfl,Am 3 (BR (BI 1 eIn v3') (Aq (c:=eIn) (xs:=([(b.Tracks.getD v5.toNat default).Id]:List Int)) rfl kr))⟩ .nil))) (Cv.refl _)) ?_
  refine rg ⟨[(1,tP 1 0),(3,tO (.own 41 1 (v3'++[(P0 b v5).Id]).length)),(5,tI (W64 (v5+1)))],[(1,Z3i b),(41,Z3m v3' b v5)]⟩ ?_
  (try rw [(show W64 (v5+1)=v5+1 from Af oM au5)])
  refine AG ?_
  refine ⟨(n1,v3'++[(b.Tracks.getD v5.toNat default).Id],v5+1),⟨?_,?_,(by rw [<- hF1];simp only [Bp,h2,cond_true,cond_false])⟩,Nat.lt_succ_self _,Cv.trans (vr 41 100000 hk0) (Ay kr)⟩
  ·show ((b.Tracks.length:Int)-(v5+1)).toNat<n1;omega
  exact ⟨ax0,ax0,ax0⟩
 have g2:=oF h2
 refine BF<|A3 ?_
 refine A3<|BG ?_
 refine AG<|AB<|AB ?_
 refine rn ⟨[(1,tP 1 0),(3,tO (.own 100000 1 v3'.length)),(6,tI 0)],[(1,Z3i b),(100000,.row 1 v3'.length (AO eIn v3') 3)]⟩<|AR ?_
 refine BB (ι:=Nat×List Int×Int) (fun x=>⟨[(1,tP 1 0),(3,tO (.own 100000 1 x.2.1.length)),(6,tI x.2.2)],[(1,Z3i b),(100000,.row 1 x.2.1.length (AO eIn x.2.1) 3)]⟩) (fun x=>((b.Vias.length:Int)-x.2.2).toNat<x.1/\(0<=x.2.2/\(x.2.2<=(b.Vias.length:Int)\/x.2.2=0)/\(x.2.1.length:Int)<=(v3'.length:Int)+1*(x.2.2-0))/\Cm b v3 v4 v3' v5 (BC b n0) (Bp b v3 v4 (BC b n0) n1) x.1 x.2.1 x.2.2=En b) (fun x=>x.1) ?_ (((b.Vias.length:Int)-0).toNat+1,v3',0) ⟨Nat.lt_succ_self _,⟨ax0,ax0,ax0⟩,(by rw [<- hF1];simp only [Bp,h2,cond_true,cond_false])⟩
 rintro ⟨n2,v3'',v6⟩ ⟨hm2,hinv2,hF2⟩
 try dsimp only at hm2 hinv2 hF2
 cases n2 with | zero=>exact nz hm2 | succ n2 => ?_
 refine AB<|AB ?_
 refine rn ⟨[(1,tP 1 0),(3,tO (.own 100000 1 v3''.length)),(6,tI v6),(46,tB (decide ((v6:Int)<(b.Vias.length:Int))))],[(1,Z3i b),(100000,.row 1 v3''.length (AO eIn v3'') 3)]⟩ ?_
 refine AV _ rfl (fun h3 => ?_) (fun h3 => ?_)
 ·have g3:=oT h3
  refine AY<|AG ?_
  refine AB<|AR ?_
  refine rc [] [0<=(v6:Int)/\(v6:Int)<((b.Vias.length:Nat):Int),v3''.length=v3''.length,v3''.length+1<=maxLen,(v3''.length+1)*8<=140737488355328] ⟨[(1,tP 1 0),(3,tO (.own 57 1 (v3''.length+1))),(6,tI v6)],[(1,Z3i b),(57,.row 1 (v3''.length+1) (fun i_ j_=>if i_<v3''.length then (AO eIn v3'') i_ j_ else (As 1 1 [.i (Ps b v6).Id]) (i_-v3''.length) j_) 3)]⟩ .nil (.cons au0 (.cons rfl (.cons au3 (.cons au3 .nil))))<|BN<|AG ?_
  refine BS (Cv.trans (BM (⟨[(1,tP 1 0),(3,tO (.own 57 1 (v3''++[(Ps b v6).Id]).length)),(6,tI v6)],[(1,Z3i b),(57,Z3n v3'' b v6)]⟩) (.cons ⟨rfl,.refl _⟩ (.cons ⟨rfl,.av (.one (.own _ _ au2))⟩ lr)) (.cons ⟨rfl,.refl _⟩ (.cons ⟨rfl,Am 3 (BR (BI 1 eIn v3'') (Aq (c:=eIn) (xs:=([(b.Vias.getD v6.toNat default).Id]:List Int)) rfl kr))⟩ .nil))) (Cv.refl _)) ?_
  refine rg ⟨[(1,tP 1 0),(3,tO (.own 57 1 (v3''++[(Ps b v6).Id]).length)),(6,tI (W64 (v6+1)))],[(1,Z3i b),(57,Z3n v3'' b v6)]⟩ ?_
  (try rw [(show W64 (v6+1)=v6+1 from Af oM au5)])
  refine AG ?_
  refine ⟨(n2,v3''++[(b.Vias.getD v6.toNat default).Id],v6+1),⟨?_,?_,(by rw [<- hF2];simp only [Cm,h3,cond_true,cond_false])⟩,Nat.lt_succ_self _,Cv.trans (vr 57 100000 hk0) (Ay kr)⟩
  ·show ((b.Vias.length:Int)-(v6+1)).toNat<n2;omega
  exact ⟨ax0,ax0,ax0⟩
 have g3:=oF h3
 refine BF<|A3 ?_
 refine A3<|BG ?_
 refine AG<|AB<|AB ?_
 refine rn ⟨[(1,tP 1 0),(3,tO (.own 100000 1 v3''.length)),(7,tI 0)],[(1,Z3i b),(100000,.row 1 v3''.length (AO eIn v3'') 3)]⟩<|AR ?_
 refine BB (ι:=Nat×List Int×Int) (fun x=>⟨[(1,tP 1 0),(3,tO (.own 100000 1 x.2.1.length)),(7,tI x.2.2)],[(1,Z3i b),(100000,.row 1 x.2.1.length (AO eIn x.2.1) 3)]⟩) (fun x=>((b.Pours.length:Int)-x.2.2).toNat<x.1/\(0<=x.2.2/\(x.2.2<=(b.Pours.length:Int)\/x.2.2=0)/\(x.2.1.length:Int)<=(v3''.length:Int)+1*(x.2.2-0))/\D2 b v3 v4 v3' v5 v3'' v6 (BC b n0) (Bp b v3 v4 (BC b n0) n1) (Cm b v3 v4 v3' v5 (BC b n0) (Bp b v3 v4 (BC b n0) n1) n2) x.1 x.2.1 x.2.2=En b) (fun x=>x.1) ?_ (((b.Pours.length:Int)-0).toNat+1,v3'',0) ⟨Nat.lt_succ_self _,⟨ax0,ax0,ax0⟩,(by rw [<- hF2];simp only [Cm,h3,cond_true,cond_false])⟩
 rintro ⟨n3,v3''',v7⟩ ⟨hm3,hinv3,hF3⟩
 try dsimp only at hm3 hinv3 hF3
 cases n3 with | zero=>exact nz hm3 | succ n3 => ?_
 refine AB<|AB ?_
 refine rn ⟨[(1,tP 1 0),(3,tO (.own 100000 1 v3'''.length)),(7,tI v7),(62,tB (decide ((v7:Int)<(b.Pours.length:Int))))],[(1,Z3i b),(100000,.row 1 v3'''.length (AO eIn v3''') 3)]⟩ ?_
 refine AV _ rfl (fun h4 => ?_) (fun h4 => ?_)
 ·have g4:=oT h4
  refine AY<|AG ?_
  refine AB<|AR ?_
  refine rc [] [0<=(v7:Int)/\(v7:Int)<((b.Pours.length:Nat):Int),v3'''.length=v3'''.length,v3'''.length+1<=maxLen,(v3'''.length+1)*8<=140737488355328] ⟨[(1,tP 1 0),(3,tO (.own 73 1 (v3'''.length+1))),(7,tI v7)],[(1,Z3i b),(73,.row 1 (v3'''.length+1) (fun i_ j_=>if i_<v3'''.length then (AO eIn v3''') i_ j_ else (As 1 1 [.i (Pv b v7).Id]) (i_-v3'''.length) j_) 3)]⟩ .nil (.cons au0 (.cons rfl (.cons au3 (.cons au3 .nil))))<|BN<|AG ?_
  refine BS (Cv.trans (BM (⟨[(1,tP 1 0),(3,tO (.own 73 1 (v3'''++[(Pv b v7).Id]).length)),(7,tI v7)],[(1,Z3i b),(73,Z3o v3''' b v7)]⟩) (.cons ⟨rfl,.refl _⟩ (.cons ⟨rfl,.av (.one (.own _ _ au2))⟩ lr)) (.cons ⟨rfl,.refl _⟩ (.cons ⟨rfl,Am 3 (BR (BI 1 eIn v3''') (Aq (c:=eIn) (xs:=([(b.Pours.getD v7.toNat default).Id]:List Int)) rfl kr))⟩ .nil))) (Cv.refl _)) ?_
  refine rg ⟨[(1,tP 1 0),(3,tO (.own 73 1 (v3'''++[(Pv b v7).Id]).length)),(7,tI (W64 (v7+1)))],[(1,Z3i b),(73,Z3o v3''' b v7)]⟩ ?_
  (try rw [(show W64 (v7+1)=v7+1 from Af oM au5)])
  refine AG ?_
  refine ⟨(n3,v3'''++[(b.Pours.getD v7.toNat default).Id],v7+1),⟨?_,?_,(by rw [<- hF3];simp only [D2,h4,cond_true,cond_false])⟩,Nat.lt_succ_self _,Cv.trans (vr 73 100000 hk0) (Ay kr)⟩
  ·show ((b.Pours.length:Int)-(v7+1)).toNat<n3;omega
  exact ⟨ax0,ax0,ax0⟩
 have g4:=oF h4
 refine BF<|A3 ?_
 refine A3<|BG ?_
 refine AG<|AB<|AB ?_
 refine rn ⟨[(1,tP 1 0),(3,tO (.own 100000 1 v3'''.length)),(8,tI 0)],[(1,Z3i b),(100000,.row 1 v3'''.length (AO eIn v3''') 3)]⟩<|AR ?_
 refine BB (ι:=Nat×List Int×Int) (fun x=>⟨[(1,tP 1 0),(3,tO (.own 100000 1 x.2.1.length)),(8,tI x.2.2)],[(1,Z3i b),(100000,.row 1 x.2.1.length (AO eIn x.2.1) 3)]⟩) (fun x=>((b.Keeps.length:Int)-x.2.2).toNat<x.1/\(0<=x.2.2/\(x.2.2<=(b.Keeps.length:Int)\/x.2.2=0)/\(x.2.1.length:Int)<=(v3'''.length:Int)+1*(x.2.2-0))/\Ee b v3 v4 v3' v5 v3'' v6 v3''' v7 (BC b n0) (Bp b v3 v4 (BC b n0) n1) (Cm b v3 v4 v3' v5 (BC b n0) (Bp b v3 v4 (BC b n0) n1) n2) (D2 b v3 v4 v3' v5 v3'' v6 (BC b n0) (Bp b v3 v4 (BC b n0) n1) (Cm b v3 v4 v3' v5 (BC b n0) (Bp b v3 v4 (BC b n0) n1) n2) n3) x.1 x.2.1 x.2.2=En b) (fun x=>x.1) ?_ (((b.Keeps.length:Int)-0).toNat+1,v3''',0) ⟨Nat.lt_succ_self _,⟨ax0,ax0,ax0⟩,(by rw [<- hF3];simp only [D2,h4,cond_true,cond_false])⟩
 rintro ⟨n4,v3'''',v8⟩ ⟨hm4,hinv4,hF4⟩
 try dsimp only at hm4 hinv4 hF4
 cases n4 with | zero=>exact nz hm4 | succ n4 => ?_
 refine AB<|AB ?_
 refine rn ⟨[(1,tP 1 0),(3,tO (.own 100000 1 v3''''.length)),(8,tI v8),(78,tB (decide ((v8:Int)<(b.Keeps.length:Int))))],[(1,Z3i b),(100000,.row 1 v3''''.length (AO eIn v3'''') 3)]⟩ ?_
 refine AV _ rfl (fun h5 => ?_) (fun h5 => ?_)
 ·have g5:=oT h5
  refine AY<|AG ?_
  refine AB<|AR ?_
  refine rc [] [0<=(v8:Int)/\(v8:Int)<((b.Keeps.length:Nat):Int),v3''''.length=v3''''.length,v3''''.length+1<=maxLen,(v3''''.length+1)*8<=140737488355328] ⟨[(1,tP 1 0),(3,tO (.own 89 1 (v3''''.length+1))),(8,tI v8)],[(1,Z3i b),(89,.row 1 (v3''''.length+1) (fun i_ j_=>if i_<v3''''.length then (AO eIn v3'''') i_ j_ else (As 1 1 [.i (Px b v8).Id]) (i_-v3''''.length) j_) 3)]⟩ .nil (.cons au0 (.cons rfl (.cons au3 (.cons au3 .nil))))<|BN<|AG ?_
  refine BS (Cv.trans (BM (⟨[(1,tP 1 0),(3,tO (.own 89 1 (v3''''++[(Px b v8).Id]).length)),(8,tI v8)],[(1,Z3i b),(89,Z3p v3'''' b v8)]⟩) (.cons ⟨rfl,.refl _⟩ (.cons ⟨rfl,.av (.one (.own _ _ au2))⟩ lr)) (.cons ⟨rfl,.refl _⟩ (.cons ⟨rfl,Am 3 (BR (BI 1 eIn v3'''') (Aq (c:=eIn) (xs:=([(b.Keeps.getD v8.toNat default).Id]:List Int)) rfl kr))⟩ .nil))) (Cv.refl _)) ?_
  refine rg ⟨[(1,tP 1 0),(3,tO (.own 89 1 (v3''''++[(Px b v8).Id]).length)),(8,tI (W64 (v8+1)))],[(1,Z3i b),(89,Z3p v3'''' b v8)]⟩ ?_
  (try rw [(show W64 (v8+1)=v8+1 from Af oM au5)])
  refine AG ?_
  refine ⟨(n4,v3''''++[(b.Keeps.getD v8.toNat default).Id],v8+1),⟨?_,?_,(by rw [<- hF4];simp only [Ee,h5,cond_true,cond_false])⟩,Nat.lt_succ_self _,Cv.trans (vr 89 100000 hk0) (Ay kr)⟩
  ·show ((b.Keeps.length:Int)-(v8+1)).toNat<n4;omega
  exact ⟨ax0,ax0,ax0⟩
 have g5:=oF h5
 refine BF<|A3 ?_
 refine A3<|BG ?_
 refine AG<|AB<|AB ?_
 refine rn ⟨[(1,tP 1 0),(3,tO (.own 100000 1 v3''''.length)),(9,tI 0)],[(1,Z3i b),(100000,.row 1 v3''''.length (AO eIn v3'''') 3)]⟩<|AR ?_
 refine BB (ι:=Nat×List Int×Int) (fun x=>⟨[(1,tP 1 0),(3,tO (.own 100000 1 x.2.1.length)),(9,tI x.2.2)],[(1,Z3i b),(100000,.row 1 x.2.1.length (AO eIn x.2.1) 3)]⟩) (fun x=>((b.Slots.length:Int)-x.2.2).toNat<x.1/\(0<=x.2.2/\(x.2.2<=(b.Slots.length:Int)\/x.2.2=0)/\(x.2.1.length:Int)<=(v3''''.length:Int)+1*(x.2.2-0))/\F5 b v3 v4 v3' v5 v3'' v6 v3''' v7 v3'''' v8 (BC b n0) (Bp b v3 v4 (BC b n0) n1) (Cm b v3 v4 v3' v5 (BC b n0) (Bp b v3 v4 (BC b n0) n1) n2) (D2 b v3 v4 v3' v5 v3'' v6 (BC b n0) (Bp b v3 v4 (BC b n0) n1) (Cm b v3 v4 v3' v5 (BC b n0) (Bp b v3 v4 (BC b n0) n1) n2) n3) (Ee b v3 v4 v3' v5 v3'' v6 v3''' v7 (BC b n0) (Bp b v3 v4 (BC b n0) n1) (Cm b v3 v4 v3' v5 (BC b n0) (Bp b v3 v4 (BC b n0) n1) n2) (D2 b v3 v4 v3' v5 v3'' v6 (BC b n0) (Bp b v3 v4 (BC b n0) n1) (Cm b v3 v4 v3' v5 (BC b n0) (Bp b v3 v4 (BC b n0) n1) n2) n3) n4) x.1 x.2.1 x.2.2=En b) (fun x=>x.1) ?_ (((b.Slots.length:Int)-0).toNat+1,v3'''',0) ⟨Nat.lt_succ_self _,⟨ax0,ax0,ax0⟩,(by rw [<- hF4];simp only [Ee,h5,cond_true,cond_false])⟩
 rintro ⟨n5,v3''''',v9⟩ ⟨hm5,hinv5,hF5⟩
 try dsimp only at hm5 hinv5 hF5
 cases n5 with | zero=>exact nz hm5 | succ n5 => ?_
 refine AB<|AB ?_
 refine rn ⟨[(1,tP 1 0),(3,tO (.own 100000 1 v3'''''.length)),(9,tI v9),(94,tB (decide ((v9:Int)<(b.Slots.length:Int))))],[(1,Z3i b),(100000,.row 1 v3'''''.length (AO eIn v3''''') 3)]⟩ ?_
 refine AV _ rfl (fun h6 => ?_) (fun h6 => ?_)
 ·have g6:=oT h6
  refine AY<|AG ?_
  refine AB<|AR ?_
  refine rc [] [0<=(v9:Int)/\(v9:Int)<((b.Slots.length:Nat):Int),v3'''''.length=v3'''''.length,v3'''''.length+1<=maxLen,(v3'''''.length+1)*8<=140737488355328] ⟨[(1,tP 1 0),(3,tO (.own 105 1 (v3'''''.length+1))),(9,tI v9)],[(1,Z3i b),(105,.row 1 (v3'''''.length+1) (fun i_ j_=>if i_<v3'''''.length then (AO eIn v3''''') i_ j_ else (As 1 1 [.i (Pu b v9).Id]) (i_-v3'''''.length) j_) 3)]⟩ .nil (.cons au0 (.cons rfl (.cons au3 (.cons au3 .nil))))<|BN<|AG ?_
  refine BS (Cv.trans (BM (⟨[(1,tP 1 0),(3,tO (.own 105 1 (v3'''''++[(Pu b v9).Id]).length)),(9,tI v9)],[(1,Z3i b),(105,Z3q v3''''' b v9)]⟩) (.cons ⟨rfl,.refl _⟩ (.cons ⟨rfl,.av (.one (.own _ _ au2))⟩ lr)) (.cons ⟨rfl,.refl _⟩ (.cons ⟨rfl,Am 3 (BR (BI 1 eIn v3''''') (Aq (c:=eIn) (xs:=([(b.Slots.getD v9.toNat default).Id]:List Int)) rfl kr))⟩ .nil))) (Cv.refl _)) ?_
  refine rg ⟨[(1,tP 1 0),(3,tO (.own 105 1 (v3'''''++[(Pu b v9).Id]).length)),(9,tI (W64 (v9+1)))],[(1,Z3i b),(105,Z3q v3''''' b v9)]⟩ ?_
  (try rw [(show W64 (v9+1)=v9+1 from Af oM au5)])
  refine AG ?_
  refine ⟨(n5,v3'''''++[(b.Slots.getD v9.toNat default).Id],v9+1),⟨?_,?_,(by rw [<- hF5];simp only [F5,h6,cond_true,cond_false])⟩,Nat.lt_succ_self _,Cv.trans (vr 105 100000 hk0) (Ay kr)⟩
  ·show ((b.Slots.length:Int)-(v9+1)).toNat<n5;omega
  exact ⟨ax0,ax0,ax0⟩
 refine BF<|A3 ?_
 refine A3<|BG ?_
 refine AG<|AB ?_
 refine rn ⟨[(2,tO (.own 100000 1 v3'''''.length))],[(100000,.row 1 v3'''''.length (AO eIn v3''''') 3)]⟩<|AW ?_
 exact yl (Cv.trans (vf 100000 1 v3'''''.length (AO eIn v3''''') 3 hk0 (.cons ⟨rfl,rfl⟩ .nil)) (Cv.refl _)) (tO (lst 1 eIn v3''''')) (Aa (by rw [<- hF5];first | (simp only [F5,h6,cond_true,cond_false] <;> rfl)))
theorem qH (b:AH) (h0:(b.Parts.length:Int)<=1000000) (h1:(b.Tracks.length:Int)<=1000000) (h2:(b.Vias.length:Int)<=1000000) (h3:(b.Pours.length:Int)<=1000000) (h4:(b.Keeps.length:Int)<=1000000) (h5:(b.Slots.length:Int)<=1000000):OKc (Yt b):=cPu<|vI b h0 h1 h2 h3 h4 h5
theorem lB (b:AH) (v3:List Int) (v4:Int) (v3':List Int) (v5:Int) (v3'':List Int) (v6:Int) (v3''':List Int) (v7:Int) (v3'''':List Int) (v8:Int) (K0:List Int->Int->List Int) (K1:List Int->Int->List Int) (K2:List Int->Int->List Int) (K3:List Int->Int->List Int) (K4:List Int->Int->List Int):∀ (n:Nat) (v:List Int) (i:Int),0<=i->i<=b.Slots.length->((b.Slots.length:Int)-i).toNat<n->((F5 b v3 v4 v3' v5 v3'' v6 v3''' v7 v3'''' v8 K0 K1 K2 K3 K4 n v i).length:Int)=v.length+((b.Slots.length:Int)-i)
 | 0,v,i,h0,h1,h2=>absurd h2 (Nat.not_lt_zero _)
 | n+1,v,i,h0,h1,h2=>by
  unfold F5
  by_cases h:i<(b.Slots.length:Int)
  ·simp only [h,decide_true,cond_true]
   have:=lB b v3 v4 v3' v5 v3'' v6 v3''' v7 v3'''' v8 K0 K1 K2 K3 K4 n (v++[(b.Slots.getD i.toNat default).Id]) (i+1) (by omega) (by omega) (by omega)
   rw [this]
   simp only [List.length_append,List.length_cons,List.length_nil]
   omega
  simp only [h,decide_false,cond_false]
  omega
theorem lC (b:AH) (v3:List Int) (v4:Int) (v3':List Int) (v5:Int) (v3'':List Int) (v6:Int) (v3''':List Int) (v7:Int) (K0:List Int->Int->List Int) (K1:List Int->Int->List Int) (K2:List Int->Int->List Int) (K3:List Int->Int->List Int):∀ (n:Nat) (v:List Int) (i:Int),0<=i->i<=b.Keeps.length->((b.Keeps.length:Int)-i).toNat<n->((Ee b v3 v4 v3' v5 v3'' v6 v3''' v7 K0 K1 K2 K3 n v i).length:Int)=v.length+((b.Keeps.length:Int)-i)+(b.Slots.length:Int)
 | 0,v,i,h0,h1,h2=>absurd h2 (Nat.not_lt_zero _)
 | n+1,v,i,h0,h1,h2=>by
  unfold Ee
  by_cases h:i<(b.Keeps.length:Int)
  ·simp only [h,decide_true,cond_true]
   have:=lC b v3 v4 v3' v5 v3'' v6 v3''' v7 K0 K1 K2 K3 n (v++[(b.Keeps.getD i.toNat default).Id]) (i+1) (by omega) (by omega) (by omega)
   rw [this]
   simp only [List.length_append,List.length_cons,List.length_nil]
   omega
  simp only [h,decide_false,cond_false]
  rw [lB _ _ _ _ _ _ _ _ _ _ _ _ _ _ _ _ _ v 0 (by omega) (by omega) (by omega)]
  omega
theorem lD (b:AH) (v3:List Int) (v4:Int) (v3':List Int) (v5:Int) (v3'':List Int) (v6:Int) (K0:List Int->Int->List Int) (K1:List Int->Int->List Int) (K2:List Int->Int->List Int):∀ (n:Nat) (v:List Int) (i:Int),0<=i->i<=b.Pours.length->((b.Pours.length:Int)-i).toNat<n->((D2 b v3 v4 v3' v5 v3'' v6 K0 K1 K2 n v i).length:Int)=v.length+((b.Pours.length:Int)-i)+(b.Keeps.length:Int)+(b.Slots.length:Int)
 | 0,v,i,h0,h1,h2=>absurd h2 (Nat.not_lt_zero _)
 | n+1,v,i,h0,h1,h2=>by
  unfold D2
  by_cases h:i<(b.Pours.length:Int)
  ·simp only [h,decide_true,cond_true]
   have:=lD b v3 v4 v3' v5 v3'' v6 K0 K1 K2 n (v++[(b.Pours.getD i.toNat default).Id]) (i+1) (by omega) (by omega) (by omega)
   rw [this]
   simp only [List.length_append,List.length_cons,List.length_nil]
   omega
  simp only [h,decide_false,cond_false]
  rw [lC _ _ _ _ _ _ _ _ _ _ _ _ _ _ v 0 (by omega) (by omega) (by omega)]
  omega
theorem lE (b:AH) (v3:List Int) (v4:Int) (v3':List Int) (v5:Int) (K0:List Int->Int->List Int) (K1:List Int->Int->List Int):∀ (n:Nat) (v:List Int) (i:Int),0<=i->i<=b.Vias.length->((b.Vias.length:Int)-i).toNat<n->((Cm b v3 v4 v3' v5 K0 K1 n v i).length:Int)=v.length+((b.Vias.length:Int)-i)+(b.Pours.length:Int)+(b.Keeps.length:Int)+(b.Slots.length:Int)
 | 0,v,i,h0,h1,h2=>absurd h2 (Nat.not_lt_zero _)
 | n+1,v,i,h0,h1,h2=>by
  unfold Cm
  by_cases h:i<(b.Vias.length:Int)
  ·simp only [h,decide_true,cond_true]
   have:=lE b v3 v4 v3' v5 K0 K1 n (v++[(b.Vias.getD i.toNat default).Id]) (i+1) (by omega) (by omega) (by omega)
   rw [this]
   simp only [List.length_append,List.length_cons,List.length_nil]
   omega
  simp only [h,decide_false,cond_false]
  rw [lD _ _ _ _ _ _ _ _ _ _ _ v 0 (by omega) (by omega) (by omega)]
  omega
theorem lF (b:AH) (v3:List Int) (v4:Int) (K0:List Int->Int->List Int):∀ (n:Nat) (v:List Int) (i:Int),0<=i->i<=b.Tracks.length->((b.Tracks.length:Int)-i).toNat<n->((Bp b v3 v4 K0 n v i).length:Int)=v.length+((b.Tracks.length:Int)-i)+(b.Vias.length:Int)+(b.Pours.length:Int)+(b.Keeps.length:Int)+(b.Slots.length:Int)
 | 0,v,i,h0,h1,h2=>absurd h2 (Nat.not_lt_zero _)
 | n+1,v,i,h0,h1,h2=>by
  unfold Bp
  by_cases h:i<(b.Tracks.length:Int)
  ·simp only [h,decide_true,cond_true]
   have:=lF b v3 v4 K0 n (v++[(b.Tracks.getD i.toNat default).Id]) (i+1) (by omega) (by omega) (by omega)
   rw [this]
   simp only [List.length_append,List.length_cons,List.length_nil]
   omega
  simp only [h,decide_false,cond_false]
  rw [lE _ _ _ _ _ _ _ _ v 0 (by omega) (by omega) (by omega)]
  omega
theorem lG (b:AH)   : ∀ (n:Nat) (v:List Int) (i:Int),0<=i->i<=b.Parts.length->((b.Parts.length:Int)-i).toNat<n->((BC b n v i).length:Int)=v.length+((b.Parts.length:Int)-i)+(b.Tracks.length:Int)+(b.Vias.length:Int)+(b.Pours.length:Int)+(b.Keeps.length:Int)+(b.Slots.length:Int)
 | 0,v,i,h0,h1,h2=>absurd h2 (Nat.not_lt_zero _)
 | n+1,v,i,h0,h1,h2=>by
  unfold BC
  by_cases h:i<(b.Parts.length:Int)
  ·simp only [h,decide_true,cond_true]
   have:=lG b n (v++[(b.Parts.getD i.toNat default).Id]) (i+1) (by omega) (by omega) (by omega)
   rw [this]
   simp only [List.length_append,List.length_cons,List.length_nil]
   omega
  simp only [h,decide_false,cond_false]
  rw [lF _ _ _ _ _ v 0 (by omega) (by omega) (by omega)]
  omega
theorem aD (b:AH):((En b).length:Int)=(b.Parts.length:Int)+(b.Tracks.length:Int)+(b.Vias.length:Int)+(b.Pours.length:Int)+(b.Keeps.length:Int)+(b.Slots.length:Int):=by
 unfold En
 rw [lG b _ _ 0 (by omega) (by omega) (by omega)]
 simp only [List.length_nil]
 omega
end
section
open Go.RowKit
theorem WB {b:AH} (d:AD) (hp:1<=(b.Parts.length:Int)) (h0:(b.Parts.length:Int)<=1000000) (h1:(b.Tracks.length:Int)<=1000000) (h2:(b.Vias.length:Int)<=1000000) (h3:(b.Pours.length:Int)<=1000000) (h4:(b.Keeps.length:Int)<=1000000) (h5:(b.Slots.length:Int)<=1000000):0<=(AA d ((En b).length:Int)).1/\(AA d ((En b).length:Int)).1<((En b).length:Int):=by
 have hq:=aD b
 exact Kn _ _ _ (by omega) (by omega) (by omega)
theorem wV {b:AH} (hp:1<=(b.Parts.length:Int)):((En b).length:Int)≠0:=by
 have hq:=aD b
 omega
theorem rN {α:Type} {c:Bool} {a b:List α} {k n:Nat} (ha:a.length+k<=n) (hb:b.length+k<=n):(bif c then a else b).length+k<=n:=by cases c <;> assumption
theorem kN {α:Type} {c:Bool} {a b:List α} {k n m:Nat} (ha:(a.length+k)*m<=n) (hb:(b.length+k)*m<=n):((bif c then a else b).length+k)*m<=n:=by cases c <;> assumption
variable (b:AH) (d:AD)
def Z3r:CT:=(42,([.one (.ptr 1000 0),.one (.i 10)]:List Av).map (Bq 1000 1001),wrI 1001 (Hx d) (tI (AA d 10).1) (.cells (AD.c (AA d 10).2) 117))
abbrev E2:=AA (AA d 10).2 8
def Z3s:CT:=(42,([.one (.ptr 1000 0),.one (.i 8)]:List Av).map (Bq 1000 1001),wrI 1001 (.cells (AD.c (AA d 10).2) 117) (tI (E2 d).1) (.cells (AD.c (E2 d).2) 117))
def Z3t:Blk:=.cells (AD.c (E2 d).2) 117
def Z3u:Blk:=.row 20 ([BD.mk ({ data := #[99,49] }:ByteArray) 1 1 AJ AJ (W64 (3+(AA d 10).1)),BD.mk ({ data := #[101,49] }:ByteArray) 1 3 AJ AJ (W64 (2+(E2 d).1))].length) (AO BD.c [BD.mk ({ data := #[99,49] }:ByteArray) 1 1 AJ AJ (W64 (3+(AA d 10).1)),BD.mk ({ data := #[101,49] }:ByteArray) 1 3 AJ AJ (W64 (2+(E2 d).1))]) 147
def Z3v:Blk:=.cells (BE b (CY b [vN,.own 18 20 ([BD.mk ({ data := #[99,49] }:ByteArray) 1 1 AJ AJ (W64 (3+(AA d 10).1)),BD.mk ({ data := #[101,49] }:ByteArray) 1 3 AJ AJ (W64 (2+(E2 d).1))].length),vN,vN])) 41
def Z3w:CT:=(42,(IE:List Av).map (Bq 1000 1001),wrI 1001 (.cells (AD.c (E2 d).2) 117) (tI (AA (E2 d).2 2).1) (.cells (AD.c (AA (E2 d).2 2).2) 117))
abbrev Z3x:AD:=(AA (AA (AA d 10).2 8).2 2).2
def Z3y:CT:=(42,(Lm:List Av).map (Bq 1000 1001),wrI 1001 (.cells (AD.c (Z3x d)) 117) (tI (AA (Z3x d) 5).1) (.cells (AD.c (AA (Z3x d) 5).2) 117))
abbrev LZ:=AA (AA (Z3x d) 5).2 4
def Z3z:CT:=(42,(Hz:List Av).map (Bq 1000 1001),wrI 1001 (.cells (AD.c (AA (Z3x d) 5).2) 117) (tI (LZ d).1) (.cells (AD.c (LZ d).2) 117))
def Z3A:Blk:=.cells (AD.c (LZ d).2) 117
def Z3B:Blk:=.row 20 ([BD.mk ({ data := #[99,49] }:ByteArray) 1 1 AJ AJ (W64 (3+(AA d 10).1)),BD.mk ({ data := #[101,49] }:ByteArray) 1 3 AJ AJ (W64 (2+(E2 d).1))]++[BD.mk ({ data := #[119,49] }:ByteArray) 1 2 AJ AJ (W64 (6+(AA (Z3x d) 5).1)),BD.mk ({ data := #[114,49] }:ByteArray) 1 4 AJ AJ (W64 (2+(LZ d).1))]).length (AO BD.c ([BD.mk ({ data := #[99,49] }:ByteArray) 1 1 AJ AJ (W64 (3+(AA d 10).1)),BD.mk ({ data := #[101,49] }:ByteArray) 1 3 AJ AJ (W64 (2+(E2 d).1))]++[BD.mk ({ data := #[119,49] }:ByteArray) 1 2 AJ AJ (W64 (6+(AA (Z3x d) 5).1)),BD.mk ({ data := #[114,49] }:ByteArray) 1 4 AJ AJ (W64 (2+(LZ d).1))])) 147
def Z3C:Blk:=.cells (BE b (CY b [vN,.own 100000 20 ([BD.mk ({ data := #[99,49] }:ByteArray) 1 1 AJ AJ (W64 (3+(AA d 10).1)),BD.mk ({ data := #[101,49] }:ByteArray) 1 3 AJ AJ (W64 (2+(E2 d).1))]++[BD.mk ({ data := #[119,49] }:ByteArray) 1 2 AJ AJ (W64 (6+(AA (Z3x d) 5).1)),BD.mk ({ data := #[114,49] }:ByteArray) 1 4 AJ AJ (W64 (2+(LZ d).1))]).length,vN,vN])) 41
def Z3D:Blk:=.cells (BE b (CY b [vN,.own 100000 20 ([BD.mk ({ data := #[99,49] }:ByteArray) 1 1 AJ AJ (W64 (3+(AA d 10).1)),BD.mk ({ data := #[101,49] }:ByteArray) 1 3 AJ AJ (W64 (2+(E2 d).1))].length),vN,vN])) 41
abbrev Z3E:AD:=bif decide (((AA (AA (AA d 10).2 8).2 2).1:Int)=1) then (AA (AA (Z3x d) 5).2 4).2 else (Z3x d)
def Z3F:(List BD):=bif decide (((AA (AA (AA d 10).2 8).2 2).1:Int)=1) then ([BD.mk ({ data := #[99,49] }:ByteArray) 1 1 AJ AJ (W64 (3+(AA d 10).1)),BD.mk ({ data := #[101,49] }:ByteArray) 1 3 AJ AJ (W64 (2+(AA (AA d 10).2 8).1))]++[BD.mk ({ data := #[119,49] }:ByteArray) 1 2 AJ AJ (W64 (6+(AA (Z3x d) 5).1)),BD.mk ({ data := #[114,49] }:ByteArray) 1 4 AJ AJ (W64 (2+(AA (AA (Z3x d) 5).2 4).1))]) else [BD.mk ({ data := #[99,49] }:ByteArray) 1 1 AJ AJ (W64 (3+(AA d 10).1)),BD.mk ({ data := #[101,49] }:ByteArray) 1 3 AJ AJ (W64 (2+(AA (AA d 10).2 8).1))]
def Z3G:CT:=(42,(IE:List Av).map (Bq 1000 1001),wrI 1001 (.cells (AD.c (Z3E d)) 117) (tI (AA (Z3E d) 2).1) (.cells (AD.c (AA (Z3E d) 2).2) 117))
def Z3H:Blk:=.cells (BE b (CY b [vN,.own 100000 20 (Z3F d).length,vN,vN])) 41
def Z3I:Blk:=.cells (AD.c (AA (Z3E d) 2).2) 117
def Z3J:Blk:=.row 20 (Z3F d).length (AO BD.c (Z3F d)) 147
abbrev KC:=AA (AA (Z3E d) 2).2 2
def Z3K:CT:=(42,(IE:List Av).map (Bq 1000 1001),wrI 1001 (.cells (AD.c (AA (Z3E d) 2).2) 117) (tI (KC d).1) (.cells (AD.c (KC d).2) 117))
def Z3L:CT:=(100,([.one (.ptr 1000 0)]:List Av).map (Bq 1000 1001),wrI 1001 (.cells (AD.c (KC d).2) 117) (.av (.agg (Ej.c (BL (KC d).2).1))) (.cells (AD.c (BL (KC d).2).2) 117))
abbrev Z3M:AD:=(BL (AA (AA (Z3E d) 2).2 2).2).2
def Z3N:Ej:=(BL (AA (AA (Z3E d) 2).2 2).2).1
def Z3O:CT:=(100,([.one (.ptr 1000 0)]:List Av).map (Bq 1000 1001),wrI 1001 (.cells (AD.c (Z3M d)) 117) (.av (.agg (Ej.c (BL (Z3M d)).1))) (.cells (AD.c (BL (Z3M d)).2) 117))
abbrev Nw:=AA (BL (Z3M d)).2 14
def Z3P:CT:=(42,([.one (.ptr 1000 0),.one (.i 14)]:List Av).map (Bq 1000 1001),wrI 1001 (.cells (AD.c (BL (Z3M d)).2) 117) (tI (Nw d).1) (.cells (AD.c (Nw d).2) 117))
abbrev Z3Q:AD:=(AA (BL (Z3M d)).2 14).2
def Z3R:Blk:=.row 20 ((Z3F d)++[BD.mk ({ data := #[99,50] }:ByteArray) (W64 (1+(KC d).1)) 1 (Z3N d) (BL (Z3M d)).1 (W64 (1+(Nw d).1))]).length (AO BD.c ((Z3F d)++[BD.mk ({ data := #[99,50] }:ByteArray) (W64 (1+(KC d).1)) 1 (Z3N d) (BL (Z3M d)).1 (W64 (1+(Nw d).1))])) 147
def Z3S:Blk:=.cells (BE b (CY b [vN,.own 100001 20 ((Z3F d)++[BD.mk ({ data := #[99,50] }:ByteArray) (W64 (1+(KC d).1)) 1 (Z3N d) (BL (Z3M d)).1 (W64 (1+(Nw d).1))]).length,vN,vN])) 41
abbrev Z3T:AD:=bif decide (((AA (Z3E d) 2).1:Int)=1) then (Z3Q d) else (AA (Z3E d) 2).2
def Z3U:(List BD):=bif decide (((AA (Z3E d) 2).1:Int)=1) then ((Z3F d)++[BD.mk ({ data := #[99,50] }:ByteArray) (W64 (1+(AA (AA (Z3E d) 2).2 2).1)) 1 (Z3N d) (BL (Z3M d)).1 (W64 (1+(AA (BL (Z3M d)).2 14).1))]) else (Z3F d)
def Z3V:CT:=(42,(E8:List Av).map (Bq 1000 1001),wrI 1001 (.cells (AD.c (Z3T d)) 117) (tI (AA (Z3T d) 3).1) (.cells (AD.c (AA (Z3T d) 3).2) 117))
def Z3W:Blk:=.cells (BE b (CY b [vN,.own 100001 20 (Z3U d).length,vN,vN])) 41
def Z3X:Blk:=.cells (AD.c (AA (Z3T d) 3).2) 117
def Z3Y:Blk:=.row 20 (Z3U d).length (AO BD.c (Z3U d)) 147
def Z3Z:(List Cj):=bif decide (((AA (Z3T d) 3).1:Int)=0) then [Cj.mk ({ data := #[112,111,119,101,114] }:ByteArray) [({ data := #[71,78,68] }:ByteArray)]] else []
def Z40:CT:=(42,(Hz:List Av).map (Bq 1000 1001),wrI 1001 (.cells (AD.c (AA (Z3T d) 3).2) 117) (tI (AA (AA (Z3T d) 3).2 4).1) (.cells (AD.c (AA (AA (Z3T d) 3).2 4).2) 117))
abbrev Z41:AD:=(AA (AA (Z3T d) 3).2 4).2
abbrev TA (t_:List Cl):List Cl:=(lst 2 Cj.c (Z3Z d))::(.own 100001 20 (Z3U d).length)::t_
abbrev gH:List Cl:=(BE b (CY b (TA d [vN,vN])))
def Z42:Blk:=.cells (gH b d) 41
def Z43:(List Int):=En (AH.mk b.Layers (AP.mk 0 [] 0) b.Parts [] b.Tracks b.Vias b.Pours b.Keeps b.Slots [] [] [] [])
def Z44:CT:=(42,([.one (.ptr 1000 0),.one (.i ((Z43 b).length:Int))]:List Av).map (Bq 1000 1001),wrI 1001 (.cells (AD.c (Z41 d)) 117) (tI (AA (Z41 d) ((Z43 b).length:Int)).1) (.cells (AD.c (AA (Z41 d) ((Z43 b).length:Int)).2) 117))
abbrev Z45 (d:AD) (b:AH):AD:=(AA (Z41 d) ((Z43 b).length:Int)).2
def Z46:CT:=(42,([.one (.ptr 1000 0),.one (.i ((Z43 b).length:Int))]:List Av).map (Bq 1000 1001),wrI 1001 (.cells (AD.c (Z45 d b)) 117) (tI (AA (Z45 d b) ((Z43 b).length:Int)).1) (.cells (AD.c (AA (Z45 d b) ((Z43 b).length:Int)).2) 117))
abbrev Z47 (d:AD) (b:AH):AD:=(AA (Z45 d b) ((Z43 b).length:Int)).2
abbrev Z48 (d:AD) (b:AH):AD:=bif decide (((AA (AA (Z3T d) 3).2 4).1:Int)=0) then (Z47 d b) else (Z41 d)
def Z49 (d:AD) (b:AH):(List CQ):=bif decide (((AA (AA (Z3T d) 3).2 4).1:Int)=0) then [CQ.mk ((Z43 b).getD (AA (Z41 d) ((Z43 b).length:Int)).1.toNat default) ((Z43 b).getD (AA (Z45 d b) ((Z43 b).length:Int)).1.toNat default) ({ data := #[99,49] }:ByteArray)] else []
def Z4a (d:AD) (b:AH):CT:=(42,(Hz:List Av).map (Bq 1000 1001),wrI 1001 (.cells (AD.c (Z48 d b)) 117) (tI (AA (Z48 d b) 4).1) (.cells (AD.c (AA (Z48 d b) 4).2) 117))
def Z4b (d:AD) (b:AH):CT:=(42,([.one (.ptr 1000 0),.one (.i 8)]:List Av).map (Bq 1000 1001),wrI 1001 (.cells (AD.c (AA (Z48 d b) 4).2) 117) (tI (AA (AA (Z48 d b) 4).2 8).1) (.cells (AD.c (AA (AA (Z48 d b) 4).2 8).2) 117))
abbrev Z4c (d:AD) (b:AH):AD:=(AA (AA (Z48 d b) 4).2 8).2
def Db (b:AH) (d:AD):(AH×AD):=bif decide (((AA (Z48 d b) 4).1:Int)=0) then (AH.mk b.Layers b.Outline b.Parts b.Nets b.Tracks b.Vias b.Pours b.Keeps b.Slots (Z3Z d) (Z3U d) (Z49 d b) [Dz.mk ({ data := #[109,49] }:ByteArray) [({ data := #[78,49] }:ByteArray),({ data := #[78,50] }:ByteArray)] (W64 (10*(AA (AA (Z48 d b) 4).2 8).1))],Z4c d b) else (AH.mk b.Layers b.Outline b.Parts b.Nets b.Tracks b.Vias b.Pours b.Keeps b.Slots (Z3Z d) (Z3U d) (Z49 d b) [],(AA (Z48 d b) 4).2)
abbrev TJ:Nat×Blk:=(1001,.cells (AD.c (Z41 d)) 117)
abbrev TB (d:AD) (b:AH) (t_:List Cl):List Cl:=(lst 2 Cj.c (Z3Z d))::(lst 20 BD.c (Z3U d))::(lst 3 CQ.c (Z49 d b))::t_
theorem au7 {p:Prop} (h:p:=by repeat (first | with_reducible assumption | exact Cg (DW hll _) | with_reducible refine BT ?_ | with_reducible refine Ek ?_ | with_reducible refine Ds ?_ | with_reducible refine dJ ?_  | with_reducible refine Cq ?_ ?_)):p:=h
theorem au9 {p:Prop} (h:p:=by first | decide | omega | exact wV (b:=AH.mk b.Layers (AP.mk 0 [] 0) b.Parts [] b.Tracks b.Vias b.Pours b.Keeps b.Slots [] [] [] []) hi | (simp only [Bx];omega)):p:=h
theorem au20 {p:Prop} (h:p:=by first | (simp only [List.length_append,List.length_cons,List.length_nil];decide) | exact rN (by simp only [List.length_append,List.length_cons,List.length_nil];decide) (by simp only [List.length_append,List.length_cons,List.length_nil];decide) | exact kN (by simp only [List.length_append,List.length_cons,List.length_nil];decide) (by simp only [List.length_append,List.length_cons,List.length_nil];decide) | (unfold maxLen;omega) | (simp only [qP,qO,qN,YM];omega)):p:=h
set_option maxHeartbeats 2000000 in
theorem iR  (b:AH) (d:AD) (hd:Bh d) (h0:(b.Parts.length:Int)<=1000000) (h1:(b.Tracks.length:Int)<=1000000) (h2:(b.Vias.length:Int)<=1000000) (h3:(b.Pours.length:Int)<=1000000) (h4:(b.Keeps.length:Int)<=1000000) (h5:(b.Slots.length:Int)<=1000000) (hi:1<=(b.Parts.length:Int)):Wr2 Tryz.prog 45 1000 1001 [.one (.ptr 1000 0),.one (.ptr 1001 0)] (.cells [.i b.Layers,.i b.Outline.Kind,lst 7 AF.c b.Outline.Edges,.i b.Outline.R,lst 7 AE.c b.Parts,lst 2 Bf.c b.Nets,lst 6 Ab.c b.Tracks,lst 8 A4.c b.Vias,lst 8 Be.c b.Pours,lst 5 C8.c b.Keeps,lst 4 Ar.c b.Slots,vN,vN,vN,vN] 41) (.cells (AD.c d) 117) (.tup []) (.cells (AH.c (Db b d).1) 41) (.cells (AD.c (Db b d).2) 117):=by
 refine QK Tryz.func45 rfl kr kr kr rfl kr kr kr fun W0 M0 X hX => ?_
 refine AB ?_
 refine Cu C2 [18] [] [(6,CJ),(7,CJ),(9,(Z3r d)),(12,CJ),(13,CJ),(15,(Z3s d))] [0,1] [18,1000,1001] [Ap CJ.2.1,Ap CJ.2.1,Ap (Z3r d).2.1,Bv (Hx d),Ap CJ.2.1,Ap CJ.2.1,Ap (Z3s d).2.1,Bv (.cells (AD.c (AA d 10).2) 117)] ⟨EQ,[(18,.row 20 2 (As 20 2 [.s ({ data := #[99,49] }:ByteArray),.i 1,.i 1,.i AJ.Op,.s AJ.Text,.i AJ.N,.i AJ.Box.X0,.i AJ.Box.Y0,.i AJ.Box.X1,.i AJ.Box.Y1,opL AJ.L,.i AJ.Op,.s AJ.Text,.i AJ.N,.i AJ.Box.X0,.i AJ.Box.Y0,.i AJ.Box.X1,.i AJ.Box.Y1,opL AJ.L,.i (W64 (3+(AA d 10).1)),.s ({ data := #[101,49] }:ByteArray),.i 1,.i 3,.i AJ.Op,.s AJ.Text,.i AJ.N,.i AJ.Box.X0,.i AJ.Box.Y0,.i AJ.Box.X1,.i AJ.Box.Y1,opL AJ.L,.i AJ.Op,.s AJ.Text,.i AJ.N,.i AJ.Box.X0,.i AJ.Box.Y0,.i AJ.Box.X1,.i AJ.Box.Y1,opL AJ.L,.i (W64 (2+(AA (AA d 10).2 8).1))]) 147),(1000,.cells (BE b (CY b [vN,.own 18 20 2,vN,vN])) 41),(1001,Z3t d)]⟩ (.cons EV (.cons EV (.cons (cWr (BU d 10 au7 au9)) (.cons EV (.cons EV (.cons (cWr (BU (AA d 10).2 8 au7 au9)) .nil)))))) kr (.cons rfl (.cons rfl (.cons rfl (.cons rfl (.cons rfl (.cons rfl (.cons rfl (.cons rfl .nil))))))))<|AG ?_
 refine BS (Cv.trans (BM (⟨EQ,[(18,Z3u d),(1000,Z3v b d),(1001,Z3t d)]⟩) lr (.cons ⟨rfl,Am 147 (Aq (c:=BD.c) (xs:=([BD.mk ({ data := #[99,49] }:ByteArray) 1 1 AJ AJ (W64 (3+(AA d 10).1)),BD.mk ({ data := #[101,49] }:ByteArray) 1 3 AJ AJ (W64 (2+(AA (AA d 10).2 8).1))]:List BD)) rfl kr)⟩ (.cons ⟨rfl,.cells _ (rr9 (rr3 (.cons (.own _ _ au2) (rr (rr .nil)))))⟩ lr))) (Cv.refl _))<|AB<|AB ?_
 refine rb 22 (Z3w d) (.cells (AD.c (AA (AA d 10).2 8).2) 117) ⟨[(0,tP 1000 0),(1,tP 1001 0),(23,tB (decide (((AA (E2 d).2 2).1:Int)=1)))],[(18,Z3u d),(1000,Z3v b d),(1001,.cells (AD.c (Z3x d)) 117)]⟩ (cWr (BU (AA (AA d 10).2 8).2 2 au7 au9))<|AG ?_
 refine Bd (⟨EQ,[(1000,.cells (BE b (CY b [vN,.own 100000 20 (Z3F d).length,vN,vN])) 41),(1001,.cells (AD.c (Z3E d)) 117),(100000,.row 20 (Z3F d).length (AO BD.c (Z3F d)) 147)]⟩) ?_ ?_
 ·refine AV _ rfl (fun h1 => ?_) (fun h1 => ?_)
  ·have g1:=oT h1
   refine dw [] [(29,CJ),(30,CJ),(32,(Z3y d)),(35,CJ),(36,CJ),(38,(Z3z d))] [Ap CJ.2.1,Ap CJ.2.1,Ap (Z3y d).2.1,Bv (.cells (AD.c (Z3x d)) 117),Ap CJ.2.1,Ap CJ.2.1,Ap (Z3z d).2.1,Bv (.cells (AD.c (AA (Z3x d) 5).2) 117),[BD.mk ({ data := #[99,49] }:ByteArray) 1 1 AJ AJ (W64 (3+(AA d 10).1)),BD.mk ({ data := #[101,49] }:ByteArray) 1 3 AJ AJ (W64 (2+(AA (AA d 10).2 8).1))].length=[BD.mk ({ data := #[99,49] }:ByteArray) 1 1 AJ AJ (W64 (3+(AA d 10).1)),BD.mk ({ data := #[101,49] }:ByteArray) 1 3 AJ AJ (W64 (2+(AA (AA d 10).2 8).1))].length,([BD.mk ({ data := #[99,49] }:ByteArray) 1 1 AJ AJ (W64 (3+(AA d 10).1)),BD.mk ({ data := #[101,49] }:ByteArray) 1 3 AJ AJ (W64 (2+(AA (AA d 10).2 8).1))].length)+2<=maxLen,(([BD.mk ({ data := #[99,49] }:ByteArray) 1 1 AJ AJ (W64 (3+(AA d 10).1)),BD.mk ({ data := #[101,49] }:ByteArray) 1 3 AJ AJ (W64 (2+(AA (AA d 10).2 8).1))].length)+2)*216<=140737488355328] ⟨EQ,[(42,.row 20 (([BD.mk ({ data := #[99,49] }:ByteArray) 1 1 AJ AJ (W64 (3+(AA d 10).1)),BD.mk ({ data := #[101,49] }:ByteArray) 1 3 AJ AJ (W64 (2+(AA (AA d 10).2 8).1))].length)+2) (fun i_ j_=>if i_<([BD.mk ({ data := #[99,49] }:ByteArray) 1 1 AJ AJ (W64 (3+(AA d 10).1)),BD.mk ({ data := #[101,49] }:ByteArray) 1 3 AJ AJ (W64 (2+(AA (AA d 10).2 8).1))].length) then (AO BD.c [BD.mk ({ data := #[99,49] }:ByteArray) 1 1 AJ AJ (W64 (3+(AA d 10).1)),BD.mk ({ data := #[101,49] }:ByteArray) 1 3 AJ AJ (W64 (2+(AA (AA d 10).2 8).1))]) i_ j_ else (As 20 2 [.s ({ data := #[119,49] }:ByteArray),.i 1,.i 2,.i AJ.Op,.s AJ.Text,.i AJ.N,.i AJ.Box.X0,.i AJ.Box.Y0,.i AJ.Box.X1,.i AJ.Box.Y1,opL AJ.L,.i AJ.Op,.s AJ.Text,.i AJ.N,.i AJ.Box.X0,.i AJ.Box.Y0,.i AJ.Box.X1,.i AJ.Box.Y1,opL AJ.L,.i (W64 (6+(AA (Z3x d) 5).1)),.s ({ data := #[114,49] }:ByteArray),.i 1,.i 4,.i AJ.Op,.s AJ.Text,.i AJ.N,.i AJ.Box.X0,.i AJ.Box.Y0,.i AJ.Box.X1,.i AJ.Box.Y1,opL AJ.L,.i AJ.Op,.s AJ.Text,.i AJ.N,.i AJ.Box.X0,.i AJ.Box.Y0,.i AJ.Box.X1,.i AJ.Box.Y1,opL AJ.L,.i (W64 (2+(AA (AA (Z3x d) 5).2 4).1))]) (i_-([BD.mk ({ data := #[99,49] }:ByteArray) 1 1 AJ AJ (W64 (3+(AA d 10).1)),BD.mk ({ data := #[101,49] }:ByteArray) 1 3 AJ AJ (W64 (2+(AA (AA d 10).2 8).1))].length)) j_) 147),(1000,.cells (BE b (CY b [vN,.own 42 20 (([BD.mk ({ data := #[99,49] }:ByteArray) 1 1 AJ AJ (W64 (3+(AA d 10).1)),BD.mk ({ data := #[101,49] }:ByteArray) 1 3 AJ AJ (W64 (2+(AA (AA d 10).2 8).1))].length)+2),vN,vN])) 41),(1001,Z3A d)]⟩ (.cons EV (.cons EV (.cons (cWr (BU (Z3x d) 5 au7 au9)) (.cons EV (.cons EV (.cons (cWr (BU (AA (Z3x d) 5).2 4 au7 au9)) .nil)))))) (.cons rfl (.cons rfl (.cons rfl (.cons rfl (.cons rfl (.cons rfl (.cons rfl (.cons rfl (.cons rfl (.cons au20 (.cons au20 .nil)))))))))))<|AG ?_
   refine Cv.trans (BM (⟨EQ,[(42,Z3B d),(1000,.cells (BE b (CY b [vN,.own 42 20 ([BD.mk ({ data := #[99,49] }:ByteArray) 1 1 AJ AJ (W64 (3+(AA d 10).1)),BD.mk ({ data := #[101,49] }:ByteArray) 1 3 AJ AJ (W64 (2+(E2 d).1))]++[BD.mk ({ data := #[119,49] }:ByteArray) 1 2 AJ AJ (W64 (6+(AA (Z3x d) 5).1)),BD.mk ({ data := #[114,49] }:ByteArray) 1 4 AJ AJ (W64 (2+(LZ d).1))]).length,vN,vN])) 41),(1001,Z3A d)]⟩) lr (.cons ⟨rfl,Am 147 (BR (BI 20 BD.c [BD.mk ({ data := #[99,49] }:ByteArray) 1 1 AJ AJ (W64 (3+(AA d 10).1)),BD.mk ({ data := #[101,49] }:ByteArray) 1 3 AJ AJ (W64 (2+(AA (AA d 10).2 8).1))]) (Aq (c:=BD.c) (xs:=([BD.mk ({ data := #[119,49] }:ByteArray) 1 2 AJ AJ (W64 (6+(AA (Z3x d) 5).1)),BD.mk ({ data := #[114,49] }:ByteArray) 1 4 AJ AJ (W64 (2+(AA (AA (Z3x d) 5).2 4).1))]:List BD)) rfl kr))⟩ (.cons ⟨rfl,.cells _ (rr9 (rr3 (.cons (.own _ _ au2) (rr (rr .nil)))))⟩ lr))) (Cv.trans (vr 42 100000 (K:=[1000,1001]) hX) (Cv.trans (ck (⟨EQ,[(1000,Z3C b d),(1001,Z3A d),(100000,Z3B d)]⟩)) (Ay ?_)))
   first | rfl | (simp only [h1,Z3E,Z3F,cond_true,cond_false] <;> rfl)
  refine AY<|AG ?_
  refine Cv.trans (vk [0,1] [18,1000,1001]) (Cv.trans (vr 18 100000 (K:=[1000,1001]) hX) (Cv.trans (ck (⟨EQ,[(1000,Z3D b d),(1001,.cells (AD.c (Z3x d)) 117),(100000,Z3u d)]⟩)) (Ay ?_)))
  first | rfl | (simp only [h1,Z3E,Z3F,cond_true,cond_false] <;> rfl)
 refine AB<|AB ?_
 refine rb 46 (Z3G d) (.cells (AD.c (Z3E d)) 117) ⟨[(0,tP 1000 0),(1,tP 1001 0),(47,tB (decide (((AA (Z3E d) 2).1:Int)=1)))],[(1000,Z3H b d),(1001,Z3I d),(100000,Z3J d)]⟩ (cWr (BU (Z3E d) 2 au7 au9))<|AG ?_
 refine Bd (⟨EQ,[(1000,.cells (BE b (CY b [vN,.own 100001 20 (Z3U d).length,vN,vN])) 41),(1001,.cells (AD.c (Z3T d)) 117),(100001,.row 20 (Z3U d).length (AO BD.c (Z3U d)) 147)]⟩) ?_ ?_
 ·refine AV _ rfl (fun h1 => ?_) (fun h1 => ?_)
  ·have g1:=oT h1
   refine dw [] [(54,(Z3K d)),(57,(Z3L d)),(59,(Z3O d)),(61,(Z3P d))] [Ap (Z3K d).2.1,Bv (.cells (AD.c (AA (Z3E d) 2).2) 117),Ap (Z3L d).2.1,Bv (.cells (AD.c (AA (AA (Z3E d) 2).2 2).2) 117),Ap (Z3O d).2.1,Bv (.cells (AD.c (Z3M d)) 117),Ap (Z3P d).2.1,Bv (.cells (AD.c (BL (Z3M d)).2) 117),(Z3F d).length=(Z3F d).length,(Z3F d).length+1<=maxLen,((Z3F d).length+1)*216<=140737488355328] ⟨EQ,[(65,.row 20 ((Z3F d).length+1) (fun i_ j_=>if i_<(Z3F d).length then (AO BD.c (Z3F d)) i_ j_ else (As 20 1 [.s ({ data := #[99,50] }:ByteArray),.i (W64 (1+(AA (AA (Z3E d) 2).2 2).1)),.i 1,.i (Z3N d).Op,.s (Z3N d).Text,.i (Z3N d).N,.i (Z3N d).Box.X0,.i (Z3N d).Box.Y0,.i (Z3N d).Box.X1,.i (Z3N d).Box.Y1,opL (Z3N d).L,.i (BL (Z3M d)).1.Op,.s (BL (Z3M d)).1.Text,.i (BL (Z3M d)).1.N,.i (BL (Z3M d)).1.Box.X0,.i (BL (Z3M d)).1.Box.Y0,.i (BL (Z3M d)).1.Box.X1,.i (BL (Z3M d)).1.Box.Y1,opL (BL (Z3M d)).1.L,.i (W64 (1+(AA (BL (Z3M d)).2 14).1))]) (i_-(Z3F d).length) j_) 147),(1000,.cells (BE b (CY b [vN,.own 65 20 ((Z3F d).length+1),vN,vN])) 41),(1001,.cells (AD.c (Z3Q d)) 117)]⟩ (.cons (cWr (BU (AA (Z3E d) 2).2 2 au7 au9)) (.cons (cWr (ZV (AA (AA (Z3E d) 2).2 2).2 au7)) (.cons (cWr (ZV (Z3M d) au7)) (.cons (cWr (BU (BL (Z3M d)).2 14 au7 au9)) .nil)))) (.cons rfl (.cons rfl (.cons rfl (.cons rfl (.cons rfl (.cons rfl (.cons rfl (.cons rfl (.cons rfl (.cons au20 (.cons au20 .nil)))))))))))<|AG ?_
   refine Cv.trans (BM (⟨EQ,[(65,Z3R d),(1000,.cells (BE b (CY b [vN,.own 65 20 ((Z3F d)++[BD.mk ({ data := #[99,50] }:ByteArray) (W64 (1+(AA (AA (Z3E d) 2).2 2).1)) 1 (Z3N d) (BL (Z3M d)).1 (W64 (1+(Nw d).1))]).length,vN,vN])) 41),(1001,.cells (AD.c (Z3Q d)) 117)]⟩) lr (.cons ⟨rfl,Am 147 (BR (BI 20 BD.c (Z3F d)) (Aq (c:=BD.c) (xs:=([BD.mk ({ data := #[99,50] }:ByteArray) (W64 (1+(AA (AA (Z3E d) 2).2 2).1)) 1 (Z3N d) (BL (Z3M d)).1 (W64 (1+(AA (BL (Z3M d)).2 14).1))]:List BD)) rfl kr))⟩ (.cons ⟨rfl,.cells _ (rr9 (rr3 (.cons (.own _ _ au2) (rr (rr .nil)))))⟩ lr))) (Cv.trans (vr 65 100001 (K:=[1000,1001]) hX) (Cv.trans (ck (⟨EQ,[(1000,Z3S b d),(1001,.cells (AD.c (Z3Q d)) 117),(100001,Z3R d)]⟩)) (Ay ?_)))
   first | rfl | (simp only [h1,Z3T,Z3U,cond_true,cond_false] <;> rfl)
  refine AY<|AG ?_
  refine Cv.trans (vk [0,1] [1000,1001,100000]) (Cv.trans (wr (⟨EQ,[(1000,.cells (BE b (CY b [vN,.own 100001 20 (Z3F d).length,vN,vN])) 41),(1001,Z3I d),(100001,Z3J d)]⟩) 100000 100001 (K:=[1000,1001]) hX) (Ay ?_))
  first | rfl | (simp only [h1,Z3T,Z3U,cond_true,cond_false] <;> rfl)
 refine AB<|AB ?_
 refine rb 69 (Z3V d) (.cells (AD.c (Z3T d)) 117) ⟨[(0,tP 1000 0),(1,tP 1001 0),(70,tB (decide (((AA (Z3T d) 3).1:Int)=0)))],[(1000,Z3W b d),(1001,Z3X d),(100001,Z3Y d)]⟩ (cWr (BU (Z3T d) 3 au7 au9))<|AG ?_
 refine Bd (⟨EQ,[(1000,.cells (BE b (CY b [lst 2 Cj.c (Z3Z d),.own 100001 20 (Z3U d).length,vN,vN])) 41),(1001,.cells (AD.c (AA (Z3T d) 3).2) 117),(100001,.row 20 (Z3U d).length (AO BD.c (Z3U d)) 147)]⟩) ?_ ?_
 ·refine AV _ rfl (fun h1 => ?_) (fun h1 => ?_)
  ·refine rn ⟨EQ,[(1000,.cells (BE b (CY b [.list true 2 1 (As 2 1 [.s ({ data := #[112,111,119,101,114] }:ByteArray),.list true 1 1 (As 1 1 [.s ({ data := #[71,78,68] }:ByteArray)])]),.own 100001 20 (Z3U d).length,vN,vN])) 41),(1001,Z3X d),(100001,Z3Y d)]⟩ ?_
   refine Cv.trans (BM (⟨EQ,[(1000,.cells (BE b (CY b [lst 2 Cj.c [Cj.mk ({ data := #[112,111,119,101,114] }:ByteArray) [({ data := #[71,78,68] }:ByteArray)]],.own 100001 20 (Z3U d).length,vN,vN])) 41),(1001,Z3X d),(100001,Z3Y d)]⟩) lr (.cons ⟨rfl,.cells _ (rr9 (rr2 (.cons (BZ true (Fi (c:=Cj.c) (xs:=([Cj.mk ({ data := #[112,111,119,101,114] }:ByteArray) [({ data := #[71,78,68] }:ByteArray)]]:List Cj)) (y:=[[.s ({ data := #[112,111,119,101,114] }:ByteArray),.list true 1 1 (As 1 1 [.s ({ data := #[71,78,68] }:ByteArray)])]]) (z:=[[.s ({ data := #[112,111,119,101,114] }:ByteArray),lst 1 (fun x=>[.s x]) [({ data := #[71,78,68] }:ByteArray)]]]) rfl kr kr (.cons (rr (.cons (BZ true (Aq (c:=(fun x=>[.s x])) (xs:=([({ data := #[71,78,68] }:ByteArray)]:List ByteArray)) rfl kr)) .nil)) .nil))) (rr (rr (rr .nil))))))⟩ lr)) (Ay ?_)
   first | rfl | (simp only [h1,Z3Z,cond_true,cond_false] <;> rfl)
  refine AY<|AG ?_
  refine Cv.trans (ck (⟨EQ,[(1000,Z3W b d),(1001,Z3X d),(100001,Z3Y d)]⟩)) (Cv.trans (BM (⟨EQ,[(1000,.cells (BE b (CY b [lst 2 Cj.c [],.own 100001 20 (Z3U d).length,vN,vN])) 41),(1001,Z3X d),(100001,Z3Y d)]⟩) lr (.cons ⟨rfl,.cells _ (rr9 (rr2 (.cons (Cf 2 Cj.c) (rr (rr (rr .nil))))))⟩ lr)) (Ay ?_))
  first | rfl | (simp only [h1,Z3Z,cond_true,cond_false] <;> rfl)
 refine AB<|AB ?_
 refine rb 78 (Z40 d) (.cells (AD.c (AA (Z3T d) 3).2) 117) ⟨[(0,tP 1000 0),(1,tP 1001 0),(79,tB (decide (((AA (AA (Z3T d) 3).2 4).1:Int)=0)))],[(1000,Z42 b d),(TJ d),(100001,Z3Y d)]⟩ (cWr (BU (AA (Z3T d) 3).2 4 au7 au9))<|AG ?_
 refine Bd (⟨EQ,[(1000,.cells (BE b (CY b [lst 2 Cj.c (Z3Z d),.own 100001 20 (Z3U d).length,lst 3 CQ.c (Z49 d b),vN])) 41),(1001,.cells (AD.c (Z48 d b)) 117),(100001,.row 20 (Z3U d).length (AO BD.c (Z3U d)) 147)]⟩) ?_ ?_
 ·refine AV _ rfl (fun h1 => ?_) (fun h1 => ?_)
  ·have g1:=oT h1
   refine AB<|rs 83 (ceI [.agg (gH b d)] (Yt (AH.mk b.Layers (AP.mk 0 [] 0) b.Parts [] b.Tracks b.Vias b.Pours b.Keeps b.Slots [] [] [] []))) ⟨[(0,tP 1000 0),(1,tP 1001 0),(4,tO (lst 1 eIn (Z43 b)))],[(1000,Z42 b d),(TJ d),(100001,Z3Y d)]⟩ (Ct (qH (AH.mk b.Layers (AP.mk 0 [] 0) b.Parts [] b.Tracks b.Vias b.Pours b.Keeps b.Slots [] [] [] []) au10 au10 au10 au10 au10 au10) (.cons (.agg (rr (.cons (.any _) (.cons (.any _) (.cons (.any _) (rr (.cons (.any _) (rr5 (.cons (.any _) (.cons (.any _) (.cons (.any _) (.cons (.any _) .nil)))))))))))) .nil))<|AG ?_
   refine dw [] [(89,(Z44 b d)),(96,(Z46 b d))] [Ap (Z44 b d).2.1,Bv (.cells (AD.c (Z41 d)) 117),0<=((AA (Z41 d) ((Z43 b).length:Int)).1:Int)/\((AA (Z41 d) ((Z43 b).length:Int)).1:Int)<(((Z43 b).length:Nat):Int),Ap (Z46 b d).2.1,Bv (.cells (AD.c (Z45 d b)) 117),0<=((AA (Z45 d b) ((Z43 b).length:Int)).1:Int)/\((AA (Z45 d b) ((Z43 b).length:Int)).1:Int)<(((Z43 b).length:Nat):Int)] ⟨EQ,[(1000,.cells (BE b (CY b (TA d [.list true 3 1 (As 3 1 [.i ((Z43 b).getD (AA (Z41 d) ((Z43 b).length:Int)).1.toNat default),.i ((Z43 b).getD (AA (Z45 d b) ((Z43 b).length:Int)).1.toNat default),.s ({ data := #[99,49] }:ByteArray)]),vN]))) 41),(1001,.cells (AD.c (Z47 d b)) 117),(100001,Z3Y d)]⟩ (.cons (cWr (BU (Z41 d) ((Z43 b).length:Int) au7 au9)) (.cons (cWr (BU (Z45 d b) ((Z43 b).length:Int) au7 au9)) .nil)) (.cons rfl (.cons rfl (.cons (by first | exact Kn _ _ _ (by decide) (by decide) (by decide) | exact WB (b:=AH.mk b.Layers (AP.mk 0 [] 0) b.Parts [] b.Tracks b.Vias b.Pours b.Keeps b.Slots [] [] [] []) _ hi (by assumption) (by assumption) (by assumption) (by assumption) (by assumption) (by assumption) | decide | omega) (.cons rfl (.cons rfl (.cons (by first | exact Kn _ _ _ (by decide) (by decide) (by decide) | exact WB (b:=AH.mk b.Layers (AP.mk 0 [] 0) b.Parts [] b.Tracks b.Vias b.Pours b.Keeps b.Slots [] [] [] []) _ hi (by assumption) (by assumption) (by assumption) (by assumption) (by assumption) (by assumption) | decide | omega) .nil))))))<|AG ?_
   refine Cv.trans (BM (⟨EQ,[(1000,.cells (BE b (CY b [lst 2 Cj.c (Z3Z d),.own 100001 20 (Z3U d).length,lst 3 CQ.c [CQ.mk ((Z43 b).getD (AA (Z41 d) ((Z43 b).length:Int)).1.toNat default) ((Z43 b).getD (AA (Z45 d b) ((Z43 b).length:Int)).1.toNat default) ({ data := #[99,49] }:ByteArray)],vN])) 41),(1001,.cells (AD.c (Z47 d b)) 117),(100001,Z3Y d)]⟩) lr (.cons ⟨rfl,.cells _ (rr9 (rr4 (.cons (BZ true (Aq (c:=CQ.c) (xs:=([CQ.mk ((Z43 b).getD (AA (Z41 d) ((Z43 b).length:Int)).1.toNat default) ((Z43 b).getD (AA (Z45 d b) ((Z43 b).length:Int)).1.toNat default) ({ data := #[99,49] }:ByteArray)]:List CQ)) rfl kr)) (rr .nil))))⟩ lr)) (Ay ?_)
   first | rfl | (simp only [h1,Z48,Z49,cond_true,cond_false] <;> rfl)
  refine AY<|AG ?_
  refine Cv.trans (ck (⟨EQ,[(1000,Z42 b d),(TJ d),(100001,Z3Y d)]⟩)) (Cv.trans (BM (⟨EQ,[(1000,.cells (BE b (CY b [lst 2 Cj.c (Z3Z d),.own 100001 20 (Z3U d).length,lst 3 CQ.c [],vN])) 41),(TJ d),(100001,Z3Y d)]⟩) lr (.cons ⟨rfl,.cells _ (rr9 (rr4 (.cons (Cf 3 CQ.c) (rr .nil))))⟩ lr)) (Ay ?_))
  first | rfl | (simp only [h1,Z48,Z49,cond_true,cond_false] <;> rfl)
 refine AB<|rb 104 (Z4a d b) (.cells (AD.c (Z48 d b)) 117) ⟨[(0,tP 1000 0),(1,tP 1001 0),(105,tB (decide (((AA (Z48 d b) 4).1:Int)=0)))],[(1000,.cells (BE b (CY b (TA d [lst 3 CQ.c (Z49 d b),vN]))) 41),(1001,.cells (AD.c (AA (Z48 d b) 4).2) 117),(100001,Z3Y d)]⟩ (cWr (BU (Z48 d b) 4 au7 au9))<|AG ?_
 refine AV _ rfl (fun h1 => ?_) (fun h1 => ?_)
 ·have g1:=oT h1
  refine rb 109 (Z4b d b) (.cells (AD.c (AA (Z48 d b) 4).2) 117) ⟨[],[(1000,.cells (BE b (CY b (TA d [lst 3 CQ.c (Z49 d b),.list true 3 1 (As 3 1 [.s ({ data := #[109,49] }:ByteArray),.list true 1 2 (As 1 2 [.s ({ data := #[78,49] }:ByteArray),.s ({ data := #[78,50] }:ByteArray)]),.i (W64 (10*(AA (AA (Z48 d b) 4).2 8).1))])]))) 41),(1001,.cells (AD.c (Z4c d b)) 117),(100001,Z3Y d)]⟩ (cWr (BU (AA (Z48 d b) 4).2 8 au7 au9)) ?_
  exact yn (Cv.trans (vf 100001 20 (Z3U d).length (AO BD.c (Z3U d)) 147 (K:=[1000,1001]) hX (.cons ⟨rfl,rfl⟩ .nil)) (Cv.refl _)) (.tup []) ⟨Aa rfl,⟨.cells (BE b (CY b (TB d b [.list true 3 1 (As 3 1 [.s ({ data := #[109,49] }:ByteArray),.list true 1 2 (As 1 2 [.s ({ data := #[78,49] }:ByteArray),.s ({ data := #[78,50] }:ByteArray)]),.i (W64 (10*(AA (AA (Z48 d b) 4).2 8).1))])]))) 41,by kernel_rfl,Us (y:=.cells (BE b (CY b (TB d b [lst 3 Dz.c [Dz.mk ({ data := #[109,49] }:ByteArray) [({ data := #[78,49] }:ByteArray),({ data := #[78,50] }:ByteArray)] (W64 (10*(AA (AA (Z48 d b) 4).2 8).1))]]))) 41) (.cells _ (rr9 (rr5 (.cons (BZ true (Fi (c:=Dz.c) (xs:=([Dz.mk ({ data := #[109,49] }:ByteArray) [({ data := #[78,49] }:ByteArray),({ data := #[78,50] }:ByteArray)] (W64 (10*(AA (AA (Z48 d b) 4).2 8).1))]:List Dz)) (y:=[[.s ({ data := #[109,49] }:ByteArray),.list true 1 2 (As 1 2 [.s ({ data := #[78,49] }:ByteArray),.s ({ data := #[78,50] }:ByteArray)]),.i (W64 (10*(AA (AA (Z48 d b) 4).2 8).1))]]) (z:=[[.s ({ data := #[109,49] }:ByteArray),lst 1 (fun x=>[.s x]) [({ data := #[78,49] }:ByteArray),({ data := #[78,50] }:ByteArray)],.i (W64 (10*(AA (AA (Z48 d b) 4).2 8).1))]]) rfl kr kr (.cons (rr (.cons (BZ true (Aq (c:=(fun x=>[.s x])) (xs:=([({ data := #[78,49] }:ByteArray),({ data := #[78,50] }:ByteArray)]:List ByteArray)) rfl kr)) (rr .nil))) .nil))) .nil)))) (by first | (simp only [Db,h1,cond_true,cond_false];done) | (simp only [Db,h1,cond_true,cond_false];kernel_rfl))⟩,.cells (AD.c (Z4c d b)) 117,by kernel_rfl,Dk (by first | (simp only [Db,h1,cond_true,cond_false];done) | (simp only [Db,h1,cond_true,cond_false];kernel_rfl))⟩
 have g1:=oF h1
 refine AY ?_
 exact yn (Cv.trans (vf 100001 20 (Z3U d).length (AO BD.c (Z3U d)) 147 (K:=[1000,1001]) hX (.cons ⟨rfl,rfl⟩ .nil)) (Cv.refl _)) (.tup []) ⟨Aa rfl,⟨.cells (BE b (CY b (TB d b [vN]))) 41,by kernel_rfl,Us (y:=.cells (BE b (CY b (TB d b [lst 3 Dz.c []]))) 41) (.cells _ (rr9 (rr5 (.cons (Cf 3 Dz.c) .nil)))) (by first | (simp only [Db,h1,cond_true,cond_false];done) | (simp only [Db,h1,cond_true,cond_false];kernel_rfl))⟩,.cells (AD.c (AA (Z48 d b) 4).2) 117,by kernel_rfl,Dk (by first | (simp only [Db,h1,cond_true,cond_false];done) | (simp only [Db,h1,cond_true,cond_false];kernel_rfl))⟩
end
section
open Go.RowKit
theorem Qs {v a:Int} {d:AD} {n:Int} (h:v<W64 (a+(AA d n).1)) (h0:0<n) (h1:n<=1000000) (ha:0<=a) (hb:a<=1000000):v<a+n-1:=by
 have:=C5 d n h0 (by omega)
 rw [Af (by omega) (by omega)] at h
 omega
theorem Ih {p q:Prop} [Decidable p] [Decidable q] {r:Bool} (h:(bif bif decide p then decide q else false then r else (bif bif decide p then decide q else false then false else false))=true):q:=by
 by_cases hp:p
 ·rw [decide_eq_true hp] at h
  by_cases hq:q
  ·exact hq
  rw [decide_eq_false hq] at h;cases h
 rw [decide_eq_false hp] at h;cases h
theorem Zs {n:Nat} (h:(0:Int)<(n:Int)):0<n:=by omega
theorem SU {c2 c1:Bool} {a b c:A5} {L:List A5} (hL:L=bif c2 then [a,b] else bif c1 then [c] else []):L.length<=2:=by
 subst hL;cases c2 <;> cases c1 <;> simp
theorem aF {c2 c1:Bool} {a b c:A5} {L:List A5} {k:Int} (hk:0<=k/\k<2) (ha:a.Legs.length=2) (hc:c.Legs.length=2) (hL:L=bif c2 then [a,b] else bif c1 then [c] else []) (h:(0:Int)<(L.length:Int)):0<=k/\k<(((L.getD 0 default).Legs.length:Nat):Int):=by
 subst hL
 cases c2 with
 | true=>show 0<=k/\k<((a.Legs.length:Nat):Int);rw [ha];exact hk
 | false =>
  cases c1 with
  | true=>show 0<=k/\k<((c.Legs.length:Nat):Int);rw [hc];exact hk
  | false=>exact absurd h (by simp)
theorem lK {α:Type} {L:List α} (h:L.length<=2):L.length+1<=maxLen:=by unfold maxLen;omega
theorem lL {α:Type} {L:List α} (h:L.length<=2):(L.length+1)*32<=140737488355328:=by omega
def Z4d:Blk:=.cells Py 82
variable (r:Ak) (name:ByteArray) (l:List Int) (v6_1:List A1) (v8:Int) (x0:AC) (radius:Int) (v5:AD) (x1:AC)
abbrev HG:=AA (AD.mk l 0) 5
def Z4e:CT:=(42,(Lm:List Av).map (Bq 1000 14),wrI 14 (.cells [lst 1 eIn l,.i 0] 117) (tI (HG l).1) (.cells (AD.c (HG l).2) 117))
def Z4f:Tv:=tI (W64 (2+(HG l).1))
def Z4g:Blk:=.cells (AD.c (HG l).2) 117
abbrev II:Bool:=(decide (((W64 (2+(HG l).1)):Int)<4))
def Z4h:Tv:=tB (II l)
abbrev Nx:Av:=.one (.ptr 14 0)
def Z4i:Tv:=.grd ((II l)=true) Nx
def Z4j:Blk:=.row 2 ([]:List A5).length (AO A5.c ([]:List A5)) 180
abbrev IJ:Bool:=(decide ((4:Int)<=(W64 (2+(HG l).1))))
def Z4k:Tv:=tB (IJ l)
def Z4l:Tv:=.grd ((IJ l)=true) Nx
def Z4m:Blk:=.row 7 ([]:List A1).length (AO A1.c ([]:List A1)) 102
def Z4n:Blk:=.cells (Ww name) 82
def Z4o:Blk:=.cells [.s name,.own 100000 7 v6_1.length,vN] 82
def Z4p:Blk:=.row 7 v6_1.length (AO A1.c v6_1) 102
abbrev N1:Blk:=.cells (AD.c (AA v5 2).2) 117
abbrev Nm:Blk:=.cells (AD.c v5) 117
def Z4q:CT:=(42,(IE:List Av).map (Bq 1000 14),wrI 14 (Nm v5) (tI (AA v5 2).1) (N1 v5))
def Z4r:Blk:=.cells [.s (Ah v8),.i 0,vN,.i 0,.i (W64 (30*v8)),.i (W64 (10*(AA v5 2).1)),.i 0] 102
def Z4s:Blk:=.cells [.i (W64 (30*v8)),.i (W64 (10*(AA v5 2).1))] 66
abbrev IG:=AA (AA v5 2).2 3
def Z4t:CT:=(42,(E8:List Av).map (Bq 1000 14),wrI 14 (N1 v5) (tI (IG v5).1) (.cells (AD.c (IG v5).2) 117))
def Z4u:Blk:=.cells (AD.c (IG v5).2) 117
def Z4v:AP:=FT (Ak.mk (W64 ((W64 (30*v8))-6)) (W64 ((W64 (10*(AA v5 2).1))-6)) (W64 ((W64 (30*v8))+6)) (W64 ((W64 (10*(AA v5 2).1))+6)))
def Z4w:CT:=(42,(E8:List Av).map (Bq 1000 14),wrI 14 (.cells (AD.c (IG v5).2) 117) (tI (AA (IG v5).2 3).1) (.cells (AD.c (AA (IG v5).2 3).2) 117))
abbrev Z4x:AD:=(AA (AA (AA v5 2).2 3).2 3).2
def Z4y:AP:=IC (AC.mk (W64 (30*v8)) (W64 (10*(AA v5 2).1))) (W64 (4+(AA (AA (AA v5 2).2 3).2 3).1))
abbrev Z4z:AD:=bif decide (((AA (AA v5 2).2 3).1:Int)=0) then (AA (AA v5 2).2 3).2 else (bif decide (((AA (AA v5 2).2 3).1:Int)=1) then (Z4x v5) else (AA (AA v5 2).2 3).2)
def Z4A (v5:AD) (v8:Int):(List AF):=bif decide (((AA (AA v5 2).2 3).1:Int)=0) then (Z4v v8 v5).Edges else (bif decide (((AA (AA v5 2).2 3).1:Int)=1) then (Z4y v8 v5).Edges else [AF.mk 1 (AC.mk (W64 ((W64 (30*v8))-2)) (W64 (10*(AA v5 2).1))) (AC.mk (W64 ((W64 (30*v8))+2)) (W64 (10*(AA v5 2).1))) (AC.mk 0 0)])
def Z4B:CT:=(42,(Hz:List Av).map (Bq 1000 14),wrI 14 (.cells (AD.c (Z4z v5)) 117) (tI (AA (Z4z v5) 4).1) (.cells (AD.c (AA (Z4z v5) 4).2) 117))
def Z4C:CT:=(42,(IE:List Av).map (Bq 1000 14),wrI 14 (.cells (AD.c (AA (Z4z v5) 4).2) 117) (tI (AA (AA (Z4z v5) 4).2 2).1) (.cells (AD.c (AA (AA (Z4z v5) 4).2 2).2) 117))
abbrev Z4D:AD:=(AA (AA (Z4z v5) 4).2 2).2
def Z4E:CT:=(42,(E8:List Av).map (Bq 1000 14),wrI 14 (Nm v5) (tI (AA v5 3).1) (.cells (AD.c (AA v5 3).2) 117))
abbrev Z4F:AD:=bif decide (((W64 (2+(AA (AD.mk l 0) 5).1)):Int)<4) then (AA v5 3).2 else v5
def Z4G:CT:=(42,(IE:List Av).map (Bq 1000 14),wrI 14 (.cells (AD.c (Z4F l v5)) 117) (tI (AA (Z4F l v5) 2).1) (.cells (AD.c (AA (Z4F l v5) 2).2) 117))
def Z4H:Blk:=.cells (AD.c (AA (Z4F l v5) 2).2) 117
abbrev W6:=[A5.mk 0 [Bm.mk (Ah 0) 1,Bm.mk (Ah 1) (AA (Z4F l v5) 2).1]]
def Z4I:Blk:=.row 2 ((W6 l v5).length) (AO A5.c (W6 l v5)) 180
abbrev Z4J:AD:=bif bif decide (((W64 (2+(AA (AD.mk l 0) 5).1)):Int)<4) then (bif decide (((W64 (2+(AA (AD.mk l 0) 5).1)):Int)<4) then decide ((0:Int)<(AA v5 3).1) else false) else (bif decide (((W64 (2+(AA (AD.mk l 0) 5).1)):Int)<4) then false else false) then (AA (Z4F l v5) 2).2 else (Z4F l v5)
def Z4K:(List A5):=bif bif decide (((W64 (2+(AA (AD.mk l 0) 5).1)):Int)<4) then (bif decide (((W64 (2+(AA (AD.mk l 0) 5).1)):Int)<4) then decide ((0:Int)<(AA v5 3).1) else false) else (bif decide (((W64 (2+(AA (AD.mk l 0) 5).1)):Int)<4) then false else false) then [A5.mk 0 [Bm.mk (Ah 0) 1,Bm.mk (Ah 1) (AA (Z4F l v5) 2).1]] else ([]:List A5)
def Z4L:CT:=(42,(E8:List Av).map (Bq 1000 14),wrI 14 (.cells (AD.c (Z4J l v5)) 117) (tI (AA (Z4J l v5) 3).1) (.cells (AD.c (AA (Z4J l v5) 3).2) 117))
def Z4M:Blk:=.row 2 (Z4K l v5).length (AO A5.c (Z4K l v5)) 180
abbrev Z4N:AD:=bif decide ((4:Int)<=(W64 (2+(AA (AD.mk l 0) 5).1))) then (AA (Z4J l v5) 3).2 else (Z4J l v5)
abbrev GW:=AA (Z4N l v5) 2
def Z4O:CT:=(42,(IE:List Av).map (Bq 1000 14),wrI 14 (.cells (AD.c (Z4N l v5)) 117) (tI (GW l v5).1) (.cells (AD.c (GW l v5).2) 117))
def Z4P:Blk:=.cells (AD.c (GW l v5).2) 117
abbrev Xa:=[A5.mk 1 [Bm.mk (Ah 0) (GW l v5).1,Bm.mk (Ah 1) (GW l v5).1],A5.mk 1 [Bm.mk (Ah 2) (GW l v5).1,Bm.mk (Ah 3) (GW l v5).1]]
def Z4Q:Blk:=.row 2 ((Xa l v5).length) (AO A5.c (Xa l v5)) 180
abbrev Z4R:AD:=bif bif decide ((4:Int)<=(W64 (2+(AA (AD.mk l 0) 5).1))) then (bif decide ((4:Int)<=(W64 (2+(AA (AD.mk l 0) 5).1))) then decide ((0:Int)<(AA (Z4J l v5) 3).1) else false) else (bif decide ((4:Int)<=(W64 (2+(AA (AD.mk l 0) 5).1))) then false else false) then (AA (Z4N l v5) 2).2 else (Z4N l v5)
def Z4S:(List A5):=bif bif decide ((4:Int)<=(W64 (2+(AA (AD.mk l 0) 5).1))) then (bif decide ((4:Int)<=(W64 (2+(AA (AD.mk l 0) 5).1))) then decide ((0:Int)<(AA (Z4J l v5) 3).1) else false) else (bif decide ((4:Int)<=(W64 (2+(AA (AD.mk l 0) 5).1))) then false else false) then [A5.mk 1 [Bm.mk (Ah 0) (AA (Z4N l v5) 2).1,Bm.mk (Ah 1) (AA (Z4N l v5) 2).1],A5.mk 1 [Bm.mk (Ah 2) (AA (Z4N l v5) 2).1,Bm.mk (Ah 3) (AA (Z4N l v5) 2).1]] else (Z4K l v5)
def Z4T:CT:=(42,(IE:List Av).map (Bq 1000 14),wrI 14 (.cells (AD.c (Z4R l v5)) 117) (tI (AA (Z4R l v5) 2).1) (.cells (AD.c (AA (Z4R l v5) 2).2) 117))
def Z4U:Blk:=.row 2 (Z4S l v5).length (AO A5.c (Z4S l v5)) 180
abbrev Z4V:AD:=bif bif decide (((W64 (2+(AA (AD.mk l 0) 5).1)):Int)=6) then decide ((0:Int)<(((Z4S l v5).length:Nat):Int)) else false then (AA (Z4R l v5) 2).2 else (Z4R l v5)
def Z4W:CT:=(42,(E8:List Av).map (Bq 1000 14),wrI 14 (.cells (AD.c (Z4V l v5)) 117) (tI (AA (Z4V l v5) 3).1) (.cells (AD.c (AA (Z4V l v5) 3).2) 117))
abbrev Xd:=[A5.mk (AA (Z4V l v5) 3).1 [Bm.mk (Ah 5) (((Z4S l v5).getD 0 default).Legs.getD 0 default).Group,Bm.mk (Ah 4) (((Z4S l v5).getD 0 default).Legs.getD 1 default).Group]]
def Z4X:Blk:=.row 2 ((Z4S l v5)++(Xd l v5)).length (AO A5.c ((Z4S l v5)++(Xd l v5))) 180
def Z4Y:(List A5):=bif bif bif decide (((W64 (2+(AA (AD.mk l 0) 5).1)):Int)=6) then decide ((0:Int)<(((Z4S l v5).length:Nat):Int)) else false then (bif bif decide (((W64 (2+(AA (AD.mk l 0) 5).1)):Int)=6) then decide ((0:Int)<(((Z4S l v5).length:Nat):Int)) else false then decide (((AA (Z4R l v5) 2).1:Int)=1) else false) else (bif bif decide (((W64 (2+(AA (AD.mk l 0) 5).1)):Int)=6) then decide ((0:Int)<(((Z4S l v5).length:Nat):Int)) else false then false else false) then ((Z4S l v5)++[A5.mk (AA (Z4V l v5) 3).1 [Bm.mk (Ah 5) (((Z4S l v5).getD 0 default).Legs.getD 0 default).Group,Bm.mk (Ah 4) (((Z4S l v5).getD 0 default).Legs.getD 1 default).Group]]) else (Z4S l v5)
def Z4Z:Blk:=.row 2 (Z4Y l v5).length (AO A5.c (Z4Y l v5)) 180
def Z50 (name:ByteArray) (v6_1:List A1) (l:(List Int)) (v5:AD):Blk:=.cells [.s name,.own 100000 7 v6_1.length,.own 100001 2 ((W6 l v5).length)] 82
def Z51:Blk:=.cells [.s name,.own 100000 7 v6_1.length,.own 100001 2 ([]:List A5).length] 82
def Z52 (name:ByteArray) (v6_1:List A1) (l:(List Int)) (v5:AD):Blk:=.cells [.s name,.own 100000 7 v6_1.length,.own 100001 2 (Z4K l v5).length] 82
def Z53 (name:ByteArray) (v6_1:List A1) (l:(List Int)) (v5:AD):Blk:=.cells [.s name,.own 100000 7 v6_1.length,.own 100002 2 ((Xa l v5).length)] 82
def Z54 (name:ByteArray) (v6_1:List A1) (l:(List Int)) (v5:AD):Blk:=.cells [.s name,.own 100000 7 v6_1.length,.own 100002 2 (Z4S l v5).length] 82
def Z55 (name:ByteArray) (v6_1:List A1) (l:(List Int)) (v5:AD):Blk:=.cells [.s name,.own 100000 7 v6_1.length,.own 100003 2 ((Z4S l v5)++(Xd l v5)).length] 82
def C0 (l:(List Int)) (name:ByteArray):Nat->List A1->AD->Int->AQ
 | 0,_,_,_=>default
 | n0+1,v6_1,v5,v8=>bif decide ((v8:Int)<(W64 (2+(AA (AD.mk l 0) 5).1))) then ((C0 l name n0) (v6_1++[A1.mk (Ah v8) (AP.mk (bif decide (((AA (AA v5 2).2 3).1:Int)=0) then (Z4v v8 v5).Kind else (bif decide (((AA (AA v5 2).2 3).1:Int)=1) then (Z4y v8 v5).Kind else 1)) (Z4A v5 v8) (bif decide (((AA (AA v5 2).2 3).1:Int)=0) then (Z4v v8 v5).R else (bif decide (((AA (AA v5 2).2 3).1:Int)=1) then (Z4y v8 v5).R else 4))) (AC.mk (W64 (30*v8)) (W64 (10*(AA v5 2).1))) (W64 ((W64 (2*(AA (Z4z v5) 4).1))*(AA (AA (Z4z v5) 4).2 2).1))]) (Z4D v5) (v8+1)) else (AQ.mk name v6_1 (Z4Y l v5))
def A6 (l:(List Int)) (name:ByteArray):AQ:=C0 l name (((W64 (2+(AA (AD.mk l 0) 5).1))-0).toNat+1) ([]:List A1) (AA (AD.mk l 0) 5).2 0
def Ky (l:(List Int)) (name:ByteArray):CT:=(39,[.one (lst 1 eIn l),.one (.s name)],.val [] (.av (.agg (AQ.c (A6 l name)))))
abbrev yE (v5:AD) (v8:Int):=(bif decide (((IG v5).1:Int)=0) then (Z4v v8 v5).Kind else (bif decide (((IG v5).1:Int)=1) then (Z4y v8 v5).Kind else 1))
abbrev yD (v5:AD) (v8:Int):=(bif decide (((IG v5).1:Int)=0) then (Z4v v8 v5).R else (bif decide (((IG v5).1:Int)=1) then (Z4y v8 v5).R else 4))
abbrev bB:=(v6_1++[A1.mk (Ah v8) (AP.mk (yE v5 v8) (Z4A v5 v8) (yD v5 v8)) (AC.mk (W64 (30*v8)) (W64 (10*(AA v5 2).1))) (W64 ((W64 (2*(AA (Z4z v5) 4).1))*(AA (AA (Z4z v5) 4).2 2).1))])
abbrev Me:=(bif decide (((W64 (2+(HG l).1)):Int)=6) then decide ((0:Int)<(((Z4S l v5).length:Nat):Int)) else false)
abbrev Gk:Bool:=(decide (((W64 (2+(HG l).1)):Int)=6))
abbrev Bw (t_:List (Nat×Tv)):List (Nat×Tv):=(4,tP 4 0)::(5,tP 14 0)::(6,tP 6 0)::t_
abbrev Jz:List (Nat×Tv):=(Bw [(7,Z4f l)])
abbrev N8:List (Nat×Tv):=(Bw [(7,Z4f l),(8,tI v8),(9,tP 9 0)])
abbrev Ln:Nat×Blk:=(100000,.row 7 v6_1.length (AO A1.c v6_1) 102)
abbrev fU:List Cl:=[.s (Ah v8),.i (yE v5 v8),lst 7 AF.c (Z4A v5 v8),.i (yD v5 v8),.i (W64 (30*v8)),.i (W64 (10*(AA v5 2).1)),.i (W64 ((W64 (2*(AA (Z4z v5) 4).1))*(AA (AA (Z4z v5) 4).2 2).1))]
abbrev Tc:List (Nat×Tv):=(Bw [(7,Z4f l),(8,tI 0)])
abbrev P2:List (Nat×Tv):=[(4,tP 4 0),(6,tP 6 0)]
abbrev J5:=AA (AA v5 2).2 3
abbrev Pt:Nat×Tv:=(7,tI (W64 (2+(HG l).1)))
abbrev TH:Nat×Blk:=(14,.cells (AD.c (Z4D v5)) 117)
abbrev Pq:Nat×Blk:=(14,.cells (AD.c v5) 117)
abbrev TD (name:ByteArray) (v6_1:List A1) (l:List Int) (v5:AD) (t_:List (Nat×Blk)):List (Nat×Blk):=(4,Z4d)::(6,Z52 name v6_1 l v5)::(14,.cells (AD.c (Z4J l v5)) 117)::(100000,Z4p v6_1)::t_
abbrev TC (name:ByteArray) (v6_1:List A1) (l:List Int) (v5:AD) (t_:List (Nat×Blk)):List (Nat×Blk):=(4,Z4d)::(6,Z54 name v6_1 l v5)::(14,.cells (AD.c (Z4R l v5)) 117)::(100000,Z4p v6_1)::t_
set_option maxHeartbeats 2000000 in
theorem pP (l:(List Int)) (name:ByteArray) (hl:(l.length:Int)<=9223372036854775807):PuP 39 (Ky l name).2.1 (.av (.agg (AQ.c (A6 l name)))):=by
 refine pwf Tryz.func39 fun W0 M0 => ?_
 have hd0:=Cg hl
 refine AB<|rn ⟨[(0,tO (lst 1 eIn l)),(1,tO (.s name)),(4,tP 4 0)],[(4,Z4d)]⟩<|AB ?_
 refine rn ⟨[(1,tO (.s name)),(4,tP 4 0),(5,tP 14 0)],[(4,Z4d),(14,.cells [lst 1 eIn l,.i 0] 117)]⟩<|AB ?_
 refine rn ⟨(Bw []),[(4,Z4d),(6,.cells [.s name,vN,vN] 82),(14,.cells [lst 1 eIn l,.i 0] 117)]⟩<|AB ?_
 refine rb 18 (Z4e l) (.cells [lst 1 eIn l,.i 0] 117) ⟨(Jz l),[(4,Z4d),(6,.cells [.s name,vN,vN] 82),(14,Z4g l)]⟩ (cWr (BU (AD.mk l 0) 5 au7 au9))<|AG ?_
 refine AB<|AB ?_
 refine rn ⟨(Tc l),[(4,Z4d),(6,.cells [.s name,vN,vN] 82),(14,Z4g l)]⟩<|AR ?_
 refine BS (Cv.trans (wg (⟨(Tc l),[(100000,.row 7 0 (fun _ _=>default) 102),(4,Z4d),(6,.cells [.s name,.own 100000 7 0,vN] 82),(14,Z4g l)]⟩) 100000 7 (fun _ _=>default) 102 [] [(6,[1])] hk0) (Cv.trans (BM (⟨(Tc l),[(100000,Z4m),(4,Z4d),(6,Z4n name),(14,Z4g l)]⟩) lr (.cons ⟨rfl,Am 102 (Cb 7 (fun _ _=>default) A1.c)⟩ (.cons ⟨rfl,.refl _⟩ (.cons ⟨rfl,.cells _ (rr (.cons (.own _ _ au2) (rr .nil)))⟩ lr)))) (Cv.trans (ck (⟨(Tc l),[(4,Z4d),(6,Z4n name),(14,Z4g l),(100000,Z4m)]⟩)) (Cv.refl _)))) ?_
 refine BB (ι:=Nat×List A1×AD×Int) (fun x=>⟨(Bw [(7,Z4f l),(8,tI x.2.2.2)]),[(4,Z4d),(6,.cells [.s name,.own 100000 7 x.2.1.length,vN] 82),(14,.cells (AD.c x.2.2.1) 117),(100000,.row 7 x.2.1.length (AO A1.c x.2.1) 102)]⟩) (fun x=>((W64 (2+(AA (AD.mk l 0) 5).1))-x.2.2.2).toNat<x.1/\(Bh x.2.2.1/\0<=x.2.2.2/\(x.2.2.2<=(W64 (2+(AA (AD.mk l 0) 5).1))\/x.2.2.2=0)/\(x.2.1.length:Int)<=0+1*(x.2.2.2-0))/\C0 l name x.1 x.2.1 x.2.2.1 x.2.2.2=A6 l name) (fun x=>x.1) ?_ (((W64 (2+(AA (AD.mk l 0) 5).1))-0).toNat+1,([]:List A1),(AA (AD.mk l 0) 5).2,0) ⟨Nat.lt_succ_self _,⟨(by show Bh ((AA (AD.mk l 0) 5).2);repeat (first | with_reducible assumption | exact Cg (DW hll _) | with_reducible refine BT ?_ | with_reducible refine Ek ?_ | with_reducible refine Ds ?_ | with_reducible refine DG ?_  | with_reducible refine Cq ?_ ?_)),ax0,ax0,ax0⟩,(by simp only [A6,cond_true,cond_false])⟩
 rintro ⟨n0,v6_1,v5,v8⟩ ⟨hm0,hinv0,hF0⟩
 try dsimp only at hm0 hinv0 hF0
 cases n0 with | zero=>exact nz hm0 | succ n0 => ?_
 have hi0_0:=hinv0.1
 refine AB<|AB ?_
 refine rn ⟨(Bw [(7,Z4f l),(8,tI v8),(22,tB (decide ((v8:Int)<(W64 (2+(AA (AD.mk l 0) 5).1)))))]),[(4,Z4d),(6,Z4o name v6_1),(Pq v5),(100000,Z4p v6_1)]⟩ ?_
 refine AV _ rfl (fun h1 => ?_) (fun h1 => ?_)
 ·have g1:=oT h1
  have k1:=UR g1 (by decide) (by decide) (by decide) (by decide)
  have kk1:=Qs g1 (by decide) (by decide) (by decide) (by decide)
  refine AY<|AG ?_
  refine AB<|AR<|AB ?_
  refine rc [(26,CX v8),(30,(Z4q v5))] [Ap (CX v8).2.1,Ap (Z4q v5).2.1,Bv (Nm v5)] ⟨(N8 l v8),[(4,Z4d),(6,Z4o name v6_1),(9,Z4r v8 v5),(14,.cells (AD.c (AA v5 2).2) 117),(100000,Z4p v6_1)]⟩ (.cons (Eb v8 au10) (.cons (cWr (BU v5 2 au7 au9)) .nil)) (.cons rfl (.cons rfl (.cons rfl .nil)))<|AG<|AB ?_
  refine rn ⟨(Bw [(7,Z4f l),(8,tI v8),(9,tP 9 0),(10,tP 10 0)]),[(4,Z4d),(6,Z4o name v6_1),(9,Z4r v8 v5),(10,Z4s v8 v5),(14,.cells (AD.c (AA v5 2).2) 117),(100000,Z4p v6_1)]⟩ ?_
  refine AB<|AB ?_
  refine rb 37 (Z4t v5) (N1 v5) ⟨(Bw [(7,Z4f l),(8,tI v8),(9,tP 9 0),(10,tP 10 0),(37,tI (IG v5).1)]),[(4,Z4d),(6,Z4o name v6_1),(9,Z4r v8 v5),(10,Z4s v8 v5),(14,Z4u v5),(100000,Z4p v6_1)]⟩ (cWr (BU (AA v5 2).2 3 au7 au9))<|AG ?_
  refine Bd (⟨(Bw [(Pt l),(8,tI v8),(9,tP 9 0)]),[Cs,(6,.cells [.s name,.own 100000 7 v6_1.length,vN] 82),(9,.cells [.s (Ah v8),.i (bif decide (((IG v5).1:Int)=0) then (Z4v v8 v5).Kind else (bif decide (((IG v5).1:Int)=1) then (Z4y v8 v5).Kind else 1)),lst 7 AF.c (Z4A v5 v8),.i (bif decide (((IG v5).1:Int)=0) then (Z4v v8 v5).R else (bif decide (((IG v5).1:Int)=1) then (Z4y v8 v5).R else 4)),.i (W64 (30*v8)),.i (W64 (10*(AA v5 2).1)),.i 0] 102),(14,.cells (AD.c (Z4z v5)) 117),(Ln v6_1)]⟩) ?_ ?_
  ·refine AR<|AB ?_
   refine rn ⟨(Bw [(7,Z4f l),(8,tI v8),(9,tP 9 0),(10,tP 10 0),(37,tI (IG v5).1),(54,tB (decide (((AA (AA v5 2).2 3).1:Int)=0)))]),[(4,Z4d),(6,Z4o name v6_1),(9,Z4r v8 v5),(10,Z4s v8 v5),(14,Z4u v5),(100000,Z4p v6_1)]⟩ ?_
   refine AV _ rfl (fun h2 => ?_) (fun h2 => ?_)
   ·refine rs 69 (ML (Ak.mk (W64 ((W64 (30*v8))-6)) (W64 ((W64 (10*(AA v5 2).1))-6)) (W64 ((W64 (30*v8))+6)) (W64 ((W64 (10*(AA v5 2).1))+6)))) ⟨(N8 l v8),[(4,Z4d),(6,Z4o name v6_1),(9,.cells [.s (Ah v8),.i (Z4v v8 v5).Kind,lst 7 AF.c (Z4v v8 v5).Edges,.i (Z4v v8 v5).R,.i (W64 (30*v8)),.i (W64 (10*(AA v5 2).1)),.i 0] 102),(14,Z4u v5),(100000,Z4p v6_1)]⟩ (UF (Ak.mk (W64 ((W64 (30*v8))-6)) (W64 ((W64 (10*(AA v5 2).1))-6)) (W64 ((W64 (30*v8))+6)) (W64 ((W64 (10*(AA v5 2).1))+6))))<|BN<|AG ?_
    refine Ay ?_
    first | rfl | (simp only [h2,Z4z,Z4A,cond_true,cond_false] <;> rfl)
   have g2:=oF h2
   refine AB<|rn ⟨(Bw [(7,Z4f l),(8,tI v8),(9,tP 9 0),(10,tP 10 0),(71,tB (decide (((AA (AA v5 2).2 3).1:Int)=1)))]),[(4,Z4d),(6,Z4o name v6_1),(9,Z4r v8 v5),(10,Z4s v8 v5),(14,Z4u v5),(100000,Z4p v6_1)]⟩ ?_
   refine AV _ rfl (fun h3 => ?_) (fun h3 => ?_)
   ·have g3:=oT h3
    refine dw [] [(75,(Z4w v5)),(77,Up (AC.mk (W64 (30*v8)) (W64 (10*(AA v5 2).1))) (W64 (4+(AA (IG v5).2 3).1)))] [Ap (Z4w v5).2.1,Bv (.cells (AD.c (AA (AA v5 2).2 3).2) 117),Ap (Up (AC.mk (W64 (30*v8)) (W64 (10*(AA v5 2).1))) (W64 (4+(AA (AA (AA v5 2).2 3).2 3).1))).2.1] ⟨(N8 l v8),[(4,Z4d),(6,Z4o name v6_1),(9,.cells [.s (Ah v8),.i (Z4y v8 v5).Kind,lst 7 AF.c (Z4y v8 v5).Edges,.i (Z4y v8 v5).R,.i (W64 (30*v8)),.i (W64 (10*(AA v5 2).1)),.i 0] 102),(14,.cells (AD.c (Z4x v5)) 117),(100000,Z4p v6_1)]⟩ (.cons (cWr (BU (AA (AA v5 2).2 3).2 3 au7 au9)) (.cons (qI (AC.mk (W64 (30*v8)) (W64 (10*(AA v5 2).1))) (W64 (4+(AA (AA (AA v5 2).2 3).2 3).1))) .nil)) (.cons rfl (.cons rfl (.cons rfl .nil)))<|BN<|AG ?_
    refine Ay ?_
    first | rfl | (simp only [h2,h3,Z4z,Z4A,cond_true,cond_false] <;> rfl)
   refine rg ⟨(N8 l v8),[(4,Z4d),(6,Z4o name v6_1),(9,.cells [.s (Ah v8),.i 1,.list true 7 1 (As 7 1 [.i 1,.i (W64 ((W64 (30*v8))-2)),.i (W64 (10*(AA v5 2).1)),.i (W64 ((W64 (30*v8))+2)),.i (W64 (10*(AA v5 2).1)),.i 0,.i 0]),.i 4,.i (W64 (30*v8)),.i (W64 (10*(AA v5 2).1)),.i 0] 102),(14,Z4u v5),(100000,Z4p v6_1)]⟩<|BN<|AG ?_
   refine Cv.trans (BM (⟨(N8 l v8),[(4,Z4d),(6,Z4o name v6_1),(9,.cells [.s (Ah v8),.i 1,lst 7 AF.c [AF.mk 1 (AC.mk (W64 ((W64 (30*v8))-2)) (W64 (10*(AA v5 2).1))) (AC.mk (W64 ((W64 (30*v8))+2)) (W64 (10*(AA v5 2).1))) (AC.mk 0 0)],.i 4,.i (W64 (30*v8)),.i (W64 (10*(AA v5 2).1)),.i 0] 102),(14,Z4u v5),(100000,Z4p v6_1)]⟩) lr (.cons ⟨rfl,.refl _⟩ (.cons ⟨rfl,.refl _⟩ (.cons ⟨rfl,.cells _ (rr2 (.cons (BZ true (Aq (c:=AF.c) (xs:=([AF.mk 1 (AC.mk (W64 ((W64 (30*v8))-2)) (W64 (10*(AA v5 2).1))) (AC.mk (W64 ((W64 (30*v8))+2)) (W64 (10*(AA v5 2).1))) (AC.mk 0 0)]:List AF)) rfl kr)) (rr (rr (rr (rr .nil))))))⟩ lr)))) (Ay ?_)
   first | rfl | (simp only [h2,h3,Z4z,Z4A,cond_true,cond_false] <;> rfl)
  refine AB<|rc [(80,(Z4B v5)),(83,(Z4C v5))] [Ap (Z4B v5).2.1,Bv (.cells (AD.c (Z4z v5)) 117),Ap (Z4C v5).2.1,Bv (.cells (AD.c (AA (Z4z v5) 4).2) 117)] ⟨(N8 l v8),[(4,Z4d),(6,Z4o name v6_1),(9,.cells (fU v8 v5) 102),(TH v5),(100000,Z4p v6_1)]⟩ (.cons (cWr (BU (Z4z v5) 4 au7 au9)) (.cons (cWr (BU (AA (Z4z v5) 4).2 2 au7 au9)) .nil)) (.cons rfl (.cons rfl (.cons rfl (.cons rfl .nil))))<|AG ?_
  refine rc [] [v6_1.length=v6_1.length,v6_1.length+1<=maxLen,(v6_1.length+1)*80<=140737488355328] ⟨(Bw [(7,Z4f l),(8,tI v8)]),[(4,Z4d),(6,.cells [.s name,.own 90 7 (v6_1.length+1),vN] 82),(TH v5),(90,.row 7 (v6_1.length+1) (fun i_ j_=>if i_<v6_1.length then (AO A1.c v6_1) i_ j_ else (As 7 1 (fU v8 v5)) (i_-v6_1.length) j_) 102)]⟩ .nil (.cons rfl (.cons au3 (.cons au3 .nil)))<|BN<|AG ?_
  refine BS (Cv.trans (BM (⟨(Bw [(7,Z4f l),(8,tI v8)]),[(4,Z4d),(6,.cells [.s name,.own 90 7 (bB v6_1 v8 v5).length,vN] 82),(TH v5),(90,.row 7 (bB v6_1 v8 v5).length (AO A1.c (bB v6_1 v8 v5)) 102)]⟩) lr (.cons ⟨rfl,.refl _⟩ (.cons ⟨rfl,.cells _ (rr (.cons (.own _ _ au2) (rr .nil)))⟩ (.cons ⟨rfl,.refl _⟩ (.cons ⟨rfl,Am 102 (BR (BI 7 A1.c v6_1) (Aq (c:=A1.c) (xs:=([A1.mk (Ah v8) (AP.mk (bif decide (((AA (AA v5 2).2 3).1:Int)=0) then (Z4v v8 v5).Kind else (bif decide (((AA (AA v5 2).2 3).1:Int)=1) then (Z4y v8 v5).Kind else 1)) (Z4A v5 v8) (bif decide (((AA (AA v5 2).2 3).1:Int)=0) then (Z4v v8 v5).R else (bif decide (((AA (AA v5 2).2 3).1:Int)=1) then (Z4y v8 v5).R else 4))) (AC.mk (W64 (30*v8)) (W64 (10*(AA v5 2).1))) (W64 ((W64 (2*(AA (Z4z v5) 4).1))*(AA (AA (Z4z v5) 4).2 2).1))]:List A1)) rfl kr))⟩ .nil))))) (Cv.refl _)) ?_
  refine rg ⟨(Bw [(7,Z4f l),(8,tI (W64 (v8+1)))]),[(4,Z4d),(6,.cells [.s name,.own 90 7 (bB v6_1 v8 v5).length,vN] 82),(TH v5),(90,.row 7 (bB v6_1 v8 v5).length (AO A1.c (bB v6_1 v8 v5)) 102)]⟩ ?_
  (try rw [(show W64 (v8+1)=v8+1 from Af oM au5)])
  refine AG ?_
  refine ⟨(n0,v6_1++[A1.mk (Ah v8) (AP.mk (bif decide (((AA (AA v5 2).2 3).1:Int)=0) then (Z4v v8 v5).Kind else (bif decide (((AA (AA v5 2).2 3).1:Int)=1) then (Z4y v8 v5).Kind else 1)) (Z4A v5 v8) (bif decide (((AA (AA v5 2).2 3).1:Int)=0) then (Z4v v8 v5).R else (bif decide (((AA (AA v5 2).2 3).1:Int)=1) then (Z4y v8 v5).R else 4))) (AC.mk (W64 (30*v8)) (W64 (10*(AA v5 2).1))) (W64 ((W64 (2*(AA (Z4z v5) 4).1))*(AA (AA (Z4z v5) 4).2 2).1))],Z4D v5,v8+1),⟨?_,?_,(by rw [<- hF0];simp only [C0,h1,cond_true,cond_false])⟩,Nat.lt_succ_self _,Cv.trans (vr 90 100000 hk0) (Ay kr)⟩
  ·show ((W64 (2+(AA (AD.mk l 0) 5).1))-(v8+1)).toNat<n0;omega
  exact ⟨(by show Bh (Z4D v5);repeat (first | with_reducible assumption | exact Cg (DW hll _) | with_reducible refine BT ?_ | with_reducible refine Ek ?_ | with_reducible refine Ds ?_ | with_reducible refine DG ?_  | with_reducible refine Cq ?_ ?_)),ax0,ax0,ax0⟩
 have g1:=oF h1
 have k1:=UZ g1 (by decide) (by decide) (by decide) (by decide)
 refine BF<|A3 ?_
 refine A3<|BG ?_
 refine AG<|AB<|AB ?_
 refine Bd (⟨(Bw [(Pt l),(98,tB (bif decide (((W64 (2+(AA (AD.mk l 0) 5).1)):Int)<4) then (bif decide (((W64 (2+(AA (AD.mk l 0) 5).1)):Int)<4) then decide ((0:Int)<(AA v5 3).1) else false) else (bif decide (((W64 (2+(AA (AD.mk l 0) 5).1)):Int)<4) then false else false)))]),[Cs,(6,.cells [.s name,.own 100000 7 v6_1.length,vN] 82),(14,.cells (AD.c (Z4F l v5)) 117),(Ln v6_1)]⟩) ?_ ?_
 ·refine WY (II l) (fun h2 => ?_) (fun h2 => ?_)
  ·have g2:=oT h2
   refine EX ?_
   refine Hp C2 4 [] [] [] [4,5,6,7,94,95] [4,6,14,100000] [] ⟨(Bw [(7,Z4f l),(94,Z4h l),(95,Z4i l)]),[(4,Z4d),(6,Z4o name v6_1),(Pq v5),(100000,Z4p v6_1)]⟩ .nil kr .nil ?_
   refine RG C2 2 true ((II l)=true) [] [(96,(Z4E v5))] [((II l)=true)->((II l)=true),Ap (Z4E v5).2.1,Bv (Nm v5)] ⟨(Bw [(7,Z4f l),(94,Z4h l),(95,Z4i l),(96,tI (AA v5 3).1)]),[(4,Z4d),(6,Z4o name v6_1),(14,.cells (AD.c (AA v5 3).2) 117),(100000,Z4p v6_1)]⟩ rfl kr h2 (.cons (cWr (BU v5 3 au7 au9)) .nil) kr (.cons id (.cons rfl (.cons rfl .nil))) ?_
   refine GL C2 [] [] [] [4,5,6,7,98] [4,6,14,100000] [(II l)=true->((II l)=true)] ⟨(Bw [(7,Z4f l),(98,tB (bif decide (((W64 (2+(HG l).1)):Int)<4) then decide ((0:Int)<(AA v5 3).1) else false))]),[(4,Z4d),(6,Z4o name v6_1),(14,.cells (AD.c (AA v5 3).2) 117),(100000,Z4p v6_1)]⟩ .nil kr (.cons id .nil)<|AG ?_
   refine Ay ?_
   first | rfl | (simp only [h2,Z4F,cond_true,cond_false] <;> rfl)
  have g2:=oF h2
  refine EX ?_
  refine Hp C2 4 [] [] [] [4,5,6,7,94,95] [4,6,14,100000] [] ⟨(Bw [(7,Z4f l),(94,Z4h l),(95,Z4i l)]),[(4,Z4d),(6,Z4o name v6_1),(Pq v5),(100000,Z4p v6_1)]⟩ .nil kr .nil ?_
  refine HT 2 true ((II l)=true) ⟨(Bw [(7,Z4f l),(94,Z4h l),(95,Z4i l),(96,.grd ((II l)=true) (.one (.b false)))]),[(4,Z4d),(6,Z4o name v6_1),(Pq v5),(100000,Z4p v6_1)]⟩ rfl kr (fun e=>by rw [h2] at e;cases e) kr kr ?_
  refine GL C2 [] [] [] [4,5,6,7,98] [4,6,14,100000] [¬ ((II l)=true),(II l)=true->((II l)=true)] ⟨(Bw [(7,Z4f l),(98,tB (bif decide (((W64 (2+(HG l).1)):Int)<4) then false else false))]),[(4,Z4d),(6,Z4o name v6_1),(Pq v5),(100000,Z4p v6_1)]⟩ .nil kr (.cons (fun e=>by rw [h2] at e;cases e) (.cons id .nil))<|AG ?_
  refine Ay ?_
  first | rfl | (simp only [h2,Z4F,cond_true,cond_false] <;> rfl)
 refine Bd (⟨(Bw [(Pt l)]),[Cs,(6,.cells [.s name,.own 100000 7 v6_1.length,.own 100001 2 (Z4K l v5).length] 82),(14,.cells (AD.c (Z4J l v5)) 117),(Ln v6_1),(100001,.row 2 (Z4K l v5).length (AO A5.c (Z4K l v5)) 180)]⟩) ?_ ?_
 ·refine AV (bif decide (((W64 (2+(AA (AD.mk l 0) 5).1)):Int)<4) then (bif decide (((W64 (2+(AA (AD.mk l 0) 5).1)):Int)<4) then decide ((0:Int)<(AA v5 3).1) else false) else (bif decide (((W64 (2+(AA (AD.mk l 0) 5).1)):Int)<4) then false else false)) kr (fun h2 => ?_) (fun h2 => ?_)
  ·refine Cu C2 [107] [] [(99,CX 0),(101,CX 1),(103,(Z4G l v5))] [4,5,6,7] [4,6,14,107,100000] [Ap (CX 0).2.1,Ap (CX 1).2.1,Ap (Z4G l v5).2.1,Bv (.cells (AD.c (Z4F l v5)) 117)] ⟨(Jz l),[(4,Z4d),(6,.cells [.s name,.own 100000 7 v6_1.length,.own 107 2 1] 82),(14,Z4H l v5),(107,.row 2 1 (As 2 1 [.i 0,.list true 2 2 (As 2 2 [.s (Ah 0),.i 1,.s (Ah 1),.i (AA (Z4F l v5) 2).1])]) 180),(100000,Z4p v6_1)]⟩ (.cons (Eb 0 au10) (.cons (Eb 1 au10) (.cons (cWr (BU (Z4F l v5) 2 au7 au9)) .nil))) kr (.cons rfl (.cons rfl (.cons rfl (.cons rfl .nil))))<|AG ?_
   refine Cv.trans (BM (⟨(Jz l),[(4,Z4d),(6,.cells [.s name,.own 100000 7 v6_1.length,.own 107 2 ([A5.mk 0 [Bm.mk (Ah 0) 1,Bm.mk (Ah 1) (AA (Z4F l v5) 2).1]].length)] 82),(14,Z4H l v5),(107,Z4I l v5),(100000,Z4p v6_1)]⟩) lr (.cons ⟨rfl,.refl _⟩ (.cons ⟨rfl,.cells _ (rr2 (.cons (.own _ _ au2) .nil))⟩ (.cons ⟨rfl,.refl _⟩ (.cons ⟨rfl,Am 180 (Fi (c:=A5.c) (xs:=([A5.mk 0 [Bm.mk (Ah 0) 1,Bm.mk (Ah 1) (AA (Z4F l v5) 2).1]]:List A5)) (y:=[[.i 0,.list true 2 2 (As 2 2 [.s (Ah 0),.i 1,.s (Ah 1),.i (AA (Z4F l v5) 2).1])]]) (z:=[[.i 0,lst 2 Bm.c [Bm.mk (Ah 0) 1,Bm.mk (Ah 1) (AA (Z4F l v5) 2).1]]]) rfl kr kr (.cons (rr (.cons (BZ true (Aq (c:=Bm.c) (xs:=([Bm.mk (Ah 0) 1,Bm.mk (Ah 1) (AA (Z4F l v5) 2).1]:List Bm)) rfl kr)) .nil)) .nil))⟩ lr))))) (Cv.trans (vr 107 100001 hk0) (Cv.trans (ck (⟨(Jz l),[(4,Z4d),(6,Z50 name v6_1 l v5),(14,Z4H l v5),(100000,Z4p v6_1),(100001,Z4I l v5)]⟩)) (Ay ?_)))
   first | rfl | (simp only [h2,Z4J,Z4K,cond_true,cond_false] <;> rfl)
  refine AY<|AG ?_
  refine Cv.trans (vk [4,5,6,7] [4,6,14,100000]) (Cv.trans (wg (⟨(Jz l),[(100001,.row 2 0 (fun _ _=>default) 180),(4,Z4d),(6,.cells [.s name,.own 100000 7 v6_1.length,.own 100001 2 0] 82),(14,.cells (AD.c (Z4F l v5)) 117),(100000,Z4p v6_1)]⟩) 100001 2 (fun _ _=>default) 180 [] [(6,[2])] hk0) (Cv.trans (BM (⟨(Jz l),[(100001,Z4j),(4,Z4d),(6,Z51 name v6_1),(14,.cells (AD.c (Z4F l v5)) 117),(100000,Z4p v6_1)]⟩) lr (.cons ⟨rfl,Am 180 (Cb 2 (fun _ _=>default) A5.c)⟩ (.cons ⟨rfl,.refl _⟩ (.cons ⟨rfl,.cells _ (rr2 (.cons (.own _ _ au2) .nil))⟩ lr)))) (Cv.trans (ck (⟨(Jz l),[(4,Z4d),(6,Z51 name v6_1),(14,.cells (AD.c (Z4F l v5)) 117),(100000,Z4p v6_1),(100001,Z4j)]⟩)) (Ay ?_))))
  first | rfl | (simp only [h2,Z4J,Z4K,cond_true,cond_false] <;> rfl)
 refine AB<|AB ?_
 refine Bd (⟨(Bw [(Pt l),(115,tB (bif decide ((4:Int)<=(W64 (2+(AA (AD.mk l 0) 5).1))) then (bif decide ((4:Int)<=(W64 (2+(AA (AD.mk l 0) 5).1))) then decide ((0:Int)<(AA (Z4J l v5) 3).1) else false) else (bif decide ((4:Int)<=(W64 (2+(AA (AD.mk l 0) 5).1))) then false else false)))]),[Cs,(6,.cells [.s name,.own 100000 7 v6_1.length,.own 100001 2 (Z4K l v5).length] 82),(14,.cells (AD.c (Z4N l v5)) 117),(Ln v6_1),(100001,.row 2 (Z4K l v5).length (AO A5.c (Z4K l v5)) 180)]⟩) ?_ ?_
 ·refine WY (IJ l) (fun h2 => ?_) (fun h2 => ?_)
  ·have g2:=oT h2
   refine EX ?_
   refine Hp C2 4 [] [] [] [4,5,6,7,111,112] [4,6,14,100000,100001] [] ⟨(Bw [(7,Z4f l),(111,Z4k l),(112,Z4l l)]),(TD name v6_1 l v5 [(100001,Z4M l v5)])⟩ .nil kr .nil ?_
   refine RG C2 2 true ((IJ l)=true) [] [(113,(Z4L l v5))] [((IJ l)=true)->((IJ l)=true),Ap (Z4L l v5).2.1,Bv (.cells (AD.c (Z4J l v5)) 117)] ⟨(Bw [(7,Z4f l),(111,Z4k l),(112,Z4l l),(113,tI (AA (Z4J l v5) 3).1)]),[(4,Z4d),(6,Z52 name v6_1 l v5),(14,.cells (AD.c (AA (Z4J l v5) 3).2) 117),(100000,Z4p v6_1),(100001,Z4M l v5)]⟩ rfl kr h2 (.cons (cWr (BU (Z4J l v5) 3 au7 au9)) .nil) kr (.cons id (.cons rfl (.cons rfl .nil))) ?_
   refine GL C2 [] [] [] [4,5,6,7,115] [4,6,14,100000,100001] [(IJ l)=true->((IJ l)=true)] ⟨(Bw [(7,Z4f l),(115,tB (bif decide ((4:Int)<=(W64 (2+(HG l).1))) then decide ((0:Int)<(AA (Z4J l v5) 3).1) else false))]),[(4,Z4d),(6,Z52 name v6_1 l v5),(14,.cells (AD.c (AA (Z4J l v5) 3).2) 117),(100000,Z4p v6_1),(100001,Z4M l v5)]⟩ .nil kr (.cons id .nil)<|AG ?_
   refine Ay ?_
   first | rfl | (simp only [h2,Z4N,cond_true,cond_false] <;> rfl)
  have g2:=oF h2
  refine EX ?_
  refine Hp C2 4 [] [] [] [4,5,6,7,111,112] [4,6,14,100000,100001] [] ⟨(Bw [(7,Z4f l),(111,Z4k l),(112,Z4l l)]),(TD name v6_1 l v5 [(100001,Z4M l v5)])⟩ .nil kr .nil ?_
  refine HT 2 true ((IJ l)=true) ⟨(Bw [(7,Z4f l),(111,Z4k l),(112,Z4l l),(113,.grd ((IJ l)=true) (.one (.b false)))]),(TD name v6_1 l v5 [(100001,Z4M l v5)])⟩ rfl kr (fun e=>by rw [h2] at e;cases e) kr kr ?_
  refine GL C2 [] [] [] [4,5,6,7,115] [4,6,14,100000,100001] [¬ ((IJ l)=true),(IJ l)=true->((IJ l)=true)] ⟨(Bw [(7,Z4f l),(115,tB (bif decide ((4:Int)<=(W64 (2+(HG l).1))) then false else false))]),(TD name v6_1 l v5 [(100001,Z4M l v5)])⟩ .nil kr (.cons (fun e=>by rw [h2] at e;cases e) (.cons id .nil))<|AG ?_
  refine Ay ?_
  first | rfl | (simp only [h2,Z4N,cond_true,cond_false] <;> rfl)
 refine Bd (⟨(Bw [(Pt l)]),[Cs,(6,.cells [.s name,.own 100000 7 v6_1.length,.own 100002 2 (Z4S l v5).length] 82),(14,.cells (AD.c (Z4R l v5)) 117),(Ln v6_1),(100002,.row 2 (Z4S l v5).length (AO A5.c (Z4S l v5)) 180)]⟩) ?_ ?_
 ·refine AV (bif decide ((4:Int)<=(W64 (2+(AA (AD.mk l 0) 5).1))) then (bif decide ((4:Int)<=(W64 (2+(AA (AD.mk l 0) 5).1))) then decide ((0:Int)<(AA (Z4J l v5) 3).1) else false) else (bif decide ((4:Int)<=(W64 (2+(AA (AD.mk l 0) 5).1))) then false else false)) kr (fun h2 => ?_) (fun h2 => ?_)
  ·refine AB<|rb 117 (Z4O l v5) (.cells (AD.c (Z4N l v5)) 117) ⟨(Bw [(7,Z4f l),(11,tI (GW l v5).1)]),[(4,Z4d),(6,Z52 name v6_1 l v5),(14,Z4P l v5),(100000,Z4p v6_1),(100001,Z4M l v5)]⟩ (cWr (BU (Z4N l v5) 2 au7 au9))<|AG ?_
   refine Cu C2 [134] [] [(118,CX 0),(121,CX 1),(126,CX 2),(129,CX 3)] [4,5,6,7] [4,6,14,134,100000] [Ap (CX 0).2.1,Ap (CX 1).2.1,Ap (CX 2).2.1,Ap (CX 3).2.1] ⟨(Jz l),[(4,Z4d),(6,.cells [.s name,.own 100000 7 v6_1.length,.own 134 2 2] 82),(14,Z4P l v5),(134,.row 2 2 (As 2 2 [.i 1,.list true 2 2 (As 2 2 [.s (Ah 0),.i (GW l v5).1,.s (Ah 1),.i (GW l v5).1]),.i 1,.list true 2 2 (As 2 2 [.s (Ah 2),.i (GW l v5).1,.s (Ah 3),.i (GW l v5).1])]) 180),(100000,Z4p v6_1)]⟩ (.cons (Eb 0 au10) (.cons (Eb 1 au10) (.cons (Eb 2 au10) (.cons (Eb 3 au10) .nil)))) kr (.cons rfl (.cons rfl (.cons rfl (.cons rfl .nil))))<|AG ?_
   refine Cv.trans (BM (⟨(Jz l),[(4,Z4d),(6,.cells [.s name,.own 100000 7 v6_1.length,.own 134 2 ([A5.mk 1 [Bm.mk (Ah 0) (AA (Z4N l v5) 2).1,Bm.mk (Ah 1) (AA (Z4N l v5) 2).1],A5.mk 1 [Bm.mk (Ah 2) (AA (Z4N l v5) 2).1,Bm.mk (Ah 3) (AA (Z4N l v5) 2).1]].length)] 82),(14,Z4P l v5),(134,Z4Q l v5),(100000,Z4p v6_1)]⟩) lr (.cons ⟨rfl,.refl _⟩ (.cons ⟨rfl,.cells _ (rr2 (.cons (.own _ _ au2) .nil))⟩ (.cons ⟨rfl,.refl _⟩ (.cons ⟨rfl,Am 180 (Fi (c:=A5.c) (xs:=([A5.mk 1 [Bm.mk (Ah 0) (AA (Z4N l v5) 2).1,Bm.mk (Ah 1) (AA (Z4N l v5) 2).1],A5.mk 1 [Bm.mk (Ah 2) (AA (Z4N l v5) 2).1,Bm.mk (Ah 3) (AA (Z4N l v5) 2).1]]:List A5)) (y:=[[.i 1,.list true 2 2 (As 2 2 [.s (Ah 0),.i (AA (Z4N l v5) 2).1,.s (Ah 1),.i (AA (Z4N l v5) 2).1])],[.i 1,.list true 2 2 (As 2 2 [.s (Ah 2),.i (AA (Z4N l v5) 2).1,.s (Ah 3),.i (AA (Z4N l v5) 2).1])]]) (z:=[[.i 1,lst 2 Bm.c [Bm.mk (Ah 0) (AA (Z4N l v5) 2).1,Bm.mk (Ah 1) (AA (Z4N l v5) 2).1]],[.i 1,lst 2 Bm.c [Bm.mk (Ah 2) (AA (Z4N l v5) 2).1,Bm.mk (Ah 3) (AA (Z4N l v5) 2).1]]]) rfl kr kr (.cons (rr (.cons (BZ true (Aq (c:=Bm.c) (xs:=([Bm.mk (Ah 0) (AA (Z4N l v5) 2).1,Bm.mk (Ah 1) (AA (Z4N l v5) 2).1]:List Bm)) rfl kr)) .nil)) (.cons (rr (.cons (BZ true (Aq (c:=Bm.c) (xs:=([Bm.mk (Ah 2) (AA (Z4N l v5) 2).1,Bm.mk (Ah 3) (AA (Z4N l v5) 2).1]:List Bm)) rfl kr)) .nil)) .nil)))⟩ lr))))) (Cv.trans (vr 134 100002 hk0) (Cv.trans (ck (⟨(Jz l),[(4,Z4d),(6,Z53 name v6_1 l v5),(14,Z4P l v5),(100000,Z4p v6_1),(100002,Z4Q l v5)]⟩)) (Ay ?_)))
   first | rfl | (simp only [h2,Z4R,Z4S,cond_true,cond_false] <;> rfl)
  refine AY<|AG ?_
  refine Cv.trans (vk [4,5,6,7] [4,6,14,100000,100001]) (Cv.trans (wr (⟨(Jz l),[(4,Z4d),(6,.cells [.s name,.own 100000 7 v6_1.length,.own 100002 2 (Z4K l v5).length] 82),(14,.cells (AD.c (Z4N l v5)) 117),(100000,Z4p v6_1),(100002,Z4M l v5)]⟩) 100001 100002 hk0) (Ay ?_))
  first | rfl | (simp only [h2,Z4R,Z4S,cond_true,cond_false] <;> rfl)
 refine AB<|AB ?_
 refine Bd (⟨(Bw [(148,tB (bif bif decide (((W64 (2+(AA (AD.mk l 0) 5).1)):Int)=6) then decide ((0:Int)<(((Z4S l v5).length:Nat):Int)) else false then (bif bif decide (((W64 (2+(AA (AD.mk l 0) 5).1)):Int)=6) then decide ((0:Int)<(((Z4S l v5).length:Nat):Int)) else false then decide (((AA (Z4R l v5) 2).1:Int)=1) else false) else (bif bif decide (((W64 (2+(AA (AD.mk l 0) 5).1)):Int)=6) then decide ((0:Int)<(((Z4S l v5).length:Nat):Int)) else false then false else false)))]),[Cs,(6,.cells [.s name,.own 100000 7 v6_1.length,.own 100002 2 (Z4S l v5).length] 82),(14,.cells (AD.c (Z4V l v5)) 117),(Ln v6_1),(100002,.row 2 (Z4S l v5).length (AO A5.c (Z4S l v5)) 180)]⟩) ?_ ?_
 ·refine WY (bif decide (((W64 (2+(AA (AD.mk l 0) 5).1)):Int)=6) then decide ((0:Int)<(((Z4S l v5).length:Nat):Int)) else false) (fun h2 => ?_) (fun h2 => ?_)
  ·have g2:=Pd h2
   refine EX ?_
   refine Hp C2 10 [] [] [] [4,5,6,144,145] [4,6,14,100000,100002] [((Gk l)=true)->((Gk l)=true),((Gk l)=true)->((Gk l)=true),((Gk l)=true)->((Gk l)=true),(Gk l)=true->((Gk l)=true)] ⟨(Bw [(144,tB (Me l v5)),(145,.grd ((Me l v5)=true) Nx)]),(TC name v6_1 l v5 [(100002,Z4U l v5)])⟩ .nil kr (.cons id (.cons id (.cons id (.cons id .nil)))) ?_
   refine RG C2 8 true ((bif decide (((W64 (2+(AA (AD.mk l 0) 5).1)):Int)=6) then decide ((0:Int)<(((Z4S l v5).length:Nat):Int)) else false)=true) [] [(146,(Z4T l v5))] [((bif decide (((W64 (2+(AA (AD.mk l 0) 5).1)):Int)=6) then decide ((0:Int)<(((Z4S l v5).length:Nat):Int)) else false)=true)->((bif decide (((W64 (2+(AA (AD.mk l 0) 5).1)):Int)=6) then decide ((0:Int)<(((Z4S l v5).length:Nat):Int)) else false)=true),Ap (Z4T l v5).2.1,Bv (.cells (AD.c (Z4R l v5)) 117)] ⟨(Bw [(144,tB (Me l v5)),(145,.grd ((Me l v5)=true) Nx),(146,tI (AA (Z4R l v5) 2).1)]),[(4,Z4d),(6,Z54 name v6_1 l v5),(14,.cells (AD.c (AA (Z4R l v5) 2).2) 117),(100000,Z4p v6_1),(100002,Z4U l v5)]⟩ rfl kr h2 (.cons (cWr (BU (Z4R l v5) 2 au7 au9)) .nil) kr (.cons id (.cons rfl (.cons rfl .nil))) ?_
   refine GL C2 [] [] [] [4,5,6,148] [4,6,14,100000,100002] [(bif decide (((W64 (2+(AA (AD.mk l 0) 5).1)):Int)=6) then decide ((0:Int)<(((Z4S l v5).length:Nat):Int)) else false)=true->((bif decide (((W64 (2+(AA (AD.mk l 0) 5).1)):Int)=6) then decide ((0:Int)<(((Z4S l v5).length:Nat):Int)) else false)=true)] ⟨(Bw [(148,tB (bif bif decide (((W64 (2+(HG l).1)):Int)=6) then decide ((0:Int)<(((Z4S l v5).length:Nat):Int)) else false then decide (((AA (Z4R l v5) 2).1:Int)=1) else false))]),[(4,Z4d),(6,Z54 name v6_1 l v5),(14,.cells (AD.c (AA (Z4R l v5) 2).2) 117),(100000,Z4p v6_1),(100002,Z4U l v5)]⟩ .nil kr (.cons id .nil)<|AG ?_
   refine Ay ?_
   first | rfl | (simp only [h2,Z4V,cond_true,cond_false] <;> rfl)
  refine EX ?_
  refine Hp C2 10 [] [] [] [4,5,6,144,145] [4,6,14,100000,100002] [((Gk l)=true)->((Gk l)=true),((Gk l)=true)->((Gk l)=true),((Gk l)=true)->((Gk l)=true),(Gk l)=true->((Gk l)=true)] ⟨(Bw [(144,tB (Me l v5)),(145,.grd ((Me l v5)=true) Nx)]),(TC name v6_1 l v5 [(100002,Z4U l v5)])⟩ .nil kr (.cons id (.cons id (.cons id (.cons id .nil)))) ?_
  refine HT 8 true ((bif decide (((W64 (2+(AA (AD.mk l 0) 5).1)):Int)=6) then decide ((0:Int)<(((Z4S l v5).length:Nat):Int)) else false)=true) ⟨(Bw [(144,tB (Me l v5)),(145,.grd ((Me l v5)=true) Nx),(146,.grd ((Me l v5)=true) (.one (.b false)))]),(TC name v6_1 l v5 [(100002,Z4U l v5)])⟩ rfl kr (fun e=>by rw [h2] at e;cases e) kr kr ?_
  refine GL C2 [] [] [] [4,5,6,148] [4,6,14,100000,100002] [¬ ((bif decide (((W64 (2+(AA (AD.mk l 0) 5).1)):Int)=6) then decide ((0:Int)<(((Z4S l v5).length:Nat):Int)) else false)=true),(bif decide (((W64 (2+(AA (AD.mk l 0) 5).1)):Int)=6) then decide ((0:Int)<(((Z4S l v5).length:Nat):Int)) else false)=true->((bif decide (((W64 (2+(AA (AD.mk l 0) 5).1)):Int)=6) then decide ((0:Int)<(((Z4S l v5).length:Nat):Int)) else false)=true)] ⟨(Bw [(148,tB (bif bif decide (((W64 (2+(HG l).1)):Int)=6) then decide ((0:Int)<(((Z4S l v5).length:Nat):Int)) else false then false else false))]),(TC name v6_1 l v5 [(100002,Z4U l v5)])⟩ .nil kr (.cons (fun e=>by rw [h2] at e;cases e) (.cons id .nil))<|AG ?_
  refine Ay ?_
  first | rfl | (simp only [h2,Z4V,cond_true,cond_false] <;> rfl)
 refine Bd (⟨P2,[Cs,(6,.cells [.s name,.own 100000 7 v6_1.length,.own 100003 2 (Z4Y l v5).length] 82),(Ln v6_1),(100003,.row 2 (Z4Y l v5).length (AO A5.c (Z4Y l v5)) 180)]⟩) ?_ ?_
 ·refine AV (bif bif decide (((W64 (2+(AA (AD.mk l 0) 5).1)):Int)=6) then decide ((0:Int)<(((Z4S l v5).length:Nat):Int)) else false then (bif bif decide (((W64 (2+(AA (AD.mk l 0) 5).1)):Int)=6) then decide ((0:Int)<(((Z4S l v5).length:Nat):Int)) else false then decide (((AA (Z4R l v5) 2).1:Int)=1) else false) else (bif bif decide (((W64 (2+(AA (AD.mk l 0) 5).1)):Int)=6) then decide ((0:Int)<(((Z4S l v5).length:Nat):Int)) else false then false else false)) kr (fun h2 => ?_) (fun h2 => ?_)
  ·refine dw [] [(152,(Z4W l v5)),(153,CX 5),(163,CX 4)] [Ap (Z4W l v5).2.1,Bv (.cells (AD.c (Z4V l v5)) 117),Ap (CX 5).2.1,0<=(0:Int)/\(0:Int)<(((Z4S l v5).length:Nat):Int),0<(Z4S l v5).length,0<=(0:Int)/\(0:Int)<((((Z4S l v5).getD 0 default).Legs.length:Nat):Int),Ap (CX 4).2.1,0<=(0:Int)/\(0:Int)<(((Z4S l v5).length:Nat):Int),0<(Z4S l v5).length,0<=(1:Int)/\(1:Int)<((((Z4S l v5).getD 0 default).Legs.length:Nat):Int),(Z4S l v5).length=(Z4S l v5).length,(Z4S l v5).length+1<=maxLen,((Z4S l v5).length+1)*32<=140737488355328] ⟨P2,[(4,Z4d),(6,.cells [.s name,.own 100000 7 v6_1.length,.own 176 2 ((Z4S l v5).length+1)] 82),(176,.row 2 ((Z4S l v5).length+1) (fun i_ j_=>if i_<(Z4S l v5).length then (AO A5.c (Z4S l v5)) i_ j_ else (As 2 1 [.i (AA (Z4V l v5) 3).1,.list true 2 2 (As 2 2 [.s (Ah 5),.i (((Z4S l v5).getD 0 default).Legs.getD 0 default).Group,.s (Ah 4),.i (((Z4S l v5).getD 0 default).Legs.getD 1 default).Group])]) (i_-(Z4S l v5).length) j_) 180),(100000,Z4p v6_1)]⟩ (.cons (cWr (BU (Z4V l v5) 3 au7 au9)) (.cons (Eb 5 au10) (.cons (Eb 4 au10) .nil))) (.cons rfl (.cons rfl (.cons rfl (.cons ⟨by decide,(Ih (by with_reducible assumption))⟩ (.cons (Zs (Ih (by with_reducible assumption))) (.cons (aF (by decide) rfl rfl rfl (Ih (by with_reducible assumption))) (.cons rfl (.cons ⟨by decide,(Ih (by with_reducible assumption))⟩ (.cons (Zs (Ih (by with_reducible assumption))) (.cons (aF (by decide) rfl rfl rfl (Ih (by with_reducible assumption))) (.cons rfl (.cons (lK (SU rfl)) (.cons (lL (SU rfl)) .nil)))))))))))))<|AG ?_
   refine Cv.trans (BM (⟨P2,[(4,Z4d),(6,.cells [.s name,.own 100000 7 v6_1.length,.own 176 2 ((Z4S l v5)++[A5.mk (AA (Z4V l v5) 3).1 [Bm.mk (Ah 5) (((Z4S l v5).getD 0 default).Legs.getD 0 default).Group,Bm.mk (Ah 4) (((Z4S l v5).getD 0 default).Legs.getD 1 default).Group]]).length] 82),(176,Z4X l v5),(100000,Z4p v6_1)]⟩) lr (.cons ⟨rfl,.refl _⟩ (.cons ⟨rfl,.cells _ (rr2 (.cons (.own _ _ au2) .nil))⟩ (.cons ⟨rfl,Am 180 (BR (BI 2 A5.c (Z4S l v5)) (Fi (c:=A5.c) (xs:=([A5.mk (AA (Z4V l v5) 3).1 [Bm.mk (Ah 5) (((Z4S l v5).getD 0 default).Legs.getD 0 default).Group,Bm.mk (Ah 4) (((Z4S l v5).getD 0 default).Legs.getD 1 default).Group]]:List A5)) (y:=[[.i (AA (Z4V l v5) 3).1,.list true 2 2 (As 2 2 [.s (Ah 5),.i (((Z4S l v5).getD 0 default).Legs.getD 0 default).Group,.s (Ah 4),.i (((Z4S l v5).getD 0 default).Legs.getD 1 default).Group])]]) (z:=[[.i (AA (Z4V l v5) 3).1,lst 2 Bm.c [Bm.mk (Ah 5) (((Z4S l v5).getD 0 default).Legs.getD 0 default).Group,Bm.mk (Ah 4) (((Z4S l v5).getD 0 default).Legs.getD 1 default).Group]]]) rfl kr kr (.cons (rr (.cons (BZ true (Aq (c:=Bm.c) (xs:=([Bm.mk (Ah 5) (((Z4S l v5).getD 0 default).Legs.getD 0 default).Group,Bm.mk (Ah 4) (((Z4S l v5).getD 0 default).Legs.getD 1 default).Group]:List Bm)) rfl kr)) .nil)) .nil)))⟩ lr)))) (Cv.trans (vr 176 100003 hk0) (Cv.trans (ck (⟨P2,[(4,Z4d),(6,Z55 name v6_1 l v5),(100000,Z4p v6_1),(100003,Z4X l v5)]⟩)) (Ay ?_)))
   first | rfl | (simp only [h2,Z4Y,cond_true,cond_false] <;> rfl)
  refine AY<|AG ?_
  refine Cv.trans (vk [4,6] [4,6,100000,100002]) (Cv.trans (wr (⟨P2,[(4,Z4d),(6,.cells [.s name,.own 100000 7 v6_1.length,.own 100003 2 (Z4S l v5).length] 82),(100000,Z4p v6_1),(100003,Z4U l v5)]⟩) 100002 100003 hk0) (Ay ?_))
  first | rfl | (simp only [h2,Z4Y,cond_true,cond_false] <;> rfl)
 refine AB<|rn ⟨[(4,tP 4 0)],[(4,.cells [.s name,.own 100000 7 v6_1.length,.own 100003 2 (Z4Y l v5).length] 82),(100000,Z4p v6_1),(100003,Z4Z l v5)]⟩<|AW ?_
 exact yl (Cv.trans (vf 100000 7 v6_1.length (AO A1.c v6_1) 102 hk0 (.cons ⟨rfl,rfl⟩ .nil)) (Cv.trans (vf 100003 2 (Z4Y l v5).length (AO A5.c (Z4Y l v5)) 180 hk0 (.cons ⟨rfl,rfl⟩ .nil)) (Cv.refl _))) (.av (.agg [.s name,lst 7 A1.c v6_1,lst 2 A5.c (Z4Y l v5)])) (Aa (by rw [<- hF0];first | (simp only [C0,h1,cond_true,cond_false] <;> rfl)))
theorem Vi (l:(List Int)) (name:ByteArray) (hl:(l.length:Int)<=9223372036854775807):OKc (Ky l name):=cPu<|pP l name hl
def K6 (x0:AC) (x1:AC):AF:=AF.mk 1 x0 x1 (AC.mk 0 0)
def GA:CT:=(94,[.agg (AC.c x0),.agg (AC.c x1)],.val [] (.av (.agg (AF.c (K6 x0 x1)))))
theorem pC (x0:AC) (x1:AC):PuP 94 (GA x0 x1).2.1 (.av (.agg (AF.c (K6 x0 x1)))):=by
 refine pwf Tryz.func94 fun W0 M0 => ?_
 refine AB<|rn ⟨Lo,(fF x0 x1)⟩<|AB ?_
 refine rn ⟨[(4,tP 4 0)],[(4,.cells (TR x0 x1) 68)]⟩<|AW ?_
 exact xl (.av (.agg (TR x0 x1))) (Aa (by rfl))
theorem Mp (x0:AC) (x1:AC):OKc (GA x0 x1):=cPu<|pC x0 x1
def Z56:Blk:=.cells [.i 0,vN,.i 0] 28
def Z57:Blk:=.cells [.i 2,vN,.i 0] 28
def Z58:Blk:=.cells [.i (W64 (r.X1-radius)),.i (W64 (r.Y0+radius)),.i (W64 (r.X1-radius)),.i (W64 (r.Y1-radius)),.i (W64 (r.X0+radius)),.i (W64 (r.Y1-radius)),.i (W64 (r.X0+radius)),.i (W64 (r.Y0+radius))] 199
def Z59:AF:=FE (AC.mk (W64 (r.X1-radius)) (W64 (r.Y0+radius))) radius 3 2
def Z5a:AF:=FE (AC.mk (W64 (r.X1-radius)) (W64 (r.Y1-radius))) radius 4 2
def Z5b:Blk:=.cells (AF.c (Z5a r radius)) 68
def Z5c:AF:=K6 (Z59 r radius).B (Z5a r radius).A
def Z5d:Blk:=.cells [.i 2,.own 77 7 ([Z59 r radius,Z5c r radius].length),.i 0] 28
def Z5e:Blk:=.row 7 ([Z59 r radius,Z5c r radius].length) (AO AF.c [Z59 r radius,Z5c r radius]) 68
def Z5f:Blk:=.cells [.i 2,.own 100000 7 ([Z59 r radius,Z5c r radius].length),.i 0] 28
def Z5g:AF:=FE (AC.mk (W64 (r.X0+radius)) (W64 (r.Y1-radius))) radius 5 2
def Z5h:Blk:=.cells (AF.c (Z5g r radius)) 68
def Z5i:AF:=K6 (Z5a r radius).B (Z5g r radius).A
def Z5j:Blk:=.cells [.i 2,.own 77 7 ([Z59 r radius,Z5c r radius]++[Z5a r radius,Z5i r radius]).length,.i 0] 28
def Z5k:Blk:=.row 7 ([Z59 r radius,Z5c r radius]++[Z5a r radius,Z5i r radius]).length (AO AF.c ([Z59 r radius,Z5c r radius]++[Z5a r radius,Z5i r radius])) 68
def Z5l:Blk:=.cells [.i 2,.own 100001 7 ([Z59 r radius,Z5c r radius]++[Z5a r radius,Z5i r radius]).length,.i 0] 28
def Z5m:AF:=FE (AC.mk (W64 (r.X0+radius)) (W64 (r.Y0+radius))) radius 6 2
def Z5n:Blk:=.cells (AF.c (Z5m r radius)) 68
def Z5o:AF:=K6 (Z5g r radius).B (Z5m r radius).A
def Z5p:Blk:=.cells [.i 2,.own 77 7 (([Z59 r radius,Z5c r radius]++[Z5a r radius,Z5i r radius])++[Z5g r radius,Z5o r radius]).length,.i 0] 28
abbrev fH:=AO AF.c (([Z59 r radius,Z5c r radius]++[Z5a r radius,Z5i r radius])++[Z5g r radius,Z5o r radius])
def Z5q:Blk:=.row 7 (([Z59 r radius,Z5c r radius]++[Z5a r radius,Z5i r radius])++[Z5g r radius,Z5o r radius]).length (fH r radius) 68
def Z5r:Blk:=.cells [.i 2,.own 100002 7 (([Z59 r radius,Z5c r radius]++[Z5a r radius,Z5i r radius])++[Z5g r radius,Z5o r radius]).length,.i 0] 28
def Z5s:AF:=FE (AC.mk (W64 (r.X1-radius)) (W64 (r.Y0+radius))) radius 7 2
def Z5t:AF:=K6 (Z5m r radius).B (Z5s r radius).A
def Z5u:Blk:=.cells [.i 2,.own 77 7 ((([Z59 r radius,Z5c r radius]++[Z5a r radius,Z5i r radius])++[Z5g r radius,Z5o r radius])++[Z5m r radius,Z5t r radius]).length,.i 0] 28
def Z5v:Blk:=.row 7 ((([Z59 r radius,Z5c r radius]++[Z5a r radius,Z5i r radius])++[Z5g r radius,Z5o r radius])++[Z5m r radius,Z5t r radius]).length (AO AF.c ((([Z59 r radius,Z5c r radius]++[Z5a r radius,Z5i r radius])++[Z5g r radius,Z5o r radius])++[Z5m r radius,Z5t r radius])) 68
def Z5w:Blk:=.cells [.i 2,.own 100003 7 ((([Z59 r radius,Z5c r radius]++[Z5a r radius,Z5i r radius])++[Z5g r radius,Z5o r radius])++[Z5m r radius,Z5t r radius]).length,.i 0] 28
def G3 (r:Ak) (radius:Int):AP:=AP.mk 2 ((([Z59 r radius,Z5c r radius]++[Z5a r radius,Z5i r radius])++[Z5g r radius,Z5o r radius])++[Z5m r radius,Z5t r radius]) 0
def OX:CT:=(43,[.agg (Ak.c r),.one (.i radius)],.val [] (.av (.agg (AP.c (G3 r radius)))))
abbrev Dt (t_:List (Nat×Tv)):List (Nat×Tv):=(1,tI radius)::(4,tP 4 0)::(5,tP 5 0)::(6,tP 6 0)::t_
abbrev TW:List (Nat×Tv):=(Dt radius [(7,tI 1)])
abbrev TV:List (Nat×Tv):=(Dt radius [(7,tI 2)])
abbrev TU:List (Nat×Tv):=(Dt radius [(7,tI 3)])
abbrev W5:List (Nat×Tv):=(Dt radius [(7,tI 0)])
theorem cG (r:Ak) (radius:Int):PuP 43 (OX r radius).2.1 (.av (.agg (AP.c (G3 r radius)))):=by
 refine pwf Tryz.func43 fun W0 M0 => ?_
 refine AB<|rn ⟨[(1,tI radius),(2,tP 2 0),(4,tP 4 0)],[(2,.cells (Ak.c r) 90),(4,Z56)]⟩<|AB ?_
 refine rn ⟨[(1,tI radius),(2,tP 2 0),(4,tP 4 0),(5,tP 5 0)],[(2,.cells (Ak.c r) 90),(4,Z56),(5,Z57)]⟩<|AB ?_
 refine rn ⟨(Dt radius []),[(4,Z56),(5,Z57),(6,Z58 r radius)]⟩ ?_
 refine AB<|AB ?_
 refine rn ⟨(W5 radius),[(4,Z56),(5,Z57),(6,Z58 r radius)]⟩<|AR ?_
 refine G0 5 ?_
 refine DZ<|AB<|AB ?_
 refine rn ⟨(Dt radius [(7,tI 0),(49,tB true)]),[(4,Z56),(5,Z57),(6,Z58 r radius)]⟩ ?_
 refine Cw kr<|AY ?_
 refine AG<|AB ?_
 refine AR<|AB ?_
 refine rc [(58,B8 (AC.mk (W64 (r.X1-radius)) (W64 (r.Y0+radius))) radius 3 2)] [0<=(0:Int)/\(0:Int)<(4:Int),Ap (B8 (AC.mk (W64 (r.X1-radius)) (W64 (r.Y0+radius))) radius 3 2).2.1] ⟨(Dt radius [(7,tI 0),(8,tP 8 0)]),[(4,Z56),(5,Z57),(6,Z58 r radius),(8,.cells (AF.c (Z59 r radius)) 68)]⟩ (.cons (D6 (AC.mk (W64 (r.X1-radius)) (W64 (r.Y0+radius))) radius 3 2) .nil) (.cons (by decide) (.cons rfl .nil))<|AG<|AB ?_
 refine rc [(67,B8 (AC.mk (W64 (r.X1-radius)) (W64 (r.Y1-radius))) radius 4 2)] [(4:Int)≠0,0<=(1:Int)/\(1:Int)<(4:Int),Ap (B8 (AC.mk (W64 (r.X1-radius)) (W64 (r.Y1-radius))) radius 4 2).2.1] ⟨(Dt radius [(7,tI 0),(8,tP 8 0),(9,tP 9 0)]),[(4,Z56),(5,Z57),(6,Z58 r radius),(8,.cells (AF.c (Z59 r radius)) 68),(9,Z5b r radius)]⟩ (.cons (D6 (AC.mk (W64 (r.X1-radius)) (W64 (r.Y1-radius))) radius 4 2) .nil) (.cons au15 (.cons (by decide) (.cons rfl .nil)))<|AG ?_
 refine dw [] [(75,GA (Z59 r radius).B (Z5a r radius).A)] [Ap (GA (Z59 r radius).B (Z5a r radius).A).2.1,2<=maxLen,2*56<=140737488355328] ⟨(W5 radius),[(4,Z56),(5,.cells [.i 2,.own 77 7 2,.i 0] 28),(6,Z58 r radius),(77,.row 7 2 (As 7 2 [.i (Z59 r radius).Kind,.i (Z59 r radius).A.X,.i (Z59 r radius).A.Y,.i (Z59 r radius).B.X,.i (Z59 r radius).B.Y,.i (Z59 r radius).C.X,.i (Z59 r radius).C.Y,.i (Z5c r radius).Kind,.i (Z5c r radius).A.X,.i (Z5c r radius).A.Y,.i (Z5c r radius).B.X,.i (Z5c r radius).B.Y,.i (Z5c r radius).C.X,.i (Z5c r radius).C.Y]) 68)]⟩ (.cons (Mp (Z59 r radius).B (Z5a r radius).A) .nil) (.cons rfl (.cons au3 (.cons au3 .nil)))<|BN<|AG ?_
 refine BS (Cv.trans (BM (⟨(W5 radius),[(4,Z56),(5,Z5d r radius),(6,Z58 r radius),(77,Z5e r radius)]⟩) lr (.cons ⟨rfl,.refl _⟩ (.cons ⟨rfl,.cells _ (rr (.cons (.own _ _ au2) (rr .nil)))⟩ (.cons ⟨rfl,.refl _⟩ (.cons ⟨rfl,Am 68 (Aq (c:=AF.c) (xs:=([Z59 r radius,Z5c r radius]:List AF)) rfl kr)⟩ .nil))))) (Cv.refl _)) ?_
 refine rn ⟨(TW radius),[(4,Z56),(5,Z5d r radius),(6,Z58 r radius),(77,Z5e r radius)]⟩ ?_
 refine DZ ?_
 refine BS (Cv.trans (wr (⟨(TW radius),[(4,Z56),(5,Z5f r radius),(6,Z58 r radius),(100000,Z5e r radius)]⟩) 77 100000 hk0) (Cv.refl _))<|AB<|AB ?_
 refine rn ⟨(Dt radius [(7,tI 1),(49,tB true)]),[(4,Z56),(5,Z5f r radius),(6,Z58 r radius),(100000,Z5e r radius)]⟩ ?_
 refine Cw kr<|AY ?_
 refine AG<|AB ?_
 refine AR<|AB ?_
 refine rc [(58,B8 (AC.mk (W64 (r.X1-radius)) (W64 (r.Y1-radius))) radius 4 2)] [0<=(1:Int)/\(1:Int)<(4:Int),Ap (B8 (AC.mk (W64 (r.X1-radius)) (W64 (r.Y1-radius))) radius 4 2).2.1] ⟨(Dt radius [(7,tI 1),(8,tP 8 0)]),[(4,Z56),(5,Z5f r radius),(6,Z58 r radius),(8,Z5b r radius),(100000,Z5e r radius)]⟩ (.cons (D6 (AC.mk (W64 (r.X1-radius)) (W64 (r.Y1-radius))) radius 4 2) .nil) (.cons (by decide) (.cons rfl .nil))<|AG<|AB ?_
 refine rc [(67,B8 (AC.mk (W64 (r.X0+radius)) (W64 (r.Y1-radius))) radius 5 2)] [(4:Int)≠0,0<=(2:Int)/\(2:Int)<(4:Int),Ap (B8 (AC.mk (W64 (r.X0+radius)) (W64 (r.Y1-radius))) radius 5 2).2.1] ⟨(Dt radius [(7,tI 1),(8,tP 8 0),(9,tP 9 0)]),[(4,Z56),(5,Z5f r radius),(6,Z58 r radius),(8,Z5b r radius),(9,Z5h r radius),(100000,Z5e r radius)]⟩ (.cons (D6 (AC.mk (W64 (r.X0+radius)) (W64 (r.Y1-radius))) radius 5 2) .nil) (.cons au15 (.cons (by decide) (.cons rfl .nil)))<|AG ?_
 refine dw [] [(75,GA (Z5a r radius).B (Z5g r radius).A)] [Ap (GA (Z5a r radius).B (Z5g r radius).A).2.1,[Z59 r radius,Z5c r radius].length=[Z59 r radius,Z5c r radius].length,([Z59 r radius,Z5c r radius].length)+2<=maxLen,(([Z59 r radius,Z5c r radius].length)+2)*56<=140737488355328] ⟨(TW radius),[(4,Z56),(5,.cells [.i 2,.own 77 7 (([Z59 r radius,Z5c r radius].length)+2),.i 0] 28),(6,Z58 r radius),(77,.row 7 (([Z59 r radius,Z5c r radius].length)+2) (fun i_ j_=>if i_<([Z59 r radius,Z5c r radius].length) then (AO AF.c [Z59 r radius,Z5c r radius]) i_ j_ else (As 7 2 [.i (Z5a r radius).Kind,.i (Z5a r radius).A.X,.i (Z5a r radius).A.Y,.i (Z5a r radius).B.X,.i (Z5a r radius).B.Y,.i (Z5a r radius).C.X,.i (Z5a r radius).C.Y,.i (Z5i r radius).Kind,.i (Z5i r radius).A.X,.i (Z5i r radius).A.Y,.i (Z5i r radius).B.X,.i (Z5i r radius).B.Y,.i (Z5i r radius).C.X,.i (Z5i r radius).C.Y]) (i_-([Z59 r radius,Z5c r radius].length)) j_) 68)]⟩ (.cons (Mp (Z5a r radius).B (Z5g r radius).A) .nil) (.cons rfl (.cons rfl (.cons au3 (.cons au3 .nil))))<|BN<|AG ?_
 refine BS (Cv.trans (BM (⟨(TW radius),[(4,Z56),(5,Z5j r radius),(6,Z58 r radius),(77,Z5k r radius)]⟩) lr (.cons ⟨rfl,.refl _⟩ (.cons ⟨rfl,.cells _ (rr (.cons (.own _ _ au2) (rr .nil)))⟩ (.cons ⟨rfl,.refl _⟩ (.cons ⟨rfl,Am 68 (BR (BI 7 AF.c [Z59 r radius,Z5c r radius]) (Aq (c:=AF.c) (xs:=([Z5a r radius,Z5i r radius]:List AF)) rfl kr))⟩ .nil))))) (Cv.refl _)) ?_
 refine rn ⟨(TV radius),[(4,Z56),(5,Z5j r radius),(6,Z58 r radius),(77,Z5k r radius)]⟩ ?_
 refine DZ ?_
 refine BS (Cv.trans (wr (⟨(TV radius),[(4,Z56),(5,Z5l r radius),(6,Z58 r radius),(100001,Z5k r radius)]⟩) 77 100001 hk0) (Cv.refl _))<|AB<|AB ?_
 refine rn ⟨(Dt radius [(7,tI 2),(49,tB true)]),[(4,Z56),(5,Z5l r radius),(6,Z58 r radius),(100001,Z5k r radius)]⟩ ?_
 refine Cw kr<|AY ?_
 refine AG<|AB ?_
 refine AR<|AB ?_
 refine rc [(58,B8 (AC.mk (W64 (r.X0+radius)) (W64 (r.Y1-radius))) radius 5 2)] [0<=(2:Int)/\(2:Int)<(4:Int),Ap (B8 (AC.mk (W64 (r.X0+radius)) (W64 (r.Y1-radius))) radius 5 2).2.1] ⟨(Dt radius [(7,tI 2),(8,tP 8 0)]),[(4,Z56),(5,Z5l r radius),(6,Z58 r radius),(8,Z5h r radius),(100001,Z5k r radius)]⟩ (.cons (D6 (AC.mk (W64 (r.X0+radius)) (W64 (r.Y1-radius))) radius 5 2) .nil) (.cons (by decide) (.cons rfl .nil))<|AG<|AB ?_
 refine rc [(67,B8 (AC.mk (W64 (r.X0+radius)) (W64 (r.Y0+radius))) radius 6 2)] [(4:Int)≠0,0<=(3:Int)/\(3:Int)<(4:Int),Ap (B8 (AC.mk (W64 (r.X0+radius)) (W64 (r.Y0+radius))) radius 6 2).2.1] ⟨(Dt radius [(7,tI 2),(8,tP 8 0),(9,tP 9 0)]),[(4,Z56),(5,Z5l r radius),(6,Z58 r radius),(8,Z5h r radius),(9,Z5n r radius),(100001,Z5k r radius)]⟩ (.cons (D6 (AC.mk (W64 (r.X0+radius)) (W64 (r.Y0+radius))) radius 6 2) .nil) (.cons au15 (.cons (by decide) (.cons rfl .nil)))<|AG ?_
 refine dw [] [(75,GA (Z5g r radius).B (Z5m r radius).A)] [Ap (GA (Z5g r radius).B (Z5m r radius).A).2.1,([Z59 r radius,Z5c r radius]++[Z5a r radius,Z5i r radius]).length=([Z59 r radius,Z5c r radius]++[Z5a r radius,Z5i r radius]).length,([Z59 r radius,Z5c r radius]++[Z5a r radius,Z5i r radius]).length+2<=maxLen,(([Z59 r radius,Z5c r radius]++[Z5a r radius,Z5i r radius]).length+2)*56<=140737488355328] ⟨(TV radius),[(4,Z56),(5,.cells [.i 2,.own 77 7 (([Z59 r radius,Z5c r radius]++[Z5a r radius,Z5i r radius]).length+2),.i 0] 28),(6,Z58 r radius),(77,.row 7 (([Z59 r radius,Z5c r radius]++[Z5a r radius,Z5i r radius]).length+2) (fun i_ j_=>if i_<([Z59 r radius,Z5c r radius]++[Z5a r radius,Z5i r radius]).length then (AO AF.c ([Z59 r radius,Z5c r radius]++[Z5a r radius,Z5i r radius])) i_ j_ else (As 7 2 [.i (Z5g r radius).Kind,.i (Z5g r radius).A.X,.i (Z5g r radius).A.Y,.i (Z5g r radius).B.X,.i (Z5g r radius).B.Y,.i (Z5g r radius).C.X,.i (Z5g r radius).C.Y,.i (Z5o r radius).Kind,.i (Z5o r radius).A.X,.i (Z5o r radius).A.Y,.i (Z5o r radius).B.X,.i (Z5o r radius).B.Y,.i (Z5o r radius).C.X,.i (Z5o r radius).C.Y]) (i_-([Z59 r radius,Z5c r radius]++[Z5a r radius,Z5i r radius]).length) j_) 68)]⟩ (.cons (Mp (Z5g r radius).B (Z5m r radius).A) .nil) (.cons rfl (.cons rfl (.cons au3 (.cons au3 .nil))))<|BN<|AG ?_
 refine BS (Cv.trans (BM (⟨(TV radius),[(4,Z56),(5,Z5p r radius),(6,Z58 r radius),(77,Z5q r radius)]⟩) lr (.cons ⟨rfl,.refl _⟩ (.cons ⟨rfl,.cells _ (rr (.cons (.own _ _ au2) (rr .nil)))⟩ (.cons ⟨rfl,.refl _⟩ (.cons ⟨rfl,Am 68 (BR (BI 7 AF.c ([Z59 r radius,Z5c r radius]++[Z5a r radius,Z5i r radius])) (Aq (c:=AF.c) (xs:=([Z5g r radius,Z5o r radius]:List AF)) rfl kr))⟩ .nil))))) (Cv.refl _)) ?_
 refine rn ⟨(TU radius),[(4,Z56),(5,Z5p r radius),(6,Z58 r radius),(77,Z5q r radius)]⟩ ?_
 refine DZ ?_
 refine BS (Cv.trans (wr (⟨(TU radius),[(4,Z56),(5,Z5r r radius),(6,Z58 r radius),(100002,Z5q r radius)]⟩) 77 100002 hk0) (Cv.refl _))<|AB<|AB ?_
 refine rn ⟨(Dt radius [(7,tI 3),(49,tB true)]),[(4,Z56),(5,Z5r r radius),(6,Z58 r radius),(100002,Z5q r radius)]⟩ ?_
 refine Cw kr<|AY ?_
 refine AG<|AB ?_
 refine AR<|AB ?_
 refine rc [(58,B8 (AC.mk (W64 (r.X0+radius)) (W64 (r.Y0+radius))) radius 6 2)] [0<=(3:Int)/\(3:Int)<(4:Int),Ap (B8 (AC.mk (W64 (r.X0+radius)) (W64 (r.Y0+radius))) radius 6 2).2.1] ⟨(Dt radius [(7,tI 3),(8,tP 8 0)]),[(4,Z56),(5,Z5r r radius),(6,Z58 r radius),(8,Z5n r radius),(100002,Z5q r radius)]⟩ (.cons (D6 (AC.mk (W64 (r.X0+radius)) (W64 (r.Y0+radius))) radius 6 2) .nil) (.cons (by decide) (.cons rfl .nil))<|AG<|AB ?_
 refine rc [(67,B8 (AC.mk (W64 (r.X1-radius)) (W64 (r.Y0+radius))) radius 7 2)] [(4:Int)≠0,0<=(0:Int)/\(0:Int)<(4:Int),Ap (B8 (AC.mk (W64 (r.X1-radius)) (W64 (r.Y0+radius))) radius 7 2).2.1] ⟨(Dt radius [(7,tI 3),(8,tP 8 0),(9,tP 9 0)]),[(4,Z56),(5,Z5r r radius),(6,Z58 r radius),(8,Z5n r radius),(9,.cells (AF.c (Z5s r radius)) 68),(100002,Z5q r radius)]⟩ (.cons (D6 (AC.mk (W64 (r.X1-radius)) (W64 (r.Y0+radius))) radius 7 2) .nil) (.cons au15 (.cons (by decide) (.cons rfl .nil)))<|AG ?_
 refine dw [] [(75,GA (Z5m r radius).B (Z5s r radius).A)] [Ap (GA (Z5m r radius).B (Z5s r radius).A).2.1,(([Z59 r radius,Z5c r radius]++[Z5a r radius,Z5i r radius])++[Z5g r radius,Z5o r radius]).length=(([Z59 r radius,Z5c r radius]++[Z5a r radius,Z5i r radius])++[Z5g r radius,Z5o r radius]).length,(([Z59 r radius,Z5c r radius]++[Z5a r radius,Z5i r radius])++[Z5g r radius,Z5o r radius]).length+2<=maxLen,((([Z59 r radius,Z5c r radius]++[Z5a r radius,Z5i r radius])++[Z5g r radius,Z5o r radius]).length+2)*56<=140737488355328] ⟨(TU radius),[(4,Z56),(5,.cells [.i 2,.own 77 7 ((([Z59 r radius,Z5c r radius]++[Z5a r radius,Z5i r radius])++[Z5g r radius,Z5o r radius]).length+2),.i 0] 28),(6,Z58 r radius),(77,.row 7 ((([Z59 r radius,Z5c r radius]++[Z5a r radius,Z5i r radius])++[Z5g r radius,Z5o r radius]).length+2) (fun i_ j_=>if i_<(([Z59 r radius,Z5c r radius]++[Z5a r radius,Z5i r radius])++[Z5g r radius,Z5o r radius]).length then (fH r radius) i_ j_ else (As 7 2 [.i (Z5m r radius).Kind,.i (Z5m r radius).A.X,.i (Z5m r radius).A.Y,.i (Z5m r radius).B.X,.i (Z5m r radius).B.Y,.i (Z5m r radius).C.X,.i (Z5m r radius).C.Y,.i (Z5t r radius).Kind,.i (Z5t r radius).A.X,.i (Z5t r radius).A.Y,.i (Z5t r radius).B.X,.i (Z5t r radius).B.Y,.i (Z5t r radius).C.X,.i (Z5t r radius).C.Y]) (i_-(([Z59 r radius,Z5c r radius]++[Z5a r radius,Z5i r radius])++[Z5g r radius,Z5o r radius]).length) j_) 68)]⟩ (.cons (Mp (Z5m r radius).B (Z5s r radius).A) .nil) (.cons rfl (.cons rfl (.cons au3 (.cons au3 .nil))))<|BN<|AG ?_
 refine BS (Cv.trans (BM (⟨(TU radius),[(4,Z56),(5,Z5u r radius),(6,Z58 r radius),(77,Z5v r radius)]⟩) lr (.cons ⟨rfl,.refl _⟩ (.cons ⟨rfl,.cells _ (rr (.cons (.own _ _ au2) (rr .nil)))⟩ (.cons ⟨rfl,.refl _⟩ (.cons ⟨rfl,Am 68 (BR (BI 7 AF.c (([Z59 r radius,Z5c r radius]++[Z5a r radius,Z5i r radius])++[Z5g r radius,Z5o r radius])) (Aq (c:=AF.c) (xs:=([Z5m r radius,Z5t r radius]:List AF)) rfl kr))⟩ .nil))))) (Cv.refl _)) ?_
 refine rn ⟨(Dt radius [(7,tI 4)]),[(4,Z56),(5,Z5u r radius),(6,Z58 r radius),(77,Z5v r radius)]⟩ ?_
 refine DZ ?_
 refine BS (Cv.trans (wr (⟨(Dt radius [(7,tI 4)]),[(4,Z56),(5,Z5w r radius),(6,Z58 r radius),(100003,Z5v r radius)]⟩) 77 100003 hk0) (Cv.refl _))<|AB<|AB ?_
 refine rn ⟨(Dt radius [(7,tI 4),(49,tB false)]),[(4,Z56),(5,Z5w r radius),(6,Z58 r radius),(100003,Z5v r radius)]⟩ ?_
 refine FC kr<|BF ?_
 refine A3<|A3 ?_
 refine BG<|AG<|AB ?_
 refine rn ⟨[(4,tP 4 0)],[(4,Z5w r radius),(100003,Z5v r radius)]⟩<|AW ?_
 exact yl (Cv.trans (vf 100003 7 ((([Z59 r radius,Z5c r radius]++[Z5a r radius,Z5i r radius])++[Z5g r radius,Z5o r radius])++[Z5m r radius,Z5t r radius]).length (AO AF.c ((([Z59 r radius,Z5c r radius]++[Z5a r radius,Z5i r radius])++[Z5g r radius,Z5o r radius])++[Z5m r radius,Z5t r radius])) 68 hk0 (.cons ⟨rfl,rfl⟩ .nil)) (Cv.refl _)) (.av (.agg [.i 2,lst 7 AF.c ((([Z59 r radius,Z5c r radius]++[Z5a r radius,Z5i r radius])++[Z5g r radius,Z5o r radius])++[Z5m r radius,Z5t r radius]),.i 0])) (Aa (by rfl))
theorem YK (r:Ak) (radius:Int):OKc (OX r radius):=cPu<|cG r radius
end
section
open Go.RowKit
theorem SG (l:List Int) (name:ByteArray):∀ (n:Nat) (v:List A1) (d:AD) (k:Int),0<=k->k<=W64 (2+(AA (AD.mk l 0) 5).1)->((W64 (2+(AA (AD.mk l 0) 5).1))-k).toNat<n ->
  (C0 l name n v d k).Name=name/\((C0 l name n v d k).Pads.length:Int)=v.length+(W64 (2+(AA (AD.mk l 0) 5).1)-k)
 | 0,v,d,k,_,_,h=>absurd h (Nat.not_lt_zero _)
 | n+1,v,d,k,h0,h1,h2=>by
  unfold C0
  by_cases h:k<W64 (2+(AA (AD.mk l 0) 5).1)
  ·simp only [h,decide_true,cond_true]
   obtain ⟨e1,e2⟩:=SG l name n (v++[_]) _ (k+1) (by omega) (by omega) (by omega)
   refine ⟨e1,e2.trans ?_⟩
   simp only [List.length_append,List.length_cons,List.length_nil]
   omega
  simp only [h,decide_false,cond_false]
  refine ⟨by first | trivial | rfl,?_⟩
  show (v.length:Int)=_
  omega
theorem Fo (l:List Int) (name:ByteArray):(A6 l name).Name=name/\2<=((A6 l name).Pads.length:Int)/\((A6 l name).Pads.length:Int)<=6:=by
 have hn:=C5 (AD.mk l 0) 5 (by decide) (by decide)
 have hw:W64 (2+(AA (AD.mk l 0) 5).1)=2+(AA (AD.mk l 0) 5).1:=Af (by omega) (by omega)
 obtain ⟨e1,e2⟩:=SG l name (((W64 (2+(AA (AD.mk l 0) 5).1))-0).toNat+1) [] (AA (AD.mk l 0) 5).2 0 (by omega) (by omega) (by omega)
 refine ⟨e1,?_⟩
 unfold A6
 rw [e2,hw]
 simp only [List.length_nil]
 omega
theorem ST {a c:AQ}:Ba [a,c] a.Name=(a,true):=by
 unfold Ba D3
 simp [Z1e]
theorem SS {a c:AQ} (h:¬ a.Name.toList=c.Name.toList):Ba [a,c] c.Name=(c,true):=by
 have hb:(a.Name.toList==c.Name.toList)=false:=by simp [h]
 unfold Ba D3
 simp [D3,Z1e,hb]
def RQ (types:List AQ) (xs:List AE):Prop:=∀ k:Int,0<=k->k<(xs.length:Int)->1<=((Ba types (xs.getD k.toNat default).Type').1.Pads.length:Int)/\((Ba types (xs.getD k.toNat default).Type').1.Pads.length:Int)<=6
theorem ZS {types:List AQ}:RQ types ([]:List AE):=fun k h0 h1=>absurd h1 (by simp only [List.length_nil];omega)
theorem ZT {types:List AQ} {xs:List AE} {p:AE} (h:RQ types xs) (hp:1<=((Ba types p.Type').1.Pads.length:Int)/\((Ba types p.Type').1.Pads.length:Int)<=6):RQ types (xs++[p]):=by
 intro k h0 h1
 simp only [List.length_append,List.length_cons,List.length_nil] at h1
 by_cases hk:k.toNat<xs.length
 ·rw [List.getD_eq_getElem?_getD,List.getElem?_append_left hk,<- List.getD_eq_getElem?_getD]
  exact h k h0 oM
 rw [List.getD_eq_getElem?_getD,List.getElem?_append_right oM,show k.toNat-xs.length=0 by omega]
 exact hp
theorem Rx (a c:List Int) (i:Int) (hi:0<=i/\i<2):1<=((Ba [A6 a { data := #[82] },A6 c { data := #[81] }] (([A6 a { data := #[82] },A6 c { data := #[81] }]:List AQ).getD i.toNat default).Name).1.Pads.length:Int)/\((Ba [A6 a { data := #[82] },A6 c { data := #[81] }] (([A6 a { data := #[82] },A6 c { data := #[81] }]:List AQ).getD i.toNat default).Name).1.Pads.length:Int)<=6:=by
 have ha:=Fo a { data := #[82] }
 have hc:=Fo c { data := #[81] }
 have h01:i=0\/i=1:=by omega
 rcases h01 with rfl | rfl
 ·show 1<=((Ba [A6 a { data := #[82] },A6 c { data := #[81] }] (A6 a { data := #[82] }).Name).1.Pads.length:Int)/\((Ba [A6 a { data := #[82] },A6 c { data := #[81] }] (A6 a { data := #[82] }).Name).1.Pads.length:Int)<=6
  rw [ST]
  exact ⟨by show 1<=((A6 a { data := #[82] }).Pads.length:Int);omega,ha.2.2⟩
 show 1<=((Ba [A6 a { data := #[82] },A6 c { data := #[81] }] (A6 c { data := #[81] }).Name).1.Pads.length:Int)/\((Ba [A6 a { data := #[82] },A6 c { data := #[81] }] (A6 c { data := #[81] }).Name).1.Pads.length:Int)<=6
 rw [SS (by rw [ha.1,hc.1];decide +kernel)]
 exact ⟨by show 1<=((A6 c { data := #[81] }).Pads.length:Int);omega,hc.2.2⟩
theorem cQ {d:AD} (h:(AA d 5).1<3) (h0:¬ (AA d 5).1=0) (h1:¬ (AA d 5).1=1):(AA d 5).1=2:=by
 have:=C5 d 5 (by decide) (by decide)
 omega
theorem iW {b:AH} {types:List AQ} (h:RQ types b.Parts):Pe b types:=fun k h0 h1=>(h k h0 h1).1
def C9 (v:List Ag) (m:Int):Prop:=(v.length:Int)<=m
theorem Ez {α:Type} {c:Bool} {a b:List α} {m:Int} (ha:(a.length:Int)<=m) (hb:(b.length:Int)<=m):((bif c then a else b).length:Int)<=m:=by cases c <;> assumption
theorem E0 {α:Type} {a:List α} {x:α} {m:Int} (h:(a.length:Int)+1<=m):((a++[x]).length:Int)<=m:=by simp only [List.length_append,List.length_cons,List.length_nil];omega
theorem uM {d:AD} {a c:AQ}:0<=(AA d 2).1/\(AA d 2).1<((([a,c]:List AQ).length:Nat):Int):=C5 d 2 (by decide) (by decide)
theorem gS {v:Int} {a b c:ByteArray} (h0:0<=v) (h:v<3):0<=v/\v<((([a,b,c]:List ByteArray).length:Nat):Int):=⟨h0,h⟩
theorem vT {b B:AH} (h:NN b B) (hb:(b.Parts.length:Int)<=1000000):(B.Parts.length:Int)<=1000000:=by rw [h.par];exact hb
theorem pY {b B:AH} (h:NN b B) (hb:1<=(b.Parts.length:Int)):1<=(B.Parts.length:Int):=by rw [h.par];exact hb
theorem vQ {b B:AH} (h:NN b B):(B.Tracks.length:Int)<=1000000:=by have:=h.trk;omega
theorem vP {b B:AH} (h:NN b B):(B.Vias.length:Int)<=1000000:=by have:=h.via;omega
theorem vS {b B:AH} (h:NN b B):(B.Pours.length:Int)<=1000000:=by have:=h.pou;omega
theorem vU {b B:AH} (h:NN b B):(B.Keeps.length:Int)<=1000000:=by have:=h.kee;omega
theorem vR {b B:AH} (h:NN b B):(B.Slots.length:Int)<=1000000:=by have:=h.slo;omega
variable (v6_4:List AE) (v31_1':List Ag) (v5'':AD) (v10:Int) (l:List (List Int)) (v31_1 v31_3' v31_3:List Ag) (v8:Int) (v31_5':List Ag) (v13:Int) (v31_5:List Ag) (v5 v5':AD)
def Z5x:Tv:=.av (oL l)
def Z5y:Blk:=.cells ZF 41
def Z5z:AQ:=A6 (AX l 0) ({ data := #[82] }:ByteArray)
def Z5A:AQ:=A6 (AX l 1) ({ data := #[81] }:ByteArray)
def Z5B:Tv:=.av (.one (lst 3 AQ.c [Z5z l,Z5A l]))
def Z5C:Blk:=.cells [lst 1 eIn (AX l 2),.i 0] 117
abbrev La:=Ak.mk 0 0 400 400
def Z5D:Blk:=.cells [.i 2,.i (FT La).Kind,lst 7 AF.c (FT La).Edges,.i (FT La).R,vN,.own 31 2 3,vN,vN,vN,vN,vN,vN,vN,vN,vN] 41
def Z5E:Blk:=.rowx 2 3 (fun _ _=>default) 120 [(0,[.s ({ data := #[78,49] }:ByteArray),vN]),(1,[.s ({ data := #[78,50] }:ByteArray),vN]),(2,[.s ({ data := #[71,78,68] }:ByteArray),vN])]
abbrev HB:=AA (AD.mk (AX l 2) 0) 3
def Z5F:CT:=(42,(E8:List Av).map (Bq 1000 25),wrI 25 (.cells [lst 1 eIn (AX l 2),.i 0] 117) (tI (HB l).1) (.cells (AD.c (HB l).2) 117))
def Z5G:Blk:=.cells (AD.c (HB l).2) 117
def Z5H:AP:=bif decide (((AA (AD.mk (AX l 2) 0) 3).1:Int)=0) then (G3 (Ak.mk 0 0 400 400) 50) else (FT (Ak.mk 0 0 400 400))
def Z5I:CT:=(42,(E8:List Av).map (Bq 1000 25),wrI 25 (.cells (AD.c (HB l).2) 117) (tI (AA (HB l).2 3).1) (.cells (AD.c (AA (HB l).2 3).2) 117))
abbrev Z5J:AD:=(AA (AA (AD.mk (AX l 2) 0) 3).2 3).2
def Z5K:Tv:=tI (W64 (1+(AA (HB l).2 3).1))
abbrev GV (t_:List Cl):List Cl:=(.i 2)::(.i (Z5H l).Kind)::(lst 7 AF.c (Z5H l).Edges)::(.i (Z5H l).R)::t_
def Z5L:Blk:=.cells (GV l [vN,.own 31 2 3,vN,vN,vN,vN,vN,vN,vN,vN,vN]) 41
def Z5M:Blk:=.cells [lst 1 eIn (AX l 3),.i 0] 117
def Z5N:Blk:=.row 7 ([]:List AE).length (AO AE.c ([]:List AE)) 78
def Z5O:Blk:=.cells (GV l [.own 100000 7 ([]:List AE).length,.own 31 2 3,vN,vN,vN,vN,vN,vN,vN,vN,vN]) 41
def Z5P (l:(List (List Int))) (v6_4:List AE):Blk:=.cells (GV l [.own 100000 7 v6_4.length,.own 31 2 3,vN,vN,vN,vN,vN,vN,vN,vN,vN]) 41
def Z5Q:Blk:=.row 7 v6_4.length (AO AE.c v6_4) 78
def Z5R:CT:=(42,(IE:List Av).map (Bq 1000 25),wrI 25 (Nm v5) (tI (AA v5 2).1) (N1 v5))
abbrev GX:=AA (AA v5 2).2 4
def Z5S:CT:=(42,(Hz:List Av).map (Bq 1000 25),wrI 25 (N1 v5) (tI (GX v5).1) (.cells (AD.c (GX v5).2) 117))
def Z5T:CT:=(42,(E8:List Av).map (Bq 1000 25),wrI 25 (.cells (AD.c (GX v5).2) 117) (tI (AA (GX v5).2 3).1) (.cells (AD.c (AA (GX v5).2 3).2) 117))
abbrev Z5U:AD:=(AA (AA (AA v5 2).2 4).2 3).2
abbrev G7:=AA (Z5U v5) 5
def Z5V:CT:=(42,(Lm:List Av).map (Bq 1000 25),wrI 25 (.cells (AD.c (Z5U v5)) 117) (tI (G7 v5).1) (.cells (AD.c (G7 v5).2) 117))
def Z5W:CT:=(42,(E8:List Av).map (Bq 1000 25),wrI 25 (.cells (AD.c (G7 v5).2) 117) (tI (AA (G7 v5).2 3).1) (.cells (AD.c (AA (G7 v5).2 3).2) 117))
abbrev Z5X:AD:=(AA (AA (Z5U v5) 5).2 3).2
def Z5Y:CT:=(42,(E8:List Av).map (Bq 1000 25),wrI 25 (.cells (AD.c (Z5X v5)) 117) (tI (AA (Z5X v5) 3).1) (.cells (AD.c (AA (Z5X v5) 3).2) 117))
def Z5Z:Blk:=.cells (AD.c (AA (Z5X v5) 3).2) 117
abbrev Ma:Bool:=(decide (((AA (GX v5).2 3).1:Int)=0))
abbrev Xe:=AC.mk (W64 ((W64 (80+(W64 (100*v8))))+(W64 (5*(G7 v5).1)))) (W64 ((W64 (100+(W64 (80*(AA (G7 v5).2 3).1))))+(W64 (5*(AA (Z5X v5) 3).1))))
def Z60 (l:(List (List Int))) (v6_4:List AE) (v8:Int) (v5:AD):Blk:=.cells (GV l [.own 86 7 (v6_4++[AE.mk (W64 (1+v8)) (([({ data := #[82,49] }:ByteArray),({ data := #[82,50] }:ByteArray),({ data := #[120,47,82,49] }:ByteArray)]:List ByteArray).getD v8.toNat ⟨#[]⟩) ([Z5z l,Z5A l].getD (AA v5 2).1.toNat default).Name (Xe v8 v5) (GX v5).1 (Ma v5)]).length,.own 31 2 3,vN,vN,vN,vN,vN,vN,vN,vN,vN]) 41
def Z61 (v6_4:List AE) (v8:Int) (l:(List (List Int))) (v5:AD):Blk:=.row 7 (v6_4++[AE.mk (W64 (1+v8)) (([({ data := #[82,49] }:ByteArray),({ data := #[82,50] }:ByteArray),({ data := #[120,47,82,49] }:ByteArray)]:List ByteArray).getD v8.toNat ⟨#[]⟩) ([Z5z l,Z5A l].getD (AA v5 2).1.toNat default).Name (Xe v8 v5) (GX v5).1 (Ma v5)]).length (AO AE.c (v6_4++[AE.mk (W64 (1+v8)) (([({ data := #[82,49] }:ByteArray),({ data := #[82,50] }:ByteArray),({ data := #[120,47,82,49] }:ByteArray)]:List ByteArray).getD v8.toNat ⟨#[]⟩) ([Z5z l,Z5A l].getD (AA v5 2).1.toNat default).Name (Xe v8 v5) (GX v5).1 (Ma v5)])) 78
def Z62:Blk:=.row 2 ([]:List Ag).length (AO Ag.c ([]:List Ag)) 106
def Z63:Blk:=.row 2 v31_1.length (AO Ag.c v31_1) 106
def Z64:Blk:=.row 2 v31_3.length (AO Ag.c v31_3) 106
def Z65:Blk:=.row 2 v31_5.length (AO Ag.c v31_5) 106
def Z66 (l:(List (List Int))) (v6_4:List AE):Blk:=.cells (GV l [lst 7 AE.c v6_4,.own 31 2 3,vN,vN,vN,vN,vN,vN,vN,vN,vN]) 41
def Z67:Tv:=tB (decide ((v10:Int)<(W64 (1+(AA (HB l).2 3).1))))
def Z68 (l:(List (List Int))) (v6_4:List AE) (v10:Int):AQ:=(Ba [Z5z l,Z5A l] (v6_4.getD v10.toNat default).Type').1
def Z69 (l:(List (List Int))) (v6_4:List AE) (v10:Int):Blk:=.cells (AQ.c (Z68 l v6_4 v10)) 82
def Z6a:Blk:=.row 2 v31_1'.length (AO Ag.c v31_1') 106
def Z6b:Blk:=.row 2 v31_3'.length (AO Ag.c v31_3') 106
def Z6c:Blk:=.row 2 v31_5'.length (AO Ag.c v31_5') 106
def Z6d:CT:=(42,(Lm:List Av).map (Bq 1000 91),wrI 91 (.cells (AD.c v5'') 117) (tI (AA v5'' 5).1) (.cells (AD.c (AA v5'' 5).2) 117))
abbrev Jo:=[Ag.mk (v6_4.getD v10.toNat default).Ref ((Z68 l v6_4 v10).Pads.getD v13.toNat default).Name]
def Z6e (v31_1':List Ag) (v6_4:List AE) (v10:Int) (l:(List (List Int))) (v13:Int):Blk:=.row 2 (v31_1'++(Jo v6_4 v10 l v13)).length (AO Ag.c (v31_1'++(Jo v6_4 v10 l v13))) 106
def Z6f (v31_3':List Ag) (v6_4:List AE) (v10:Int) (l:(List (List Int))) (v13:Int):Blk:=.row 2 (v31_3'++(Jo v6_4 v10 l v13)).length (AO Ag.c (v31_3'++(Jo v6_4 v10 l v13))) 106
def Z6g (v31_5':List Ag) (v6_4:List AE) (v10:Int) (l:(List (List Int))) (v13:Int):Blk:=.row 2 (v31_5'++(Jo v6_4 v10 l v13)).length (AO Ag.c (v31_5'++(Jo v6_4 v10 l v13))) 106
def Z6h (v5'':AD) (v31_1':List Ag) (v6_4:List AE) (v10:Int) (l:(List (List Int))) (v13:Int):(List Ag):=bif decide (((AA v5'' 5).1:Int)<3) then (bif decide (((AA v5'' 5).1:Int)=0) then (v31_1'++[Ag.mk (v6_4.getD v10.toNat default).Ref ((Z68 l v6_4 v10).Pads.getD v13.toNat default).Name]) else v31_1') else v31_1'
def Z6i (v5'':AD) (v31_3':List Ag) (v6_4:List AE) (v10:Int) (l:(List (List Int))) (v13:Int):(List Ag):=bif decide (((AA v5'' 5).1:Int)<3) then (bif decide (((AA v5'' 5).1:Int)=0) then v31_3' else (bif decide (((AA v5'' 5).1:Int)=1) then (v31_3'++[Ag.mk (v6_4.getD v10.toNat default).Ref ((Z68 l v6_4 v10).Pads.getD v13.toNat default).Name]) else v31_3')) else v31_3'
def Z6j (v5'':AD) (v31_5':List Ag) (v6_4:List AE) (v10:Int) (l:(List (List Int))) (v13:Int):(List Ag):=bif decide (((AA v5'' 5).1:Int)<3) then (bif decide (((AA v5'' 5).1:Int)=0) then v31_5' else (bif decide (((AA v5'' 5).1:Int)=1) then v31_5' else (v31_5'++[Ag.mk (v6_4.getD v10.toNat default).Ref ((Z68 l v6_4 v10).Pads.getD v13.toNat default).Name]))) else v31_5'
def Z6k (v5'':AD) (v31_1':List Ag) (v6_4:List AE) (v10:Int) (l:(List (List Int))) (v13:Int):Blk:=.row 2 (Z6h v5'' v31_1' v6_4 v10 l v13).length (AO Ag.c (Z6h v5'' v31_1' v6_4 v10 l v13)) 106
def Z6l (v5'':AD) (v31_3':List Ag) (v6_4:List AE) (v10:Int) (l:(List (List Int))) (v13:Int):Blk:=.row 2 (Z6i v5'' v31_3' v6_4 v10 l v13).length (AO Ag.c (Z6i v5'' v31_3' v6_4 v10 l v13)) 106
def Z6m (v5'':AD) (v31_5':List Ag) (v6_4:List AE) (v10:Int) (l:(List (List Int))) (v13:Int):Blk:=.row 2 (Z6j v5'' v31_5' v6_4 v10 l v13).length (AO Ag.c (Z6j v5'' v31_5' v6_4 v10 l v13)) 106
def Z6n (l:(List (List Int))) (v6_4:List AE) (v31_1:List Ag) (v31_3:List Ag) (v31_5:List Ag):AH:=BJ (AH.mk 2 (Z5H l) v6_4 [Bf.mk ({ data := #[78,49] }:ByteArray) v31_1,Bf.mk ({ data := #[78,50] }:ByteArray) v31_3,Bf.mk ({ data := #[71,78,68] }:ByteArray) v31_5] [] [] [] [] [] [] [] [] []) [Z5z l,Z5A l] l
abbrev ZI (l:List (List Int)) (v6_4:List AE) (v31_1:List Ag) (v31_3:List Ag) (v31_5:List Ag):List Cl:=[.i (Z6n l v6_4 v31_1 v31_3 v31_5).Layers,.i (Z6n l v6_4 v31_1 v31_3 v31_5).Outline.Kind,lst 7 AF.c (Z6n l v6_4 v31_1 v31_3 v31_5).Outline.Edges,.i (Z6n l v6_4 v31_1 v31_3 v31_5).Outline.R,lst 7 AE.c (Z6n l v6_4 v31_1 v31_3 v31_5).Parts,lst 2 Bf.c (Z6n l v6_4 v31_1 v31_3 v31_5).Nets,lst 6 Ab.c (Z6n l v6_4 v31_1 v31_3 v31_5).Tracks,lst 8 A4.c (Z6n l v6_4 v31_1 v31_3 v31_5).Vias,lst 8 Be.c (Z6n l v6_4 v31_1 v31_3 v31_5).Pours,lst 5 C8.c (Z6n l v6_4 v31_1 v31_3 v31_5).Keeps,lst 4 Ar.c (Z6n l v6_4 v31_1 v31_3 v31_5).Slots,vN,vN,vN,vN]
def Z6o (l:(List (List Int))) (v6_4:List AE) (v31_1:List Ag) (v31_3:List Ag) (v31_5:List Ag):CT:=(44,([.one (.ptr 1000 0),.one (lst 3 AQ.c [Z5z l,Z5A l]),.one (lst 1 (fun x=>[lst 1 eIn x]) l)]:List Av).map (Bq 1000 6),wrI 6 (.cells (GV l [lst 7 AE.c v6_4,lst 2 Bf.c [Bf.mk ({ data := #[78,49] }:ByteArray) v31_1,Bf.mk ({ data := #[78,50] }:ByteArray) v31_3,Bf.mk ({ data := #[71,78,68] }:ByteArray) v31_5],vN,vN,vN,vN,vN,vN,vN,vN,vN]) 41) (.tup []) (.cells (ZI l v6_4 v31_1 v31_3 v31_5) 41))
def Z6p (l:(List (List Int))) (v6_4:List AE) (v31_1:List Ag) (v31_3:List Ag) (v31_5:List Ag):AH×AD:=Db (AH.mk (Z6n l v6_4 v31_1 v31_3 v31_5).Layers (Z6n l v6_4 v31_1 v31_3 v31_5).Outline (Z6n l v6_4 v31_1 v31_3 v31_5).Parts (Z6n l v6_4 v31_1 v31_3 v31_5).Nets (Z6n l v6_4 v31_1 v31_3 v31_5).Tracks (Z6n l v6_4 v31_1 v31_3 v31_5).Vias (Z6n l v6_4 v31_1 v31_3 v31_5).Pours (Z6n l v6_4 v31_1 v31_3 v31_5).Keeps (Z6n l v6_4 v31_1 v31_3 v31_5).Slots [] [] [] []) (AD.mk (AX l 7) 0)
def Z6q (l:(List (List Int))) (v6_4:List AE) (v31_1:List Ag) (v31_3:List Ag) (v31_5:List Ag):CT:=(45,(QE:List Av).map (Fd 1000 6 1001 151),uK 6 151 (.cells (ZI l v6_4 v31_1 v31_3 v31_5) 41) (.cells [lst 1 eIn (AX l 7),.i 0] 117) (.tup []) (.cells (AH.c (Z6p l v6_4 v31_1 v31_3 v31_5).1) 41) (.cells (AD.c (Z6p l v6_4 v31_1 v31_3 v31_5).2) 117))
def Z6r:Blk:=.rowx 2 3 (fun _ _=>default) 120 [(0,[.s ({ data := #[78,49] }:ByteArray),.own 100001 2 ([]:List Ag).length]),(1,[.s ({ data := #[78,50] }:ByteArray),.own 100002 2 ([]:List Ag).length]),(2,[.s ({ data := #[71,78,68] }:ByteArray),.own 100003 2 ([]:List Ag).length])]
def Z6s:Blk:=.rowx 2 3 (fun _ _=>default) 120 [(0,[.s ({ data := #[78,49] }:ByteArray),.own 100001 2 v31_1.length]),(1,[.s ({ data := #[78,50] }:ByteArray),.own 100002 2 v31_3.length]),(2,[.s ({ data := #[71,78,68] }:ByteArray),.own 100003 2 v31_5.length])]
def Z6t:Blk:=.rowx 2 3 (fun _ _=>default) 120 [(0,[.s ({ data := #[78,49] }:ByteArray),.own 100001 2 v31_1'.length]),(1,[.s ({ data := #[78,50] }:ByteArray),.own 100002 2 v31_3'.length]),(2,[.s ({ data := #[71,78,68] }:ByteArray),.own 100003 2 v31_5'.length])]
def Z6u (v31_1':List Ag) (v6_4:List AE) (v10:Int) (l:(List (List Int))) (v13:Int) (v31_3':List Ag) (v31_5':List Ag):Blk:=.rowx 2 3 (fun _ _=>default) 120 [(0,[.s ({ data := #[78,49] }:ByteArray),.own 100004 2 (v31_1'++(Jo v6_4 v10 l v13)).length]),(1,[.s ({ data := #[78,50] }:ByteArray),.own 100005 2 v31_3'.length]),(2,[.s ({ data := #[71,78,68] }:ByteArray),.own 100006 2 v31_5'.length])]
def Z6v (v31_1':List Ag) (v31_3':List Ag) (v6_4:List AE) (v10:Int) (l:(List (List Int))) (v13:Int) (v31_5':List Ag):Blk:=.rowx 2 3 (fun _ _=>default) 120 [(0,[.s ({ data := #[78,49] }:ByteArray),.own 100004 2 v31_1'.length]),(1,[.s ({ data := #[78,50] }:ByteArray),.own 100005 2 (v31_3'++(Jo v6_4 v10 l v13)).length]),(2,[.s ({ data := #[71,78,68] }:ByteArray),.own 100006 2 v31_5'.length])]
def Z6w (v31_1':List Ag) (v31_3':List Ag) (v31_5':List Ag) (v6_4:List AE) (v10:Int) (l:(List (List Int))) (v13:Int):Blk:=.rowx 2 3 (fun _ _=>default) 120 [(0,[.s ({ data := #[78,49] }:ByteArray),.own 100004 2 v31_1'.length]),(1,[.s ({ data := #[78,50] }:ByteArray),.own 100005 2 v31_3'.length]),(2,[.s ({ data := #[71,78,68] }:ByteArray),.own 100006 2 (v31_5'++(Jo v6_4 v10 l v13)).length])]
def DO (l:(List (List Int))) (v6_4:List AE) (v5:AD) (v8:Int) (v31_1:List Ag) (v31_3:List Ag) (v31_5:List Ag) (v5':AD) (v10:Int) (K0:List AE->AD->Int->(AH×(List AQ))) (K1:List Ag->List Ag->List Ag->AD->Int->(AH×(List AQ))):Nat->List Ag->List Ag->List Ag->AD->Int->(AH×(List AQ))
 | 0,_,_,_,_,_=>default
 | n2+1,v31_1',v31_3',v31_5',v5'',v13=>bif decide ((v13:Int)<((Z68 l v6_4 v10).Pads.length:Int)) then ((DO l v6_4 v5 v8 v31_1 v31_3 v31_5 v5' v10 K0 K1 n2) (Z6h v5'' v31_1' v6_4 v10 l v13) (Z6i v5'' v31_3' v6_4 v10 l v13) (Z6j v5'' v31_5' v6_4 v10 l v13) (AA v5'' 5).2 (v13+1)) else (K1 v31_1' v31_3' v31_5' v5'' (v10+1))
def Cz (l:(List (List Int))) (v6_4:List AE) (v5:AD) (v8:Int) (K0:List AE->AD->Int->(AH×(List AQ))):Nat->List Ag->List Ag->List Ag->AD->Int->(AH×(List AQ))
 | 0,_,_,_,_,_=>default
 | n1+1,v31_1,v31_3,v31_5,v5',v10=>bif decide ((v10:Int)<(W64 (1+(AA (AA (AD.mk (AX l 2) 0) 3).2 3).1))) then (DO l v6_4 v5 v8 v31_1 v31_3 v31_5 v5' v10 K0 (Cz l v6_4 v5 v8 K0 n1) ((((Z68 l v6_4 v10).Pads.length:Int)-0).toNat+1) v31_1 v31_3 v31_5 v5' 0) else ((Z6p l v6_4 v31_1 v31_3 v31_5).1,[Z5z l,Z5A l])
def CV (l:(List (List Int))):Nat->List AE->AD->Int->(AH×(List AQ))
 | 0,_,_,_=>default
 | n0+1,v6_4,v5,v8=>bif decide ((v8:Int)<(W64 (1+(AA (AA (AD.mk (AX l 2) 0) 3).2 3).1))) then ((CV l n0) (v6_4++[AE.mk (W64 (1+v8)) (([({ data := #[82,49] }:ByteArray),({ data := #[82,50] }:ByteArray),({ data := #[120,47,82,49] }:ByteArray)]:List ByteArray).getD v8.toNat ⟨#[]⟩) ([Z5z l,Z5A l].getD (AA v5 2).1.toNat default).Name (AC.mk (W64 ((W64 (80+(W64 (100*v8))))+(W64 (5*(AA (Z5U v5) 5).1)))) (W64 ((W64 (100+(W64 (80*(AA (AA (Z5U v5) 5).2 3).1))))+(W64 (5*(AA (Z5X v5) 3).1))))) (AA (AA v5 2).2 4).1 (decide (((AA (AA (AA v5 2).2 4).2 3).1:Int)=0))]) (AA (Z5X v5) 3).2 (v8+1)) else (Cz l v6_4 v5 v8 (CV l n0) (((W64 (1+(AA (AA (AD.mk (AX l 2) 0) 3).2 3).1))-0).toNat+1) ([]:List Ag) ([]:List Ag) ([]:List Ag) (AD.mk (AX l 3) 0) 0)
def AL (l:(List (List Int))):(AH×(List AQ)):=CV l (((W64 (1+(AA (AA (AD.mk (AX l 2) 0) 3).2 3).1))-0).toNat+1) ([]:List AE) (Z5J l) 0
def Uo:CT:=(10,[.one (lst 1 (fun x=>[lst 1 eIn x]) l)],.val [] (.tup [.agg (AH.c (AL l).1),.one (lst 3 AQ.c (AL l).2)]))
abbrev Hc:Nat×Blk:=(91,.cells (AD.c (AA v5'' 5).2) 117)
abbrev KB:Nat×Blk:=(91,.cells (AD.c v5') 117)
abbrev XE:=As 2 1 [.s (v6_4.getD v10.toNat default).Ref,.s ((Z68 l v6_4 v10).Pads.getD v13.toNat default).Name]
abbrev Pz:Nat×Blk:=(25,.cells (AD.c (Z5J l)) 117)
abbrev CZ (t_:List (Nat×Tv)):List (Nat×Tv):=(0,Z5x l)::(2,tP 2 0)::(4,Z5B l)::(5,tP 91 0)::(6,tP 6 0)::(7,Z5K l)::t_
abbrev EH (t_:List (Nat×Tv)):List (Nat×Tv):=(0,Z5x l)::(2,tP 2 0)::(4,Z5B l)::(5,tP 25 0)::t_
abbrev ER (l:List (List Int)) (v6_4:List AE) (v10:Int) (t_:List (Nat×Blk)):List (Nat×Blk):=(2,Z5y)::(6,Z5P l v6_4)::(11,Z69 l v6_4 v10)::t_
theorem au11 {p:Prop} (h:p:=by first | (with_reducible exact DW hll _) | with_reducible assumption | omega | decide | (simp only [List.length_cons,List.length_nil,List.length_append];omega) | (exact iW (by assumption)) | ((refine And.intro ?_ ?_ <;> simp;done)) | ((simp only;exact vT (Hh _ _ _) (by show (v6_4.length:Int)≤_;omega))) | ((simp only;exact pY (Hh _ _ _) (by show 1≤(v6_4.length:Int);omega))) | ((simp only;exact vQ (Hh _ _ _))) | ((simp only;exact vP (Hh _ _ _))) | ((simp only;exact vS (Hh _ _ _))) | ((simp only;exact vU (Hh _ _ _))) | ((simp only;exact vR (Hh _ _ _))) | assumption):p:=h
theorem au12 {p:Prop} (h:p:=by first | exact Kn _ _ _ (by decide) (by decide) (by decide) | exact uM | exact gS (by omega) (by omega) | decide | omega):p:=h
theorem au17 {p:Prop} (h:p:=by first | (unfold C9 at *;unfold maxLen;omega) | (unfold C9 at *;omega) | (unfold maxLen;omega) | omega | (simp only [qP,qO,qN,YM];omega)):p:=h
set_option maxHeartbeats 4000000 in
theorem pO (l:(List (List Int))) (hl:(l.length:Int)<=9223372036854775807) (hll:∀ x∈l,(x.length:Int)<=9223372036854775807):PuP 10 (Uo l).2.1 (.tup [.agg (AH.c (AL l).1),.one (lst 3 AQ.c (AL l).2)]):=by
 refine pwf Tryz.func10 fun W0 M0 => ?_
 have hmany:1<=W64 (1+(AA (AA (AD.mk (AX l 2) 0) 3).2 3).1):=by have:=C5 (AA (AD.mk (AX l 2) 0) 3).2 3 (by decide) (by decide);rw [Af oM oM];omega
 refine AB<|rn ⟨[(0,Z5x l),(2,tP 2 0)],[(2,Z5y)]⟩<|AB ?_
 refine rc [(16,Ed l 0),(17,Ky (AX l 0) ({ data := #[82] }:ByteArray)),(19,Ed l 1),(20,Ky (AX l 1) ({ data := #[81] }:ByteArray))] [Ap (Ed l 0).2.1,Ap (Ky (AX l 0) ({ data := #[82] }:ByteArray)).2.1,Ap (Ed l 1).2.1,Ap (Ky (AX l 1) ({ data := #[81] }:ByteArray)).2.1] ⟨[(0,Z5x l),(2,tP 2 0),(4,.av (.one (.list true 3 2 (As 3 2 [.s (Z5z l).Name,lst 7 A1.c (Z5z l).Pads,lst 2 A5.c (Z5z l).Gates,.s (Z5A l).Name,lst 7 A1.c (Z5A l).Pads,lst 2 A5.c (Z5A l).Gates]))))],[(2,Z5y)]⟩ (.cons (GF l 0 au11) (.cons (Vi (AX l 0) ({ data := #[82] }:ByteArray) au11) (.cons (GF l 1 au11) (.cons (Vi (AX l 1) ({ data := #[81] }:ByteArray) au11) .nil)))) (.cons rfl (.cons rfl (.cons rfl (.cons rfl .nil))))<|AG ?_
 refine BS (Cv.trans (BM (⟨[(0,Z5x l),(2,tP 2 0),(4,Z5B l)],[(2,Z5y)]⟩) (.cons ⟨rfl,.refl _⟩ (.cons ⟨rfl,.refl _⟩ (.cons ⟨rfl,.av (.one (BZ true (Aq (c:=AQ.c) (xs:=([Z5z l,Z5A l]:List AQ)) rfl kr)))⟩ .nil))) lr) (Cv.refl _))<|AB ?_
 refine rs 23 (Ed l 2) ⟨(EH l []),[(2,Z5y),(25,Z5C l)]⟩ (GF l 2 au11)<|AG<|AB ?_
 refine Cu C2 [31] [] [(27,ML La)] [0,2,4,5,6] [2,6,25,31] [Ap (ML (Ak.mk 0 0 400 400)).2.1] ⟨(EH l [(6,tP 6 0)]),[(2,Z5y),(6,Z5D),(25,Z5C l),(31,.row 2 3 (As 2 3 [.s ({ data := #[78,49] }:ByteArray),vN,.s ({ data := #[78,50] }:ByteArray),vN,.s ({ data := #[71,78,68] }:ByteArray),vN]) 120)]⟩ (.cons (UF (Ak.mk 0 0 400 400)) .nil) kr (.cons rfl .nil)<|AG ?_
 refine BS (Cv.trans (mB (⟨(EH l [(6,tP 6 0)]),[(2,Z5y),(6,Z5D),(25,Z5C l),(31,Z5E)]⟩) 31 2 3 (As 2 3 [.s ({ data := #[78,49] }:ByteArray),vN,.s ({ data := #[78,50] }:ByteArray),vN,.s ({ data := #[71,78,68] }:ByteArray),vN]) 120 kr kr kr) (Cv.refl _))<|AB<|AB ?_
 refine rb 34 (Z5F l) (.cells [lst 1 eIn (AX l 2),.i 0] 117) ⟨(EH l [(6,tP 6 0),(35,tB (decide (((HB l).1:Int)=0)))]),[(2,Z5y),(6,Z5D),(25,Z5G l),(31,Z5E)]⟩ (cWr (BU (AD.mk (AX l 2) 0) 3 au7 au9))<|AG ?_
 refine Bd (⟨[(0,.av (oL l)),(2,tP 2 0),(4,tO (lst 3 AQ.c [Z5z l,Z5A l])),(5,tP 25 0),(6,tP 6 0)],[(2,.cells ZF 41),(6,.cells [.i 2,.i (Z5H l).Kind,lst 7 AF.c (Z5H l).Edges,.i (Z5H l).R,vN,.own 31 2 3,vN,vN,vN,vN,vN,vN,vN,vN,vN] 41),(25,.cells (AD.c (HB l).2) 117),(31,.rowx 2 3 (fun _ _=>default) 120 [(0,[.s ({ data := #[78,49] }:ByteArray),vN]),(1,[.s ({ data := #[78,50] }:ByteArray),vN]),(2,[.s ({ data := #[71,78,68] }:ByteArray),vN])])]⟩) ?_ ?_
 ·refine AV _ rfl (fun h1 => ?_) (fun h1 => ?_)
  ·refine rs 37 (OX (Ak.mk 0 0 400 400) 50) ⟨(EH l [(6,tP 6 0)]),[(2,Z5y),(6,.cells [.i 2,.i (G3 La 50).Kind,lst 7 AF.c (G3 La 50).Edges,.i (G3 La 50).R,vN,.own 31 2 3,vN,vN,vN,vN,vN,vN,vN,vN,vN] 41),(25,Z5G l),(31,Z5E)]⟩ (YK (Ak.mk 0 0 400 400) 50)<|AG ?_
   refine Ay ?_
   first | rfl | (simp only [h1,Z5H,cond_true,cond_false] <;> rfl)
  refine AY<|AG ?_
  refine Cv.trans (ck (⟨(EH l [(6,tP 6 0)]),[(2,Z5y),(6,Z5D),(25,Z5G l),(31,Z5E)]⟩)) (Ay ?_)
  first | rfl | (simp only [h1,Z5H,cond_true,cond_false] <;> rfl)
 refine AB<|rb 40 (Z5I l) (.cells (AD.c (AA (AD.mk (AX l 2) 0) 3).2) 117) ⟨(EH l [(6,tP 6 0),(7,Z5K l)]),[(2,Z5y),(6,Z5L l),(Pz l),(31,Z5E)]⟩ (cWr (BU (AA (AD.mk (AX l 2) 0) 3).2 3 au7 au9))<|AG ?_
 refine AB<|AB ?_
 refine rn ⟨(EH l [(6,tP 6 0),(7,Z5K l),(8,tI 0)]),[(2,Z5y),(6,Z5L l),(Pz l),(31,Z5E)]⟩<|AR ?_
 refine BS (Cv.trans (wg (⟨(EH l [(6,tP 6 0),(7,Z5K l),(8,tI 0)]),[(100000,.row 7 0 (fun _ _=>default) 78),(2,Z5y),(6,.cells (GV l [.own 100000 7 0,.own 31 2 3,vN,vN,vN,vN,vN,vN,vN,vN,vN]) 41),(Pz l),(31,Z5E)]⟩) 100000 7 (fun _ _=>default) 78 [] [(6,[4])] hk0) (Cv.trans (BM (⟨(EH l [(6,tP 6 0),(7,Z5K l),(8,tI 0)]),[(100000,Z5N),(2,Z5y),(6,Z5O l),(Pz l),(31,Z5E)]⟩) lr (.cons ⟨rfl,Am 78 (Cb 7 (fun _ _=>default) AE.c)⟩ (.cons ⟨rfl,.refl _⟩ (.cons ⟨rfl,.cells _ (rr4 (.cons (.own _ _ au2) (rr (rr (rr (rr (rr (rr (rr (rr (rr (rr .nil))))))))))))⟩ lr)))) (Cv.trans (ck (⟨(EH l [(6,tP 6 0),(7,Z5K l),(8,tI 0)]),[(2,Z5y),(6,Z5O l),(Pz l),(31,Z5E),(100000,Z5N)]⟩)) (Cv.refl _)))) ?_
 refine BB (ι:=Nat×List AE×AD×Int) (fun x=>⟨(EH l [(6,tP 6 0),(7,Z5K l),(8,tI x.2.2.2)]),[(2,Z5y),(6,.cells (GV l [.own 100000 7 x.2.1.length,.own 31 2 3,vN,vN,vN,vN,vN,vN,vN,vN,vN]) 41),(25,.cells (AD.c x.2.2.1) 117),(31,Z5E),(100000,.row 7 x.2.1.length (AO AE.c x.2.1) 78)]⟩) (fun x=>((W64 (1+(AA (AA (AD.mk (AX l 2) 0) 3).2 3).1))-x.2.2.2).toNat<x.1/\((x.2.1.length:Int)=x.2.2.2/\RQ [A6 (AX l 0) ({ data := #[82] }:ByteArray),A6 (AX l 1) ({ data := #[81] }:ByteArray)] x.2.1/\Bh x.2.2.1/\0<=x.2.2.2/\(x.2.2.2<=(W64 (1+(AA (AA (AD.mk (AX l 2) 0) 3).2 3).1))\/x.2.2.2=0)/\(x.2.1.length:Int)<=0+1*(x.2.2.2-0))/\CV l x.1 x.2.1 x.2.2.1 x.2.2.2=AL l) (fun x=>x.1) ?_ (((W64 (1+(AA (AA (AD.mk (AX l 2) 0) 3).2 3).1))-0).toNat+1,([]:List AE),Z5J l,0) ⟨Nat.lt_succ_self _,⟨ax0,(by show RQ [A6 (AX l 0) ({ data := #[82] }:ByteArray),A6 (AX l 1) ({ data := #[81] }:ByteArray)] ([]:List AE);first | exact ZS | exact ZT (by assumption) (Rx _ _ _ (C5 _ 2 (by decide) (by decide))) | assumption),(by show Bh (Z5J l);repeat (first | with_reducible assumption | exact Cg (DW hll _) | with_reducible refine BT ?_ | with_reducible refine Ek ?_ | with_reducible refine Ds ?_ | with_reducible refine DG ?_  | with_reducible refine Cq ?_ ?_)),ax0,ax0,ax0⟩,(by simp only [AL,cond_true,cond_false])⟩
 rintro ⟨n0,v6_4,v5,v8⟩ ⟨hm0,hinv0,hF0⟩
 try dsimp only at hm0 hinv0 hF0
 cases n0 with | zero=>exact nz hm0 | succ n0 => ?_
 have hi0_1:=hinv0.2.1
 have hi0_2:=hinv0.2.2.1
 refine AB<|AB ?_
 refine rn ⟨(EH l [(6,tP 6 0),(7,Z5K l),(8,tI v8),(44,tB (decide ((v8:Int)<(W64 (1+(AA (AA (AD.mk (AX l 2) 0) 3).2 3).1)))))]),[(2,Z5y),(6,Z5P l v6_4),(25,.cells (AD.c v5) 117),(31,Z5E),(100000,Z5Q v6_4)]⟩ ?_
 refine AV (decide ((v8:Int)<(W64 (1+(AA (AA (AD.mk (AX l 2) 0) 3).2 3).1)))) kr (fun h1 => ?_) (fun h1 => ?_)
 ·have g1:=oT h1
  have k1:=UR g1 (by decide) (by decide) (by decide) (by decide)
  have kk1:=Qs g1 (by decide) (by decide) (by decide) (by decide)
  refine AY<|AG ?_
  refine AB<|AR<|AB ?_
  refine dw [] [(55,(Z5R v5)),(60,(Z5S v5)),(62,(Z5T v5))] [0<=(v8:Int)/\(v8:Int)<((3:Nat):Int),Ap (Z5R v5).2.1,Bv (Nm v5),0<=((AA v5 2).1:Int)/\((AA v5 2).1:Int)<(([Z5z l,Z5A l].length:Nat):Int),Ap (Z5S v5).2.1,Bv (N1 v5),Ap (Z5T v5).2.1,Bv (.cells (AD.c (AA (AA v5 2).2 4).2) 117)] ⟨(EH l [(6,tP 6 0),(7,Z5K l),(8,tI v8),(9,tP 9 0)]),[(2,Z5y),(6,Z5P l v6_4),(9,.cells [.i (W64 (1+v8)),.s (([({ data := #[82,49] }:ByteArray),({ data := #[82,50] }:ByteArray),({ data := #[120,47,82,49] }:ByteArray)]:List ByteArray).getD v8.toNat ⟨#[]⟩),.s ([Z5z l,Z5A l].getD (AA v5 2).1.toNat default).Name,.i 0,.i 0,.i (GX v5).1,.b (Ma v5)] 78),(25,.cells (AD.c (Z5U v5)) 117),(31,Z5E),(100000,Z5Q v6_4)]⟩ (.cons (cWr (BU v5 2 au7 au9)) (.cons (cWr (BU (AA v5 2).2 4 au7 au9)) (.cons (cWr (BU (AA (AA v5 2).2 4).2 3 au7 au9)) .nil))) (.cons au12 (.cons rfl (.cons rfl (.cons au12 (.cons rfl (.cons rfl (.cons rfl (.cons rfl .nil))))))))<|AG<|AB ?_
  refine rc [(69,(Z5V v5)),(73,(Z5W v5)),(77,(Z5Y v5))] [Ap (Z5V v5).2.1,Bv (.cells (AD.c (Z5U v5)) 117),Ap (Z5W v5).2.1,Bv (.cells (AD.c (AA (Z5U v5) 5).2) 117),Ap (Z5Y v5).2.1,Bv (.cells (AD.c (Z5X v5)) 117)] ⟨(EH l [(6,tP 6 0),(7,Z5K l),(8,tI v8),(9,tP 9 0)]),[(2,Z5y),(6,Z5P l v6_4),(9,.cells [.i (W64 (1+v8)),.s (([({ data := #[82,49] }:ByteArray),({ data := #[82,50] }:ByteArray),({ data := #[120,47,82,49] }:ByteArray)]:List ByteArray).getD v8.toNat ⟨#[]⟩),.s ([Z5z l,Z5A l].getD (AA v5 2).1.toNat default).Name,.i (W64 ((W64 (80+(W64 (100*v8))))+(W64 (5*(G7 v5).1)))),.i (W64 ((W64 (100+(W64 (80*(AA (G7 v5).2 3).1))))+(W64 (5*(AA (Z5X v5) 3).1)))),.i (GX v5).1,.b (Ma v5)] 78),(25,Z5Z v5),(31,Z5E),(100000,Z5Q v6_4)]⟩ (.cons (cWr (BU (Z5U v5) 5 au7 au9)) (.cons (cWr (BU (AA (Z5U v5) 5).2 3 au7 au9)) (.cons (cWr (BU (Z5X v5) 3 au7 au9)) .nil))) (.cons rfl (.cons rfl (.cons rfl (.cons rfl (.cons rfl (.cons rfl .nil))))))<|AG ?_
  refine rc [] [v6_4.length=v6_4.length,v6_4.length+1<=maxLen,(v6_4.length+1)*72<=140737488355328] ⟨(EH l [(6,tP 6 0),(7,Z5K l),(8,tI v8)]),[(2,Z5y),(6,.cells (GV l [.own 86 7 (v6_4.length+1),.own 31 2 3,vN,vN,vN,vN,vN,vN,vN,vN,vN]) 41),(25,Z5Z v5),(31,Z5E),(86,.row 7 (v6_4.length+1) (fun i_ j_=>if i_<v6_4.length then (AO AE.c v6_4) i_ j_ else (As 7 1 [.i (W64 (1+v8)),.s (([({ data := #[82,49] }:ByteArray),({ data := #[82,50] }:ByteArray),({ data := #[120,47,82,49] }:ByteArray)]:List ByteArray).getD v8.toNat ⟨#[]⟩),.s ([Z5z l,Z5A l].getD (AA v5 2).1.toNat default).Name,.i (W64 ((W64 (80+(W64 (100*v8))))+(W64 (5*(G7 v5).1)))),.i (W64 ((W64 (100+(W64 (80*(AA (G7 v5).2 3).1))))+(W64 (5*(AA (Z5X v5) 3).1)))),.i (GX v5).1,.b (Ma v5)]) (i_-v6_4.length) j_) 78)]⟩ .nil (.cons rfl (.cons au17 (.cons au17 .nil)))<|BN<|AG ?_
  refine BS (Cv.trans (BM (⟨(EH l [(6,tP 6 0),(7,Z5K l),(8,tI v8)]),[(2,Z5y),(6,Z60 l v6_4 v8 v5),(25,Z5Z v5),(31,Z5E),(86,Z61 v6_4 v8 l v5)]⟩) lr (.cons ⟨rfl,.refl _⟩ (.cons ⟨rfl,.cells _ (rr4 (.cons (.own _ _ au2) (rr (rr (rr (rr (rr (rr (rr (rr (rr (rr .nil))))))))))))⟩ (.cons ⟨rfl,.refl _⟩ (.cons ⟨rfl,.refl _⟩ (.cons ⟨rfl,Am 78 (BR (BI 7 AE.c v6_4) (Aq (c:=AE.c) (xs:=([AE.mk (W64 (1+v8)) (([({ data := #[82,49] }:ByteArray),({ data := #[82,50] }:ByteArray),({ data := #[120,47,82,49] }:ByteArray)]:List ByteArray).getD v8.toNat ⟨#[]⟩) ([Z5z l,Z5A l].getD (AA v5 2).1.toNat default).Name (AC.mk (W64 ((W64 (80+(W64 (100*v8))))+(W64 (5*(AA (Z5U v5) 5).1)))) (W64 ((W64 (100+(W64 (80*(AA (AA (Z5U v5) 5).2 3).1))))+(W64 (5*(AA (Z5X v5) 3).1))))) (AA (AA v5 2).2 4).1 (Ma v5)]:List AE)) rfl kr))⟩ .nil)))))) (Cv.refl _)) ?_
  refine rg ⟨(EH l [(6,tP 6 0),(7,Z5K l),(8,tI (W64 (v8+1)))]),[(2,Z5y),(6,Z60 l v6_4 v8 v5),(25,Z5Z v5),(31,Z5E),(86,Z61 v6_4 v8 l v5)]⟩ ?_
  (try rw [(show W64 (v8+1)=v8+1 from Af oM au5)])
  refine AG ?_
  refine ⟨(n0,v6_4++[AE.mk (W64 (1+v8)) (([({ data := #[82,49] }:ByteArray),({ data := #[82,50] }:ByteArray),({ data := #[120,47,82,49] }:ByteArray)]:List ByteArray).getD v8.toNat ⟨#[]⟩) ([Z5z l,Z5A l].getD (AA v5 2).1.toNat default).Name (AC.mk (W64 ((W64 (80+(W64 (100*v8))))+(W64 (5*(AA (Z5U v5) 5).1)))) (W64 ((W64 (100+(W64 (80*(AA (AA (Z5U v5) 5).2 3).1))))+(W64 (5*(AA (Z5X v5) 3).1))))) (AA (AA v5 2).2 4).1 (Ma v5)],(AA (Z5X v5) 3).2,v8+1),⟨?_,?_,(by rw [<- hF0];simp only [CV,h1,cond_true,cond_false])⟩,Nat.lt_succ_self _,Cv.trans (vr 86 100000 hk0) (Ay kr)⟩
  ·show ((W64 (1+(AA (AA (AD.mk (AX l 2) 0) 3).2 3).1))-(v8+1)).toNat<n0;omega
  exact ⟨ax0,(by show RQ [A6 (AX l 0) ({ data := #[82] }:ByteArray),A6 (AX l 1) ({ data := #[81] }:ByteArray)] (v6_4++[AE.mk (W64 (1+v8)) (([({ data := #[82,49] }:ByteArray),({ data := #[82,50] }:ByteArray),({ data := #[120,47,82,49] }:ByteArray)]:List ByteArray).getD v8.toNat ⟨#[]⟩) ([Z5z l,Z5A l].getD (AA v5 2).1.toNat default).Name (AC.mk (W64 ((W64 (80+(W64 (100*v8))))+(W64 (5*(AA (Z5U v5) 5).1)))) (W64 ((W64 (100+(W64 (80*(AA (AA (Z5U v5) 5).2 3).1))))+(W64 (5*(AA (Z5X v5) 3).1))))) (AA (AA v5 2).2 4).1 (Ma v5)]);first | exact ZS | exact ZT (by assumption) (Rx _ _ _ (C5 _ 2 (by decide) (by decide))) | assumption),(by show Bh ((AA (Z5X v5) 3).2);repeat (first | with_reducible assumption | exact Cg (DW hll _) | with_reducible refine BT ?_ | with_reducible refine Ek ?_ | with_reducible refine Ds ?_ | with_reducible refine DG ?_  | with_reducible refine Cq ?_ ?_)),ax0,ax0,ax0⟩
 have g1:=oF h1
 have k1:=UZ g1 (by decide) (by decide) (by decide) (by decide)
 refine BF<|A3 ?_
 refine A3<|BG ?_
 refine AG<|AB ?_
 refine rs 89 (Ed l 3) ⟨(CZ l []),[(2,Z5y),(6,Z5P l v6_4),(31,Z5E),(91,Z5M l),(100000,Z5Q v6_4)]⟩ (GF l 3 au11)<|AG ?_
 refine AB<|AB ?_
 refine rn ⟨(CZ l [(10,tI 0)]),[(2,Z5y),(6,Z5P l v6_4),(31,Z5E),(91,Z5M l),(100000,Z5Q v6_4)]⟩<|AR ?_
 refine BS (Cv.trans (vg 100001 2 (fun _ _=>default) 106 [] [(31,[1])] hk0) (Cv.trans (vg 100002 2 (fun _ _=>default) 106 [] [(31,[3])] hk0) (Cv.trans (wg (⟨(CZ l [(10,tI 0)]),[(100003,.row 2 0 (fun _ _=>default) 106),(100002,.row 2 0 (fun _ _=>default) 106),(100001,.row 2 0 (fun _ _=>default) 106),(2,Z5y),(6,Z5P l v6_4),(31,.rowx 2 3 (fun _ _=>default) 120 [(0,[.s ({ data := #[78,49] }:ByteArray),.own 100001 2 0]),(1,[.s ({ data := #[78,50] }:ByteArray),.own 100002 2 0]),(2,[.s ({ data := #[71,78,68] }:ByteArray),.own 100003 2 0])]),(91,Z5M l),(100000,Z5Q v6_4)]⟩) 100003 2 (fun _ _=>default) 106 [] [(31,[5])] hk0) (Cv.trans (BM (⟨(CZ l [(10,tI 0)]),[(100003,Z62),(100002,Z62),(100001,Z62),(2,Z5y),(6,Z5P l v6_4),(31,Z6r),(91,Z5M l),(100000,Z5Q v6_4)]⟩) lr (.cons ⟨rfl,Am 106 (Cb 2 (fun _ _=>default) Ag.c)⟩ (.cons ⟨rfl,Am 106 (Cb 2 (fun _ _=>default) Ag.c)⟩ (.cons ⟨rfl,Am 106 (Cb 2 (fun _ _=>default) Ag.c)⟩ (.cons ⟨rfl,.refl _⟩ (.cons ⟨rfl,.refl _⟩ (.cons ⟨rfl,.rowx _ _ _ _ (.cons ⟨rfl,(rr (.cons (.own _ _ au2) .nil))⟩ (.cons ⟨rfl,(rr (.cons (.own _ _ au2) .nil))⟩ (.cons ⟨rfl,(rr (.cons (.own _ _ au2) .nil))⟩ .nil)))⟩ lr))))))) (Cv.trans (ck (⟨(CZ l [(10,tI 0)]),[(2,Z5y),(6,Z5P l v6_4),(31,Z6r),(91,Z5M l),(100000,Z5Q v6_4),(100001,Z62),(100002,Z62),(100003,Z62)]⟩)) (Cv.refl _)))))) ?_
 refine BB (ι:=Nat×List Ag×List Ag×List Ag×AD×Int) (fun x=>⟨(CZ l [(10,tI x.2.2.2.2.2)]),[(2,Z5y),(6,Z5P l v6_4),(31,.rowx 2 3 (fun _ _=>default) 120 [(0,[.s ({ data := #[78,49] }:ByteArray),.own 100001 2 x.2.1.length]),(1,[.s ({ data := #[78,50] }:ByteArray),.own 100002 2 x.2.2.1.length]),(2,[.s ({ data := #[71,78,68] }:ByteArray),.own 100003 2 x.2.2.2.1.length])]),(91,.cells (AD.c x.2.2.2.2.1) 117),(100000,Z5Q v6_4),(100001,.row 2 x.2.1.length (AO Ag.c x.2.1) 106),(100002,.row 2 x.2.2.1.length (AO Ag.c x.2.2.1) 106),(100003,.row 2 x.2.2.2.1.length (AO Ag.c x.2.2.2.1) 106)]⟩) (fun x=>((W64 (1+(AA (AA (AD.mk (AX l 2) 0) 3).2 3).1))-x.2.2.2.2.2).toNat<x.1/\(C9 x.2.1 (6*x.2.2.2.2.2)/\C9 x.2.2.1 (6*x.2.2.2.2.2)/\C9 x.2.2.2.1 (6*x.2.2.2.2.2)/\Bh x.2.2.2.2.1/\0<=x.2.2.2.2.2/\(x.2.2.2.2.2<=(W64 (1+(AA (AA (AD.mk (AX l 2) 0) 3).2 3).1))\/x.2.2.2.2.2=0))/\Cz l v6_4 v5 v8 (CV l n0) x.1 x.2.1 x.2.2.1 x.2.2.2.1 x.2.2.2.2.1 x.2.2.2.2.2=AL l) (fun x=>x.1) ?_ (((W64 (1+(AA (AA (AD.mk (AX l 2) 0) 3).2 3).1))-0).toNat+1,([]:List Ag),([]:List Ag),([]:List Ag),AD.mk (AX l 3) 0,0) ⟨Nat.lt_succ_self _,⟨(by show C9 ([]:List Ag) (6*0);unfold C9 at *;repeat (first | omega | exact E0 oM | refine Ez ?_ ?_ | (simp;done))),(by show C9 ([]:List Ag) (6*0);unfold C9 at *;repeat (first | omega | exact E0 oM | refine Ez ?_ ?_ | (simp;done))),(by show C9 ([]:List Ag) (6*0);unfold C9 at *;repeat (first | omega | exact E0 oM | refine Ez ?_ ?_ | (simp;done))),(by show Bh (AD.mk (AX l 3) 0);repeat (first | with_reducible assumption | exact Cg (DW hll _) | with_reducible refine BT ?_ | with_reducible refine Ek ?_ | with_reducible refine Ds ?_ | with_reducible refine DG ?_  | with_reducible refine Cq ?_ ?_)),ax0,ax0⟩,(by rw [<- hF0];simp only [CV,h1,cond_true,cond_false])⟩
 rintro ⟨n1,v31_1,v31_3,v31_5,v5',v10⟩ ⟨hm1,hinv1,hF1⟩
 try dsimp only at hm1 hinv1 hF1
 cases n1 with | zero=>exact nz hm1 | succ n1 => ?_
 have hi1_0:=hinv1.1
 have hi1_1:=hinv1.2.1
 have hi1_2:=hinv1.2.2.1
 have hi1_3:=hinv1.2.2.2.1
 refine AB<|AB ?_
 refine rn ⟨(CZ l [(10,tI v10),(94,Z67 v10 l)]),[(2,Z5y),(6,Z5P l v6_4),(31,Z6s v31_1 v31_3 v31_5),(KB v5'),(100000,Z5Q v6_4),(100001,Z63 v31_1),(100002,Z64 v31_3),(100003,Z65 v31_5)]⟩ ?_
 refine AV (decide ((v10:Int)<(W64 (1+(AA (AA (AD.mk (AX l 2) 0) 3).2 3).1)))) kr (fun h2 => ?_) (fun h2 => ?_)
 ·have g2:=oT h2
  have k2:=UR g2 (by decide) (by decide) (by decide) (by decide)
  have kk2:=Qs g2 (by decide) (by decide) (by decide) (by decide)
  refine AY<|AG ?_
  refine AB<|AR<|AB ?_
  refine rc [(105,OY [Z5z l,Z5A l] (v6_4.getD v10.toNat default).Type')] [0<=(v10:Int)/\(v10:Int)<((v6_4.length:Nat):Int),v10.toNat<v6_4.length,Ap (OY [Z5z l,Z5A l] (v6_4.getD v10.toNat default).Type').2.1] ⟨(CZ l [(10,tI v10),(11,tP 11 0)]),(ER l v6_4 v10 [(31,Z6s v31_1 v31_3 v31_5),(KB v5'),(100000,Z5Q v6_4),(100001,Z63 v31_1),(100002,Z64 v31_3),(100003,Z65 v31_5)])⟩ (.cons (UG [Z5z l,Z5A l] (v6_4.getD v10.toNat default).Type' au11) .nil) (.cons au12 (.cons au12 (.cons rfl .nil)))<|AG<|AB ?_
  refine rn ⟨(CZ l [(10,tI v10),(11,tP 11 0),(13,tI 0)]),(ER l v6_4 v10 [(31,Z6s v31_1 v31_3 v31_5),(KB v5'),(100000,Z5Q v6_4),(100001,Z63 v31_1),(100002,Z64 v31_3),(100003,Z65 v31_5)])⟩<|AR ?_
  refine BB (ι:=Nat×List Ag×List Ag×List Ag×AD×Int) (fun x=>⟨(CZ l [(10,tI v10),(11,tP 11 0),(13,tI x.2.2.2.2.2)]),(ER l v6_4 v10 [(31,.rowx 2 3 (fun _ _=>default) 120 [(0,[.s ({ data := #[78,49] }:ByteArray),.own 100001 2 x.2.1.length]),(1,[.s ({ data := #[78,50] }:ByteArray),.own 100002 2 x.2.2.1.length]),(2,[.s ({ data := #[71,78,68] }:ByteArray),.own 100003 2 x.2.2.2.1.length])]),(91,.cells (AD.c x.2.2.2.2.1) 117),(100000,Z5Q v6_4),(100001,.row 2 x.2.1.length (AO Ag.c x.2.1) 106),(100002,.row 2 x.2.2.1.length (AO Ag.c x.2.2.1) 106),(100003,.row 2 x.2.2.2.1.length (AO Ag.c x.2.2.2.1) 106)])⟩) (fun x=>(((Z68 l v6_4 v10).Pads.length:Int)-x.2.2.2.2.2).toNat<x.1/\(C9 x.2.1 (6*v10+x.2.2.2.2.2)/\C9 x.2.2.1 (6*v10+x.2.2.2.2.2)/\C9 x.2.2.2.1 (6*v10+x.2.2.2.2.2)/\Bh x.2.2.2.2.1/\0<=x.2.2.2.2.2/\(x.2.2.2.2.2<=((Z68 l v6_4 v10).Pads.length:Int)\/x.2.2.2.2.2=0))/\DO l v6_4 v5 v8 v31_1 v31_3 v31_5 v5' v10 (CV l n0) (Cz l v6_4 v5 v8 (CV l n0) n1) x.1 x.2.1 x.2.2.1 x.2.2.2.1 x.2.2.2.2.1 x.2.2.2.2.2=AL l) (fun x=>x.1) ?_ ((((Z68 l v6_4 v10).Pads.length:Int)-0).toNat+1,v31_1,v31_3,v31_5,v5',0) ⟨Nat.lt_succ_self _,⟨(by show C9 v31_1 (6*v10+0);unfold C9 at *;repeat (first | omega | exact E0 oM | refine Ez ?_ ?_ | (simp;done))),(by show C9 v31_3 (6*v10+0);unfold C9 at *;repeat (first | omega | exact E0 oM | refine Ez ?_ ?_ | (simp;done))),(by show C9 v31_5 (6*v10+0);unfold C9 at *;repeat (first | omega | exact E0 oM | refine Ez ?_ ?_ | (simp;done))),(by show Bh v5';repeat (first | with_reducible assumption | exact Cg (DW hll _) | with_reducible refine BT ?_ | with_reducible refine Ek ?_ | with_reducible refine Ds ?_ | with_reducible refine DG ?_  | with_reducible refine Cq ?_ ?_)),ax0,ax0⟩,(by rw [<- hF1];simp only [Cz,h2,cond_true,cond_false])⟩
  rintro ⟨n2,v31_1',v31_3',v31_5',v5'',v13⟩ ⟨hm2,hinv2,hF2⟩
  try dsimp only at hm2 hinv2 hF2
  cases n2 with | zero=>exact nz hm2 | succ n2 => ?_
  have hi2_0:=hinv2.1
  have hi2_1:=hinv2.2.1
  have hi2_2:=hinv2.2.2.1
  have hi2_3:=hinv2.2.2.2.1
  have hp6:((Z68 l v6_4 v10).Pads.length:Int)<=6:=(hi0_1 v10 oM oM).2
  refine AB<|AB ?_
  refine rn ⟨(CZ l [(10,tI v10),(11,tP 11 0),(13,tI v13),(112,tB (decide ((v13:Int)<((Z68 l v6_4 v10).Pads.length:Int))))]),(ER l v6_4 v10 [(31,Z6t v31_1' v31_3' v31_5'),(91,.cells (AD.c v5'') 117),(100000,Z5Q v6_4),(100001,Z6a v31_1'),(100002,Z6b v31_3'),(100003,Z6c v31_5')])⟩ ?_
  refine AV _ rfl (fun h3 => ?_) (fun h3 => ?_)
  ·have g3:=oT h3
   refine AY<|AG<|AB ?_
   refine Bd (⟨[(0,.av (oL l)),(2,tP 2 0),(4,tO (lst 3 AQ.c [Z5z l,Z5A l])),(5,tP 91 0),(6,tP 6 0),(7,tI (W64 (1+(AA (HB l).2 3).1))),(10,tI v10),(11,tP 11 0),(13,tI v13)],[(2,.cells ZF 41),(6,.cells [.i 2,.i (Z5H l).Kind,lst 7 AF.c (Z5H l).Edges,.i (Z5H l).R,.own 100000 7 v6_4.length,.own 31 2 3,vN,vN,vN,vN,vN,vN,vN,vN,vN] 41),(11,.cells (AQ.c (Z68 l v6_4 v10)) 82),(31,.rowx 2 3 (fun _ _=>default) 120 [(0,[.s ({ data := #[78,49] }:ByteArray),.own 100004 2 (Z6h v5'' v31_1' v6_4 v10 l v13).length]),(1,[.s ({ data := #[78,50] }:ByteArray),.own 100005 2 (Z6i v5'' v31_3' v6_4 v10 l v13).length]),(2,[.s ({ data := #[71,78,68] }:ByteArray),.own 100006 2 (Z6j v5'' v31_5' v6_4 v10 l v13).length])]),(Hc v5''),(100000,.row 7 v6_4.length (AO AE.c v6_4) 78),(100004,.row 2 (Z6h v5'' v31_1' v6_4 v10 l v13).length (AO Ag.c (Z6h v5'' v31_1' v6_4 v10 l v13)) 106),(100005,.row 2 (Z6i v5'' v31_3' v6_4 v10 l v13).length (AO Ag.c (Z6i v5'' v31_3' v6_4 v10 l v13)) 106),(100006,.row 2 (Z6j v5'' v31_5' v6_4 v10 l v13).length (AO Ag.c (Z6j v5'' v31_5' v6_4 v10 l v13)) 106)]⟩) ?_ ?_
   ·refine AR<|AB ?_
    refine rb 116 (Z6d v5'') (.cells (AD.c v5'') 117) ⟨(CZ l [(10,tI v10),(11,tP 11 0),(13,tI v13),(14,tI (AA v5'' 5).1)]),(ER l v6_4 v10 [(31,Z6t v31_1' v31_3' v31_5'),(Hc v5''),(100000,Z5Q v6_4),(100001,Z6a v31_1'),(100002,Z6b v31_3'),(100003,Z6c v31_5')])⟩ (cWr (BU v5'' 5 au7 au9))<|AG<|AB ?_
    refine rn ⟨(CZ l [(10,tI v10),(11,tP 11 0),(13,tI v13),(14,tI (AA v5'' 5).1),(118,tB (decide (((AA v5'' 5).1:Int)<3)))]),(ER l v6_4 v10 [(31,Z6t v31_1' v31_3' v31_5'),(Hc v5''),(100000,Z5Q v6_4),(100001,Z6a v31_1'),(100002,Z6b v31_3'),(100003,Z6c v31_5')])⟩ ?_
    refine AV _ rfl (fun h4 => ?_) (fun h4 => ?_)
    ·have g4:=oT h4
     refine WY (decide (((AA v5'' 5).1:Int)=0)) (fun h5 => ?_) (fun h5 => ?_)
     ·have g5:=oT h5
      (try rw [g5])
      refine dw [] [] [0<=(0:Int)/\(0:Int)<((3:Nat):Int),0<=(v10:Int)/\(v10:Int)<((v6_4.length:Nat):Int),v10.toNat<v6_4.length,0<=(v13:Int)/\(v13:Int)<(((Z68 l v6_4 v10).Pads.length:Nat):Int),v31_1'.length=v31_1'.length,v31_1'.length+1<=maxLen,(v31_1'.length+1)*32<=140737488355328,0<=(0:Int)/\(0:Int)<((3:Nat):Int)] ⟨(CZ l [(10,tI v10),(11,tP 11 0),(13,tI v13)]),(ER l v6_4 v10 [(31,.rowx 2 3 (fun _ _=>default) 120 [(0,[.s ({ data := #[78,49] }:ByteArray),.own 142 2 (v31_1'.length+1)]),(1,[.s ({ data := #[78,50] }:ByteArray),.own 100002 2 v31_3'.length]),(2,[.s ({ data := #[71,78,68] }:ByteArray),.own 100003 2 v31_5'.length])]),(Hc v5''),(142,.row 2 (v31_1'.length+1) (fun i_ j_=>if i_<v31_1'.length then (AO Ag.c v31_1') i_ j_ else (XE v6_4 v10 l v13) (i_-v31_1'.length) j_) 106),(100000,Z5Q v6_4),(100002,Z6b v31_3'),(100003,Z6c v31_5')])⟩ .nil (.cons au12 (.cons au12 (.cons au12 (.cons au12 (.cons rfl (.cons au17 (.cons au17 (.cons au12 .nil))))))))<|BN<|AG ?_
      refine Cv.trans (BM (⟨(CZ l [(10,tI v10),(11,tP 11 0),(13,tI v13)]),(ER l v6_4 v10 [(31,.rowx 2 3 (fun _ _=>default) 120 [(0,[.s ({ data := #[78,49] }:ByteArray),.own 142 2 (v31_1'++(Jo v6_4 v10 l v13)).length]),(1,[.s ({ data := #[78,50] }:ByteArray),.own 100002 2 v31_3'.length]),(2,[.s ({ data := #[71,78,68] }:ByteArray),.own 100003 2 v31_5'.length])]),(Hc v5''),(142,Z6e v31_1' v6_4 v10 l v13),(100000,Z5Q v6_4),(100002,Z6b v31_3'),(100003,Z6c v31_5')])⟩) lr (.cons ⟨rfl,.refl _⟩ (.cons ⟨rfl,.refl _⟩ (.cons ⟨rfl,.refl _⟩ (.cons ⟨rfl,.rowx _ _ _ _ (.cons ⟨rfl,(rr (.cons (.own _ _ au2) .nil))⟩ (.cons ⟨rfl,(rr2 .nil)⟩ (.cons ⟨rfl,(rr2 .nil)⟩ .nil)))⟩ (.cons ⟨rfl,.refl _⟩ (.cons ⟨rfl,Am 106 (BR (BI 2 Ag.c v31_1') (Aq (c:=Ag.c) (xs:=([Ag.mk (v6_4.getD v10.toNat default).Ref ((Z68 l v6_4 v10).Pads.getD v13.toNat default).Name]:List Ag)) rfl kr))⟩ lr))))))) (Cv.trans (vr 142 100004 hk0) (Cv.trans (vr 100002 100005 hk0) (Cv.trans (vr 100003 100006 hk0) (Cv.trans (ck (⟨(CZ l [(10,tI v10),(11,tP 11 0),(13,tI v13)]),(ER l v6_4 v10 [(31,Z6u v31_1' v6_4 v10 l v13 v31_3' v31_5'),(Hc v5''),(100000,Z5Q v6_4),(100004,Z6e v31_1' v6_4 v10 l v13),(100005,Z6b v31_3'),(100006,Z6c v31_5')])⟩)) (Ay ?_)))))
      first | rfl | (simp only [h4,h5,Z6h,Z6i,Z6j,cond_true,cond_false] <;> rfl)
     have g5:=oF h5
     refine WY (decide (((AA v5'' 5).1:Int)=1)) (fun h6 => ?_) (fun h6 => ?_)
     ·have g6:=oT h6
      (try rw [g6])
      refine dw [] [] [0<=(1:Int)/\(1:Int)<((3:Nat):Int),0<=(v10:Int)/\(v10:Int)<((v6_4.length:Nat):Int),v10.toNat<v6_4.length,0<=(v13:Int)/\(v13:Int)<(((Z68 l v6_4 v10).Pads.length:Nat):Int),v31_3'.length=v31_3'.length,v31_3'.length+1<=maxLen,(v31_3'.length+1)*32<=140737488355328,0<=(1:Int)/\(1:Int)<((3:Nat):Int)] ⟨(CZ l [(10,tI v10),(11,tP 11 0),(13,tI v13)]),(ER l v6_4 v10 [(31,.rowx 2 3 (fun _ _=>default) 120 [(0,[.s ({ data := #[78,49] }:ByteArray),.own 100001 2 v31_1'.length]),(1,[.s ({ data := #[78,50] }:ByteArray),.own 142 2 (v31_3'.length+1)]),(2,[.s ({ data := #[71,78,68] }:ByteArray),.own 100003 2 v31_5'.length])]),(Hc v5''),(142,.row 2 (v31_3'.length+1) (fun i_ j_=>if i_<v31_3'.length then (AO Ag.c v31_3') i_ j_ else (XE v6_4 v10 l v13) (i_-v31_3'.length) j_) 106),(100000,Z5Q v6_4),(100001,Z6a v31_1'),(100003,Z6c v31_5')])⟩ .nil (.cons au12 (.cons au12 (.cons au12 (.cons au12 (.cons rfl (.cons au17 (.cons au17 (.cons au12 .nil))))))))<|BN<|AG ?_
      refine Cv.trans (BM (⟨(CZ l [(10,tI v10),(11,tP 11 0),(13,tI v13)]),(ER l v6_4 v10 [(31,.rowx 2 3 (fun _ _=>default) 120 [(0,[.s ({ data := #[78,49] }:ByteArray),.own 100001 2 v31_1'.length]),(1,[.s ({ data := #[78,50] }:ByteArray),.own 142 2 (v31_3'++(Jo v6_4 v10 l v13)).length]),(2,[.s ({ data := #[71,78,68] }:ByteArray),.own 100003 2 v31_5'.length])]),(Hc v5''),(142,Z6f v31_3' v6_4 v10 l v13),(100000,Z5Q v6_4),(100001,Z6a v31_1'),(100003,Z6c v31_5')])⟩) lr (.cons ⟨rfl,.refl _⟩ (.cons ⟨rfl,.refl _⟩ (.cons ⟨rfl,.refl _⟩ (.cons ⟨rfl,.rowx _ _ _ _ (.cons ⟨rfl,(rr2 .nil)⟩ (.cons ⟨rfl,(rr (.cons (.own _ _ au2) .nil))⟩ (.cons ⟨rfl,(rr2 .nil)⟩ .nil)))⟩ (.cons ⟨rfl,.refl _⟩ (.cons ⟨rfl,Am 106 (BR (BI 2 Ag.c v31_3') (Aq (c:=Ag.c) (xs:=([Ag.mk (v6_4.getD v10.toNat default).Ref ((Z68 l v6_4 v10).Pads.getD v13.toNat default).Name]:List Ag)) rfl kr))⟩ lr))))))) (Cv.trans (vr 100001 100004 hk0) (Cv.trans (vr 142 100005 hk0) (Cv.trans (vr 100003 100006 hk0) (Cv.trans (ck (⟨(CZ l [(10,tI v10),(11,tP 11 0),(13,tI v13)]),(ER l v6_4 v10 [(31,Z6v v31_1' v31_3' v6_4 v10 l v13 v31_5'),(Hc v5''),(100000,Z5Q v6_4),(100004,Z6a v31_1'),(100005,Z6f v31_3' v6_4 v10 l v13),(100006,Z6c v31_5')])⟩)) (Ay ?_)))))
      first | rfl | (simp only [h4,h5,h6,Z6h,Z6i,Z6j,cond_true,cond_false] <;> rfl)
     have g6:=oF h6
     have g7:((AA v5'' 5).1:Int)=2:=cQ (by with_reducible assumption) (by with_reducible assumption) (by with_reducible assumption)
     (try rw [g7])
     refine dw [] [] [0<=(2:Int)/\(2:Int)<((3:Nat):Int),0<=(v10:Int)/\(v10:Int)<((v6_4.length:Nat):Int),v10.toNat<v6_4.length,0<=(v13:Int)/\(v13:Int)<(((Z68 l v6_4 v10).Pads.length:Nat):Int),v31_5'.length=v31_5'.length,v31_5'.length+1<=maxLen,(v31_5'.length+1)*32<=140737488355328,0<=(2:Int)/\(2:Int)<((3:Nat):Int)] ⟨(CZ l [(10,tI v10),(11,tP 11 0),(13,tI v13)]),(ER l v6_4 v10 [(31,.rowx 2 3 (fun _ _=>default) 120 [(0,[.s ({ data := #[78,49] }:ByteArray),.own 100001 2 v31_1'.length]),(1,[.s ({ data := #[78,50] }:ByteArray),.own 100002 2 v31_3'.length]),(2,[.s ({ data := #[71,78,68] }:ByteArray),.own 142 2 (v31_5'.length+1)])]),(Hc v5''),(142,.row 2 (v31_5'.length+1) (fun i_ j_=>if i_<v31_5'.length then (AO Ag.c v31_5') i_ j_ else (XE v6_4 v10 l v13) (i_-v31_5'.length) j_) 106),(100000,Z5Q v6_4),(100001,Z6a v31_1'),(100002,Z6b v31_3')])⟩ .nil (.cons au12 (.cons au12 (.cons au12 (.cons au12 (.cons rfl (.cons au17 (.cons au17 (.cons au12 .nil))))))))<|BN<|AG ?_
     refine Cv.trans (BM (⟨(CZ l [(10,tI v10),(11,tP 11 0),(13,tI v13)]),(ER l v6_4 v10 [(31,.rowx 2 3 (fun _ _=>default) 120 [(0,[.s ({ data := #[78,49] }:ByteArray),.own 100001 2 v31_1'.length]),(1,[.s ({ data := #[78,50] }:ByteArray),.own 100002 2 v31_3'.length]),(2,[.s ({ data := #[71,78,68] }:ByteArray),.own 142 2 (v31_5'++(Jo v6_4 v10 l v13)).length])]),(Hc v5''),(142,Z6g v31_5' v6_4 v10 l v13),(100000,Z5Q v6_4),(100001,Z6a v31_1'),(100002,Z6b v31_3')])⟩) lr (.cons ⟨rfl,.refl _⟩ (.cons ⟨rfl,.refl _⟩ (.cons ⟨rfl,.refl _⟩ (.cons ⟨rfl,.rowx _ _ _ _ (.cons ⟨rfl,(rr2 .nil)⟩ (.cons ⟨rfl,(rr2 .nil)⟩ (.cons ⟨rfl,(rr (.cons (.own _ _ au2) .nil))⟩ .nil)))⟩ (.cons ⟨rfl,.refl _⟩ (.cons ⟨rfl,Am 106 (BR (BI 2 Ag.c v31_5') (Aq (c:=Ag.c) (xs:=([Ag.mk (v6_4.getD v10.toNat default).Ref ((Z68 l v6_4 v10).Pads.getD v13.toNat default).Name]:List Ag)) rfl kr))⟩ lr))))))) (Cv.trans (vr 100001 100004 hk0) (Cv.trans (vr 100002 100005 hk0) (Cv.trans (vr 142 100006 hk0) (Cv.trans (ck (⟨(CZ l [(10,tI v10),(11,tP 11 0),(13,tI v13)]),(ER l v6_4 v10 [(31,Z6w v31_1' v31_3' v31_5' v6_4 v10 l v13),(Hc v5''),(100000,Z5Q v6_4),(100004,Z6a v31_1'),(100005,Z6b v31_3'),(100006,Z6g v31_5' v6_4 v10 l v13)])⟩)) (Ay ?_)))))
     first | rfl | (simp only [h4,h5,h6,Z6h,Z6i,Z6j,cond_true,cond_false] <;> rfl)
    refine AY<|BN<|AG ?_
    refine Cv.trans (vk [0,2,4,5,6,7,10,11,13] [2,6,11,31,91,100000,100001,100002,100003]) (Cv.trans (vr 100001 100004 hk0) (Cv.trans (vr 100002 100005 hk0) (Cv.trans (wr (⟨(CZ l [(10,tI v10),(11,tP 11 0),(13,tI v13)]),(ER l v6_4 v10 [(31,.rowx 2 3 (fun _ _=>default) 120 [(0,[.s ({ data := #[78,49] }:ByteArray),.own 100004 2 v31_1'.length]),(1,[.s ({ data := #[78,50] }:ByteArray),.own 100005 2 v31_3'.length]),(2,[.s ({ data := #[71,78,68] }:ByteArray),.own 100006 2 v31_5'.length])]),(Hc v5''),(100000,Z5Q v6_4),(100004,Z6a v31_1'),(100005,Z6b v31_3'),(100006,Z6c v31_5')])⟩) 100003 100006 hk0) (Ay ?_))))
    first | rfl | (simp only [h4,Z6h,Z6i,Z6j,cond_true,cond_false] <;> rfl)
   refine rg ⟨(CZ l [(10,tI v10),(11,tP 11 0),(13,tI (W64 (v13+1)))]),(ER l v6_4 v10 [(31,.rowx 2 3 (fun _ _=>default) 120 [(0,[.s ({ data := #[78,49] }:ByteArray),.own 100004 2 (Z6h v5'' v31_1' v6_4 v10 l v13).length]),(1,[.s ({ data := #[78,50] }:ByteArray),.own 100005 2 (Z6i v5'' v31_3' v6_4 v10 l v13).length]),(2,[.s ({ data := #[71,78,68] }:ByteArray),.own 100006 2 (Z6j v5'' v31_5' v6_4 v10 l v13).length])]),(Hc v5''),(100000,Z5Q v6_4),(100004,Z6k v5'' v31_1' v6_4 v10 l v13),(100005,Z6l v5'' v31_3' v6_4 v10 l v13),(100006,Z6m v5'' v31_5' v6_4 v10 l v13)])⟩ ?_
   (try rw [(show W64 (v13+1)=v13+1 from Af oM au5)])
   refine AG ?_
   refine ⟨(n2,Z6h v5'' v31_1' v6_4 v10 l v13,Z6i v5'' v31_3' v6_4 v10 l v13,Z6j v5'' v31_5' v6_4 v10 l v13,(AA v5'' 5).2,v13+1),⟨?_,?_,(by rw [<- hF2];simp only [DO,h3,cond_true,cond_false])⟩,Nat.lt_succ_self _,Cv.trans (vr 100004 100001 hk0) (Cv.trans (vr 100005 100002 hk0) (Cv.trans (vr 100006 100003 hk0) (Ay kr)))⟩
   ·show (((Z68 l v6_4 v10).Pads.length:Int)-(v13+1)).toNat<n2;omega
   exact ⟨(by show C9 (Z6h v5'' v31_1' v6_4 v10 l v13) (6*v10+(v13+1));unfold C9 at *;repeat (first | omega | exact E0 oM | refine Ez ?_ ?_ | (simp;done))),(by show C9 (Z6i v5'' v31_3' v6_4 v10 l v13) (6*v10+(v13+1));unfold C9 at *;repeat (first | omega | exact E0 oM | refine Ez ?_ ?_ | (simp;done))),(by show C9 (Z6j v5'' v31_5' v6_4 v10 l v13) (6*v10+(v13+1));unfold C9 at *;repeat (first | omega | exact E0 oM | refine Ez ?_ ?_ | (simp;done))),(by show Bh ((AA v5'' 5).2);repeat (first | with_reducible assumption | exact Cg (DW hll _) | with_reducible refine BT ?_ | with_reducible refine Ek ?_ | with_reducible refine Ds ?_ | with_reducible refine DG ?_  | with_reducible refine Cq ?_ ?_)),ax0,ax0⟩
  have g3:=oF h3
  refine BF<|A3 ?_
  refine A3<|BG ?_
  refine BN<|AG ?_
  refine rg ⟨(CZ l [(10,tI (W64 (v10+1)))]),[(2,Z5y),(6,Z5P l v6_4),(31,Z6t v31_1' v31_3' v31_5'),(91,.cells (AD.c v5'') 117),(100000,Z5Q v6_4),(100001,Z6a v31_1'),(100002,Z6b v31_3'),(100003,Z6c v31_5')]⟩ ?_
  (try rw [(show W64 (v10+1)=v10+1 from Af oM au5)])
  refine AG ?_
  refine ⟨(n1,v31_1',v31_3',v31_5',v5'',v10+1),⟨?_,?_,(by rw [<- hF2];simp only [DO,h3,cond_true,cond_false])⟩,Nat.lt_succ_self _,Ay kr⟩
  ·show ((W64 (1+(AA (AA (AD.mk (AX l 2) 0) 3).2 3).1))-(v10+1)).toNat<n1;omega
  exact ⟨(by show C9 v31_1' (6*(v10+1));unfold C9 at *;repeat (first | omega | exact E0 oM | refine Ez ?_ ?_ | (simp;done))),(by show C9 v31_3' (6*(v10+1));unfold C9 at *;repeat (first | omega | exact E0 oM | refine Ez ?_ ?_ | (simp;done))),(by show C9 v31_5' (6*(v10+1));unfold C9 at *;repeat (first | omega | exact E0 oM | refine Ez ?_ ?_ | (simp;done))),(by show Bh v5'';repeat (first | with_reducible assumption | exact Cg (DW hll _) | with_reducible refine BT ?_ | with_reducible refine Ek ?_ | with_reducible refine Ds ?_ | with_reducible refine DG ?_  | with_reducible refine Cq ?_ ?_)),ax0,ax0⟩
 have g2:=oF h2
 have k2:=UZ g2 (by decide) (by decide) (by decide) (by decide)
 refine BF<|A3 ?_
 refine A3<|BG ?_
 refine AG<|AB ?_
 refine BS (Cv.trans (wf (⟨(CZ l [(10,tI v10),(94,Z67 v10 l)]),[(2,Z5y),(6,Z66 l v6_4),(31,Z6s v31_1 v31_3 v31_5),(KB v5'),(100001,Z63 v31_1),(100002,Z64 v31_3),(100003,Z65 v31_5)]⟩) 100000 7 v6_4.length (AO AE.c v6_4) 78 hk0 (.cons ⟨rfl,rfl⟩ .nil)) (Cv.refl _)) ?_
 refine BS (Cv.trans (vf 100001 2 v31_1.length (AO Ag.c v31_1) 106 hk0 (.cons ⟨rfl,rfl⟩ .nil)) (Cv.trans (vf 100002 2 v31_3.length (AO Ag.c v31_3) 106 hk0 (.cons ⟨rfl,rfl⟩ .nil)) (Cv.trans (wf (⟨(CZ l [(10,tI v10),(94,Z67 v10 l)]),[(2,Z5y),(6,Z66 l v6_4),(31,.rowx 2 3 (fun _ _=>default) 120 [(0,[.s ({ data := #[78,49] }:ByteArray),lst 2 Ag.c v31_1]),(1,[.s ({ data := #[78,50] }:ByteArray),lst 2 Ag.c v31_3]),(2,[.s ({ data := #[71,78,68] }:ByteArray),lst 2 Ag.c v31_5])]),(KB v5')]⟩) 100003 2 v31_5.length (AO Ag.c v31_5) 106 hk0 (.cons ⟨rfl,rfl⟩ .nil)) (Cv.trans (mD (⟨(CZ l [(10,tI v10),(94,Z67 v10 l)]),[(2,Z5y),(6,Z66 l v6_4),(31,.row 2 3 (As 2 3 [.s ({ data := #[78,49] }:ByteArray),lst 2 Ag.c v31_1,.s ({ data := #[78,50] }:ByteArray),lst 2 Ag.c v31_3,.s ({ data := #[71,78,68] }:ByteArray),lst 2 Ag.c v31_5]) 120),(KB v5')]⟩) 31 2 3 (fun _ _=>default) 120 [[.s ({ data := #[78,49] }:ByteArray),lst 2 Ag.c v31_1],[.s ({ data := #[78,50] }:ByteArray),lst 2 Ag.c v31_3],[.s ({ data := #[71,78,68] }:ByteArray),lst 2 Ag.c v31_5]] kr kr kr kr) (Cv.trans (BM (⟨(CZ l [(10,tI v10),(94,Z67 v10 l)]),[(2,Z5y),(6,.cells (GV l [lst 7 AE.c v6_4,.own 31 2 ([Bf.mk ({ data := #[78,49] }:ByteArray) v31_1,Bf.mk ({ data := #[78,50] }:ByteArray) v31_3,Bf.mk ({ data := #[71,78,68] }:ByteArray) v31_5].length),vN,vN,vN,vN,vN,vN,vN,vN,vN]) 41),(31,.row 2 ([Bf.mk ({ data := #[78,49] }:ByteArray) v31_1,Bf.mk ({ data := #[78,50] }:ByteArray) v31_3,Bf.mk ({ data := #[71,78,68] }:ByteArray) v31_5].length) (AO Bf.c [Bf.mk ({ data := #[78,49] }:ByteArray) v31_1,Bf.mk ({ data := #[78,50] }:ByteArray) v31_3,Bf.mk ({ data := #[71,78,68] }:ByteArray) v31_5]) 120),(KB v5')]⟩) lr (.cons ⟨rfl,.refl _⟩ (.cons ⟨rfl,.cells _ (rr5 (.cons (.own _ _ au2) (rr (rr (rr (rr (rr (rr (rr (rr (rr .nil)))))))))))⟩ (.cons ⟨rfl,Am 120 (Aq (c:=Bf.c) (xs:=([Bf.mk ({ data := #[78,49] }:ByteArray) v31_1,Bf.mk ({ data := #[78,50] }:ByteArray) v31_3,Bf.mk ({ data := #[71,78,68] }:ByteArray) v31_5]:List Bf)) rfl kr)⟩ lr)))) (Cv.trans (wf (⟨(CZ l [(10,tI v10),(94,Z67 v10 l)]),[(2,Z5y),(6,.cells (GV l [lst 7 AE.c v6_4,lst 2 Bf.c [Bf.mk ({ data := #[78,49] }:ByteArray) v31_1,Bf.mk ({ data := #[78,50] }:ByteArray) v31_3,Bf.mk ({ data := #[71,78,68] }:ByteArray) v31_5],vN,vN,vN,vN,vN,vN,vN,vN,vN]) 41),(KB v5')]⟩) 31 2 ([Bf.mk ({ data := #[78,49] }:ByteArray) v31_1,Bf.mk ({ data := #[78,50] }:ByteArray) v31_3,Bf.mk ({ data := #[71,78,68] }:ByteArray) v31_5].length) (AO Bf.c [Bf.mk ({ data := #[78,49] }:ByteArray) v31_1,Bf.mk ({ data := #[78,50] }:ByteArray) v31_3,Bf.mk ({ data := #[71,78,68] }:ByteArray) v31_5]) 120 hk0 (.cons ⟨rfl,rfl⟩ .nil)) (Cv.refl _))))))) ?_
 refine rb 147 (Z6o l v6_4 v31_1 v31_3 v31_5) (.cells (GV l [lst 7 AE.c v6_4,lst 2 Bf.c [Bf.mk ({ data := #[78,49] }:ByteArray) v31_1,Bf.mk ({ data := #[78,50] }:ByteArray) v31_3,Bf.mk ({ data := #[71,78,68] }:ByteArray) v31_5],vN,vN,vN,vN,vN,vN,vN,vN,vN]) 41) ⟨[(0,Z5x l),(2,tP 2 0),(4,Z5B l),(6,tP 6 0)],[(2,Z5y),(6,.cells (ZI l v6_4 v31_1 v31_3 v31_5) 41)]⟩ (cWr (Xz (AH.mk 2 (Z5H l) v6_4 [Bf.mk ({ data := #[78,49] }:ByteArray) v31_1,Bf.mk ({ data := #[78,50] }:ByteArray) v31_3,Bf.mk ({ data := #[71,78,68] }:ByteArray) v31_5] [] [] [] [] [] [] [] [] []) [Z5z l,Z5A l] l au11 au11 au11 au11 au11 au11))<|AG<|AB ?_
 refine rc [(149,Ed l 7),(152,(Z6q l v6_4 v31_1 v31_3 v31_5))] [Ap (Ed l 7).2.1,Ap (Z6q l v6_4 v31_1 v31_3 v31_5).2.1,RJ [.cells (ZI l v6_4 v31_1 v31_3 v31_5) 41,.cells [lst 1 eIn (AX l 7),.i 0] 117]] ⟨[(2,tP 2 0),(4,Z5B l),(6,tP 6 0)],[(2,Z5y),(6,.cells (AH.c (Z6p l v6_4 v31_1 v31_3 v31_5).1) 41)]⟩ (.cons (GF l 7 au11) (.cons (Yq (fun _ _=>kr) kr rfl rfl kr kr (iR (AH.mk (Z6n l v6_4 v31_1 v31_3 v31_5).Layers (Z6n l v6_4 v31_1 v31_3 v31_5).Outline (Z6n l v6_4 v31_1 v31_3 v31_5).Parts (Z6n l v6_4 v31_1 v31_3 v31_5).Nets (Z6n l v6_4 v31_1 v31_3 v31_5).Tracks (Z6n l v6_4 v31_1 v31_3 v31_5).Vias (Z6n l v6_4 v31_1 v31_3 v31_5).Pours (Z6n l v6_4 v31_1 v31_3 v31_5).Keeps (Z6n l v6_4 v31_1 v31_3 v31_5).Slots [] [] [] []) (AD.mk (AX l 7) 0) au7 au11 au11 au11 au11 au11 au11 au11)) .nil)) (.cons rfl (.cons rfl (.cons rfl .nil)))<|AG<|AB ?_
 refine rn ⟨[(2,tP 2 0),(3,Z5B l)],[(2,.cells (AH.c (Z6p l v6_4 v31_1 v31_3 v31_5).1) 41)]⟩<|AW ?_
 exact xl (.tup [.agg (AH.c (Z6p l v6_4 v31_1 v31_3 v31_5).1),.one (lst 3 AQ.c [Z5z l,Z5A l])]) (Aa (by rw [<- hF1];first | (simp only [Cz,h2,cond_true,cond_false] <;> rfl)))
theorem jS (l:(List (List Int))) (hl:(l.length:Int)<=9223372036854775807) (hll:∀ x∈l,(x.length:Int)<=9223372036854775807):OKc (Uo l):=cPu<|pO l hl hll
end
abbrev nN1:ByteArray:={ data := #[78,49] }
abbrev nN2:ByteArray:={ data := #[78,50] }
abbrev qX:ByteArray:={ data := #[71,78,68] }
structure Jr (B:AH):Prop where
 lay:B.Layers=2
 par:1<=(B.Parts.length:Int)/\(B.Parts.length:Int)<=3
 net:∃ p q r,B.Nets=[Bf.mk nN1 p,Bf.mk nN2 q,Bf.mk qX r]
 trk:(B.Tracks.length:Int)<=6
 edg:∀ t∈B.Tracks,(t.Shape.Edges.length:Int)<=2
 via:(B.Vias.length:Int)<=3
 pou:(B.Pours.length:Int)<=3
 kee:(B.Keeps.length:Int)<=1
 slo:(B.Slots.length:Int)<=1
theorem wE {α:Type} {c:Bool} {a b:AH×α} (h:Jr a.1) (k:Jr b.1):Jr (bif c then a else b).1:=by cases c <;> assumption
theorem oI {b:AH} {d:AD} (h:Jr b):Jr (Db b d).1:=by
 unfold Db
 obtain ⟨h1,h2,h3,h4,h5,h6,h7,h8,h9⟩:=h
 exact wE ⟨h1,h2,h3,h4,h5,h6,h7,h8,h9⟩ ⟨h1,h2,h3,h4,h5,h6,h7,h8,h9⟩
theorem wB {b:AH} {types:List AQ} {l:List (List Int)} {x y z w:List Unit} (h1:b.Layers=2) (h2:1<=(b.Parts.length:Int)/\(b.Parts.length:Int)<=3) (h3:∃ p q r,b.Nets=[Bf.mk nN1 p,Bf.mk nN2 q,Bf.mk qX r]) {c:List Cj} {ru:List BD} {wa:List CQ} {ma:List Dz} :
  Jr (AH.mk (BJ b types l).Layers (BJ b types l).Outline (BJ b types l).Parts (BJ b types l).Nets (BJ b types l).Tracks (BJ b types l).Vias (BJ b types l).Pours (BJ b types l).Keeps (BJ b types l).Slots c ru wa ma):=by
 obtain ⟨k1,k2,k3,k4,k5,k6,k7,k8,k9,k10⟩:=Hh b types l
 exact ⟨k1.trans h1,by show 1<=((BJ b types l).Parts.length:Int)/\((BJ b types l).Parts.length:Int)<=3;rw [k3];exact h2,by rw [<- k4] at h3;exact h3,k5,k6,k7,k8,k9,k10⟩
theorem Zw (l:List (List Int)) (v6_4:List AE) (v5:AD) (v8:Int) (a1 a3 a5:List Ag) (d1:AD) (v10:Int) (K0:List AE->AD->Int->(AH×(List AQ))) (K1:List Ag->List Ag->List Ag->AD->Int->(AH×(List AQ))) (hK:∀ a b c d,Jr (K1 a b c d (v10+1)).1):∀ (n:Nat) (x y z:List Ag) (d:AD) (k:Int),0<=k->(((Ba [A6 (AX l 0) ({ data := #[82] }:ByteArray),A6 (AX l 1) ({ data := #[81] }:ByteArray)] (v6_4.getD v10.toNat default).Type').1.Pads.length:Int)-k).toNat<n->Jr (DO l v6_4 v5 v8 a1 a3 a5 d1 v10 K0 K1 n x y z d k).1
 | 0,x,y,z,d,k,_,h=>absurd h (Nat.not_lt_zero _)
 | n+1,x,y,z,d,k,k0,h=>by
  unfold DO
  show Jr (bif decide ((k:Int)<((Ba [A6 (AX l 0) ({ data := #[82] }:ByteArray),A6 (AX l 1) ({ data := #[81] }:ByteArray)] (v6_4.getD v10.toNat default).Type').1.Pads.length:Int)) then (_:AH×List AQ) else _).1
  by_cases hc:(k:Int)<((Ba [A6 (AX l 0) ({ data := #[82] }:ByteArray),A6 (AX l 1) ({ data := #[81] }:ByteArray)] (v6_4.getD v10.toNat default).Type').1.Pads.length:Int)
  ·rw [decide_eq_true hc]
   exact Zw l v6_4 v5 v8 a1 a3 a5 d1 v10 K0 K1 hK n _ _ _ _ _ (by omega) (by omega)
  rw [decide_eq_false hc]
  exact hK _ _ _ _
theorem Zx (l:List (List Int)) (v6_4:List AE) (v5:AD) (v8:Int) (K0:List AE->AD->Int->(AH×(List AQ))) (hp:1<=(v6_4.length:Int)/\(v6_4.length:Int)<=3):∀ (n:Nat) (x y z:List Ag) (d:AD) (k:Int),0<=k->(W64 (1+(AA (AA (AD.mk (AX l 2) 0) 3).2 3).1)-k).toNat<n->Jr (Cz l v6_4 v5 v8 K0 n x y z d k).1
 | 0,x,y,z,d,k,_,h=>absurd h (Nat.not_lt_zero _)
 | n+1,x,y,z,d,k,k0,h=>by
  unfold Cz
  by_cases hc:k<W64 (1+(AA (AA (AD.mk (AX l 2) 0) 3).2 3).1)
  ·simp only [hc,decide_true,cond_true]
   exact Zw l v6_4 v5 v8 x y z d k K0 _ (fun a b c e=>Zx l v6_4 v5 v8 K0 hp n a b c e (k+1) (by omega) (by omega)) _ _ _ _ _ 0 (by omega) (Nat.lt_succ_self _)
  simp only [hc,decide_false,cond_false]
  exact oI (wB (x:=[]) (y:=[]) (z:=[]) (w:=[]) rfl hp ⟨_,_,_,rfl⟩)
theorem Zy (l:List (List Int)):∀ (n:Nat) (v:List AE) (d:AD) (k:Int),0<=k->(v.length:Int)=k->k<=W64 (1+(AA (AA (AD.mk (AX l 2) 0) 3).2 3).1)->(W64 (1+(AA (AA (AD.mk (AX l 2) 0) 3).2 3).1)-k).toNat<n->Jr (CV l n v d k).1
 | 0,v,d,k,_,_,_,h=>absurd h (Nat.not_lt_zero _)
 | n+1,v,d,k,k0,kv,k1,h=>by
  have hmany:1<=W64 (1+(AA (AA (AD.mk (AX l 2) 0) 3).2 3).1)/\W64 (1+(AA (AA (AD.mk (AX l 2) 0) 3).2 3).1)<=3:=by
   have:=C5 (AA (AD.mk (AX l 2) 0) 3).2 3 (by decide) (by decide)
   rw [Af (by omega) (by omega)];omega
  unfold CV
  by_cases hc:k<W64 (1+(AA (AA (AD.mk (AX l 2) 0) 3).2 3).1)
  ·simp only [hc,decide_true,cond_true]
   exact Zy l n _ _ _ (by omega) (by simp only [List.length_append,List.length_cons,List.length_nil];omega) (by omega) (by omega)
  simp only [hc,decide_false,cond_false]
  exact Zx l v d k _ (by omega) _ _ _ _ _ 0 (by omega) (Nat.lt_succ_self _)
theorem wH (l:List (List Int)):Jr (AL l).1:=by
 have hmany:1<=W64 (1+(AA (AA (AD.mk (AX l 2) 0) 3).2 3).1):=by
  have:=C5 (AA (AD.mk (AX l 2) 0) 3).2 3 (by decide) (by decide)
  rw [Af (by omega) (by omega)];omega
 unfold AL
 exact Zy l _ _ _ 0 (by omega) rfl (by omega) (Nat.lt_succ_self _)
theorem bP (r:Ak):(FT r).Edges.length=4:=rfl
theorem dH (p:AC) (r:Int):(IC p r).Edges.length=1:=rfl
def Oc (n:Nat) (l:List A5):Prop:=l.length<=n/\∀ g∈l,MT g
theorem Ya {n:Nat} {c:Bool} {a b:List A5} (ha:Oc n a) (hb:Oc n b):Oc n (bif c then a else b):=by cases c <;> assumption
theorem YZ {n:Nat}:Oc n []:=⟨Nat.zero_le _,fun g hg=>by cases hg⟩
theorem UX {n:Nat} {g:A5} {l:List A5} (hg:MT g) (h:Oc n l):Oc (n+1) (g::l):=⟨Nat.succ_le_succ h.1,fun x hx=>(List.mem_cons.1 hx).elim (fun e=>e▸hg) (h.2 x)⟩
theorem wW {n:Nat} {g:A5} {l:List A5} (hg:MT g) (h:Oc n l):Oc (n+1) (l++[g]):=⟨by rw [List.length_append];exact Nat.succ_le_succ h.1,fun x hx=>(List.mem_append.1 hx).elim (h.2 x) (fun e=>by rw [List.mem_singleton.1 e];exact hg)⟩
theorem aG {k:Int} {a c:Bm}:MT (A5.mk k [a,c]):=(by decide:((2:Nat):Int)<=1000000)
theorem gs_up {n m:Nat} {l:List A5} (h:Oc n l) (k:n<=m):Oc m l:=⟨Nat.le_trans h.1 k,h.2⟩
theorem cU (l:List Int) (d:AD):Oc 3 (Z4Y l d):=by
 have h1:Oc 2 (Z4K l d):=Ya (UX aG YZ) YZ
 have h2:Oc 2 (Z4S l d):=Ya (UX aG (UX aG YZ)) h1
 exact Ya (wW aG h2) (gs_up h2 (by decide))
theorem UP (d:AD) (k:Int):((Z4A d k).length:Int)<=1000000:=by
 unfold Z4A Z4v Z4y
 cases decide ((AA (AA d 2).2 3).1=0) with
 | true=>rw [cond_true,bP];decide
 | false =>
  rw [cond_false]
  cases decide ((AA (AA d 2).2 3).1=1) with
  | true=>rw [cond_true,dH];decide
  | false=>exact (by decide:((1:Nat):Int)<=1000000)
theorem SF (l:List Int) (name:ByteArray):∀ (n:Nat) (v:List A1) (d:AD) (k:Int),(∀ p∈v,Wd p)->(v.length:Int)<=1000000->((v.length:Int)+(W64 (2+(AA (AD.mk l 0) 5).1)-k)<=1000000)->((W64 (2+(AA (AD.mk l 0) 5).1))-k).toNat<n ->
  MP (C0 l name n v d k)
 | 0,v,d,k,_,_,_,h=>absurd h (Nat.not_lt_zero _)
 | n+1,v,d,k,hv,h0,h1,h2=>by
  unfold C0
  by_cases h:k<W64 (2+(AA (AD.mk l 0) 5).1)
  ·rw [decide_eq_true h,cond_true]
   refine SF l name n _ _ (k+1) (fun p hp => ?_) (by simp only [List.length_append,List.length_cons,List.length_nil];omega) (by simp only [List.length_append,List.length_cons,List.length_nil];omega) (by omega)
   rcases List.mem_append.1 hp with hp | hp
   ·exact hv p hp
   rw [List.mem_singleton.1 hp]
   exact UP d k
  rw [decide_eq_false h,cond_false]
  have hg:=cU l d
  exact ⟨h0,by have:=hg.1;show ((Z4Y l d).length:Int)<=1000000;omega,hv,hg.2⟩
theorem V2 (l:List Int) (name:ByteArray):MP (A6 l name):=by
 have hn:=C5 (AD.mk l 0) 5 (by decide) (by decide)
 have hw:W64 (2+(AA (AD.mk l 0) 5).1)=2+(AA (AD.mk l 0) 5).1:=Af (by omega) (by omega)
 unfold A6
 exact SF l name _ [] _ 0 (fun p hp=>by cases hp) (by decide) (by simp only [List.length_nil];omega) (by omega)
theorem Zt (l:List (List Int)) (v6_4:List AE) (v5:AD) (v8:Int) (a1 a3 a5:List Ag) (d1:AD) (v10:Int) (K0:List AE->AD->Int->(AH×(List AQ))) (K1:List Ag->List Ag->List Ag->AD->Int->(AH×(List AQ))) (hK:∀ a b c d,CP (K1 a b c d (v10+1)).2):∀ (n:Nat) (x y z:List Ag) (d:AD) (k:Int),0<=k->(((Ba [A6 (AX l 0) ({ data := #[82] }:ByteArray),A6 (AX l 1) ({ data := #[81] }:ByteArray)] (v6_4.getD v10.toNat default).Type').1.Pads.length:Int)-k).toNat<n->CP (DO l v6_4 v5 v8 a1 a3 a5 d1 v10 K0 K1 n x y z d k).2
 | 0,x,y,z,d,k,_,h=>absurd h (Nat.not_lt_zero _)
 | n+1,x,y,z,d,k,k0,h=>by
  unfold DO
  show CP (bif decide ((k:Int)<((Ba [A6 (AX l 0) ({ data := #[82] }:ByteArray),A6 (AX l 1) ({ data := #[81] }:ByteArray)] (v6_4.getD v10.toNat default).Type').1.Pads.length:Int)) then (_:AH×List AQ) else _).2
  by_cases hc:(k:Int)<((Ba [A6 (AX l 0) ({ data := #[82] }:ByteArray),A6 (AX l 1) ({ data := #[81] }:ByteArray)] (v6_4.getD v10.toNat default).Type').1.Pads.length:Int)
  ·rw [decide_eq_true hc]
   exact Zt l v6_4 v5 v8 a1 a3 a5 d1 v10 K0 K1 hK n _ _ _ _ _ (by omega) (by omega)
  rw [decide_eq_false hc]
  exact hK _ _ _ _
theorem uL (a c:List Int) (x y:ByteArray):CP [A6 a x,A6 c y]:=by
 refine ⟨(by decide:((2:Nat):Int)<=1000000),fun t ht => ?_⟩
 simp only [List.mem_cons,List.not_mem_nil,or_false] at ht
 rcases ht with rfl | rfl <;> exact V2 _ _
theorem Zu (l:List (List Int)) (v6_4:List AE) (v5:AD) (v8:Int) (K0:List AE->AD->Int->(AH×(List AQ))):∀ (n:Nat) (x y z:List Ag) (d:AD) (k:Int),0<=k->(W64 (1+(AA (AA (AD.mk (AX l 2) 0) 3).2 3).1)-k).toNat<n->CP (Cz l v6_4 v5 v8 K0 n x y z d k).2
 | 0,x,y,z,d,k,_,h=>absurd h (Nat.not_lt_zero _)
 | n+1,x,y,z,d,k,k0,h=>by
  unfold Cz
  by_cases hc:k<W64 (1+(AA (AA (AD.mk (AX l 2) 0) 3).2 3).1)
  ·simp only [hc,decide_true,cond_true]
   exact Zt l v6_4 v5 v8 x y z d k K0 _ (fun a b c e=>Zu l v6_4 v5 v8 K0 n a b c e (k+1) (by omega) (by omega)) _ _ _ _ _ 0 (by omega) (Nat.lt_succ_self _)
  simp only [hc,decide_false,cond_false]
  exact uL _ _ _ _
theorem Zv (l:List (List Int)):∀ (n:Nat) (v:List AE) (d:AD) (k:Int),0<=k->(W64 (1+(AA (AA (AD.mk (AX l 2) 0) 3).2 3).1)-k).toNat<n->CP (CV l n v d k).2
 | 0,v,d,k,_,h=>absurd h (Nat.not_lt_zero _)
 | n+1,v,d,k,k0,h=>by
  unfold CV
  by_cases hc:k<W64 (1+(AA (AA (AD.mk (AX l 2) 0) 3).2 3).1)
  ·simp only [hc,decide_true,cond_true]
   exact Zv l n _ _ _ (by omega) (by omega)
  simp only [hc,decide_false,cond_false]
  exact Zu l v d k _ _ _ _ _ _ 0 (by omega) (Nat.lt_succ_self _)
theorem JM (l:List (List Int)):CP (AL l).2:=by
 unfold AL
 exact Zv l _ _ _ 0 (by omega) (Nat.lt_succ_self _)
def Ix {α:Type} [Inhabited α] (P:Nat->α->Prop) (v:List α):Prop:=∀ k,k<v.length->P k (v.getD k default)
theorem UT {α:Type} [Inhabited α] {P:Nat->α->Prop}:Ix P ([]:List α):=fun k h=>absurd h (Nat.not_lt_zero _)
theorem UU {α:Type} [Inhabited α] {P:Nat->α->Prop} {v:List α} {x:α} (h:Ix P v) (hx:P v.length x):Ix P (v++[x]):=by
 intro k hk
 by_cases h1:k<v.length
 ·rw [List.getD_eq_getElem?_getD,List.getElem?_append_left h1,<- List.getD_eq_getElem?_getD];exact h k h1
 have e:k=v.length:=by simp only [List.length_append,List.length_cons,List.length_nil] at hk;omega
 subst e
 rw [List.getD_eq_getElem?_getD,List.getElem?_append_right (Nat.le_refl _),Nat.sub_self];exact hx
theorem KS {α:Type} [Inhabited α] {P:Nat->α->Prop} {v:List α} {x:α} (h:Ix P v) (hx:x∈v):∃ k,k<v.length/\v.getD k default=x/\P k x:=by
 obtain ⟨k,hk,e⟩:=List.getElem_of_mem hx
 have e2:v.getD k default=x:=by rw [List.getD_eq_getElem?_getD,List.getElem?_eq_getElem hk];exact e
 exact ⟨k,hk,e2,e2▸h k hk⟩
structure PM (k:Nat) (p:A1):Prop where
 lt:k<6
 name:p.Name=Ah k
 drill:0<=p.Drill/\p.Drill<=6
 shp:∃ y:Int,0<=y/\y<=10/\p.At=AC.mk (30*(k:Int)) y/\(p.Shape=FT (Ak.mk (30*(k:Int)-6) (y-6) (30*(k:Int)+6) (y+6))\/(∃ r:Int,4<=r/\r<=6/\p.Shape=IC (AC.mk (30*(k:Int)) y) r)\/p.Shape=AP.mk 1 [AF.mk 1 (AC.mk (30*(k:Int)-2) y) (AC.mk (30*(k:Int)+2) y) (AC.mk 0 0)] 4)
theorem CE {d:AD} {n:Int} (h0:0<n) (h1:n<=1000000):0<=(AA d n).1/\(AA d n).1<n:=C5 d n h0 (by omega)
theorem SH (l:List Int) (name:ByteArray):∀ (n:Nat) (v:List A1) (d:AD) (k:Int),Ix PM v->(v.length:Int)=k->k<=W64 (2+(AA (AD.mk l 0) 5).1)->(W64 (2+(AA (AD.mk l 0) 5).1)-k).toNat<n->Ix PM (C0 l name n v d k).Pads
 | 0,v,d,k,_,_,_,h=>absurd h (Nat.not_lt_zero _)
 | n+1,v,d,k,hv,hl,hk,h=>by
  have hn:=CE (d:=AD.mk l 0) (n:=5) (by decide) (by decide)
  have hw:W64 (2+(AA (AD.mk l 0) 5).1)=2+(AA (AD.mk l 0) 5).1:=Af (by omega) (by omega)
  unfold C0
  by_cases hc:k<W64 (2+(AA (AD.mk l 0) 5).1)
  ·rw [decide_eq_true hc,cond_true]
   refine SH l name n _ _ _ (UU hv ?_) (by simp only [List.length_append,List.length_cons,List.length_nil];omega) (by omega) (by omega)
   have hk6:v.length<6:=by omega
   have hy:=CE (d:=d) (n:=2) (by decide) (by decide)
   have hr:=CE (d:=(AA (AA d 2).2 3).2) (n:=3) (by decide) (by decide)
   have h4:=CE (d:=Z4z d) (n:=4) (by decide) (by decide)
   have h2:=CE (d:=(AA (Z4z d) 4).2) (n:=2) (by decide) (by decide)
   have e1:W64 (30*k)=30*(v.length:Int):=by rw [Af (by omega) (by omega)];omega
   have e2:W64 (10*(AA d 2).1)=10*(AA d 2).1:=Af (by omega) (by omega)
   refine ⟨hk6,by rw [<- hl],?_,10*(AA d 2).1,by omega,by omega,by show AC.mk _ _=_;rw [e1,e2],?_⟩
   ·show 0<=W64 (W64 (2*(AA (Z4z d) 4).1)*(AA (AA (Z4z d) 4).2 2).1)/\W64 (W64 (2*(AA (Z4z d) 4).1)*(AA (AA (Z4z d) 4).2 2).1)<=6
    rw [Af (x:=2*(AA (Z4z d) 4).1) (by omega) (by omega)]
    have h01:(AA (AA (Z4z d) 4).2 2).1=0\/(AA (AA (Z4z d) 4).2 2).1=1:=by omega
    rcases h01 with h01 | h01 <;> rw [h01] <;> rw [Af (by omega) (by omega)] <;> omega
   show (AP.mk _ (Z4A d k) _=_)\/_
   unfold Z4A Z4v Z4y
   rw [e1,e2]
   cases decide ((AA (AA d 2).2 3).1=0) with
   | true =>
    simp only [cond_true]
    left
    rw [Af (x:=30*(v.length:Int)-6) (by omega) (by omega),Af (x:=10*(AA d 2).1-6) (by omega) (by omega),Af (x:=30*(v.length:Int)+6) (by omega) (by omega),Af (x:=10*(AA d 2).1+6) (by omega) (by omega)]
   | false =>
    simp only [cond_false]
    right
    cases decide ((AA (AA d 2).2 3).1=1) with
    | true =>
     simp only [cond_true]
     left
     exact ⟨W64 (4+(AA (AA (AA d 2).2 3).2 3).1),by rw [Af (by omega) (by omega)];omega,by rw [Af (by omega) (by omega)];omega,rfl⟩
    | false =>
     simp only [cond_false]
     right
     rw [Af (x:=30*(v.length:Int)-2) (by omega) (by omega),Af (x:=30*(v.length:Int)+2) (by omega) (by omega)]
  rw [decide_eq_false hc,cond_false]
  exact hv
theorem GH (l:List Int) (name:ByteArray):Ix PM (A6 l name).Pads:=by
 have hn:=CE (d:=AD.mk l 0) (n:=5) (by decide) (by decide)
 have hw:W64 (2+(AA (AD.mk l 0) 5).1)=2+(AA (AD.mk l 0) 5).1:=Af (by omega) (by omega)
 unfold A6
 exact SH l name _ [] _ 0 UT rfl (by omega) (by omega)
abbrev nR:ByteArray:={ data := #[82] }
abbrev nQ:ByteArray:={ data := #[81] }
abbrev VK:List ByteArray:=[({ data := #[82,49] }:ByteArray),({ data := #[82,50] }:ByteArray),({ data := #[120,47,82,49] }:ByteArray)]
structure RR (k:Nat) (p:AE):Prop where
 id:p.Id=1+(k:Int)
 ref:p.Ref=VK.getD k ⟨#[]⟩
 typ:p.Type'=nR\/p.Type'=nQ
 turn:0<=p.Turn/\p.Turn<4
 x:80<=p.At.X/\p.At.X<=300
 y:100<=p.At.Y/\p.At.Y<=270
abbrev Lx (l:List (List Int)):List AQ:=[Z5z l,Z5A l]
theorem bH (l:List (List Int)) {i:Int} (hi:0<=i/\i<2):((Lx l).getD i.toNat default).Name=nR\/((Lx l).getD i.toNat default).Name=nQ:=by
 have h01:i=0\/i=1:=by omega
 rcases h01 with rfl | rfl
 ·exact .inl (Fo _ _).1
 exact .inr (Fo _ _).1
theorem QM (l:List (List Int)) {x:ByteArray} (h:x=nR\/x=nQ):∃ a,Ba (Lx l) x=(A6 a x,true)/\A6 a x∈Lx l:=by
 have h0:=(Fo (AX l 0) nR).1
 have h1:=(Fo (AX l 1) nQ).1
 rcases h with rfl | rfl
 ·refine ⟨AX l 0,?_,List.mem_cons_self ..⟩
  have:=ST (a:=Z5z l) (c:=Z5A l)
  rw [show (Z5z l).Name=nR from h0] at this
  exact this
 refine ⟨AX l 1,?_,List.mem_cons_of_mem _ (List.mem_cons_self ..)⟩
 have:=SS (a:=Z5z l) (c:=Z5A l) (by rw [show (Z5z l).Name=nR from h0,show (Z5A l).Name=nQ from h1];decide +kernel)
 rw [show (Z5A l).Name=nQ from h1] at this
 exact this
theorem WL (l:List (List Int)) {x:ByteArray} (h:x=nR\/x=nQ):((Ba (Lx l) x).1.Pads.length:Int)<=6:=by
 obtain ⟨a,e,_⟩:=QM l h
 rw [e]
 exact (Fo a x).2.2
theorem Qa (v5'':AD) (v:List Ag) (v6_4:List AE) (v10:Int) (l:List (List Int)) (v13:Int):(Z6h v5'' v v6_4 v10 l v13).length<=v.length+1/\(Z6i v5'' v v6_4 v10 l v13).length<=v.length+1/\(Z6j v5'' v v6_4 v10 l v13).length<=v.length+1:=by
 unfold Z6h Z6i Z6j
 cases decide ((AA v5'' 5).1<3) <;> cases decide ((AA v5'' 5).1=0) <;> cases decide ((AA v5'' 5).1=1) <;> simp
theorem Zz (l:List (List Int)) (v6_4:List AE) (v5:AD) (v8:Int) (a1 a3 a5:List Ag) (d1:AD) (v10:Int) (K0:List AE->AD->Int->(AH×(List AQ))) (K1:List Ag->List Ag->List Ag->AD->Int->(AH×(List AQ))) (Q:AH×List AQ->Prop) (M:Nat) (hK:∀ a b c d,a.length<=M->b.length<=M->c.length<=M->Q (K1 a b c d (v10+1))) :
  ∀ (n:Nat) (x y z:List Ag) (d:AD) (k:Int),0<=k->(x.length:Int)+((Z68 l v6_4 v10).Pads.length-k)<=M->(y.length:Int)+((Z68 l v6_4 v10).Pads.length-k)<=M->(z.length:Int)+((Z68 l v6_4 v10).Pads.length-k)<=M->k<=(Z68 l v6_4 v10).Pads.length->(((Z68 l v6_4 v10).Pads.length:Int)-k).toNat<n->Q (DO l v6_4 v5 v8 a1 a3 a5 d1 v10 K0 K1 n x y z d k)
 | 0,x,y,z,d,k,_,_,_,_,_,h=>absurd h (Nat.not_lt_zero _)
 | n+1,x,y,z,d,k,k0,hx,hy,hz,hk,h=>by
  unfold DO
  by_cases hc:(k:Int)<((Z68 l v6_4 v10).Pads.length:Int)
  ·rw [decide_eq_true hc,cond_true]
   have p1:=(Qa d x v6_4 v10 l k).1
   have p2:=(Qa d y v6_4 v10 l k).2.1
   have p3:=(Qa d z v6_4 v10 l k).2.2
   exact Zz l v6_4 v5 v8 a1 a3 a5 d1 v10 K0 K1 Q M hK n _ _ _ _ _ (by omega) (by omega) (by omega) (by omega) (by omega) (by omega)
  rw [decide_eq_false hc,cond_false]
  exact hK _ _ _ _ (by omega) (by omega) (by omega)
theorem Z0 (l:List (List Int)) (v6_4:List AE) (v5:AD) (v8:Int) (K0:List AE->AD->Int->(AH×(List AQ))) (Q:AH×List AQ->Prop) (hp:Ix RR v6_4) (hm:(v6_4.length:Int)=W64 (1+(AA (AA (AD.mk (AX l 2) 0) 3).2 3).1)) (h3:v6_4.length<=3) (hQ:∀ x y z:List Ag,x.length<=18->y.length<=18->z.length<=18->Q ((Z6p l v6_4 x y z).1,Lx l)) :
  ∀ (n:Nat) (x y z:List Ag) (d:AD) (k:Int),0<=k->(x.length:Int)<=6*k->(y.length:Int)<=6*k->(z.length:Int)<=6*k->k<=(v6_4.length:Int)->((v6_4.length:Int)-k).toNat<n->Q (Cz l v6_4 v5 v8 K0 n x y z d k)
 | 0,x,y,z,d,k,_,_,_,_,_,h=>absurd h (Nat.not_lt_zero _)
 | n+1,x,y,z,d,k,k0,hx,hy,hz,hk,h=>by
  unfold Cz
  rw [<- hm]
  by_cases hc:k<(v6_4.length:Int)
  ·rw [decide_eq_true hc,cond_true]
   have hg:=WL l (hp k.toNat (by omega)).typ
   have hg:((Z68 l v6_4 k).Pads.length:Int)<=6:=hg
   exact Zz l v6_4 v5 v8 x y z d k K0 _ Q (6*(k+1)).toNat (fun a b c e ha hb hc'=>Z0 l v6_4 v5 v8 K0 Q hp hm h3 hQ n a b c e (k+1) (by omega) (by omega) (by omega) (by omega) (by omega) (by omega)) _ _ _ _ _ 0 (by omega) (by omega) (by omega) (by omega) (by omega) (by omega)
  rw [decide_eq_false hc,cond_false]
  exact hQ _ _ _ (by omega) (by omega) (by omega)
theorem Z1 (l:List (List Int)) (Q:AH×List AQ->Prop) (hQ:∀ (v:List AE) (x y z:List Ag),Ix RR v->1<=v.length->v.length<=3->x.length<=18->y.length<=18->z.length<=18->Q ((Z6p l v x y z).1,Lx l)) :
  ∀ (n:Nat) (v:List AE) (d:AD) (k:Int),Ix RR v->(v.length:Int)=k->k<=W64 (1+(AA (AA (AD.mk (AX l 2) 0) 3).2 3).1)->(W64 (1+(AA (AA (AD.mk (AX l 2) 0) 3).2 3).1)-k).toNat<n->Q (CV l n v d k)
 | 0,v,d,k,_,_,_,h=>absurd h (Nat.not_lt_zero _)
 | n+1,v,d,k,hv,hl,hk,h=>by
  have hn:=CE (d:=(AA (AD.mk (AX l 2) 0) 3).2) (n:=3) (by decide) (by decide)
  have hw:W64 (1+(AA (AA (AD.mk (AX l 2) 0) 3).2 3).1)=1+(AA (AA (AD.mk (AX l 2) 0) 3).2 3).1:=Af (by omega) (by omega)
  unfold CV
  by_cases hc:k<W64 (1+(AA (AA (AD.mk (AX l 2) 0) 3).2 3).1)
  ·rw [decide_eq_true hc,cond_true]
   refine Z1 l Q hQ n _ _ _ (UU hv ?_) (by simp only [List.length_append,List.length_cons,List.length_nil];omega) (by omega) (by omega)
   have h2:=CE (d:=d) (n:=2) (by decide) (by decide)
   have h4:=CE (d:=(AA d 2).2) (n:=4) (by decide) (by decide)
   have h5:=CE (d:=Z5U d) (n:=5) (by decide) (by decide)
   have h6:=CE (d:=(AA (Z5U d) 5).2) (n:=3) (by decide) (by decide)
   have h7:=CE (d:=Z5X d) (n:=3) (by decide) (by decide)
   refine ⟨?_,by rw [<- hl];rfl,bH l h2,h4,?_,?_⟩
   ·show W64 (1+k)=_
    rw [Af (by omega) (by omega)];omega
   ·show 80<=W64 (W64 (80+W64 (100*k))+W64 (5*(AA (Z5U d) 5).1))/\W64 (W64 (80+W64 (100*k))+W64 (5*(AA (Z5U d) 5).1))<=300
    rw [Af (x:=100*k) (by omega) (by omega),Af (x:=80+100*k) (by omega) (by omega),Af (x:=5*(AA (Z5U d) 5).1) (by omega) (by omega),Af (by omega) (by omega)]
    omega
   show 100<=W64 (W64 (100+W64 (80*(AA (AA (Z5U d) 5).2 3).1))+W64 (5*(AA (Z5X d) 3).1))/\W64 (W64 (100+W64 (80*(AA (AA (Z5U d) 5).2 3).1))+W64 (5*(AA (Z5X d) 3).1))<=270
   rw [Af (x:=80*(AA (AA (Z5U d) 5).2 3).1) (by omega) (by omega),Af (x:=100+80*(AA (AA (Z5U d) 5).2 3).1) (by omega) (by omega),Af (x:=5*(AA (Z5X d) 3).1) (by omega) (by omega),Af (by omega) (by omega)]
   omega
  rw [decide_eq_false hc,cond_false]
  exact Z0 l v d k _ Q hv (by omega) (by omega) (fun x y z hx hy hz=>hQ v x y z hv (by omega) (by omega) hx hy hz) _ [] [] [] _ 0 (by omega) (by simp) (by simp) (by simp) (by omega) (by omega)
theorem kI (l:List (List Int)) (Q:AH×List AQ->Prop) (hQ:∀ (v:List AE) (x y z:List Ag),Ix RR v->1<=v.length->v.length<=3->x.length<=18->y.length<=18->z.length<=18->Q ((Z6p l v x y z).1,Lx l)):Q (AL l):=by
 have hn:=CE (d:=(AA (AD.mk (AX l 2) 0) 3).2) (n:=3) (by decide) (by decide)
 have hw:W64 (1+(AA (AA (AD.mk (AX l 2) 0) 3).2 3).1)=1+(AA (AA (AD.mk (AX l 2) 0) 3).2 3).1:=Af (by omega) (by omega)
 unfold AL
 exact Z1 l Q hQ _ [] _ 0 UT rfl (by omega) (by omega)
def PtB (p:AC):Prop:=(-900<=p.X/\p.X<=900) /\ -900<=p.Y/\p.Y<=900
theorem Qm {x:Int} (h : -500<=x/\x<=500) : -500<=W64 (0-x)/\W64 (0-x)<=500:=by rw [Af (by omega) (by omega)];omega
theorem nF {x y:Int} (h : -500<=x/\x<=500) (k : -400<=y/\y<=400) : -900<=W64 (x+y)/\W64 (x+y)<=900:=by rw [Af (by omega) (by omega)];omega
theorem nB {m:Ae} {p:AC} (hp:(-500<=p.X/\p.X<=500) /\ -500<=p.Y/\p.Y<=500) (ha:(-400<=m.At.X/\m.At.X<=400) /\ -400<=m.At.Y/\m.At.Y<=400):PtB (FF m p):=by
 have h1:(-500<=(B6 p m.Mirror).X/\(B6 p m.Mirror).X<=500) /\ -500<=(B6 p m.Mirror).Y/\(B6 p m.Mirror).Y<=500:=by
  unfold B6
  cases m.Mirror with
  | true=>exact ⟨Qm hp.1,hp.2⟩
  | false=>exact hp
 have h2:∀ q:AC,((-500<=q.X/\q.X<=500) /\ -500<=q.Y/\q.Y<=500)->(-500<=(CR q m.Turn).X/\(CR q m.Turn).X<=500) /\ -500<=(CR q m.Turn).Y/\(CR q m.Turn).Y<=500:=fun q hq=>by
  unfold CR
  cases decide (CH m.Turn=1) with
  | true=>exact ⟨Qm hq.2,hq.1⟩
  | false =>
   cases decide (CH m.Turn=2) with
   | true=>exact ⟨Qm hq.1,Qm hq.2⟩
   | false =>
    cases decide (CH m.Turn=3) with
    | true=>exact ⟨hq.2,Qm hq.1⟩
    | false=>exact hq
 have h3:=h2 _ h1
 exact ⟨nF h3.1 ha.1,nF h3.2 ha.2⟩
theorem oB (b:AH) (l:List (List Int)) (d:AD) (hP:Ix RR b.Parts):PtB (Bn b (Lx l) d).1:=by
 have h12:=CE (d:=d) (n:=12) (by decide) (by decide)
 have h6:=CE (d:=(AA d 12).2) (n:=6) (by decide) (by decide)
 unfold Bn
 cases hq:(bif decide ((AA d 12).1<8) then decide ((0:Int)<(b.Parts.length:Int)) else false) with
 | true =>
  have hi:=VD hq
  rw [cond_true]
  show PtB (Z1A b d (Lx l))
  have hp:=hP (Int.tmod (AA d 12).1 (b.Parts.length:Int)).toNat (by omega)
  obtain ⟨a,e,_⟩:=QM l hp.typ
  have hx:=hp.x
  have hy:=hp.y
  unfold Z1A
  refine nB ?_ (by show (-400<=(Z1y b d).At.X/\(Z1y b d).At.X<=400) /\ -400<=(Z1y b d).At.Y/\(Z1y b d).At.Y<=400;unfold Z1y;omega)
  unfold Z1z Z1y
  rw [e]
  generalize (Int.tmod (AA (AA d 12).2 6).1 _).toNat=k
  by_cases hk:k<(A6 a (b.Parts.getD (Int.tmod (AA d 12).1 (b.Parts.length:Int)).toNat default).Type').Pads.length
  ·obtain ⟨h1,_,_,y,hy0,hy1,hat,_⟩:=GH a _ k hk
   show (-500<=((A6 a (b.Parts.getD (Int.tmod (AA d 12).1 (b.Parts.length:Int)).toNat default).Type').Pads.getD k default).At.X/\_)/\_
   rw [hat]
   simp only
   omega
  rw [List.getD_eq_getElem?_getD,List.getElem?_eq_none (by show (A6 a (b.Parts.getD (Int.tmod (AA d 12).1 (b.Parts.length:Int)).toNat default).Type').Pads.length<=k;omega)]
  exact (by decide:(-500<=(0:Int)/\(0:Int)<=500) /\ -500<=(0:Int)/\(0:Int)<=500)
 | false =>
  rw [cond_false]
  show (-900<=W64 (30+Int.tmod (W64 (40*(AA d 12).1)) 360)/\W64 (30+Int.tmod (W64 (40*(AA d 12).1)) 360)<=900) /\ -900<=W64 (30+W64 (60*(AA (AA d 12).2 6).1))/\W64 (30+W64 (60*(AA (AA d 12).2 6).1))<=900
  rw [Af (x:=40*(AA d 12).1) (by omega) (by omega),Int.tmod_eq_emod_of_nonneg (by omega),Af (x:=60*(AA (AA d 12).2 6).1) (by omega) (by omega),Af (by omega) (by omega),Af (by omega) (by omega)]
  omega
structure RI (k:Nat) (t:Ab):Prop where
 id:t.Id=11+(k:Int)
 lay:1<=t.Layer/\t.Layer<=2
 kind:t.Shape.Kind=1
 r:3<=t.Shape.R/\t.Shape.R<=6
 edg:∃ a c d,PtB a/\PtB c/\t.Shape.Edges=(Ci a c d).1
structure sK (k:Nat) (v:A4):Prop where
 id:v.Id=21+(k:Int)
 lay:v.From=1/\v.To=2
 r:6<=v.R/\v.R<=10
 at_:PtB v.At
 drill:4<=v.Drill/\v.Drill<=8
def uD (s:Ar):Prop:=∃ r p,3<=r/\r<=6/\PtB p/\s.Shape=AP.mk 1 [E7 p (AC.mk (W64 (p.X+25)) (W64 (p.Y+10)))] r
abbrev aX (b:AH) (types:List AQ):Prop:=∀ d,PtB (Bn (AH.mk b.Layers b.Outline b.Parts [] [] [] [] [] [] [] [] [] []) types d).1
abbrev sM (b:AH) (Q:AH->Prop):Prop:=∀ (v1:List Ab) (v2:List A4) (v3:List Be) (v4:List C8) (v5:List Ar),Ix RI v1->v1.length<=5->Ix sK v2->v2.length<=2->v3.length<=2->v4.length<=1->v5.length<=1->(∀ s∈v5,uD s)->Q (AH.mk b.Layers b.Outline b.Parts b.Nets v1 v2 v3 v4 v5 [] [] [] [])
theorem jW (b:AH) (types:List AQ) (l:List (List Int)) (v1:List Ab) (v6:AD) (v7:ByteArray) (v9:Int) (v2:List A4) (v6':AD) (v11:Int) (K0:List Ab->AD->ByteArray->Int->AH) (K1:List A4->AD->Int->AH) (Q:AH->Prop) (hs:aX b types) (hQ:sM b Q) (h1:Ix RI v1) (h1l:v1.length<=5) (h2:Ix sK v2) (h2l:v2.length<=2) :
  ∀ (n:Nat) (v:List Be) (d:AD) (k:Int),0<=k->(v.length:Int)<=k->k<=(AA v6' 3).1->((AA v6' 3).1-k).toNat<n->Q (B7 b types l v1 v6 v7 v9 v2 v6' v11 K0 K1 n v d k)
 | 0,v,d,k,_,_,_,h=>absurd h (Nat.not_lt_zero _)
 | n+1,v,d,k,k0,kv,kk,h=>by
  have hb:=CE (d:=v6') (n:=3) (by decide) (by decide)
  unfold B7
  by_cases hc:k<(AA v6' 3).1
  ·rw [decide_eq_true hc,cond_true]
   exact jW b types l v1 v6 v7 v9 v2 v6' v11 K0 K1 Q hs hQ h1 h1l h2 h2l n _ _ _ (by omega) (by simp only [List.length_append,List.length_cons,List.length_nil];omega) (by omega) (by omega)
  rw [decide_eq_false hc,cond_false]
  have h4:(Z1T l b types).length<=1:=by
   unfold Z1T
   cases decide ((AA (AD.mk (AX l 6) 0) 3).1=0) <;> simp
  cases decide ((AA (Z1S l b types) 3).1=0) with
  | true =>
   rw [cond_true]
   refine hQ _ _ _ _ _ h1 h1l h2 h2l (by omega) h4 (by simp) (fun s hm => ?_)
   rw [List.mem_singleton.1 hm]
   have hr:=CE (d:=Z1Y b types l) (n:=4) (by decide) (by decide)
   exact ⟨W64 (3+(AA (Z1Y b types l) 4).1),Z1Z b types l,by rw [Af (by omega) (by omega)];omega,by rw [Af (by omega) (by omega)];omega,hs _,rfl⟩
  | false =>
   rw [cond_false]
   exact hQ _ _ _ _ _ h1 h1l h2 h2l (by omega) h4 (by simp) (fun s hm=>by cases hm)
theorem jX (b:AH) (types:List AQ) (l:List (List Int)) (v1:List Ab) (v6:AD) (v7:ByteArray) (v9:Int) (K0:List Ab->AD->ByteArray->Int->AH) (Q:AH->Prop) (hs:aX b types) (hQ:sM b Q) (h1:Ix RI v1) (h1l:v1.length<=5) :
  ∀ (n:Nat) (v:List A4) (d:AD) (k:Int),Ix sK v->(v.length:Int)=k->k<=(AA (AD.mk (AX l 5) 0) 3).1->((AA (AD.mk (AX l 5) 0) 3).1-k).toNat<n->Q (CM b types l v1 v6 v7 v9 K0 n v d k)
 | 0,v,d,k,_,_,_,h=>absurd h (Nat.not_lt_zero _)
 | n+1,v,d,k,hv,kv,kk,h=>by
  have hb:=CE (d:=AD.mk (AX l 5) 0) (n:=3) (by decide) (by decide)
  unfold CM
  by_cases hc:k<(AA (AD.mk (AX l 5) 0) 3).1
  ·rw [decide_eq_true hc,cond_true]
   refine jX b types l v1 v6 v7 v9 K0 Q hs hQ h1 h1l n _ _ _ (UU hv ?_) (by simp only [List.length_append,List.length_cons,List.length_nil];omega) (by omega) (by omega)
   have h5:=CE (d:=Z2t b types d) (n:=5) (by decide) (by decide)
   have h3:=CE (d:=(AA (Z2t b types d) 5).2) (n:=3) (by decide) (by decide)
   refine ⟨?_,⟨rfl,rfl⟩,?_,hs _,?_⟩
   ·show W64 (21+k)=_
    rw [Af (by omega) (by omega)];omega
   ·show 6<=W64 (6+_)/\W64 (6+_)<=10
    rw [Af (by omega) (by omega)];omega
   show 4<=W64 (4+W64 (2*_))/\W64 (4+W64 (2*_))<=8
   rw [Af (x:=2*_) (by omega) (by omega),Af (by omega) (by omega)];omega
  rw [decide_eq_false hc,cond_false]
  have hd:=CE (d:=d) (n:=3) (by decide) (by decide)
  exact jW b types l v1 v6 v7 v9 v d k K0 _ Q hs hQ h1 h1l hv (by omega) _ [] _ 0 (by omega) (by simp) (by omega) (by omega)
theorem jY (b:AH) (types:List AQ) (l:List (List Int)) (Q:AH->Prop) (hs:aX b types) (hQ:sM b Q) :
  ∀ (n:Nat) (v:List Ab) (d:AD) (s:ByteArray) (k:Int),Ix RI v->(v.length:Int)=k->k<=(AA (Z1E b l) 6).1->((AA (Z1E b l) 6).1-k).toNat<n->Q (B1 b types l n v d s k)
 | 0,v,d,s,k,_,_,_,h=>absurd h (Nat.not_lt_zero _)
 | n+1,v,d,s,k,hv,kv,kk,h=>by
  have hb:=CE (d:=Z1E b l) (n:=6) (by decide) (by decide)
  unfold B1
  by_cases hc:k<(AA (Z1E b l) 6).1
  ·rw [decide_eq_true hc,cond_true]
   refine jY b types l Q hs hQ n _ _ _ _ (UU hv ?_) (by simp only [List.length_append,List.length_cons,List.length_nil];omega) (by omega) (by omega)
   have h2:=CE (d:=d) (n:=2) (by decide) (by decide)
   have h4:=CE (d:=(AA d 2).2) (n:=4) (by decide) (by decide)
   refine ⟨?_,?_,rfl,?_,_,_,_,?_,?_,rfl⟩
   ·show W64 (11+k)=_
    rw [Af (by omega) (by omega)];omega
   ·show 1<=W64 (1+_)/\W64 (1+_)<=2
    rw [Af (by omega) (by omega)];omega
   ·show 3<=W64 (3+_)/\W64 (3+_)<=6
    rw [Af (by omega) (by omega)];omega
   ·exact hs _
   exact hs _
  rw [decide_eq_false hc,cond_false]
  exact jX b types l v d s k _ Q hs hQ hv (by omega) _ [] _ 0 UT rfl (by have:=CE (d:=AD.mk (AX l 5) 0) (n:=3) (by decide) (by decide);omega) (by omega)
theorem qL (b:AH) (types:List AQ) (l:List (List Int)) (Q:AH->Prop) (hs:aX b types) (hQ:sM b Q):Q (BJ b types l):=by
 have hb:=CE (d:=Z1E b l) (n:=6) (by decide) (by decide)
 unfold BJ
 exact jY b types l Q hs hQ _ [] _ _ 0 UT rfl (by omega) (by omega)
structure EO (B:AH) (T:List AQ) (l:List (List Int)):Prop where
 lay:B.Layers=2
 types:T=Lx l
 par:Ix RR B.Parts
 parl:1<=B.Parts.length/\B.Parts.length<=3
 net:∃ p q r,B.Nets=[Bf.mk nN1 p,Bf.mk nN2 q,Bf.mk qX r]/\p.length<=18/\q.length<=18/\r.length<=18
 trk:Ix RI B.Tracks
 trkl:B.Tracks.length<=5
 via:Ix sK B.Vias
 vial:B.Vias.length<=2
 slot:∀ s∈B.Slots,uD s
 slotl:B.Slots.length<=1
 poul:B.Pours.length<=2
 keel:B.Keeps.length<=1
theorem wD {α:Type} {c:Bool} {a b:AH×α} {T:List AQ} {l:List (List Int)} (h:EO a.1 T l) (k:EO b.1 T l):EO (bif c then a else b).1 T l:=by cases c <;> assumption
theorem L6 (l:List (List Int)):EO (AL l).1 (AL l).2 l:=by
 refine kI l (fun x=>EO x.1 x.2 l) fun v x y z hv h1 h3 hx hy hz => ?_
 show EO (Z6p l v x y z).1 (Lx l) l
 unfold Z6p
 have ho:=qL (AH.mk 2 (Z5H l) v [Bf.mk nN1 x,Bf.mk nN2 y,Bf.mk qX z] [] [] [] [] [] [] [] [] []) (Lx l) l
  (fun B=>EO B (Lx l) l) (fun d=>oB _ l d hv) (fun v1 v2 v3 v4 v5 a b c e f g h i=>⟨rfl,rfl,hv,⟨h1,h3⟩,⟨x,y,z,rfl,hx,hy,hz⟩,a,b,c,e,i,h,f,g⟩)
 have ho:EO (Z6n l v x y z) (Lx l) l:=ho
 obtain ⟨a1,a2,a3,a4,a5,a6,a7,a8,a9,a10,a11,a12,a13⟩:=ho
 unfold Db
 exact wD ⟨a1,a2,a3,a4,a5,a6,a7,a8,a9,a10,a11,a12,a13⟩ ⟨a1,a2,a3,a4,a5,a6,a7,a8,a9,a10,a11,a12,a13⟩
end Go.Proofs.YtheobjkgllmnmaaGreat
