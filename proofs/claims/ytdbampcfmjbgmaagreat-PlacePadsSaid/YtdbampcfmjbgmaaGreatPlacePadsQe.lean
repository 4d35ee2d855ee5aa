/-
  No statement is proved in this text. It holds a part of what the proof of PlacePads needs.
-/
import Derived.Test.YtdbampcfmjbgmaaGreatPlacePadsQd
namespace Go.Proofs.YtdbampcfmjbgmaaGreat
set_option maxRecDepth 100000
set_option linter.unusedVariables false
set_option linter.unusedSimpArgs false
open Go.RowKit
section
open Go.RowKit
def AJ:Bt:=Bt.mk 1 (⟨#[]⟩) 0 (Al.mk 0 0 0 0) (OpL.mk 0 (fun _ _=>default))
def Cj:CT:=(93,[],.val [] (.av (.agg (Bt.c AJ))))
abbrev aF:Tv:=.av (.agg [.i 1,.s (⟨#[]⟩),.i 0,.i 0,.i 0,.i 0,.i 0,vN])
theorem Yt  : GE Tryz.prog 93 (Cj ).2.1 (.av (.agg (Bt.c AJ))):=by
 refine pwf Tryz.func93 fun W0 M0 => ?_
 refine AA<|on<|AA ?_
 refine on<|AY ?_
 exact xl aF (DS (y:=.av (.agg [.i 1,.s (⟨#[]⟩),.i 0,.i 0,.i 0,.i 0,.i 0,opL (OpL.mk 0 (fun _ _=>default))])) (.av (.agg (rr5 (rr2 (.cons (.nil _ _) .nil))))) (by rfl))
theorem Ej  : OKc (Cj ):=cPu<|Yt
def Z3e:Blk:=.cells [.i 0,.s (⟨#[]⟩),.i 0,.i 0,.i 0,.i 0,.i 0,vN] 107
variable (v3:List Int) (b:AC) (d:AD) (v4 v5:Int)
abbrev Gh:Blk:=.cells (AD.c (AB d 9).2) 146
def Z3f:CT:=(48,([.one (.ptr 1000 0),.one (.i 9)]:List Av).map (CC 1000 1000),wrI 1000 (Hf d) (tI (AB d 9).1) (Gh d))
abbrev Kf:=AB (AB d 9).2 2
def Z3g:CT:=(48,(Hq:List Av).map (CC 1000 1000),wrI 1000 (Gh d) (tI (Kf d).1) (.cells (AD.c (Kf d).2) 146))
def Z3h:Blk:=.cells (AD.c (Kf d).2) 146
def Z3i:CT:=(48,Kh.map (CC 1000 1000),wrI 1000 (Gh d) (tI (AB (AB d 9).2 5).1) (.cells (AD.c (AB (AB d 9).2 5).2) 146))
def Z3j:CT:=(48,(FX:List Av).map (CC 1000 1000),wrI 1000 (Gh d) (tI (AB (AB d 9).2 3).1) (.cells (AD.c (AB (AB d 9).2 3).2) 146))
def Z3k:CT:=(48,(OY:List Av).map (CC 1000 1000),wrI 1000 (Gh d) (tI (AB (AB d 9).2 6).1) (.cells (AD.c (AB (AB d 9).2 6).2) 146))
def Z3l:CT:=(48,(KI:List Av).map (CC 1000 1000),wrI 1000 (.cells (AD.c (Kf d).2) 146) (tI (AB (Kf d).2 4).1) (.cells (AD.c (AB (Kf d).2 4).2) 146))
abbrev Z3m:AD:=(AB (AB (AB d 9).2 2).2 4).2
def BX (d:AD):(Bt×AD):=bif decide (((AB d 9).1:Int)=0) then (Bt.mk 2 (([({ data := #[78,49] }:ByteArray),({ data := #[71,78,68] }:ByteArray)]:List ByteArray).getD (AB (AB d 9).2 2).1.toNat ⟨#[]⟩) 0 (Al.mk 0 0 0 0) (OpL.mk 0 (fun _ _=>default)),(AB (AB d 9).2 2).2) else (bif decide (((AB d 9).1:Int)=1) then (Bt.mk 3 ({ data := #[112,111,119,101,114] }:ByteArray) 0 (Al.mk 0 0 0 0) (OpL.mk 0 (fun _ _=>default)),(AB d 9).2) else (bif decide (((AB d 9).1:Int)=2) then (Bt.mk 4 (⟨#[]⟩) (W64 (1+(AB (AB d 9).2 5).1)) (Al.mk 0 0 0 0) (OpL.mk 0 (fun _ _=>default)),(AB (AB d 9).2 5).2) else (bif decide (((AB d 9).1:Int)=3) then (Bt.mk 5 (⟨#[]⟩) (W64 (1+(AB (AB d 9).2 2).1)) (Al.mk 0 0 0 0) (OpL.mk 0 (fun _ _=>default)),(AB (AB d 9).2 2).2) else (bif decide (((AB d 9).1:Int)=4) then (Bt.mk 6 (⟨#[]⟩) (W64 (1+(AB (AB d 9).2 3).1)) (Al.mk 0 0 0 0) (OpL.mk 0 (fun _ _=>default)),(AB (AB d 9).2 3).2) else (bif decide (((AB d 9).1:Int)=5) then (Bt.mk 7 (⟨#[]⟩) 0 (Al.mk 0 0 (W64 (100+(W64 (50*(AB (AB d 9).2 6).1)))) 400) (OpL.mk 0 (fun _ _=>default)),(AB (AB d 9).2 6).2) else (bif decide (((AB d 9).1:Int)=6) then (Bt.mk 8 (⟨#[]⟩) 0 (Al.mk 0 0 0 0) (OpL.mk 1 (BB 8 1 [.i 5,.s (⟨#[]⟩),.i (W64 (1+(AB (AB d 9).2 2).1)),.i 0,.i 0,.i 0,.i 0,vN])),(AB (AB d 9).2 2).2) else (bif decide (((AB d 9).1:Int)=7) then (Bt.mk (W64 (9+(AB (AB d 9).2 2).1)) (⟨#[]⟩) 0 (Al.mk 0 0 0 0) (OpL.mk 2 (BB 8 2 [.i 4,.s (⟨#[]⟩),.i (W64 (1+(AB (AB (AB d 9).2 2).2 4).1)),.i 0,.i 0,.i 0,.i 0,vN,.i 2,.s ({ data := #[71,78,68] }:ByteArray),.i 0,.i 0,.i 0,.i 0,.i 0,vN])),Z3m d) else (Bt.mk 1 (⟨#[]⟩) 0 (Al.mk 0 0 0 0) (OpL.mk 0 (fun _ _=>default)),(AB d 9).2))))))))
abbrev LQ:List (Nat×Blk):=[(2,Z3e),(1000,.cells (AD.c (AB d 9).2) 146)]
abbrev XZ:List Cl:=[.i 5,.s (⟨#[]⟩),.i (W64 (1+(Kf d).1)),.i 0,.i 0,.i 0,.i 0,vN]
abbrev aJ:List Cl:=[.i 7,.s (⟨#[]⟩),.i 0,.i 0,.i 0,.i (W64 (100+(W64 (50*(AB (AB d 9).2 6).1)))),.i 400,vN]
abbrev nH:Nat×Tv:=(4,tI (AB d 9).1)
abbrev Z8:List Cl:=[.i 4,.s (⟨#[]⟩),.i (W64 (1+(AB (AB d 9).2 5).1)),.i 0,.i 0,.i 0,.i 0,vN]
abbrev Z7:List Cl:=[.i 6,.s (⟨#[]⟩),.i (W64 (1+(AB (AB d 9).2 3).1)),.i 0,.i 0,.i 0,.i 0,vN]
abbrev Z5:List Cl:=[.i 8,.s (⟨#[]⟩),.i 0,.i 0,.i 0,.i 0,.i 0,.list true 8 1 (BB 8 1 (XZ d))]
abbrev JG (t_:List (Nat×Tv)):List (Nat×Tv):=(0,tP 1000 0)::(2,tP 2 0)::(nH d)::t_
theorem Xx  (d:AD) (hd:B2 d):Wr Tryz.prog 94 1000 [.one (.ptr 1000 0)] (.cells (AD.c d) 146) (.av (.agg (Bt.c (BX d).1))) (.cells (AD.c (BX d).2) 146):=by
 refine Ht Tryz.func94 rfl kr kr kr kr fun W0 M0 X hX => ?_
 refine AA<|on ?_
 refine AA<|AA ?_
 refine rb 4 (Z3f d) (Hf d) ⟨(JG d []),(LQ d)⟩ (cWr (Bp d 9 au7 au10))<|AG ?_
 refine AQ<|AA ?_
 refine rn ⟨(JG d [(5,tB (decide (((AB d 9).1:Int)=0)))]),(LQ d)⟩ ?_
 refine AO _ rfl (fun h1 => ?_) (fun h1 => ?_)
 ·have g1:=oT h1
  refine AA<|oc [(9,(Z3g d))] [Ay (Z3g d).2.1,CH (Gh d),0<=((AB (AB d 9).2 2).1:Int)/\((AB (AB d 9).2 2).1:Int)<((2:Nat):Int)] (.cons (cWr (Bp (AB d 9).2 2 au7 au10)) .nil) (.cons rfl (.cons rfl (.cons (by first | exact J3 _ _ _ (by decide) (by decide) (by decide) | decide | omega) .nil)))<|AG ?_
  refine AY<|Bw<|BJ ?_
  exact xl (.av (.agg [.i 2,.s (([({ data := #[78,49] }:ByteArray),({ data := #[71,78,68] }:ByteArray)]:List ByteArray).getD (AB (AB d 9).2 2).1.toNat ⟨#[]⟩),.i 0,.i 0,.i 0,.i 0,.i 0,vN])) ⟨DS (y:=.av (.agg [.i 2,.s (([({ data := #[78,49] }:ByteArray),({ data := #[71,78,68] }:ByteArray)]:List ByteArray).getD (AB (AB d 9).2 2).1.toNat ⟨#[]⟩),.i 0,.i 0,.i 0,.i 0,.i 0,opL (OpL.mk 0 (fun _ _=>default))])) (.av (.agg (rr5 (rr2 (.cons (.nil _ _) .nil))))) (by unfold BX;rw [h1];rfl),.cells (AD.c (AB (AB d 9).2 2).2) 146,by kernel_rfl,D9 (by unfold BX;rw [h1];kernel_rfl)⟩
 have g1:=oF h1
 refine AA<|rn ⟨(JG d [(13,tB (decide (((AB d 9).1:Int)=1)))]),(LQ d)⟩ ?_
 refine AO _ rfl (fun h2 => ?_) (fun h2 => ?_)
 ·refine AA<|on ?_
  refine AY<|Bw<|BJ ?_
  exact xl (.av (.agg [.i 3,.s ({ data := #[112,111,119,101,114] }:ByteArray),.i 0,.i 0,.i 0,.i 0,.i 0,vN])) ⟨DS (y:=.av (.agg [.i 3,.s ({ data := #[112,111,119,101,114] }:ByteArray),.i 0,.i 0,.i 0,.i 0,.i 0,opL (OpL.mk 0 (fun _ _=>default))])) (.av (.agg (rr5 (rr2 (.cons (.nil _ _) .nil))))) (by unfold BX;rw [h1,h2];rfl),.cells (AD.c (AB d 9).2) 146,by kernel_rfl,D9 (by unfold BX;rw [h1,h2];kernel_rfl)⟩
 have g2:=oF h2
 refine AA<|rn ⟨(JG d [(16,tB (decide (((AB d 9).1:Int)=2)))]),(LQ d)⟩ ?_
 refine AO _ rfl (fun h3 => ?_) (fun h3 => ?_)
 ·have g3:=oT h3
  refine AA<|rb 19 (Z3i d) (Gh d) ⟨[(2,tP 2 0)],[(2,.cells (Z8 d) 107),(1000,.cells (AD.c (AB (AB d 9).2 5).2) 146)]⟩ (cWr (Bp (AB d 9).2 5 au7 au10))<|AG ?_
  refine AY<|Bw<|BJ ?_
  exact xl (.av (.agg (Z8 d))) ⟨DS (y:=.av (.agg [.i 4,.s (⟨#[]⟩),.i (W64 (1+(AB (AB d 9).2 5).1)),.i 0,.i 0,.i 0,.i 0,opL (OpL.mk 0 (fun _ _=>default))])) (.av (.agg (rr5 (rr2 (.cons (.nil _ _) .nil))))) (by unfold BX;rw [h1,h2,h3];rfl),.cells (AD.c (AB (AB d 9).2 5).2) 146,by kernel_rfl,D9 (by unfold BX;rw [h1,h2,h3];kernel_rfl)⟩
 have g3:=oF h3
 refine AA<|rn ⟨(JG d [(22,tB (decide (((AB d 9).1:Int)=3)))]),(LQ d)⟩ ?_
 refine AO _ rfl (fun h4 => ?_) (fun h4 => ?_)
 ·have g4:=oT h4
  refine AA<|rb 25 (Z3g d) (Gh d) ⟨[(2,tP 2 0)],[(2,.cells (XZ d) 107),(1000,Z3h d)]⟩ (cWr (Bp (AB d 9).2 2 au7 au10))<|AG ?_
  refine AY<|Bw<|BJ ?_
  exact xl (.av (.agg (XZ d))) ⟨DS (y:=.av (.agg [.i 5,.s (⟨#[]⟩),.i (W64 (1+(AB (AB d 9).2 2).1)),.i 0,.i 0,.i 0,.i 0,opL (OpL.mk 0 (fun _ _=>default))])) (.av (.agg (rr5 (rr2 (.cons (.nil _ _) .nil))))) (by unfold BX;rw [h1,h2,h3,h4];rfl),.cells (AD.c (AB (AB d 9).2 2).2) 146,by kernel_rfl,D9 (by unfold BX;rw [h1,h2,h3,h4];kernel_rfl)⟩
 have g4:=oF h4
 refine AA<|rn ⟨(JG d [(28,tB (decide (((AB d 9).1:Int)=4)))]),(LQ d)⟩ ?_
 refine AO _ rfl (fun h5 => ?_) (fun h5 => ?_)
 ·have g5:=oT h5
  refine AA<|rb 31 (Z3j d) (Gh d) ⟨[(2,tP 2 0)],[(2,.cells (Z7 d) 107),(1000,.cells (AD.c (AB (AB d 9).2 3).2) 146)]⟩ (cWr (Bp (AB d 9).2 3 au7 au10))<|AG ?_
  refine AY<|Bw<|BJ ?_
  exact xl (.av (.agg (Z7 d))) ⟨DS (y:=.av (.agg [.i 6,.s (⟨#[]⟩),.i (W64 (1+(AB (AB d 9).2 3).1)),.i 0,.i 0,.i 0,.i 0,opL (OpL.mk 0 (fun _ _=>default))])) (.av (.agg (rr5 (rr2 (.cons (.nil _ _) .nil))))) (by unfold BX;rw [h1,h2,h3,h4,h5];rfl),.cells (AD.c (AB (AB d 9).2 3).2) 146,by kernel_rfl,D9 (by unfold BX;rw [h1,h2,h3,h4,h5];kernel_rfl)⟩
 have g5:=oF h5
 refine AA<|rn ⟨(JG d [(34,tB (decide (((AB d 9).1:Int)=5)))]),(LQ d)⟩ ?_
 refine AO _ rfl (fun h6 => ?_) (fun h6 => ?_)
 ·have g6:=oT h6
  refine AA<|rb 37 (Z3k d) (Gh d) ⟨[(2,tP 2 0)],[(2,.cells (aJ d) 107),(1000,.cells (AD.c (AB (AB d 9).2 6).2) 146)]⟩ (cWr (Bp (AB d 9).2 6 au7 au10))<|AG ?_
  refine AY<|Bw<|BJ ?_
  exact xl (.av (.agg (aJ d))) ⟨DS (y:=.av (.agg [.i 7,.s (⟨#[]⟩),.i 0,.i 0,.i 0,.i (W64 (100+(W64 (50*(AB (AB d 9).2 6).1)))),.i 400,opL (OpL.mk 0 (fun _ _=>default))])) (.av (.agg (rr5 (rr2 (.cons (.nil _ _) .nil))))) (by unfold BX;rw [h1,h2,h3,h4,h5,h6];rfl),.cells (AD.c (AB (AB d 9).2 6).2) 146,by kernel_rfl,D9 (by unfold BX;rw [h1,h2,h3,h4,h5,h6];kernel_rfl)⟩
 have g6:=oF h6
 refine AA<|rn ⟨(JG d [(42,tB (decide (((AB d 9).1:Int)=6)))]),(LQ d)⟩ ?_
 refine AO _ rfl (fun h7 => ?_) (fun h7 => ?_)
 ·have g7:=oT h7
  refine AA<|rb 45 (Z3g d) (Gh d) ⟨[(2,tP 2 0)],[(2,.cells (Z5 d) 107),(1000,Z3h d)]⟩ (cWr (Bp (AB d 9).2 2 au7 au10))<|AG ?_
  refine AY<|Bw<|BJ ?_
  exact xl (.av (.agg (Z5 d))) ⟨DS (y:=.av (.agg [.i 8,.s (⟨#[]⟩),.i 0,.i 0,.i 0,.i 0,.i 0,opL (OpL.mk 1 (BB 8 1 (XZ d)))])) (.av (.agg (rr5 (rr2 (.cons (.list true false _ _ _ _ (fun _ _ _ _=>.refl _) (fun h=>by cases h)) .nil))))) (by unfold BX;rw [h1,h2,h3,h4,h5,h6,h7];rfl),.cells (AD.c (AB (AB d 9).2 2).2) 146,by kernel_rfl,D9 (by unfold BX;rw [h1,h2,h3,h4,h5,h6,h7];kernel_rfl)⟩
 have g7:=oF h7
 refine AA<|rn ⟨[(0,tP 1000 0),(2,tP 2 0),(50,tB (decide (((AB d 9).1:Int)=7)))],(LQ d)⟩ ?_
 refine AO _ rfl (fun h8 => ?_) (fun h8 => ?_)
 ·have g8:=oT h8
  refine AA<|oc [(53,(Z3g d)),(56,(Z3l d))] [Ay (Z3g d).2.1,CH (Gh d),Ay (Z3l d).2.1,CH (.cells (AD.c (AB (AB d 9).2 2).2) 146)] (.cons (cWr (Bp (AB d 9).2 2 au7 au10)) (.cons (cWr (Bp (AB (AB d 9).2 2).2 4 au7 au10)) .nil)) (.cons rfl (.cons rfl (.cons rfl (.cons rfl .nil))))<|AG ?_
  refine AY<|Bw<|BJ ?_
  exact xl (.av (.agg [.i (W64 (9+(AB (AB d 9).2 2).1)),.s (⟨#[]⟩),.i 0,.i 0,.i 0,.i 0,.i 0,.list true 8 2 (BB 8 2 [.i 4,.s (⟨#[]⟩),.i (W64 (1+(AB (AB (AB d 9).2 2).2 4).1)),.i 0,.i 0,.i 0,.i 0,vN,.i 2,.s ({ data := #[71,78,68] }:ByteArray),.i 0,.i 0,.i 0,.i 0,.i 0,vN])])) ⟨DS (y:=.av (.agg [.i (W64 (9+(AB (AB d 9).2 2).1)),.s (⟨#[]⟩),.i 0,.i 0,.i 0,.i 0,.i 0,opL (OpL.mk 2 (BB 8 2 [.i 4,.s (⟨#[]⟩),.i (W64 (1+(AB (AB (AB d 9).2 2).2 4).1)),.i 0,.i 0,.i 0,.i 0,vN,.i 2,.s ({ data := #[71,78,68] }:ByteArray),.i 0,.i 0,.i 0,.i 0,.i 0,vN]))])) (.av (.agg (rr5 (rr2 (.cons (.list true false _ _ _ _ (fun _ _ _ _=>.refl _) (fun h=>by cases h)) .nil))))) (by unfold BX;rw [h1,h2,h3,h4,h5,h6,h7,h8];rfl),.cells (AD.c (Z3m d)) 146,by kernel_rfl,D9 (by unfold BX;rw [h1,h2,h3,h4,h5,h6,h7,h8];kernel_rfl)⟩
 refine AZ<|A3 ?_
 refine AG<|AA ?_
 refine on<|AY ?_
 exact xl aF ⟨DS (y:=.av (.agg [.i 1,.s (⟨#[]⟩),.i 0,.i 0,.i 0,.i 0,.i 0,opL (OpL.mk 0 (fun _ _=>default))])) (.av (.agg (rr5 (rr2 (.cons (.nil _ _) .nil))))) (by unfold BX;rw [h1,h2,h3,h4,h5,h6,h7,h8];rfl),.cells (AD.c (AB d 9).2) 146,by kernel_rfl,D9 (by unfold BX;rw [h1,h2,h3,h4,h5,h6,h7,h8];kernel_rfl)⟩
theorem Zg {d:AD} (h:B2 d):B2 (BX d).2:=by
 unfold BX
 exact D8 (Bl (Bl h)) (D8 (Bl h) (D8 (Bl (Bl h)) (D8 (Bl (Bl h)) (D8 (Bl (Bl h)) (D8 (Bl (Bl h)) (D8 (Bl (Bl h)) (D8 (Bl (Bl (Bl h))) (Bl h))))))))
abbrev bK:List Cl:=[.i b.Layers,.any,.any,.any,lst 7 AF.c b.Parts,.any,lst 6 Aq.c b.Tracks,lst 8 Bx.c b.Vias,lst 8 A8.c b.Pours,lst 5 BR.c b.Keeps,lst 4 Bq.c b.Slots,.any,.any,.any,.any]
def Z3n:Blk:=.cells (bK b) 40
def Z3o:Blk:=.row 1 ([]:List Int).length (AU eIn ([]:List Int)) 3
def Z3p:Tv:=.av (.one (.own 100000 1 ([]:List Int).length))
def Z3q:Blk:=.row 1 (v3++[(b.Parts.getD v4.toNat default).Id]).length (AU eIn (v3++[(b.Parts.getD v4.toNat default).Id])) 3
abbrev Ma:=b.Tracks.getD v5.toNat default
def Z3r (v3':List Int) (b:AC) (v5:Int):Blk:=.row 1 (v3'++[(Ma b v5).Id]).length (AU eIn (v3'++[(Ma b v5).Id])) 3
def Z3s (v3'':List Int) (b:AC) (v6:Int):Blk:=.row 1 (v3''++[(b.Vias.getD v6.toNat default).Id]).length (AU eIn (v3''++[(b.Vias.getD v6.toNat default).Id])) 3
def Z3t (v3''':List Int) (b:AC) (v7:Int):Blk:=.row 1 (v3'''++[(b.Pours.getD v7.toNat default).Id]).length (AU eIn (v3'''++[(b.Pours.getD v7.toNat default).Id])) 3
def Z3u (v3'''':List Int) (b:AC) (v8:Int):Blk:=.row 1 (v3''''++[(b.Keeps.getD v8.toNat default).Id]).length (AU eIn (v3''''++[(b.Keeps.getD v8.toNat default).Id])) 3
def Z3v (v3''''':List Int) (b:AC) (v9:Int):Blk:=.row 1 (v3'''''++[(b.Slots.getD v9.toNat default).Id]).length (AU eIn (v3'''''++[(b.Slots.getD v9.toNat default).Id])) 3
def GJ (b:AC) (v3:List Int) (v4:Int) (v3':List Int) (v5:Int) (v3'':List Int) (v6:Int) (v3''':List Int) (v7:Int) (v3'''':List Int) (v8:Int) (K0:List Int->Int->(List Int)) (K1:List Int->Int->(List Int)) (K2:List Int->Int->(List Int)) (K3:List Int->Int->(List Int)) (K4:List Int->Int->(List Int)):Nat->List Int->Int->(List Int)
 | 0,_,_=>default
 | n5+1,v3''''',v9=>bif decide ((v9:Int)<(b.Slots.length:Int)) then ((GJ b v3 v4 v3' v5 v3'' v6 v3''' v7 v3'''' v8 K0 K1 K2 K3 K4 n5) (v3'''''++[(b.Slots.getD v9.toNat default).Id]) (v9+1)) else v3'''''
def E2 (b:AC) (v3:List Int) (v4:Int) (v3':List Int) (v5:Int) (v3'':List Int) (v6:Int) (v3''':List Int) (v7:Int) (K0:List Int->Int->(List Int)) (K1:List Int->Int->(List Int)) (K2:List Int->Int->(List Int)) (K3:List Int->Int->(List Int)):Nat->List Int->Int->(List Int)
 | 0,_,_=>default
 | n4+1,v3'''',v8=>bif decide ((v8:Int)<(b.Keeps.length:Int)) then ((E2 b v3 v4 v3' v5 v3'' v6 v3''' v7 K0 K1 K2 K3 n4) (v3''''++[(b.Keeps.getD v8.toNat default).Id]) (v8+1)) else (GJ b v3 v4 v3' v5 v3'' v6 v3''' v7 v3'''' v8 K0 K1 K2 K3 (E2 b v3 v4 v3' v5 v3'' v6 v3''' v7 K0 K1 K2 K3 n4) (((b.Slots.length:Int)-0).toNat+1) v3'''' 0)
def EB (b:AC) (v3:List Int) (v4:Int) (v3':List Int) (v5:Int) (v3'':List Int) (v6:Int) (K0:List Int->Int->(List Int)) (K1:List Int->Int->(List Int)) (K2:List Int->Int->(List Int)):Nat->List Int->Int->(List Int)
 | 0,_,_=>default
 | n3+1,v3''',v7=>bif decide ((v7:Int)<(b.Pours.length:Int)) then ((EB b v3 v4 v3' v5 v3'' v6 K0 K1 K2 n3) (v3'''++[(b.Pours.getD v7.toNat default).Id]) (v7+1)) else (E2 b v3 v4 v3' v5 v3'' v6 v3''' v7 K0 K1 K2 (EB b v3 v4 v3' v5 v3'' v6 K0 K1 K2 n3) (((b.Keeps.length:Int)-0).toNat+1) v3''' 0)
def DG (b:AC) (v3:List Int) (v4:Int) (v3':List Int) (v5:Int) (K0:List Int->Int->(List Int)) (K1:List Int->Int->(List Int)):Nat->List Int->Int->(List Int)
 | 0,_,_=>default
 | n2+1,v3'',v6=>bif decide ((v6:Int)<(b.Vias.length:Int)) then ((DG b v3 v4 v3' v5 K0 K1 n2) (v3''++[(b.Vias.getD v6.toNat default).Id]) (v6+1)) else (EB b v3 v4 v3' v5 v3'' v6 K0 K1 (DG b v3 v4 v3' v5 K0 K1 n2) (((b.Pours.length:Int)-0).toNat+1) v3'' 0)
def CB (b:AC) (v3:List Int) (v4:Int) (K0:List Int->Int->(List Int)):Nat->List Int->Int->(List Int)
 | 0,_,_=>default
 | n1+1,v3',v5=>bif decide ((v5:Int)<(b.Tracks.length:Int)) then ((CB b v3 v4 K0 n1) (v3'++[(b.Tracks.getD v5.toNat default).Id]) (v5+1)) else (DG b v3 v4 v3' v5 K0 (CB b v3 v4 K0 n1) (((b.Vias.length:Int)-0).toNat+1) v3' 0)
def BQ (b:AC):Nat->List Int->Int->(List Int)
 | 0,_,_=>default
 | n0+1,v3,v4=>bif decide ((v4:Int)<(b.Parts.length:Int)) then ((BQ b n0) (v3++[(b.Parts.getD v4.toNat default).Id]) (v4+1)) else (CB b v3 v4 (BQ b n0) (((b.Tracks.length:Int)-0).toNat+1) v3 0)
def FC (b:AC):(List Int):=BQ b (((b.Parts.length:Int)-0).toNat+1) ([]:List Int) 0
def XN:CT:=(95,[.agg (bK b)],.val [] (.av (.one (lst 1 eIn (FC b)))))
theorem oJ (b:AC) (h0:(b.Parts.length:Int)<=1000000) (h1:(b.Tracks.length:Int)<=1000000) (h2:(b.Vias.length:Int)<=1000000) (h3:(b.Pours.length:Int)<=1000000) (h4:(b.Keeps.length:Int)<=1000000) (h5:(b.Slots.length:Int)<=1000000):PuP 95 (XN b).2.1 (tO (lst 1 eIn (FC b))):=by
 refine pwf Tryz.func95 fun W0 M0 => ?_
 refine AA<|on<|AA ?_
 refine on ?_
 refine AA<|AA ?_
 refine rn ⟨[(1,tP 1 0),(3,.av (.one vN)),(4,tI 0)],[(1,Z3n b)]⟩<|AQ ?_
 refine Ap (Cv.trans (vg 100000 1 (fun _ _=>default) 3 [(3,[0])] [] hk0) (Cv.trans (A2 100000 (CI 1 (fun _ _=>default) eIn)) (Cv.trans (ck (⟨[(1,tP 1 0),(3,Z3p),(4,tI 0)],[(1,Z3n b),(100000,Z3o)]⟩)) (Cv.refl _)))) ?_
 refine BP (ι:=Nat×List Int×Int) (fun x=>⟨[(1,tP 1 0),(3,tO (.own 100000 1 x.2.1.length)),(4,tI x.2.2)],[(1,Z3n b),(100000,.row 1 x.2.1.length (AU eIn x.2.1) 3)]⟩) (fun x=>((b.Parts.length:Int)-x.2.2).toNat<x.1/\(0<=x.2.2/\(x.2.2<=(b.Parts.length:Int)\/x.2.2=0)/\(x.2.1.length:Int)<=0+1*(x.2.2-0))/\BQ b x.1 x.2.1 x.2.2=FC b) (fun x=>x.1) ?_ (((b.Parts.length:Int)-0).toNat+1,([]:List Int),0) ⟨Nat.lt_succ_self _,⟨ax0,ax0,ax0⟩,(by simp only [FC,cond_true,cond_false])⟩
 rintro ⟨n0,v3,v4⟩ ⟨hm0,hinv0,hF0⟩
 try dsimp only at hm0 hinv0 hF0
 cases n0 with | zero=>exact nz hm0 | succ n0 => ?_
 refine AA<|AA ?_
 refine rn ⟨[(1,tP 1 0),(3,tO (.own 100000 1 v3.length)),(4,tI v4),(14,tB (decide ((v4:Int)<(b.Parts.length:Int))))],[(1,Z3n b),(100000,.row 1 v3.length (AU eIn v3) 3)]⟩ ?_
 refine AO _ rfl (fun h1 => ?_) (fun h1 => ?_)
 ·have g1:=oT h1
  refine AZ<|AG ?_
  refine AA<|AQ ?_
  refine oc [] [0<=(v4:Int)/\(v4:Int)<((b.Parts.length:Nat):Int),v3.length=v3.length,v3.length+1<=maxLen,(v3.length+1)*8<=140737488355328] .nil (.cons au0 (.cons rfl (.cons au3 (.cons au3 .nil))))<|A3<|AG ?_
  refine Ap (A2 25 (Au (Am 1 eIn v3) (A0 1 eIn ([(b.Parts.getD v4.toNat default).Id]:List Int)))) ?_
  refine rg ⟨[(1,tP 1 0),(3,tO (.own 25 1 (v3++[(b.Parts.getD v4.toNat default).Id]).length)),(4,tI (W64 (v4+1)))],[(1,Z3n b),(25,Z3q v3 b v4)]⟩ ?_
  (try rw [(show W64 (v4+1)=v4+1 from Az oM au6)])
  refine AG ?_
  refine ⟨(n0,v3++[(b.Parts.getD v4.toNat default).Id],v4+1),⟨?_,?_,(by rw [<- hF0];simp only [BQ,h1,cond_true,cond_false])⟩,Nat.lt_succ_self _,Cv.trans (vr 25 100000 hk0) (BE kr)⟩
  ·show ((b.Parts.length:Int)-(v4+1)).toNat<n0;omega
  exact ⟨ax0,ax0,ax0⟩
 have g1:=oF h1
 refine BH<|A5 ?_
 refine A5<|BI ?_
 refine AG<|AA<|AA ?_
 refine rn ⟨[(1,tP 1 0),(3,tO (.own 100000 1 v3.length)),(5,tI 0)],[(1,Z3n b),(100000,.row 1 v3.length (AU eIn v3) 3)]⟩<|AQ ?_
 refine BP (ι:=Nat×List Int×Int) (fun x=>⟨[(1,tP 1 0),(3,tO (.own 100000 1 x.2.1.length)),(5,tI x.2.2)],[(1,Z3n b),(100000,.row 1 x.2.1.length (AU eIn x.2.1) 3)]⟩) (fun x=>((b.Tracks.length:Int)-x.2.2).toNat<x.1/\(0<=x.2.2/\(x.2.2<=(b.Tracks.length:Int)\/x.2.2=0)/\(x.2.1.length:Int)<=(v3.length:Int)+1*(x.2.2-0))/\CB b v3 v4 (BQ b n0) x.1 x.2.1 x.2.2=FC b) (fun x=>x.1) ?_ (((b.Tracks.length:Int)-0).toNat+1,v3,0) ⟨Nat.lt_succ_self _,⟨ax0,ax0,ax0⟩,(by rw [<- hF0];simp only [BQ,h1,cond_true,cond_false])⟩
 rintro ⟨n1,v3',v5⟩ ⟨hm1,hinv1,hF1⟩
 try dsimp only at hm1 hinv1 hF1
 cases n1 with | zero=>exact nz hm1 | succ n1 => ?_
 refine AA<|AA ?_
 refine rn ⟨[(1,tP 1 0),(3,tO (.own 100000 1 v3'.length)),(5,tI v5),(30,tB (decide ((v5:Int)<(b.Tracks.length:Int))))],[(1,Z3n b),(100000,.row 1 v3'.length (AU eIn v3') 3)]⟩ ?_
 refine AO _ rfl (fun h2 => ?_) (fun h2 => ?_)
 ·have g2:=oT h2
  refine AZ<|AG ?_
  refine AA<|AQ ?_
  refine oc [] [0<=(v5:Int)/\(v5:Int)<((b.Tracks.length:Nat):Int),v3'.length=v3'.length,v3'.length+1<=maxLen,(v3'.length+1)*8<=140737488355328] .nil (.cons au0 (.cons rfl (.cons au3 (.cons au3 .nil))))<|A3<|AG ?_
  refine Ap (A2 41 (Au (Am 1 eIn v3') (A0 1 eIn ([(b.Tracks.getD v5.toNat default).Id]:List Int)))) ?_
  refine rg ⟨[(1,tP 1 0),(3,tO (.own 41 1 (v3'++[(Ma b v5).Id]).length)),(5,tI (W64 (v5+1)))],[(1,Z3n b),(41,Z3r v3' b v5)]⟩ ?_
  (try rw [(show W64 (v5+1)=v5+1 from Az oM au6)])
  refine AG ?_
  refine ⟨(n1,v3'++[(b.Tracks.getD v5.toNat default).Id],v5+1),⟨?_,?_,(by rw [<- hF1];simp only [CB,h2,cond_true,cond_false])⟩,Nat.lt_succ_self _,Cv.trans (vr 41 100000 hk0) (BE kr)⟩
  ·show ((b.Tracks.length:Int)-(v5+1)).toNat<n1;omega
  exact ⟨ax0,ax0,ax0⟩
 have g2:=oF h2
 refine BH<|A5 ?_
 refine A5<|BI ?_
 refine AG<|AA<|AA ?_
 refine rn ⟨[(1,tP 1 0),(3,tO (.own 100000 1 v3'.length)),(6,tI 0)],[(1,Z3n b),(100000,.row 1 v3'.length (AU eIn v3') 3)]⟩<|AQ ?_
 refine BP (ι:=Nat×List Int×Int) (fun x=>⟨[(1,tP 1 0),(3,tO (.own 100000 1 x.2.1.length)),(6,tI x.2.2)],[(1,Z3n b),(100000,.row 1 x.2.1.length (AU eIn x.2.1) 3)]⟩) (fun x=>((b.Vias.length:Int)-x.2.2).toNat<x.1/\(0<=x.2.2/\(x.2.2<=(b.Vias.length:Int)\/x.2.2=0)/\(x.2.1.length:Int)<=(v3'.length:Int)+1*(x.2.2-0))/\DG b v3 v4 v3' v5 (BQ b n0) (CB b v3 v4 (BQ b n0) n1) x.1 x.2.1 x.2.2=FC b) (fun x=>x.1) ?_ (((b.Vias.length:Int)-0).toNat+1,v3',0) ⟨Nat.lt_succ_self _,⟨ax0,ax0,ax0⟩,(by rw [<- hF1];simp only [CB,h2,cond_true,cond_false])⟩
 rintro ⟨n2,v3'',v6⟩ ⟨hm2,hinv2,hF2⟩
 try dsimp only at hm2 hinv2 hF2
 cases n2 with | zero=>exact nz hm2 | succ n2 => ?_
 refine AA<|AA ?_
 refine rn ⟨[(1,tP 1 0),(3,tO (.own 100000 1 v3''.length)),(6,tI v6),(46,tB (decide ((v6:Int)<(b.Vias.length:Int))))],[(1,Z3n b),(100000,.row 1 v3''.length (AU eIn v3'') 3)]⟩ ?_
 refine AO _ rfl (fun h3 => ?_) (fun h3 => ?_)
 ·have g3:=oT h3
  refine AZ<|AG ?_
  refine AA<|AQ ?_
  refine oc [] [0<=(v6:Int)/\(v6:Int)<((b.Vias.length:Nat):Int),v3''.length=v3''.length,v3''.length+1<=maxLen,(v3''.length+1)*8<=140737488355328] .nil (.cons au0 (.cons rfl (.cons au3 (.cons au3 .nil))))<|A3<|AG ?_
  refine Ap (A2 57 (Au (Am 1 eIn v3'') (A0 1 eIn ([(b.Vias.getD v6.toNat default).Id]:List Int)))) ?_
  refine rg ⟨[(1,tP 1 0),(3,tO (.own 57 1 (v3''++[(b.Vias.getD v6.toNat default).Id]).length)),(6,tI (W64 (v6+1)))],[(1,Z3n b),(57,Z3s v3'' b v6)]⟩ ?_
  (try rw [(show W64 (v6+1)=v6+1 from Az oM au6)])
  refine AG ?_
  refine ⟨(n2,v3''++[(b.Vias.getD v6.toNat default).Id],v6+1),⟨?_,?_,(by rw [<- hF2];simp only [DG,h3,cond_true,cond_false])⟩,Nat.lt_succ_self _,Cv.trans (vr 57 100000 hk0) (BE kr)⟩
  ·show ((b.Vias.length:Int)-(v6+1)).toNat<n2;omega
  exact ⟨ax0,ax0,ax0⟩
 have g3:=oF h3
 refine BH<|A5 ?_
 refine A5<|BI ?_
 refine AG<|AA<|AA ?_
 refine rn ⟨[(1,tP 1 0),(3,tO (.own 100000 1 v3''.length)),(7,tI 0)],[(1,Z3n b),(100000,.row 1 v3''.length (AU eIn v3'') 3)]⟩<|AQ ?_
 refine BP (ι:=Nat×List Int×Int) (fun x=>⟨[(1,tP 1 0),(3,tO (.own 100000 1 x.2.1.length)),(7,tI x.2.2)],[(1,Z3n b),(100000,.row 1 x.2.1.length (AU eIn x.2.1) 3)]⟩) (fun x=>((b.Pours.length:Int)-x.2.2).toNat<x.1/\(0<=x.2.2/\(x.2.2<=(b.Pours.length:Int)\/x.2.2=0)/\(x.2.1.length:Int)<=(v3''.length:Int)+1*(x.2.2-0))/\EB b v3 v4 v3' v5 v3'' v6 (BQ b n0) (CB b v3 v4 (BQ b n0) n1) (DG b v3 v4 v3' v5 (BQ b n0) (CB b v3 v4 (BQ b n0) n1) n2) x.1 x.2.1 x.2.2=FC b) (fun x=>x.1) ?_ (((b.Pours.length:Int)-0).toNat+1,v3'',0) ⟨Nat.lt_succ_self _,⟨ax0,ax0,ax0⟩,(by rw [<- hF2];simp only [DG,h3,cond_true,cond_false])⟩
 rintro ⟨n3,v3''',v7⟩ ⟨hm3,hinv3,hF3⟩
 try dsimp only at hm3 hinv3 hF3
 cases n3 with | zero=>exact nz hm3 | succ n3 => ?_
 refine AA<|AA ?_
 refine rn ⟨[(1,tP 1 0),(3,tO (.own 100000 1 v3'''.length)),(7,tI v7),(62,tB (decide ((v7:Int)<(b.Pours.length:Int))))],[(1,Z3n b),(100000,.row 1 v3'''.length (AU eIn v3''') 3)]⟩ ?_
 refine AO _ rfl (fun h4 => ?_) (fun h4 => ?_)
 ·have g4:=oT h4
  refine AZ<|AG ?_
  refine AA<|AQ ?_
  refine oc [] [0<=(v7:Int)/\(v7:Int)<((b.Pours.length:Nat):Int),v3'''.length=v3'''.length,v3'''.length+1<=maxLen,(v3'''.length+1)*8<=140737488355328] .nil (.cons au0 (.cons rfl (.cons au3 (.cons au3 .nil))))<|A3<|AG ?_
  refine Ap (A2 73 (Au (Am 1 eIn v3''') (A0 1 eIn ([(b.Pours.getD v7.toNat default).Id]:List Int)))) ?_
  refine rg ⟨[(1,tP 1 0),(3,tO (.own 73 1 (v3'''++[(b.Pours.getD v7.toNat default).Id]).length)),(7,tI (W64 (v7+1)))],[(1,Z3n b),(73,Z3t v3''' b v7)]⟩ ?_
  (try rw [(show W64 (v7+1)=v7+1 from Az oM au6)])
  refine AG ?_
  refine ⟨(n3,v3'''++[(b.Pours.getD v7.toNat default).Id],v7+1),⟨?_,?_,(by rw [<- hF3];simp only [EB,h4,cond_true,cond_false])⟩,Nat.lt_succ_self _,Cv.trans (vr 73 100000 hk0) (BE kr)⟩
  ·show ((b.Pours.length:Int)-(v7+1)).toNat<n3;omega
  exact ⟨ax0,ax0,ax0⟩
 have g4:=oF h4
 refine BH<|A5 ?_
 refine A5<|BI ?_
 refine AG<|AA<|AA ?_
 refine rn ⟨[(1,tP 1 0),(3,tO (.own 100000 1 v3'''.length)),(8,tI 0)],[(1,Z3n b),(100000,.row 1 v3'''.length (AU eIn v3''') 3)]⟩<|AQ ?_
 refine BP (ι:=Nat×List Int×Int) (fun x=>⟨[(1,tP 1 0),(3,tO (.own 100000 1 x.2.1.length)),(8,tI x.2.2)],[(1,Z3n b),(100000,.row 1 x.2.1.length (AU eIn x.2.1) 3)]⟩) (fun x=>((b.Keeps.length:Int)-x.2.2).toNat<x.1/\(0<=x.2.2/\(x.2.2<=(b.Keeps.length:Int)\/x.2.2=0)/\(x.2.1.length:Int)<=(v3'''.length:Int)+1*(x.2.2-0))/\E2 b v3 v4 v3' v5 v3'' v6 v3''' v7 (BQ b n0) (CB b v3 v4 (BQ b n0) n1) (DG b v3 v4 v3' v5 (BQ b n0) (CB b v3 v4 (BQ b n0) n1) n2) (EB b v3 v4 v3' v5 v3'' v6 (BQ b n0) (CB b v3 v4 (BQ b n0) n1) (DG b v3 v4 v3' v5 (BQ b n0) (CB b v3 v4 (BQ b n0) n1) n2) n3) x.1 x.2.1 x.2.2=FC b) (fun x=>x.1) ?_ (((b.Keeps.length:Int)-0).toNat+1,v3''',0) ⟨Nat.lt_succ_self _,⟨ax0,ax0,ax0⟩,(by rw [<- hF3];simp only [EB,h4,cond_true,cond_false])⟩
 rintro ⟨n4,v3'''',v8⟩ ⟨hm4,hinv4,hF4⟩
 try dsimp only at hm4 hinv4 hF4
 cases n4 with | zero=>exact nz hm4 | succ n4 => ?_
 refine AA<|AA ?_
 refine rn ⟨[(1,tP 1 0),(3,tO (.own 100000 1 v3''''.length)),(8,tI v8),(78,tB (decide ((v8:Int)<(b.Keeps.length:Int))))],[(1,Z3n b),(100000,.row 1 v3''''.length (AU eIn v3'''') 3)]⟩ ?_
 refine AO _ rfl (fun h5 => ?_) (fun h5 => ?_)
 ·have g5:=oT h5
  refine AZ<|AG ?_
  refine AA<|AQ ?_
  refine oc [] [0<=(v8:Int)/\(v8:Int)<((b.Keeps.length:Nat):Int),v3''''.length=v3''''.length,v3''''.length+1<=maxLen,(v3''''.length+1)*8<=140737488355328] .nil (.cons au0 (.cons rfl (.cons au3 (.cons au3 .nil))))<|A3<|AG ?_
  refine Ap (A2 89 (Au (Am 1 eIn v3'''') (A0 1 eIn ([(b.Keeps.getD v8.toNat default).Id]:List Int)))) ?_
  refine rg ⟨[(1,tP 1 0),(3,tO (.own 89 1 (v3''''++[(b.Keeps.getD v8.toNat default).Id]).length)),(8,tI (W64 (v8+1)))],[(1,Z3n b),(89,Z3u v3'''' b v8)]⟩ ?_
  (try rw [(show W64 (v8+1)=v8+1 from Az oM au6)])
  refine AG ?_
  refine ⟨(n4,v3''''++[(b.Keeps.getD v8.toNat default).Id],v8+1),⟨?_,?_,(by rw [<- hF4];simp only [E2,h5,cond_true,cond_false])⟩,Nat.lt_succ_self _,Cv.trans (vr 89 100000 hk0) (BE kr)⟩
  ·show ((b.Keeps.length:Int)-(v8+1)).toNat<n4;omega
  exact ⟨ax0,ax0,ax0⟩
 have g5:=oF h5
 refine BH<|A5 ?_
 refine A5<|BI ?_
 refine AG<|AA<|AA ?_
 refine rn ⟨[(1,tP 1 0),(3,tO (.own 100000 1 v3''''.length)),(9,tI 0)],[(1,Z3n b),(100000,.row 1 v3''''.length (AU eIn v3'''') 3)]⟩<|AQ ?_
 refine BP (ι:=Nat×List Int×Int) (fun x=>⟨[(1,tP 1 0),(3,tO (.own 100000 1 x.2.1.length)),(9,tI x.2.2)],[(1,Z3n b),(100000,.row 1 x.2.1.length (AU eIn x.2.1) 3)]⟩) (fun x=>((b.Slots.length:Int)-x.2.2).toNat<x.1/\(0<=x.2.2/\(x.2.2<=(b.Slots.length:Int)\/x.2.2=0)/\(x.2.1.length:Int)<=(v3''''.length:Int)+1*(x.2.2-0))/\GJ b v3 v4 v3' v5 v3'' v6 v3''' v7 v3'''' v8 (BQ b n0) (CB b v3 v4 (BQ b n0) n1) (DG b v3 v4 v3' v5 (BQ b n0) (CB b v3 v4 (BQ b n0) n1) n2) (EB b v3 v4 v3' v5 v3'' v6 (BQ b n0) (CB b v3 v4 (BQ b n0) n1) (DG b v3 v4 v3' v5 (BQ b n0) (CB b v3 v4 (BQ b n0) n1) n2) n3) (E2 b v3 v4 v3' v5 v3'' v6 v3''' v7 (BQ b n0) (CB b v3 v4 (BQ b n0) n1) (DG b v3 v4 v3' v5 (BQ b n0) (CB b v3 v4 (BQ b n0) n1) n2) (EB b v3 v4 v3' v5 v3'' v6 (BQ b n0) (CB b v3 v4 (BQ b n0) n1) (DG b v3 v4 v3' v5 (BQ b n0) (CB b v3 v4 (BQ b n0) n1) n2) n3) n4) x.1 x.2.1 x.2.2=FC b) (fun x=>x.1) ?_ (((b.Slots.length:Int)-0).toNat+1,v3'''',0) ⟨Nat.lt_succ_self _,⟨ax0,ax0,ax0⟩,(by rw [<- hF4];simp only [E2,h5,cond_true,cond_false])⟩
 rintro ⟨n5,v3''''',v9⟩ ⟨hm5,hinv5,hF5⟩
 try dsimp only at hm5 hinv5 hF5
 cases n5 with | zero=>exact nz hm5 | succ n5 => ?_
 refine AA<|AA ?_
 refine rn ⟨[(1,tP 1 0),(3,tO (.own 100000 1 v3'''''.length)),(9,tI v9),(94,tB (decide ((v9:Int)<(b.Slots.length:Int))))],[(1,Z3n b),(100000,.row 1 v3'''''.length (AU eIn v3''''') 3)]⟩ ?_
 refine AO _ rfl (fun h6 => ?_) (fun h6 => ?_)
 ·have g6:=oT h6
  refine AZ<|AG ?_
  refine AA<|AQ ?_
  refine oc [] [0<=(v9:Int)/\(v9:Int)<((b.Slots.length:Nat):Int),v3'''''.length=v3'''''.length,v3'''''.length+1<=maxLen,(v3'''''.length+1)*8<=140737488355328] .nil (.cons au0 (.cons rfl (.cons au3 (.cons au3 .nil))))<|A3<|AG ?_
  refine Ap (A2 105 (Au (Am 1 eIn v3''''') (A0 1 eIn ([(b.Slots.getD v9.toNat default).Id]:List Int)))) ?_
  refine rg ⟨[(1,tP 1 0),(3,tO (.own 105 1 (v3'''''++[(b.Slots.getD v9.toNat default).Id]).length)),(9,tI (W64 (v9+1)))],[(1,Z3n b),(105,Z3v v3''''' b v9)]⟩ ?_
  (try rw [(show W64 (v9+1)=v9+1 from Az oM au6)])
  refine AG ?_
  refine ⟨(n5,v3'''''++[(b.Slots.getD v9.toNat default).Id],v9+1),⟨?_,?_,(by rw [<- hF5];simp only [GJ,h6,cond_true,cond_false])⟩,Nat.lt_succ_self _,Cv.trans (vr 105 100000 hk0) (BE kr)⟩
  ·show ((b.Slots.length:Int)-(v9+1)).toNat<n5;omega
  exact ⟨ax0,ax0,ax0⟩
 refine BH<|A5 ?_
 refine A5<|BI ?_
 refine AG<|AA ?_
 refine on<|AY ?_
 exact zy (Cv.trans (vf 100000 hk0) (Cv.refl _)) (by rw [<- hF5];simp only [GJ,h6,cond_true,cond_false] <;> kernel_rfl)
theorem kO (b:AC) (h0:(b.Parts.length:Int)<=1000000) (h1:(b.Tracks.length:Int)<=1000000) (h2:(b.Vias.length:Int)<=1000000) (h3:(b.Pours.length:Int)<=1000000) (h4:(b.Keeps.length:Int)<=1000000) (h5:(b.Slots.length:Int)<=1000000):OKc (XN b):=cPu<|oJ b h0 h1 h2 h3 h4 h5
theorem fO (b:AC) (v3:List Int) (v4:Int) (v3':List Int) (v5:Int) (v3'':List Int) (v6:Int) (v3''':List Int) (v7:Int) (v3'''':List Int) (v8:Int) (K0:List Int->Int->List Int) (K1:List Int->Int->List Int) (K2:List Int->Int->List Int) (K3:List Int->Int->List Int) (K4:List Int->Int->List Int):∀ (n:Nat) (v:List Int) (i:Int),0<=i->i<=b.Slots.length->((b.Slots.length:Int)-i).toNat<n->((GJ b v3 v4 v3' v5 v3'' v6 v3''' v7 v3'''' v8 K0 K1 K2 K3 K4 n v i).length:Int)=v.length+((b.Slots.length:Int)-i)
 | 0,v,i,h0,h1,h2=>absurd h2 (Nat.not_lt_zero _)
 | n+1,v,i,h0,h1,h2=>by
  unfold GJ
  by_cases h:i<(b.Slots.length:Int)
  ·simp only [h,decide_true,cond_true]
   have:=fO b v3 v4 v3' v5 v3'' v6 v3''' v7 v3'''' v8 K0 K1 K2 K3 K4 n (v++[(b.Slots.getD i.toNat default).Id]) (i+1) (by omega) (by omega) (by omega)
   rw [this]
   simp only [List.length_append,List.length_cons,List.length_nil]
   omega
  simp only [h,decide_false,cond_false]
  omega
theorem fP (b:AC) (v3:List Int) (v4:Int) (v3':List Int) (v5:Int) (v3'':List Int) (v6:Int) (v3''':List Int) (v7:Int) (K0:List Int->Int->List Int) (K1:List Int->Int->List Int) (K2:List Int->Int->List Int) (K3:List Int->Int->List Int):∀ (n:Nat) (v:List Int) (i:Int),0<=i->i<=b.Keeps.length->((b.Keeps.length:Int)-i).toNat<n->((E2 b v3 v4 v3' v5 v3'' v6 v3''' v7 K0 K1 K2 K3 n v i).length:Int)=v.length+((b.Keeps.length:Int)-i)+(b.Slots.length:Int)
 | 0,v,i,h0,h1,h2=>absurd h2 (Nat.not_lt_zero _)
 | n+1,v,i,h0,h1,h2=>by
  unfold E2
  by_cases h:i<(b.Keeps.length:Int)
  ·simp only [h,decide_true,cond_true]
   have:=fP b v3 v4 v3' v5 v3'' v6 v3''' v7 K0 K1 K2 K3 n (v++[(b.Keeps.getD i.toNat default).Id]) (i+1) (by omega) (by omega) (by omega)
   rw [this]
   simp only [List.length_append,List.length_cons,List.length_nil]
   omega
  simp only [h,decide_false,cond_false]
  rw [fO _ _ _ _ _ _ _ _ _ _ _ _ _ _ _ _ _ v 0 (by omega) (by omega) (by omega)]
  omega
theorem fQ (b:AC) (v3:List Int) (v4:Int) (v3':List Int) (v5:Int) (v3'':List Int) (v6:Int) (K0:List Int->Int->List Int) (K1:List Int->Int->List Int) (K2:List Int->Int->List Int):∀ (n:Nat) (v:List Int) (i:Int),0<=i->i<=b.Pours.length->((b.Pours.length:Int)-i).toNat<n->((EB b v3 v4 v3' v5 v3'' v6 K0 K1 K2 n v i).length:Int)=v.length+((b.Pours.length:Int)-i)+(b.Keeps.length:Int)+(b.Slots.length:Int)
 | 0,v,i,h0,h1,h2=>absurd h2 (Nat.not_lt_zero _)
 | n+1,v,i,h0,h1,h2=>by
  unfold EB
  by_cases h:i<(b.Pours.length:Int)
  ·simp only [h,decide_true,cond_true]
   have:=fQ b v3 v4 v3' v5 v3'' v6 K0 K1 K2 n (v++[(b.Pours.getD i.toNat default).Id]) (i+1) (by omega) (by omega) (by omega)
   rw [this]
   simp only [List.length_append,List.length_cons,List.length_nil]
   omega
  simp only [h,decide_false,cond_false]
  rw [fP _ _ _ _ _ _ _ _ _ _ _ _ _ _ v 0 (by omega) (by omega) (by omega)]
  omega
theorem fR (b:AC) (v3:List Int) (v4:Int) (v3':List Int) (v5:Int) (K0:List Int->Int->List Int) (K1:List Int->Int->List Int):∀ (n:Nat) (v:List Int) (i:Int),0<=i->i<=b.Vias.length->((b.Vias.length:Int)-i).toNat<n->((DG b v3 v4 v3' v5 K0 K1 n v i).length:Int)=v.length+((b.Vias.length:Int)-i)+(b.Pours.length:Int)+(b.Keeps.length:Int)+(b.Slots.length:Int)
 | 0,v,i,h0,h1,h2=>absurd h2 (Nat.not_lt_zero _)
 | n+1,v,i,h0,h1,h2=>by
  unfold DG
  by_cases h:i<(b.Vias.length:Int)
  ·simp only [h,decide_true,cond_true]
   have:=fR b v3 v4 v3' v5 K0 K1 n (v++[(b.Vias.getD i.toNat default).Id]) (i+1) (by omega) (by omega) (by omega)
   rw [this]
   simp only [List.length_append,List.length_cons,List.length_nil]
   omega
  simp only [h,decide_false,cond_false]
  rw [fQ _ _ _ _ _ _ _ _ _ _ _ v 0 (by omega) (by omega) (by omega)]
  omega
theorem fS (b:AC) (v3:List Int) (v4:Int) (K0:List Int->Int->List Int):∀ (n:Nat) (v:List Int) (i:Int),0<=i->i<=b.Tracks.length->((b.Tracks.length:Int)-i).toNat<n->((CB b v3 v4 K0 n v i).length:Int)=v.length+((b.Tracks.length:Int)-i)+(b.Vias.length:Int)+(b.Pours.length:Int)+(b.Keeps.length:Int)+(b.Slots.length:Int)
 | 0,v,i,h0,h1,h2=>absurd h2 (Nat.not_lt_zero _)
 | n+1,v,i,h0,h1,h2=>by
  unfold CB
  by_cases h:i<(b.Tracks.length:Int)
  ·simp only [h,decide_true,cond_true]
   have:=fS b v3 v4 K0 n (v++[(b.Tracks.getD i.toNat default).Id]) (i+1) (by omega) (by omega) (by omega)
   rw [this]
   simp only [List.length_append,List.length_cons,List.length_nil]
   omega
  simp only [h,decide_false,cond_false]
  rw [fR _ _ _ _ _ _ _ _ v 0 (by omega) (by omega) (by omega)]
  omega
theorem fT (b:AC)   : ∀ (n:Nat) (v:List Int) (i:Int),0<=i->i<=b.Parts.length->((b.Parts.length:Int)-i).toNat<n->((BQ b n v i).length:Int)=v.length+((b.Parts.length:Int)-i)+(b.Tracks.length:Int)+(b.Vias.length:Int)+(b.Pours.length:Int)+(b.Keeps.length:Int)+(b.Slots.length:Int)
 | 0,v,i,h0,h1,h2=>absurd h2 (Nat.not_lt_zero _)
 | n+1,v,i,h0,h1,h2=>by
  unfold BQ
  by_cases h:i<(b.Parts.length:Int)
  ·simp only [h,decide_true,cond_true]
   have:=fT b n (v++[(b.Parts.getD i.toNat default).Id]) (i+1) (by omega) (by omega) (by omega)
   rw [this]
   simp only [List.length_append,List.length_cons,List.length_nil]
   omega
  simp only [h,decide_false,cond_false]
  rw [fS _ _ _ _ _ v 0 (by omega) (by omega) (by omega)]
  omega
theorem YL (b:AC):((FC b).length:Int)=(b.Parts.length:Int)+(b.Tracks.length:Int)+(b.Vias.length:Int)+(b.Pours.length:Int)+(b.Keeps.length:Int)+(b.Slots.length:Int):=by
 unfold FC
 rw [fT b _ _ 0 (by omega) (by omega) (by omega)]
 simp only [List.length_nil]
 omega
end
section
open Go.RowKit
theorem Ut {b:AC} (d:AD) (hp:1<=(b.Parts.length:Int)) (h0:(b.Parts.length:Int)<=1000000) (h1:(b.Tracks.length:Int)<=1000000) (h2:(b.Vias.length:Int)<=1000000) (h3:(b.Pours.length:Int)<=1000000) (h4:(b.Keeps.length:Int)<=1000000) (h5:(b.Slots.length:Int)<=1000000):0<=(AB d ((FC b).length:Int)).1/\(AB d ((FC b).length:Int)).1<((FC b).length:Int):=by
 have hq:=YL b
 exact J3 _ _ _ (by omega) (by omega) (by omega)
theorem pW {b:AC} (hp:1<=(b.Parts.length:Int)):((FC b).length:Int)≠0:=by
 have hq:=YL b
 omega
theorem lB {α:Type} {c:Bool} {a b:List α} {k n:Nat} (ha:a.length+k<=n) (hb:b.length+k<=n):(bif c then a else b).length+k<=n:=by cases c <;> assumption
theorem fB {α:Type} {c:Bool} {a b:List α} {k n m:Nat} (ha:(a.length+k)*m<=n) (hb:(b.length+k)*m<=n):((bif c then a else b).length+k)*m<=n:=by cases c <;> assumption
variable (b:AC) (d:AD)
def Z3w:CT:=(48,([.one (.ptr 1000 0),.one (.i 10)]:List Av).map (CC 1000 1001),wrI 1001 (Hf d) (tI (AB d 10).1) (.cells (AD.c (AB d 10).2) 146))
abbrev Fp:=AB (AB d 10).2 8
def Z3x:CT:=(48,([.one (.ptr 1000 0),.one (.i 8)]:List Av).map (CC 1000 1001),wrI 1001 (.cells (AD.c (AB d 10).2) 146) (tI (Fp d).1) (.cells (AD.c (Fp d).2) 146))
def Z3y:Blk:=.cells (AD.c (Fp d).2) 146
def Z3z:Blk:=.row 20 ([A1.mk ({ data := #[99,49] }:ByteArray) 1 1 AJ AJ (W64 (3+(AB d 10).1)),A1.mk ({ data := #[101,49] }:ByteArray) 1 3 AJ AJ (W64 (2+(Fp d).1))].length) (AU A1.c [A1.mk ({ data := #[99,49] }:ByteArray) 1 1 AJ AJ (W64 (3+(AB d 10).1)),A1.mk ({ data := #[101,49] }:ByteArray) 1 3 AJ AJ (W64 (2+(Fp d).1))]) 109
def Z3A:Blk:=.cells (Bc b (C7 b [vN,.own 18 20 ([A1.mk ({ data := #[99,49] }:ByteArray) 1 1 AJ AJ (W64 (3+(AB d 10).1)),A1.mk ({ data := #[101,49] }:ByteArray) 1 3 AJ AJ (W64 (2+(Fp d).1))].length),vN,vN])) 40
def Z3B:CT:=(48,(Hq:List Av).map (CC 1000 1001),wrI 1001 (.cells (AD.c (Fp d).2) 146) (tI (AB (Fp d).2 2).1) (.cells (AD.c (AB (Fp d).2 2).2) 146))
abbrev Z3C:AD:=(AB (AB (AB d 10).2 8).2 2).2
def Z3D:CT:=(48,Kh.map (CC 1000 1001),wrI 1001 (.cells (AD.c (Z3C d)) 146) (tI (AB (Z3C d) 5).1) (.cells (AD.c (AB (Z3C d) 5).2) 146))
abbrev MR:=AB (AB (Z3C d) 5).2 4
def Z3E:CT:=(48,(KI:List Av).map (CC 1000 1001),wrI 1001 (.cells (AD.c (AB (Z3C d) 5).2) 146) (tI (MR d).1) (.cells (AD.c (MR d).2) 146))
def Z3F:Blk:=.cells (AD.c (MR d).2) 146
def Z3G:Blk:=.row 20 ([A1.mk ({ data := #[99,49] }:ByteArray) 1 1 AJ AJ (W64 (3+(AB d 10).1)),A1.mk ({ data := #[101,49] }:ByteArray) 1 3 AJ AJ (W64 (2+(Fp d).1))]++[A1.mk ({ data := #[119,49] }:ByteArray) 1 2 AJ AJ (W64 (6+(AB (Z3C d) 5).1)),A1.mk ({ data := #[114,49] }:ByteArray) 1 4 AJ AJ (W64 (2+(MR d).1))]).length (AU A1.c ([A1.mk ({ data := #[99,49] }:ByteArray) 1 1 AJ AJ (W64 (3+(AB d 10).1)),A1.mk ({ data := #[101,49] }:ByteArray) 1 3 AJ AJ (W64 (2+(Fp d).1))]++[A1.mk ({ data := #[119,49] }:ByteArray) 1 2 AJ AJ (W64 (6+(AB (Z3C d) 5).1)),A1.mk ({ data := #[114,49] }:ByteArray) 1 4 AJ AJ (W64 (2+(MR d).1))])) 109
def Z3H:Blk:=.cells (Bc b (C7 b [vN,.own 100000 20 ([A1.mk ({ data := #[99,49] }:ByteArray) 1 1 AJ AJ (W64 (3+(AB d 10).1)),A1.mk ({ data := #[101,49] }:ByteArray) 1 3 AJ AJ (W64 (2+(Fp d).1))]++[A1.mk ({ data := #[119,49] }:ByteArray) 1 2 AJ AJ (W64 (6+(AB (Z3C d) 5).1)),A1.mk ({ data := #[114,49] }:ByteArray) 1 4 AJ AJ (W64 (2+(MR d).1))]).length,vN,vN])) 40
def Z3I:Blk:=.cells (Bc b (C7 b [vN,.own 100000 20 ([A1.mk ({ data := #[99,49] }:ByteArray) 1 1 AJ AJ (W64 (3+(AB d 10).1)),A1.mk ({ data := #[101,49] }:ByteArray) 1 3 AJ AJ (W64 (2+(Fp d).1))].length),vN,vN])) 40
abbrev Z3J:AD:=bif decide (((AB (AB (AB d 10).2 8).2 2).1:Int)=1) then (AB (AB (Z3C d) 5).2 4).2 else (Z3C d)
def Z3K:(List A1):=bif decide (((AB (AB (AB d 10).2 8).2 2).1:Int)=1) then ([A1.mk ({ data := #[99,49] }:ByteArray) 1 1 AJ AJ (W64 (3+(AB d 10).1)),A1.mk ({ data := #[101,49] }:ByteArray) 1 3 AJ AJ (W64 (2+(AB (AB d 10).2 8).1))]++[A1.mk ({ data := #[119,49] }:ByteArray) 1 2 AJ AJ (W64 (6+(AB (Z3C d) 5).1)),A1.mk ({ data := #[114,49] }:ByteArray) 1 4 AJ AJ (W64 (2+(AB (AB (Z3C d) 5).2 4).1))]) else [A1.mk ({ data := #[99,49] }:ByteArray) 1 1 AJ AJ (W64 (3+(AB d 10).1)),A1.mk ({ data := #[101,49] }:ByteArray) 1 3 AJ AJ (W64 (2+(AB (AB d 10).2 8).1))]
def Z3L:CT:=(48,(Hq:List Av).map (CC 1000 1001),wrI 1001 (.cells (AD.c (Z3J d)) 146) (tI (AB (Z3J d) 2).1) (.cells (AD.c (AB (Z3J d) 2).2) 146))
def Z3M:Blk:=.cells (Bc b (C7 b [vN,.own 100000 20 (Z3K d).length,vN,vN])) 40
def Z3N:Blk:=.cells (AD.c (AB (Z3J d) 2).2) 146
def Z3O:Blk:=.row 20 (Z3K d).length (AU A1.c (Z3K d)) 109
abbrev JS:=AB (AB (Z3J d) 2).2 2
def Z3P:CT:=(48,(Hq:List Av).map (CC 1000 1001),wrI 1001 (.cells (AD.c (AB (Z3J d) 2).2) 146) (tI (JS d).1) (.cells (AD.c (JS d).2) 146))
def Z3Q:CT:=(94,([.one (.ptr 1000 0)]:List Av).map (CC 1000 1001),wrI 1001 (.cells (AD.c (JS d).2) 146) (.av (.agg (Bt.c (BX (JS d).2).1))) (.cells (AD.c (BX (JS d).2).2) 146))
abbrev Z3R:AD:=(BX (AB (AB (Z3J d) 2).2 2).2).2
def Z3S:Bt:=(BX (AB (AB (Z3J d) 2).2 2).2).1
def Z3T:CT:=(94,([.one (.ptr 1000 0)]:List Av).map (CC 1000 1001),wrI 1001 (.cells (AD.c (Z3R d)) 146) (.av (.agg (Bt.c (BX (Z3R d)).1))) (.cells (AD.c (BX (Z3R d)).2) 146))
abbrev OJ:=AB (BX (Z3R d)).2 14
def Z3U:CT:=(48,([.one (.ptr 1000 0),.one (.i 14)]:List Av).map (CC 1000 1001),wrI 1001 (.cells (AD.c (BX (Z3R d)).2) 146) (tI (OJ d).1) (.cells (AD.c (OJ d).2) 146))
abbrev Z3V:AD:=(AB (BX (Z3R d)).2 14).2
def Z3W:Blk:=.row 20 ((Z3K d)++[A1.mk ({ data := #[99,50] }:ByteArray) (W64 (1+(JS d).1)) 1 (Z3S d) (BX (Z3R d)).1 (W64 (1+(OJ d).1))]).length (AU A1.c ((Z3K d)++[A1.mk ({ data := #[99,50] }:ByteArray) (W64 (1+(JS d).1)) 1 (Z3S d) (BX (Z3R d)).1 (W64 (1+(OJ d).1))])) 109
def Z3X:Blk:=.cells (Bc b (C7 b [vN,.own 100001 20 ((Z3K d)++[A1.mk ({ data := #[99,50] }:ByteArray) (W64 (1+(JS d).1)) 1 (Z3S d) (BX (Z3R d)).1 (W64 (1+(OJ d).1))]).length,vN,vN])) 40
abbrev Z3Y:AD:=bif decide (((AB (Z3J d) 2).1:Int)=1) then (Z3V d) else (AB (Z3J d) 2).2
def Z3Z:(List A1):=bif decide (((AB (Z3J d) 2).1:Int)=1) then ((Z3K d)++[A1.mk ({ data := #[99,50] }:ByteArray) (W64 (1+(AB (AB (Z3J d) 2).2 2).1)) 1 (Z3S d) (BX (Z3R d)).1 (W64 (1+(AB (BX (Z3R d)).2 14).1))]) else (Z3K d)
def Z40:CT:=(48,(FX:List Av).map (CC 1000 1001),wrI 1001 (.cells (AD.c (Z3Y d)) 146) (tI (AB (Z3Y d) 3).1) (.cells (AD.c (AB (Z3Y d) 3).2) 146))
def Z41:Blk:=.cells (Bc b (C7 b [vN,.own 100001 20 (Z3Z d).length,vN,vN])) 40
def Z42:Blk:=.cells (AD.c (AB (Z3Y d) 3).2) 146
def Z43:Blk:=.row 20 (Z3Z d).length (AU A1.c (Z3Z d)) 109
def Z44:(List BS):=bif decide (((AB (Z3Y d) 3).1:Int)=0) then [BS.mk ({ data := #[112,111,119,101,114] }:ByteArray) [({ data := #[71,78,68] }:ByteArray)]] else []
def Z45:CT:=(48,(KI:List Av).map (CC 1000 1001),wrI 1001 (.cells (AD.c (AB (Z3Y d) 3).2) 146) (tI (AB (AB (Z3Y d) 3).2 4).1) (.cells (AD.c (AB (AB (Z3Y d) 3).2 4).2) 146))
abbrev Z46:AD:=(AB (AB (Z3Y d) 3).2 4).2
abbrev RV (t_:List Cl):List Cl:=(lst 2 BS.c (Z44 d))::(.own 100001 20 (Z3Z d).length)::t_
abbrev bY:List Cl:=(Bc b (C7 b (RV d [vN,vN])))
def Z47:Blk:=.cells (bY b d) 40
def Z48:(List Int):=FC (AC.mk b.Layers (An.mk 0 [] 0) b.Parts [] b.Tracks b.Vias b.Pours b.Keeps b.Slots [] [] [] [])
def Z49:CT:=(48,([.one (.ptr 1000 0),.one (.i ((Z48 b).length:Int))]:List Av).map (CC 1000 1001),wrI 1001 (.cells (AD.c (Z46 d)) 146) (tI (AB (Z46 d) ((Z48 b).length:Int)).1) (.cells (AD.c (AB (Z46 d) ((Z48 b).length:Int)).2) 146))
abbrev Z4a (d:AD) (b:AC):AD:=(AB (Z46 d) ((Z48 b).length:Int)).2
def Z4b:CT:=(48,([.one (.ptr 1000 0),.one (.i ((Z48 b).length:Int))]:List Av).map (CC 1000 1001),wrI 1001 (.cells (AD.c (Z4a d b)) 146) (tI (AB (Z4a d b) ((Z48 b).length:Int)).1) (.cells (AD.c (AB (Z4a d b) ((Z48 b).length:Int)).2) 146))
abbrev Z4c (d:AD) (b:AC):AD:=(AB (Z4a d b) ((Z48 b).length:Int)).2
abbrev Z4d (d:AD) (b:AC):AD:=bif decide (((AB (AB (Z3Y d) 3).2 4).1:Int)=0) then (Z4c d b) else (Z46 d)
def Z4e (d:AD) (b:AC):(List BM):=bif decide (((AB (AB (Z3Y d) 3).2 4).1:Int)=0) then [BM.mk ((Z48 b).getD (AB (Z46 d) ((Z48 b).length:Int)).1.toNat default) ((Z48 b).getD (AB (Z4a d b) ((Z48 b).length:Int)).1.toNat default) ({ data := #[99,49] }:ByteArray)] else []
def Z4f (d:AD) (b:AC):CT:=(48,(KI:List Av).map (CC 1000 1001),wrI 1001 (.cells (AD.c (Z4d d b)) 146) (tI (AB (Z4d d b) 4).1) (.cells (AD.c (AB (Z4d d b) 4).2) 146))
def Z4g (d:AD) (b:AC):CT:=(48,([.one (.ptr 1000 0),.one (.i 8)]:List Av).map (CC 1000 1001),wrI 1001 (.cells (AD.c (AB (Z4d d b) 4).2) 146) (tI (AB (AB (Z4d d b) 4).2 8).1) (.cells (AD.c (AB (AB (Z4d d b) 4).2 8).2) 146))
abbrev Z4h (d:AD) (b:AC):AD:=(AB (AB (Z4d d b) 4).2 8).2
def DB (b:AC) (d:AD):(AC×AD):=bif decide (((AB (Z4d d b) 4).1:Int)=0) then (AC.mk b.Layers b.Outline b.Parts b.Nets b.Tracks b.Vias b.Pours b.Keeps b.Slots (Z44 d) (Z3Z d) (Z4e d b) [Bb.mk ({ data := #[109,49] }:ByteArray) [({ data := #[78,49] }:ByteArray),({ data := #[78,50] }:ByteArray)] (W64 (10*(AB (AB (Z4d d b) 4).2 8).1))],Z4h d b) else (AC.mk b.Layers b.Outline b.Parts b.Nets b.Tracks b.Vias b.Pours b.Keeps b.Slots (Z44 d) (Z3Z d) (Z4e d b) [],(AB (Z4d d b) 4).2)
abbrev Fk:List (Nat×Tv):=[(0,tP 1000 0),(1,tP 1001 0)]
abbrev RW (d:AD) (b:AC) (t_:List Cl):List Cl:=(lst 2 BS.c (Z44 d))::(lst 20 A1.c (Z3Z d))::(lst 3 BM.c (Z4e d b))::t_
theorem au8 {p:Prop} (h:p:=by repeat (first | with_reducible assumption | exact DA (Dt hll _) | with_reducible refine Bl ?_ | with_reducible refine E9 ?_ | with_reducible refine D3 ?_ | with_reducible refine Zg ?_  | with_reducible refine DK ?_ ?_)):p:=h
theorem au11 {p:Prop} (h:p:=by first | decide | omega | exact pW (b:=AC.mk b.Layers (An.mk 0 [] 0) b.Parts [] b.Tracks b.Vias b.Pours b.Keeps b.Slots [] [] [] []) hi | (simp only [Do];omega)):p:=h
theorem au30 {p:Prop} (h:p:=by first | (simp only [List.length_append,List.length_cons,List.length_nil];decide) | exact lB (by simp only [List.length_append,List.length_cons,List.length_nil];decide) (by simp only [List.length_append,List.length_cons,List.length_nil];decide) | exact fB (by simp only [List.length_append,List.length_cons,List.length_nil];decide) (by simp only [List.length_append,List.length_cons,List.length_nil];decide) | (unfold maxLen;omega) | (simp only [ZF,ZE,ZD];omega)):p:=h
set_option maxHeartbeats 2000000 in
theorem dD  (b:AC) (d:AD) (hd:B2 d) (h0:(b.Parts.length:Int)<=1000000) (h1:(b.Tracks.length:Int)<=1000000) (h2:(b.Vias.length:Int)<=1000000) (h3:(b.Pours.length:Int)<=1000000) (h4:(b.Keeps.length:Int)<=1000000) (h5:(b.Slots.length:Int)<=1000000) (hi:1<=(b.Parts.length:Int)):Wr2 Tryz.prog 51 1000 1001 [.one (.ptr 1000 0),.one (.ptr 1001 0)] (.cells [.i b.Layers,.i b.Outline.Kind,lst 7 AN.c b.Outline.Edges,.i b.Outline.R,lst 7 AF.c b.Parts,lst 2 BA.c b.Nets,lst 6 Aq.c b.Tracks,lst 8 Bx.c b.Vias,lst 8 A8.c b.Pours,lst 5 BR.c b.Keeps,lst 4 Bq.c b.Slots,vN,vN,vN,vN] 40) (.cells (AD.c d) 146) (.tup []) (.cells (AC.c (DB b d).1) 40) (.cells (AD.c (DB b d).2) 146):=by
 refine Ol Tryz.func51 rfl kr kr kr rfl kr kr kr fun W0 M0 X hX => ?_
 refine AA ?_
 refine DP Dh [18] [] [(6,Cj),(7,Cj),(9,(Z3w d)),(12,Cj),(13,Cj),(15,(Z3x d))] [0,1] [18,1000,1001] [Ay Cj.2.1,Ay Cj.2.1,Ay (Z3w d).2.1,CH (Hf d),Ay Cj.2.1,Ay Cj.2.1,Ay (Z3x d).2.1,CH (.cells (AD.c (AB d 10).2) 146)] ⟨Fk,[(18,.row 20 2 (BB 20 2 [.s ({ data := #[99,49] }:ByteArray),.i 1,.i 1,.i AJ.Op,.s AJ.Text,.i AJ.N,.i AJ.Box.X0,.i AJ.Box.Y0,.i AJ.Box.X1,.i AJ.Box.Y1,opL AJ.L,.i AJ.Op,.s AJ.Text,.i AJ.N,.i AJ.Box.X0,.i AJ.Box.Y0,.i AJ.Box.X1,.i AJ.Box.Y1,opL AJ.L,.i (W64 (3+(AB d 10).1)),.s ({ data := #[101,49] }:ByteArray),.i 1,.i 3,.i AJ.Op,.s AJ.Text,.i AJ.N,.i AJ.Box.X0,.i AJ.Box.Y0,.i AJ.Box.X1,.i AJ.Box.Y1,opL AJ.L,.i AJ.Op,.s AJ.Text,.i AJ.N,.i AJ.Box.X0,.i AJ.Box.Y0,.i AJ.Box.X1,.i AJ.Box.Y1,opL AJ.L,.i (W64 (2+(AB (AB d 10).2 8).1))]) 109),(1000,.cells (Bc b (C7 b [vN,.own 18 20 2,vN,vN])) 40),(1001,Z3y d)]⟩ (.cons Ej (.cons Ej (.cons (cWr (Bp d 10 au8 au11)) (.cons Ej (.cons Ej (.cons (cWr (Bp (AB d 10).2 8 au8 au11)) .nil)))))) kr (.cons rfl (.cons rfl (.cons rfl (.cons rfl (.cons rfl (.cons rfl (.cons rfl (.cons rfl .nil))))))))<|AG ?_
 refine Ap (A2 18 (A0 20 A1.c ([A1.mk ({ data := #[99,49] }:ByteArray) 1 1 AJ AJ (W64 (3+(AB d 10).1)),A1.mk ({ data := #[101,49] }:ByteArray) 1 3 AJ AJ (W64 (2+(AB (AB d 10).2 8).1))]:List A1)))<|AA<|AA ?_
 refine rb 22 (Z3B d) (.cells (AD.c (AB (AB d 10).2 8).2) 146) ⟨[(0,tP 1000 0),(1,tP 1001 0),(23,tB (decide (((AB (Fp d).2 2).1:Int)=1)))],[(18,Z3z d),(1000,Z3A b d),(1001,.cells (AD.c (Z3C d)) 146)]⟩ (cWr (Bp (AB (AB d 10).2 8).2 2 au8 au11))<|AG ?_
 refine B4 (⟨Fk,[(1000,.cells (Bc b (C7 b [vN,.own 100000 20 (Z3K d).length,vN,vN])) 40),(1001,.cells (AD.c (Z3J d)) 146),(100000,.row 20 (Z3K d).length (AU A1.c (Z3K d)) 109)]⟩) ?_ ?_
 ·refine AO _ rfl (fun h1 => ?_) (fun h1 => ?_)
  ·have g1:=oT h1
   refine dw [] [(29,Cj),(30,Cj),(32,(Z3D d)),(35,Cj),(36,Cj),(38,(Z3E d))] [Ay Cj.2.1,Ay Cj.2.1,Ay (Z3D d).2.1,CH (.cells (AD.c (Z3C d)) 146),Ay Cj.2.1,Ay Cj.2.1,Ay (Z3E d).2.1,CH (.cells (AD.c (AB (Z3C d) 5).2) 146),[A1.mk ({ data := #[99,49] }:ByteArray) 1 1 AJ AJ (W64 (3+(AB d 10).1)),A1.mk ({ data := #[101,49] }:ByteArray) 1 3 AJ AJ (W64 (2+(AB (AB d 10).2 8).1))].length=[A1.mk ({ data := #[99,49] }:ByteArray) 1 1 AJ AJ (W64 (3+(AB d 10).1)),A1.mk ({ data := #[101,49] }:ByteArray) 1 3 AJ AJ (W64 (2+(AB (AB d 10).2 8).1))].length,([A1.mk ({ data := #[99,49] }:ByteArray) 1 1 AJ AJ (W64 (3+(AB d 10).1)),A1.mk ({ data := #[101,49] }:ByteArray) 1 3 AJ AJ (W64 (2+(AB (AB d 10).2 8).1))].length)+2<=maxLen,(([A1.mk ({ data := #[99,49] }:ByteArray) 1 1 AJ AJ (W64 (3+(AB d 10).1)),A1.mk ({ data := #[101,49] }:ByteArray) 1 3 AJ AJ (W64 (2+(AB (AB d 10).2 8).1))].length)+2)*216<=140737488355328] ⟨Fk,[(42,.row 20 (([A1.mk ({ data := #[99,49] }:ByteArray) 1 1 AJ AJ (W64 (3+(AB d 10).1)),A1.mk ({ data := #[101,49] }:ByteArray) 1 3 AJ AJ (W64 (2+(AB (AB d 10).2 8).1))].length)+2) (fun i_ j_=>if i_<([A1.mk ({ data := #[99,49] }:ByteArray) 1 1 AJ AJ (W64 (3+(AB d 10).1)),A1.mk ({ data := #[101,49] }:ByteArray) 1 3 AJ AJ (W64 (2+(AB (AB d 10).2 8).1))].length) then (AU A1.c [A1.mk ({ data := #[99,49] }:ByteArray) 1 1 AJ AJ (W64 (3+(AB d 10).1)),A1.mk ({ data := #[101,49] }:ByteArray) 1 3 AJ AJ (W64 (2+(AB (AB d 10).2 8).1))]) i_ j_ else (BB 20 2 [.s ({ data := #[119,49] }:ByteArray),.i 1,.i 2,.i AJ.Op,.s AJ.Text,.i AJ.N,.i AJ.Box.X0,.i AJ.Box.Y0,.i AJ.Box.X1,.i AJ.Box.Y1,opL AJ.L,.i AJ.Op,.s AJ.Text,.i AJ.N,.i AJ.Box.X0,.i AJ.Box.Y0,.i AJ.Box.X1,.i AJ.Box.Y1,opL AJ.L,.i (W64 (6+(AB (Z3C d) 5).1)),.s ({ data := #[114,49] }:ByteArray),.i 1,.i 4,.i AJ.Op,.s AJ.Text,.i AJ.N,.i AJ.Box.X0,.i AJ.Box.Y0,.i AJ.Box.X1,.i AJ.Box.Y1,opL AJ.L,.i AJ.Op,.s AJ.Text,.i AJ.N,.i AJ.Box.X0,.i AJ.Box.Y0,.i AJ.Box.X1,.i AJ.Box.Y1,opL AJ.L,.i (W64 (2+(AB (AB (Z3C d) 5).2 4).1))]) (i_-([A1.mk ({ data := #[99,49] }:ByteArray) 1 1 AJ AJ (W64 (3+(AB d 10).1)),A1.mk ({ data := #[101,49] }:ByteArray) 1 3 AJ AJ (W64 (2+(AB (AB d 10).2 8).1))].length)) j_) 109),(1000,.cells (Bc b (C7 b [vN,.own 42 20 (([A1.mk ({ data := #[99,49] }:ByteArray) 1 1 AJ AJ (W64 (3+(AB d 10).1)),A1.mk ({ data := #[101,49] }:ByteArray) 1 3 AJ AJ (W64 (2+(AB (AB d 10).2 8).1))].length)+2),vN,vN])) 40),(1001,Z3F d)]⟩ (.cons Ej (.cons Ej (.cons (cWr (Bp (Z3C d) 5 au8 au11)) (.cons Ej (.cons Ej (.cons (cWr (Bp (AB (Z3C d) 5).2 4 au8 au11)) .nil)))))) (.cons rfl (.cons rfl (.cons rfl (.cons rfl (.cons rfl (.cons rfl (.cons rfl (.cons rfl (.cons rfl (.cons au30 (.cons au30 .nil)))))))))))<|AG ?_
   refine Cv.trans (A2 42 (Au (Am 20 A1.c [A1.mk ({ data := #[99,49] }:ByteArray) 1 1 AJ AJ (W64 (3+(AB d 10).1)),A1.mk ({ data := #[101,49] }:ByteArray) 1 3 AJ AJ (W64 (2+(AB (AB d 10).2 8).1))]) (A0 20 A1.c ([A1.mk ({ data := #[119,49] }:ByteArray) 1 2 AJ AJ (W64 (6+(AB (Z3C d) 5).1)),A1.mk ({ data := #[114,49] }:ByteArray) 1 4 AJ AJ (W64 (2+(AB (AB (Z3C d) 5).2 4).1))]:List A1)))) (Cv.trans (vr 42 100000 (K:=[1000,1001]) hX) (Cv.trans (ck (⟨Fk,[(1000,Z3H b d),(1001,Z3F d),(100000,Z3G d)]⟩)) (BE ?_)))
   first | rfl | (simp only [h1,Z3J,Z3K,cond_true,cond_false] <;> rfl)
  refine AZ<|AG ?_
  refine Cv.trans (vk [0,1] [18,1000,1001]) (Cv.trans (vr 18 100000 (K:=[1000,1001]) hX) (Cv.trans (ck (⟨Fk,[(1000,Z3I b d),(1001,.cells (AD.c (Z3C d)) 146),(100000,Z3z d)]⟩)) (BE ?_)))
  first | rfl | (simp only [h1,Z3J,Z3K,cond_true,cond_false] <;> rfl)
 refine AA<|AA ?_
 refine rb 46 (Z3L d) (.cells (AD.c (Z3J d)) 146) ⟨[(0,tP 1000 0),(1,tP 1001 0),(47,tB (decide (((AB (Z3J d) 2).1:Int)=1)))],[(1000,Z3M b d),(1001,Z3N d),(100000,Z3O d)]⟩ (cWr (Bp (Z3J d) 2 au8 au11))<|AG ?_
 refine B4 (⟨Fk,[(1000,.cells (Bc b (C7 b [vN,.own 100001 20 (Z3Z d).length,vN,vN])) 40),(1001,.cells (AD.c (Z3Y d)) 146),(100001,.row 20 (Z3Z d).length (AU A1.c (Z3Z d)) 109)]⟩) ?_ ?_
 ·refine AO _ rfl (fun h1 => ?_) (fun h1 => ?_)
  ·have g1:=oT h1
   refine dw [] [(54,(Z3P d)),(57,(Z3Q d)),(59,(Z3T d)),(61,(Z3U d))] [Ay (Z3P d).2.1,CH (.cells (AD.c (AB (Z3J d) 2).2) 146),Ay (Z3Q d).2.1,CH (.cells (AD.c (AB (AB (Z3J d) 2).2 2).2) 146),Ay (Z3T d).2.1,CH (.cells (AD.c (Z3R d)) 146),Ay (Z3U d).2.1,CH (.cells (AD.c (BX (Z3R d)).2) 146),(Z3K d).length=(Z3K d).length,(Z3K d).length+1<=maxLen,((Z3K d).length+1)*216<=140737488355328] ⟨Fk,[(65,.row 20 ((Z3K d).length+1) (fun i_ j_=>if i_<(Z3K d).length then (AU A1.c (Z3K d)) i_ j_ else (BB 20 1 [.s ({ data := #[99,50] }:ByteArray),.i (W64 (1+(AB (AB (Z3J d) 2).2 2).1)),.i 1,.i (Z3S d).Op,.s (Z3S d).Text,.i (Z3S d).N,.i (Z3S d).Box.X0,.i (Z3S d).Box.Y0,.i (Z3S d).Box.X1,.i (Z3S d).Box.Y1,opL (Z3S d).L,.i (BX (Z3R d)).1.Op,.s (BX (Z3R d)).1.Text,.i (BX (Z3R d)).1.N,.i (BX (Z3R d)).1.Box.X0,.i (BX (Z3R d)).1.Box.Y0,.i (BX (Z3R d)).1.Box.X1,.i (BX (Z3R d)).1.Box.Y1,opL (BX (Z3R d)).1.L,.i (W64 (1+(AB (BX (Z3R d)).2 14).1))]) (i_-(Z3K d).length) j_) 109),(1000,.cells (Bc b (C7 b [vN,.own 65 20 ((Z3K d).length+1),vN,vN])) 40),(1001,.cells (AD.c (Z3V d)) 146)]⟩ (.cons (cWr (Bp (AB (Z3J d) 2).2 2 au8 au11)) (.cons (cWr (Xx (AB (AB (Z3J d) 2).2 2).2 au8)) (.cons (cWr (Xx (Z3R d) au8)) (.cons (cWr (Bp (BX (Z3R d)).2 14 au8 au11)) .nil)))) (.cons rfl (.cons rfl (.cons rfl (.cons rfl (.cons rfl (.cons rfl (.cons rfl (.cons rfl (.cons rfl (.cons au30 (.cons au30 .nil)))))))))))<|AG ?_
   refine Cv.trans (A2 65 (Au (Am 20 A1.c (Z3K d)) (A0 20 A1.c ([A1.mk ({ data := #[99,50] }:ByteArray) (W64 (1+(AB (AB (Z3J d) 2).2 2).1)) 1 (Z3S d) (BX (Z3R d)).1 (W64 (1+(AB (BX (Z3R d)).2 14).1))]:List A1)))) (Cv.trans (vr 65 100001 (K:=[1000,1001]) hX) (Cv.trans (ck (⟨Fk,[(1000,Z3X b d),(1001,.cells (AD.c (Z3V d)) 146),(100001,Z3W d)]⟩)) (BE ?_)))
   first | rfl | (simp only [h1,Z3Y,Z3Z,cond_true,cond_false] <;> rfl)
  refine AZ<|AG ?_
  refine Cv.trans (vk [0,1] [1000,1001,100000]) (Cv.trans (wr (⟨Fk,[(1000,.cells (Bc b (C7 b [vN,.own 100001 20 (Z3K d).length,vN,vN])) 40),(1001,Z3N d),(100001,Z3O d)]⟩) 100000 100001 (K:=[1000,1001]) hX) (BE ?_))
  first | rfl | (simp only [h1,Z3Y,Z3Z,cond_true,cond_false] <;> rfl)
 refine AA<|AA ?_
 refine rb 69 (Z40 d) (.cells (AD.c (Z3Y d)) 146) ⟨[(0,tP 1000 0),(1,tP 1001 0),(70,tB (decide (((AB (Z3Y d) 3).1:Int)=0)))],[(1000,Z41 b d),(1001,Z42 d),(100001,Z43 d)]⟩ (cWr (Bp (Z3Y d) 3 au8 au11))<|AG ?_
 refine B4 (⟨Fk,[(1000,.cells (Bc b (C7 b [lst 2 BS.c (Z44 d),.own 100001 20 (Z3Z d).length,vN,vN])) 40),(1001,.cells (AD.c (AB (Z3Y d) 3).2) 146),(100001,.row 20 (Z3Z d).length (AU A1.c (Z3Z d)) 109)]⟩) ?_ ?_
 ·refine AO _ rfl (fun h1 => ?_) (fun h1 => ?_)
  ·refine rn ⟨Fk,[(1000,.cells (Bc b (C7 b [.list true 2 1 (BB 2 1 [.s ({ data := #[112,111,119,101,114] }:ByteArray),.list true 1 1 (BB 1 1 [.s ({ data := #[71,78,68] }:ByteArray)])]),.own 100001 20 (Z3Z d).length,vN,vN])) 40),(1001,Z42 d),(100001,Z43 d)]⟩ ?_
   refine Cv.trans (DH (⟨Fk,[(1000,.cells (Bc b (C7 b [lst 2 BS.c [BS.mk ({ data := #[112,111,119,101,114] }:ByteArray) [({ data := #[71,78,68] }:ByteArray)]],.own 100001 20 (Z3Z d).length,vN,vN])) 40),(1001,Z42 d),(100001,Z43 d)]⟩) lr (.cons ⟨rfl,.cells _ (rr9 (rr2 (.cons (Bk true (Dr (c:=BS.c) (xs:=([BS.mk ({ data := #[112,111,119,101,114] }:ByteArray) [({ data := #[71,78,68] }:ByteArray)]]:List BS)) (y:=[[.s ({ data := #[112,111,119,101,114] }:ByteArray),.list true 1 1 (BB 1 1 [.s ({ data := #[71,78,68] }:ByteArray)])]]) (z:=[[.s ({ data := #[112,111,119,101,114] }:ByteArray),lst 1 (fun x=>[.s x]) [({ data := #[71,78,68] }:ByteArray)]]]) rfl kr kr (.cons (rr (.cons (Bk true (Bd (c:=(fun x=>[.s x])) (xs:=([({ data := #[71,78,68] }:ByteArray)]:List ByteArray)) rfl kr)) .nil)) .nil))) (rr (rr (rr .nil))))))⟩ lr)) (BE ?_)
   first | rfl | (simp only [h1,Z44,cond_true,cond_false] <;> rfl)
  refine AZ<|AG ?_
  refine Cv.trans (ck (⟨Fk,[(1000,Z41 b d),(1001,Z42 d),(100001,Z43 d)]⟩)) (Cv.trans (DH (⟨Fk,[(1000,.cells (Bc b (C7 b [lst 2 BS.c [],.own 100001 20 (Z3Z d).length,vN,vN])) 40),(1001,Z42 d),(100001,Z43 d)]⟩) lr (.cons ⟨rfl,.cells _ (rr9 (rr2 (.cons (Cx 2 BS.c) (rr (rr (rr .nil))))))⟩ lr)) (BE ?_))
  first | rfl | (simp only [h1,Z44,cond_true,cond_false] <;> rfl)
 refine AA<|AA ?_
 refine rb 78 (Z45 d) (.cells (AD.c (AB (Z3Y d) 3).2) 146) ⟨[(0,tP 1000 0),(1,tP 1001 0),(79,tB (decide (((AB (AB (Z3Y d) 3).2 4).1:Int)=0)))],[(1000,Z47 b d),(1001,.cells (AD.c (Z46 d)) 146),(100001,Z43 d)]⟩ (cWr (Bp (AB (Z3Y d) 3).2 4 au8 au11))<|AG ?_
 refine B4 (⟨Fk,[(1000,.cells (Bc b (C7 b [lst 2 BS.c (Z44 d),.own 100001 20 (Z3Z d).length,lst 3 BM.c (Z4e d b),vN])) 40),(1001,.cells (AD.c (Z4d d b)) 146),(100001,.row 20 (Z3Z d).length (AU A1.c (Z3Z d)) 109)]⟩) ?_ ?_
 ·refine AO _ rfl (fun h1 => ?_) (fun h1 => ?_)
  ·have g1:=oT h1
   refine AA<|oq 83 (ceI [.agg (bY b d)] (XN (AC.mk b.Layers (An.mk 0 [] 0) b.Parts [] b.Tracks b.Vias b.Pours b.Keeps b.Slots [] [] [] []))) (Ck (kO (AC.mk b.Layers (An.mk 0 [] 0) b.Parts [] b.Tracks b.Vias b.Pours b.Keeps b.Slots [] [] [] []) au12 au12 au12 au12 au12 au12) (.cons (.agg (rr (.cons (.any _) (.cons (.any _) (.cons (.any _) (rr (.cons (.any _) (rr5 (.cons (.any _) (.cons (.any _) (.cons (.any _) (.cons (.any _) .nil)))))))))))) .nil))<|AG ?_
   refine dw [] [(89,(Z49 b d)),(96,(Z4b b d))] [Ay (Z49 b d).2.1,CH (.cells (AD.c (Z46 d)) 146),0<=((AB (Z46 d) ((Z48 b).length:Int)).1:Int)/\((AB (Z46 d) ((Z48 b).length:Int)).1:Int)<(((Z48 b).length:Nat):Int),Ay (Z4b b d).2.1,CH (.cells (AD.c (Z4a d b)) 146),0<=((AB (Z4a d b) ((Z48 b).length:Int)).1:Int)/\((AB (Z4a d b) ((Z48 b).length:Int)).1:Int)<(((Z48 b).length:Nat):Int)] ⟨Fk,[(1000,.cells (Bc b (C7 b (RV d [.list true 3 1 (BB 3 1 [.i ((Z48 b).getD (AB (Z46 d) ((Z48 b).length:Int)).1.toNat default),.i ((Z48 b).getD (AB (Z4a d b) ((Z48 b).length:Int)).1.toNat default),.s ({ data := #[99,49] }:ByteArray)]),vN]))) 40),(1001,.cells (AD.c (Z4c d b)) 146),(100001,Z43 d)]⟩ (.cons (cWr (Bp (Z46 d) ((Z48 b).length:Int) au8 au11)) (.cons (cWr (Bp (Z4a d b) ((Z48 b).length:Int) au8 au11)) .nil)) (.cons rfl (.cons rfl (.cons (by first | exact J3 _ _ _ (by decide) (by decide) (by decide) | exact Ut (b:=AC.mk b.Layers (An.mk 0 [] 0) b.Parts [] b.Tracks b.Vias b.Pours b.Keeps b.Slots [] [] [] []) _ hi (by assumption) (by assumption) (by assumption) (by assumption) (by assumption) (by assumption) | decide | omega) (.cons rfl (.cons rfl (.cons (by first | exact J3 _ _ _ (by decide) (by decide) (by decide) | exact Ut (b:=AC.mk b.Layers (An.mk 0 [] 0) b.Parts [] b.Tracks b.Vias b.Pours b.Keeps b.Slots [] [] [] []) _ hi (by assumption) (by assumption) (by assumption) (by assumption) (by assumption) (by assumption) | decide | omega) .nil))))))<|AG ?_
   refine Cv.trans (DH (⟨Fk,[(1000,.cells (Bc b (C7 b [lst 2 BS.c (Z44 d),.own 100001 20 (Z3Z d).length,lst 3 BM.c [BM.mk ((Z48 b).getD (AB (Z46 d) ((Z48 b).length:Int)).1.toNat default) ((Z48 b).getD (AB (Z4a d b) ((Z48 b).length:Int)).1.toNat default) ({ data := #[99,49] }:ByteArray)],vN])) 40),(1001,.cells (AD.c (Z4c d b)) 146),(100001,Z43 d)]⟩) lr (.cons ⟨rfl,.cells _ (rr9 (rr4 (.cons (Bk true (Bd (c:=BM.c) (xs:=([BM.mk ((Z48 b).getD (AB (Z46 d) ((Z48 b).length:Int)).1.toNat default) ((Z48 b).getD (AB (Z4a d b) ((Z48 b).length:Int)).1.toNat default) ({ data := #[99,49] }:ByteArray)]:List BM)) rfl kr)) (rr .nil))))⟩ lr)) (BE ?_)
   first | rfl | (simp only [h1,Z4d,Z4e,cond_true,cond_false] <;> rfl)
  refine AZ<|AG ?_
  refine Cv.trans (ck (⟨Fk,[(1000,Z47 b d),(1001,.cells (AD.c (Z46 d)) 146),(100001,Z43 d)]⟩)) (Cv.trans (DH (⟨Fk,[(1000,.cells (Bc b (C7 b [lst 2 BS.c (Z44 d),.own 100001 20 (Z3Z d).length,lst 3 BM.c [],vN])) 40),(1001,.cells (AD.c (Z46 d)) 146),(100001,Z43 d)]⟩) lr (.cons ⟨rfl,.cells _ (rr9 (rr4 (.cons (Cx 3 BM.c) (rr .nil))))⟩ lr)) (BE ?_))
  first | rfl | (simp only [h1,Z4d,Z4e,cond_true,cond_false] <;> rfl)
 refine AA<|rb 104 (Z4f d b) (.cells (AD.c (Z4d d b)) 146) ⟨[(0,tP 1000 0),(1,tP 1001 0),(105,tB (decide (((AB (Z4d d b) 4).1:Int)=0)))],[(1000,.cells (Bc b (C7 b (RV d [lst 3 BM.c (Z4e d b),vN]))) 40),(1001,.cells (AD.c (AB (Z4d d b) 4).2) 146),(100001,Z43 d)]⟩ (cWr (Bp (Z4d d b) 4 au8 au11))<|AG ?_
 refine AO _ rfl (fun h1 => ?_) (fun h1 => ?_)
 ·have g1:=oT h1
  refine rb 109 (Z4g d b) (.cells (AD.c (AB (Z4d d b) 4).2) 146) ⟨[],[(1000,.cells (Bc b (C7 b (RV d [lst 3 BM.c (Z4e d b),.list true 3 1 (BB 3 1 [.s ({ data := #[109,49] }:ByteArray),.list true 1 2 (BB 1 2 [.s ({ data := #[78,49] }:ByteArray),.s ({ data := #[78,50] }:ByteArray)]),.i (W64 (10*(AB (AB (Z4d d b) 4).2 8).1))])]))) 40),(1001,.cells (AD.c (Z4h d b)) 146),(100001,Z43 d)]⟩ (cWr (Bp (AB (Z4d d b) 4).2 8 au8 au11)) ?_
  exact yn (Cv.trans (vf 100001 (K:=[1000,1001]) hX) (Cv.refl _)) (.tup []) ⟨Bz rfl,⟨.cells (Bc b (C7 b (RW d b [.list true 3 1 (BB 3 1 [.s ({ data := #[109,49] }:ByteArray),.list true 1 2 (BB 1 2 [.s ({ data := #[78,49] }:ByteArray),.s ({ data := #[78,50] }:ByteArray)]),.i (W64 (10*(AB (AB (Z4d d b) 4).2 8).1))])]))) 40,by kernel_rfl,TS (y:=.cells (Bc b (C7 b (RW d b [lst 3 Bb.c [Bb.mk ({ data := #[109,49] }:ByteArray) [({ data := #[78,49] }:ByteArray),({ data := #[78,50] }:ByteArray)] (W64 (10*(AB (AB (Z4d d b) 4).2 8).1))]]))) 40) (.cells _ (rr9 (rr5 (.cons (Bk true (Dr (c:=Bb.c) (xs:=([Bb.mk ({ data := #[109,49] }:ByteArray) [({ data := #[78,49] }:ByteArray),({ data := #[78,50] }:ByteArray)] (W64 (10*(AB (AB (Z4d d b) 4).2 8).1))]:List Bb)) (y:=[[.s ({ data := #[109,49] }:ByteArray),.list true 1 2 (BB 1 2 [.s ({ data := #[78,49] }:ByteArray),.s ({ data := #[78,50] }:ByteArray)]),.i (W64 (10*(AB (AB (Z4d d b) 4).2 8).1))]]) (z:=[[.s ({ data := #[109,49] }:ByteArray),lst 1 (fun x=>[.s x]) [({ data := #[78,49] }:ByteArray),({ data := #[78,50] }:ByteArray)],.i (W64 (10*(AB (AB (Z4d d b) 4).2 8).1))]]) rfl kr kr (.cons (rr (.cons (Bk true (Bd (c:=(fun x=>[.s x])) (xs:=([({ data := #[78,49] }:ByteArray),({ data := #[78,50] }:ByteArray)]:List ByteArray)) rfl kr)) (rr .nil))) .nil))) .nil)))) (by first | (simp only [DB,h1,cond_true,cond_false];done) | (simp only [DB,h1,cond_true,cond_false];kernel_rfl))⟩,.cells (AD.c (Z4h d b)) 146,by kernel_rfl,D9 (by first | (simp only [DB,h1,cond_true,cond_false];done) | (simp only [DB,h1,cond_true,cond_false];kernel_rfl))⟩
 have g1:=oF h1
 refine AZ ?_
 exact yn (Cv.trans (vf 100001 (K:=[1000,1001]) hX) (Cv.refl _)) (.tup []) ⟨Bz rfl,⟨.cells (Bc b (C7 b (RW d b [vN]))) 40,by kernel_rfl,TS (y:=.cells (Bc b (C7 b (RW d b [lst 3 Bb.c []]))) 40) (.cells _ (rr9 (rr5 (.cons (Cx 3 Bb.c) .nil)))) (by first | (simp only [DB,h1,cond_true,cond_false];done) | (simp only [DB,h1,cond_true,cond_false];kernel_rfl))⟩,.cells (AD.c (AB (Z4d d b) 4).2) 146,by kernel_rfl,D9 (by first | (simp only [DB,h1,cond_true,cond_false];done) | (simp only [DB,h1,cond_true,cond_false];kernel_rfl))⟩
end
section
open Go.RowKit
theorem PT {v a:Int} {d:AD} {n:Int} (h:v<W64 (a+(AB d n).1)) (h0:0<n) (h1:n<=1000000) (ha:0<=a) (hb:a<=1000000):v<a+n-1:=by
 have:=Db d n h0 (by omega)
 rw [Az (by omega) (by omega)] at h
 omega
theorem H9 {p q:Prop} [Decidable p] [Decidable q] {r:Bool} (h:(bif bif decide p then decide q else false then r else (bif bif decide p then decide q else false then false else false))=true):q:=by
 by_cases hp:p
 ·rw [decide_eq_true hp] at h
  by_cases hq:q
  ·exact hq
  rw [decide_eq_false hq] at h;cases h
 rw [decide_eq_false hp] at h;cases h
theorem YA {n:Nat} (h:(0:Int)<(n:Int)):0<n:=by omega
theorem Qu {c2 c1:Bool} {a b c:BO} {L:List BO} (hL:L=bif c2 then [a,b] else bif c1 then [c] else []):L.length<=2:=by
 subst hL;cases c2 <;> cases c1 <;> simp
theorem YN {c2 c1:Bool} {a b c:BO} {L:List BO} {k:Int} (hk:0<=k/\k<2) (ha:a.Legs.length=2) (hc:c.Legs.length=2) (hL:L=bif c2 then [a,b] else bif c1 then [c] else []) (h:(0:Int)<(L.length:Int)):0<=k/\k<(((L.getD 0 default).Legs.length:Nat):Int):=by
 subst hL
 cases c2 with
 | true=>show 0<=k/\k<((a.Legs.length:Nat):Int);rw [ha];exact hk
 | false =>
  cases c1 with
  | true=>show 0<=k/\k<((c.Legs.length:Nat):Int);rw [hc];exact hk
  | false=>exact absurd h (by simp)
theorem fY {α:Type} {L:List α} (h:L.length<=2):L.length+1<=maxLen:=by unfold maxLen;omega
theorem fZ {α:Type} {L:List α} (h:L.length<=2):(L.length+1)*32<=140737488355328:=by omega
def Z4i:Blk:=.cells ON 61
variable (r:Al) (name:ByteArray) (l:List Int) (v6_1:List BL) (v8:Int) (x0:AE) (radius:Int) (v5:AD) (x1:AE)
abbrev JD:=AB (AD.mk l 0) 5
def Z4j:CT:=(48,Kh.map (CC 1000 14),wrI 14 (.cells [lst 1 eIn l,.i 0] 146) (tI (JD l).1) (.cells (AD.c (JD l).2) 146))
def Z4k:Tv:=tI (W64 (2+(JD l).1))
def Z4l:Blk:=.cells (AD.c (JD l).2) 146
abbrev Hr:Bool:=(decide (((W64 (2+(JD l).1)):Int)<4))
def Z4m:Tv:=tB (Hr l)
abbrev MS:Av:=.one (.ptr 14 0)
def Z4n:Tv:=.grd ((Hr l)=true) MS
def Z4o:Blk:=.row 2 ([]:List BO).length (AU BO.c ([]:List BO)) 166
abbrev Hs:Bool:=(decide ((4:Int)<=(W64 (2+(JD l).1))))
def Z4p:Tv:=tB (Hs l)
def Z4q:Tv:=.grd ((Hs l)=true) MS
def Z4r:Blk:=.row 7 ([]:List BL).length (AU BL.c ([]:List BL)) 120
def Z4s:Blk:=.cells [.s name,.own 100000 7 ([]:List BL).length,vN] 61
def Z4t:Blk:=.cells [.s name,.own 100000 7 v6_1.length,vN] 61
def Z4u:Blk:=.row 7 v6_1.length (AU BL.c v6_1) 120
abbrev MT:Blk:=.cells (AD.c (AB v5 2).2) 146
abbrev MO:Blk:=.cells (AD.c v5) 146
def Z4v:CT:=(48,(Hq:List Av).map (CC 1000 14),wrI 14 (MO v5) (tI (AB v5 2).1) (MT v5))
def Z4w:Blk:=.cells [.s (As v8),.i 0,vN,.i 0,.i (W64 (30*v8)),.i (W64 (10*(AB v5 2).1)),.i 0] 120
def Z4x:Blk:=.cells [.i (W64 (30*v8)),.i (W64 (10*(AB v5 2).1))] 47
abbrev F5:=AB (AB v5 2).2 3
def Z4y:CT:=(48,(FX:List Av).map (CC 1000 14),wrI 14 (MT v5) (tI (F5 v5).1) (.cells (AD.c (F5 v5).2) 146))
def Z4z:Blk:=.cells (AD.c (F5 v5).2) 146
def Z4A:An:=DT (Al.mk (W64 ((W64 (30*v8))-6)) (W64 ((W64 (10*(AB v5 2).1))-6)) (W64 ((W64 (30*v8))+6)) (W64 ((W64 (10*(AB v5 2).1))+6)))
def Z4B:CT:=(48,(FX:List Av).map (CC 1000 14),wrI 14 (.cells (AD.c (F5 v5).2) 146) (tI (AB (F5 v5).2 3).1) (.cells (AD.c (AB (F5 v5).2 3).2) 146))
abbrev Z4C:AD:=(AB (AB (AB v5 2).2 3).2 3).2
def Z4D:An:=Dc (AE.mk (W64 (30*v8)) (W64 (10*(AB v5 2).1))) (W64 (4+(AB (AB (AB v5 2).2 3).2 3).1))
abbrev Z4E:AD:=bif decide (((AB (AB v5 2).2 3).1:Int)=0) then (AB (AB v5 2).2 3).2 else (bif decide (((AB (AB v5 2).2 3).1:Int)=1) then (Z4C v5) else (AB (AB v5 2).2 3).2)
def Z4F (v5:AD) (v8:Int):(List AN):=bif decide (((AB (AB v5 2).2 3).1:Int)=0) then (Z4A v8 v5).Edges else (bif decide (((AB (AB v5 2).2 3).1:Int)=1) then (Z4D v8 v5).Edges else [AN.mk 1 (AE.mk (W64 ((W64 (30*v8))-2)) (W64 (10*(AB v5 2).1))) (AE.mk (W64 ((W64 (30*v8))+2)) (W64 (10*(AB v5 2).1))) (AE.mk 0 0)])
def Z4G:CT:=(48,(KI:List Av).map (CC 1000 14),wrI 14 (.cells (AD.c (Z4E v5)) 146) (tI (AB (Z4E v5) 4).1) (.cells (AD.c (AB (Z4E v5) 4).2) 146))
def Z4H:CT:=(48,(Hq:List Av).map (CC 1000 14),wrI 14 (.cells (AD.c (AB (Z4E v5) 4).2) 146) (tI (AB (AB (Z4E v5) 4).2 2).1) (.cells (AD.c (AB (AB (Z4E v5) 4).2 2).2) 146))
abbrev Z4I:AD:=(AB (AB (Z4E v5) 4).2 2).2
def Z4J:CT:=(48,(FX:List Av).map (CC 1000 14),wrI 14 (MO v5) (tI (AB v5 3).1) (.cells (AD.c (AB v5 3).2) 146))
abbrev Z4K:AD:=bif decide (((W64 (2+(AB (AD.mk l 0) 5).1)):Int)<4) then (AB v5 3).2 else v5
def Z4L:CT:=(48,(Hq:List Av).map (CC 1000 14),wrI 14 (.cells (AD.c (Z4K l v5)) 146) (tI (AB (Z4K l v5) 2).1) (.cells (AD.c (AB (Z4K l v5) 2).2) 146))
def Z4M:Blk:=.cells (AD.c (AB (Z4K l v5) 2).2) 146
abbrev VW:=[BO.mk 0 [CA.mk (As 0) 1,CA.mk (As 1) (AB (Z4K l v5) 2).1]]
def Z4N:Blk:=.row 2 ((VW l v5).length) (AU BO.c (VW l v5)) 166
abbrev Z4O:AD:=bif bif decide (((W64 (2+(AB (AD.mk l 0) 5).1)):Int)<4) then (bif decide (((W64 (2+(AB (AD.mk l 0) 5).1)):Int)<4) then decide ((0:Int)<(AB v5 3).1) else false) else (bif decide (((W64 (2+(AB (AD.mk l 0) 5).1)):Int)<4) then false else false) then (AB (Z4K l v5) 2).2 else (Z4K l v5)
def Z4P:(List BO):=bif bif decide (((W64 (2+(AB (AD.mk l 0) 5).1)):Int)<4) then (bif decide (((W64 (2+(AB (AD.mk l 0) 5).1)):Int)<4) then decide ((0:Int)<(AB v5 3).1) else false) else (bif decide (((W64 (2+(AB (AD.mk l 0) 5).1)):Int)<4) then false else false) then [BO.mk 0 [CA.mk (As 0) 1,CA.mk (As 1) (AB (Z4K l v5) 2).1]] else ([]:List BO)
def Z4Q:CT:=(48,(FX:List Av).map (CC 1000 14),wrI 14 (.cells (AD.c (Z4O l v5)) 146) (tI (AB (Z4O l v5) 3).1) (.cells (AD.c (AB (Z4O l v5) 3).2) 146))
def Z4R:Blk:=.row 2 (Z4P l v5).length (AU BO.c (Z4P l v5)) 166
abbrev Z4S:AD:=bif decide ((4:Int)<=(W64 (2+(AB (AD.mk l 0) 5).1))) then (AB (Z4O l v5) 3).2 else (Z4O l v5)
abbrev Gf:=AB (Z4S l v5) 2
def Z4T:CT:=(48,(Hq:List Av).map (CC 1000 14),wrI 14 (.cells (AD.c (Z4S l v5)) 146) (tI (Gf l v5).1) (.cells (AD.c (Gf l v5).2) 146))
def Z4U:Blk:=.cells (AD.c (Gf l v5).2) 146
abbrev Zn:=[BO.mk 1 [CA.mk (As 0) (Gf l v5).1,CA.mk (As 1) (Gf l v5).1],BO.mk 1 [CA.mk (As 2) (Gf l v5).1,CA.mk (As 3) (Gf l v5).1]]
def Z4V:Blk:=.row 2 ((Zn l v5).length) (AU BO.c (Zn l v5)) 166
abbrev Z4W:AD:=bif bif decide ((4:Int)<=(W64 (2+(AB (AD.mk l 0) 5).1))) then (bif decide ((4:Int)<=(W64 (2+(AB (AD.mk l 0) 5).1))) then decide ((0:Int)<(AB (Z4O l v5) 3).1) else false) else (bif decide ((4:Int)<=(W64 (2+(AB (AD.mk l 0) 5).1))) then false else false) then (AB (Z4S l v5) 2).2 else (Z4S l v5)
def Z4X:(List BO):=bif bif decide ((4:Int)<=(W64 (2+(AB (AD.mk l 0) 5).1))) then (bif decide ((4:Int)<=(W64 (2+(AB (AD.mk l 0) 5).1))) then decide ((0:Int)<(AB (Z4O l v5) 3).1) else false) else (bif decide ((4:Int)<=(W64 (2+(AB (AD.mk l 0) 5).1))) then false else false) then [BO.mk 1 [CA.mk (As 0) (AB (Z4S l v5) 2).1,CA.mk (As 1) (AB (Z4S l v5) 2).1],BO.mk 1 [CA.mk (As 2) (AB (Z4S l v5) 2).1,CA.mk (As 3) (AB (Z4S l v5) 2).1]] else (Z4P l v5)
def Z4Y:CT:=(48,(Hq:List Av).map (CC 1000 14),wrI 14 (.cells (AD.c (Z4W l v5)) 146) (tI (AB (Z4W l v5) 2).1) (.cells (AD.c (AB (Z4W l v5) 2).2) 146))
def Z4Z:Blk:=.row 2 (Z4X l v5).length (AU BO.c (Z4X l v5)) 166
abbrev Z50:AD:=bif bif decide (((W64 (2+(AB (AD.mk l 0) 5).1)):Int)=6) then decide ((0:Int)<(((Z4X l v5).length:Nat):Int)) else false then (AB (Z4W l v5) 2).2 else (Z4W l v5)
def Z51:CT:=(48,(FX:List Av).map (CC 1000 14),wrI 14 (.cells (AD.c (Z50 l v5)) 146) (tI (AB (Z50 l v5) 3).1) (.cells (AD.c (AB (Z50 l v5) 3).2) 146))
abbrev Zq:=[BO.mk (AB (Z50 l v5) 3).1 [CA.mk (As 5) (((Z4X l v5).getD 0 default).Legs.getD 0 default).Group,CA.mk (As 4) (((Z4X l v5).getD 0 default).Legs.getD 1 default).Group]]
def Z52:Blk:=.row 2 ((Z4X l v5)++(Zq l v5)).length (AU BO.c ((Z4X l v5)++(Zq l v5))) 166
def Z53:(List BO):=bif bif bif decide (((W64 (2+(AB (AD.mk l 0) 5).1)):Int)=6) then decide ((0:Int)<(((Z4X l v5).length:Nat):Int)) else false then (bif bif decide (((W64 (2+(AB (AD.mk l 0) 5).1)):Int)=6) then decide ((0:Int)<(((Z4X l v5).length:Nat):Int)) else false then decide (((AB (Z4W l v5) 2).1:Int)=1) else false) else (bif bif decide (((W64 (2+(AB (AD.mk l 0) 5).1)):Int)=6) then decide ((0:Int)<(((Z4X l v5).length:Nat):Int)) else false then false else false) then ((Z4X l v5)++[BO.mk (AB (Z50 l v5) 3).1 [CA.mk (As 5) (((Z4X l v5).getD 0 default).Legs.getD 0 default).Group,CA.mk (As 4) (((Z4X l v5).getD 0 default).Legs.getD 1 default).Group]]) else (Z4X l v5)
def Z54:Blk:=.row 2 (Z53 l v5).length (AU BO.c (Z53 l v5)) 166
def Z55 (name:ByteArray) (v6_1:List BL) (l:(List Int)) (v5:AD):Blk:=.cells [.s name,.own 100000 7 v6_1.length,.own 100001 2 ((VW l v5).length)] 61
def Z56:Blk:=.cells [.s name,.own 100000 7 v6_1.length,.own 100001 2 ([]:List BO).length] 61
def Z57 (name:ByteArray) (v6_1:List BL) (l:(List Int)) (v5:AD):Blk:=.cells [.s name,.own 100000 7 v6_1.length,.own 100001 2 (Z4P l v5).length] 61
def Z58 (name:ByteArray) (v6_1:List BL) (l:(List Int)) (v5:AD):Blk:=.cells [.s name,.own 100000 7 v6_1.length,.own 100002 2 ((Zn l v5).length)] 61
def Z59 (name:ByteArray) (v6_1:List BL) (l:(List Int)) (v5:AD):Blk:=.cells [.s name,.own 100000 7 v6_1.length,.own 100002 2 (Z4X l v5).length] 61
def Z5a (name:ByteArray) (v6_1:List BL) (l:(List Int)) (v5:AD):Blk:=.cells [.s name,.own 100000 7 v6_1.length,.own 100003 2 ((Z4X l v5)++(Zq l v5)).length] 61
def DW (l:(List Int)) (name:ByteArray):Nat->List BL->AD->Int->AV
 | 0,_,_,_=>default
 | n0+1,v6_1,v5,v8=>bif decide ((v8:Int)<(W64 (2+(AB (AD.mk l 0) 5).1))) then ((DW l name n0) (v6_1++[BL.mk (As v8) (An.mk (bif decide (((AB (AB v5 2).2 3).1:Int)=0) then (Z4A v8 v5).Kind else (bif decide (((AB (AB v5 2).2 3).1:Int)=1) then (Z4D v8 v5).Kind else 1)) (Z4F v5 v8) (bif decide (((AB (AB v5 2).2 3).1:Int)=0) then (Z4A v8 v5).R else (bif decide (((AB (AB v5 2).2 3).1:Int)=1) then (Z4D v8 v5).R else 4))) (AE.mk (W64 (30*v8)) (W64 (10*(AB v5 2).1))) (W64 ((W64 (2*(AB (Z4E v5) 4).1))*(AB (AB (Z4E v5) 4).2 2).1))]) (Z4I v5) (v8+1)) else (AV.mk name v6_1 (Z53 l v5))
def BG (l:(List Int)) (name:ByteArray):AV:=DW l name (((W64 (2+(AB (AD.mk l 0) 5).1))-0).toNat+1) ([]:List BL) (AB (AD.mk l 0) 5).2 0
def KB (l:(List Int)) (name:ByteArray):CT:=(46,[.one (lst 1 eIn l),.one (.s name)],.val [] (.av (.agg (AV.c (BG l name)))))
abbrev LS:=(bif decide (((W64 (2+(JD l).1)):Int)=6) then decide ((0:Int)<(((Z4X l v5).length:Nat):Int)) else false)
abbrev Z4:=[BL.mk (As v8) (An.mk (bif decide (((F5 v5).1:Int)=0) then (Z4A v8 v5).Kind else (bif decide (((F5 v5).1:Int)=1) then (Z4D v8 v5).Kind else 1)) (Z4F v5 v8) (bif decide (((F5 v5).1:Int)=0) then (Z4A v8 v5).R else (bif decide (((F5 v5).1:Int)=1) then (Z4D v8 v5).R else 4))) (AE.mk (W64 (30*v8)) (W64 (10*(AB v5 2).1))) (W64 ((W64 (2*(AB (Z4E v5) 4).1))*(AB (AB (Z4E v5) 4).2 2).1))]
abbrev Gq:Bool:=(decide (((W64 (2+(JD l).1)):Int)=6))
abbrev CU (t_:List (Nat×Tv)):List (Nat×Tv):=(4,tP 4 0)::(5,tP 14 0)::(6,tP 6 0)::t_
abbrev LR:List (Nat×Tv):=(CU [(7,Z4k l)])
abbrev Ds:Nat×Blk:=(100000,Z4u v6_1)
abbrev Kn:Nat×Blk:=(100000,.row 7 v6_1.length (AU BL.c v6_1) 120)
abbrev R4:List (Nat×Tv):=(CU [(7,Z4k l),(8,tI v8),(9,tP 9 0)])
abbrev R3 (name:ByteArray) (v6_1:List BL) (l:List Int) (v5:AD):List (Nat×Blk):=[(4,Z4i),(6,Z57 name v6_1 l v5),(14,.cells (AD.c (Z4O l v5)) 146),(Ds v6_1),(100001,Z4R l v5)]
abbrev R2 (name:ByteArray) (v6_1:List BL) (l:List Int) (v5:AD):List (Nat×Blk):=[(4,Z4i),(6,Z59 name v6_1 l v5),(14,.cells (AD.c (Z4W l v5)) 146),(Ds v6_1),(100002,Z4Z l v5)]
abbrev OZ:List (Nat×Blk):=[(4,Z4i),(6,Z4t name v6_1),(14,.cells (AD.c v5) 146),(Ds v6_1)]
abbrev OT:List (Nat×Tv):=[(4,tP 4 0),(6,tP 6 0)]
abbrev OM:Nat×Tv:=(7,tI (W64 (2+(JD l).1)))
theorem au16 {p:Prop} (h:p:=by first | (simp;done) | (simp;omega)):p:=h
set_option maxHeartbeats 2000000 in
theorem kI (l:(List Int)) (name:ByteArray) (hl:(l.length:Int)<=9223372036854775807):PuP 46 (KB l name).2.1 (.av (.agg (AV.c (BG l name)))):=by
 refine pwf Tryz.func46 fun W0 M0 => ?_
 have hd0:=DA hl
 refine AA<|on<|AA ?_
 refine on<|AA ?_
 refine on<|AA ?_
 refine rb 18 (Z4j l) (.cells [lst 1 eIn l,.i 0] 146) ⟨(LR l),[(4,Z4i),(6,.cells [.s name,vN,vN] 61),(14,Z4l l)]⟩ (cWr (Bp (AD.mk l 0) 5 au8 au11))<|AG ?_
 refine AA<|AA ?_
 refine rn ⟨(CU [(7,Z4k l),(8,tI 0)]),[(4,Z4i),(6,.cells [.s name,vN,vN] 61),(14,Z4l l)]⟩<|AQ ?_
 refine Ap (Cv.trans (vg 100000 7 (fun _ _=>default) 120 [] [(6,[1])] hk0) (Cv.trans (A2 100000 (CI 7 (fun _ _=>default) BL.c)) (Cv.trans (ck (⟨(CU [(7,Z4k l),(8,tI 0)]),[(4,Z4i),(6,Z4s name),(14,Z4l l),(100000,Z4r)]⟩)) (Cv.refl _)))) ?_
 refine BP (ι:=Nat×List BL×AD×Int) (fun x=>⟨(CU [(7,Z4k l),(8,tI x.2.2.2)]),[(4,Z4i),(6,.cells [.s name,.own 100000 7 x.2.1.length,vN] 61),(14,.cells (AD.c x.2.2.1) 146),(100000,.row 7 x.2.1.length (AU BL.c x.2.1) 120)]⟩) (fun x=>((W64 (2+(AB (AD.mk l 0) 5).1))-x.2.2.2).toNat<x.1/\(B2 x.2.2.1/\0<=x.2.2.2/\(x.2.2.2<=(W64 (2+(AB (AD.mk l 0) 5).1))\/x.2.2.2=0)/\(x.2.1.length:Int)<=0+1*(x.2.2.2-0))/\DW l name x.1 x.2.1 x.2.2.1 x.2.2.2=BG l name) (fun x=>x.1) ?_ (((W64 (2+(AB (AD.mk l 0) 5).1))-0).toNat+1,([]:List BL),(AB (AD.mk l 0) 5).2,0) ⟨Nat.lt_succ_self _,⟨(by show B2 ((AB (AD.mk l 0) 5).2);repeat (first | with_reducible assumption | exact DA (Dt hll _) | with_reducible refine Bl ?_ | with_reducible refine E9 ?_ | with_reducible refine D3 ?_ | with_reducible refine Dl ?_  | with_reducible refine DK ?_ ?_)),ax0,ax0,ax0⟩,(by simp only [BG,cond_true,cond_false])⟩
 rintro ⟨n0,v6_1,v5,v8⟩ ⟨hm0,hinv0,hF0⟩
 try dsimp only at hm0 hinv0 hF0
 cases n0 with | zero=>exact nz hm0 | succ n0 => ?_
 have hi0_0:=hinv0.1
 refine AA<|AA ?_
 refine rn ⟨(CU [(7,Z4k l),(8,tI v8),(22,tB (decide ((v8:Int)<(W64 (2+(AB (AD.mk l 0) 5).1)))))]),(OZ name v6_1 v5)⟩ ?_
 refine AO _ rfl (fun h1 => ?_) (fun h1 => ?_)
 ·have g1:=oT h1
  have k1:=Ss g1 (by decide) (by decide) (by decide) (by decide)
  have kk1:=PT g1 (by decide) (by decide) (by decide) (by decide)
  refine AZ<|AG ?_
  refine AA<|AQ<|AA ?_
  refine oc [(26,Cu v8),(30,(Z4v v5))] [Ay (Cu v8).2.1,Ay (Z4v v5).2.1,CH (MO v5)] (.cons (Ew v8 au12) (.cons (cWr (Bp v5 2 au8 au11)) .nil)) (.cons rfl (.cons rfl (.cons rfl .nil)))<|AG<|AA ?_
  refine on ?_
  refine AA<|AA ?_
  refine rb 37 (Z4y v5) (MT v5) ⟨(CU [(7,Z4k l),(8,tI v8),(9,tP 9 0),(10,tP 10 0),(37,tI (F5 v5).1)]),[(4,Z4i),(6,Z4t name v6_1),(9,Z4w v8 v5),(10,Z4x v8 v5),(14,Z4z v5),(Ds v6_1)]⟩ (cWr (Bp (AB v5 2).2 3 au8 au11))<|AG ?_
  refine B4 (⟨(CU [(OM l),(8,tI v8),(9,tP 9 0)]),[FY,(6,.cells [.s name,.own 100000 7 v6_1.length,vN] 61),(9,.cells [.s (As v8),.i (bif decide (((F5 v5).1:Int)=0) then (Z4A v8 v5).Kind else (bif decide (((F5 v5).1:Int)=1) then (Z4D v8 v5).Kind else 1)),lst 7 AN.c (Z4F v5 v8),.i (bif decide (((F5 v5).1:Int)=0) then (Z4A v8 v5).R else (bif decide (((F5 v5).1:Int)=1) then (Z4D v8 v5).R else 4)),.i (W64 (30*v8)),.i (W64 (10*(AB v5 2).1)),.i 0] 120),(14,.cells (AD.c (Z4E v5)) 146),(Kn v6_1)]⟩) ?_ ?_
  ·refine AQ<|AA ?_
   refine rn ⟨(CU [(7,Z4k l),(8,tI v8),(9,tP 9 0),(10,tP 10 0),(37,tI (F5 v5).1),(54,tB (decide (((AB (AB v5 2).2 3).1:Int)=0)))]),[(4,Z4i),(6,Z4t name v6_1),(9,Z4w v8 v5),(10,Z4x v8 v5),(14,Z4z v5),(Ds v6_1)]⟩ ?_
   refine AO _ rfl (fun h2 => ?_) (fun h2 => ?_)
   ·refine rs 69 (Hn (Al.mk (W64 ((W64 (30*v8))-6)) (W64 ((W64 (10*(AB v5 2).1))-6)) (W64 ((W64 (30*v8))+6)) (W64 ((W64 (10*(AB v5 2).1))+6)))) ⟨(R4 l v8),[(4,Z4i),(6,Z4t name v6_1),(9,.cells [.s (As v8),.i (Z4A v8 v5).Kind,lst 7 AN.c (Z4A v8 v5).Edges,.i (Z4A v8 v5).R,.i (W64 (30*v8)),.i (W64 (10*(AB v5 2).1)),.i 0] 120),(14,Z4z v5),(Ds v6_1)]⟩ (La (Al.mk (W64 ((W64 (30*v8))-6)) (W64 ((W64 (10*(AB v5 2).1))-6)) (W64 ((W64 (30*v8))+6)) (W64 ((W64 (10*(AB v5 2).1))+6))))<|A3<|AG ?_
    refine BE ?_
    first | rfl | (simp only [h2,Z4E,Z4F,cond_true,cond_false] <;> rfl)
   have g2:=oF h2
   refine AA<|rn ⟨(CU [(7,Z4k l),(8,tI v8),(9,tP 9 0),(10,tP 10 0),(71,tB (decide (((AB (AB v5 2).2 3).1:Int)=1)))]),[(4,Z4i),(6,Z4t name v6_1),(9,Z4w v8 v5),(10,Z4x v8 v5),(14,Z4z v5),(Ds v6_1)]⟩ ?_
   refine AO _ rfl (fun h3 => ?_) (fun h3 => ?_)
   ·have g3:=oT h3
    refine dw [] [(75,(Z4B v5)),(77,I0 (AE.mk (W64 (30*v8)) (W64 (10*(AB v5 2).1))) (W64 (4+(AB (F5 v5).2 3).1)))] [Ay (Z4B v5).2.1,CH (.cells (AD.c (AB (AB v5 2).2 3).2) 146),Ay (I0 (AE.mk (W64 (30*v8)) (W64 (10*(AB v5 2).1))) (W64 (4+(AB (AB (AB v5 2).2 3).2 3).1))).2.1] ⟨(R4 l v8),[(4,Z4i),(6,Z4t name v6_1),(9,.cells [.s (As v8),.i (Z4D v8 v5).Kind,lst 7 AN.c (Z4D v8 v5).Edges,.i (Z4D v8 v5).R,.i (W64 (30*v8)),.i (W64 (10*(AB v5 2).1)),.i 0] 120),(14,.cells (AD.c (Z4C v5)) 146),(Ds v6_1)]⟩ (.cons (cWr (Bp (AB (AB v5 2).2 3).2 3 au8 au11)) (.cons (Nt (AE.mk (W64 (30*v8)) (W64 (10*(AB v5 2).1))) (W64 (4+(AB (AB (AB v5 2).2 3).2 3).1))) .nil)) (.cons rfl (.cons rfl (.cons rfl .nil)))<|A3<|AG ?_
    refine BE ?_
    first | rfl | (simp only [h2,h3,Z4E,Z4F,cond_true,cond_false] <;> rfl)
   refine rg ⟨(R4 l v8),[(4,Z4i),(6,Z4t name v6_1),(9,.cells [.s (As v8),.i 1,.list true 7 1 (BB 7 1 [.i 1,.i (W64 ((W64 (30*v8))-2)),.i (W64 (10*(AB v5 2).1)),.i (W64 ((W64 (30*v8))+2)),.i (W64 (10*(AB v5 2).1)),.i 0,.i 0]),.i 4,.i (W64 (30*v8)),.i (W64 (10*(AB v5 2).1)),.i 0] 120),(14,Z4z v5),(Ds v6_1)]⟩<|A3<|AG ?_
   refine Cv.trans (DH (⟨(R4 l v8),[(4,Z4i),(6,Z4t name v6_1),(9,.cells [.s (As v8),.i 1,lst 7 AN.c [AN.mk 1 (AE.mk (W64 ((W64 (30*v8))-2)) (W64 (10*(AB v5 2).1))) (AE.mk (W64 ((W64 (30*v8))+2)) (W64 (10*(AB v5 2).1))) (AE.mk 0 0)],.i 4,.i (W64 (30*v8)),.i (W64 (10*(AB v5 2).1)),.i 0] 120),(14,Z4z v5),(Ds v6_1)]⟩) lr (.cons ⟨rfl,.refl _⟩ (.cons ⟨rfl,.refl _⟩ (.cons ⟨rfl,.cells _ (rr2 (.cons (Bk true (Bd (c:=AN.c) (xs:=([AN.mk 1 (AE.mk (W64 ((W64 (30*v8))-2)) (W64 (10*(AB v5 2).1))) (AE.mk (W64 ((W64 (30*v8))+2)) (W64 (10*(AB v5 2).1))) (AE.mk 0 0)]:List AN)) rfl kr)) (rr (rr (rr (rr .nil))))))⟩ lr)))) (BE ?_)
   first | rfl | (simp only [h2,h3,Z4E,Z4F,cond_true,cond_false] <;> rfl)
  refine AA<|oc [(80,(Z4G v5)),(83,(Z4H v5))] [Ay (Z4G v5).2.1,CH (.cells (AD.c (Z4E v5)) 146),Ay (Z4H v5).2.1,CH (.cells (AD.c (AB (Z4E v5) 4).2) 146)] (.cons (cWr (Bp (Z4E v5) 4 au8 au11)) (.cons (cWr (Bp (AB (Z4E v5) 4).2 2 au8 au11)) .nil)) (.cons rfl (.cons rfl (.cons rfl (.cons rfl .nil))))<|AG ?_
  refine oc [] [v6_1.length=v6_1.length,v6_1.length+1<=maxLen,(v6_1.length+1)*80<=140737488355328] .nil (.cons rfl (.cons au3 (.cons au3 .nil)))<|A3<|AG ?_
  refine Ap (A2 90 (Au (Am 7 BL.c v6_1) (A0 7 BL.c ([BL.mk (As v8) (An.mk (bif decide (((AB (AB v5 2).2 3).1:Int)=0) then (Z4A v8 v5).Kind else (bif decide (((AB (AB v5 2).2 3).1:Int)=1) then (Z4D v8 v5).Kind else 1)) (Z4F v5 v8) (bif decide (((AB (AB v5 2).2 3).1:Int)=0) then (Z4A v8 v5).R else (bif decide (((AB (AB v5 2).2 3).1:Int)=1) then (Z4D v8 v5).R else 4))) (AE.mk (W64 (30*v8)) (W64 (10*(AB v5 2).1))) (W64 ((W64 (2*(AB (Z4E v5) 4).1))*(AB (AB (Z4E v5) 4).2 2).1))]:List BL)))) ?_
  refine rg ⟨(CU [(7,Z4k l),(8,tI (W64 (v8+1)))]),[(4,Z4i),(6,.cells [.s name,.own 90 7 (v6_1++(Z4 v8 v5)).length,vN] 61),(14,.cells (AD.c (Z4I v5)) 146),(90,.row 7 (v6_1++(Z4 v8 v5)).length (AU BL.c (v6_1++(Z4 v8 v5))) 120)]⟩ ?_
  (try rw [(show W64 (v8+1)=v8+1 from Az oM au6)])
  refine AG ?_
  refine ⟨(n0,v6_1++[BL.mk (As v8) (An.mk (bif decide (((AB (AB v5 2).2 3).1:Int)=0) then (Z4A v8 v5).Kind else (bif decide (((AB (AB v5 2).2 3).1:Int)=1) then (Z4D v8 v5).Kind else 1)) (Z4F v5 v8) (bif decide (((AB (AB v5 2).2 3).1:Int)=0) then (Z4A v8 v5).R else (bif decide (((AB (AB v5 2).2 3).1:Int)=1) then (Z4D v8 v5).R else 4))) (AE.mk (W64 (30*v8)) (W64 (10*(AB v5 2).1))) (W64 ((W64 (2*(AB (Z4E v5) 4).1))*(AB (AB (Z4E v5) 4).2 2).1))],Z4I v5,v8+1),⟨?_,?_,(by rw [<- hF0];simp only [DW,h1,cond_true,cond_false])⟩,Nat.lt_succ_self _,Cv.trans (vr 90 100000 hk0) (BE kr)⟩
  ·show ((W64 (2+(AB (AD.mk l 0) 5).1))-(v8+1)).toNat<n0;omega
  exact ⟨(by show B2 (Z4I v5);repeat (first | with_reducible assumption | exact DA (Dt hll _) | with_reducible refine Bl ?_ | with_reducible refine E9 ?_ | with_reducible refine D3 ?_ | with_reducible refine Dl ?_  | with_reducible refine DK ?_ ?_)),ax0,ax0,ax0⟩
 have g1:=oF h1
 have k1:=S9 g1 (by decide) (by decide) (by decide) (by decide)
 refine BH<|A5 ?_
 refine A5<|BI ?_
 refine AG<|AA<|AA ?_
 refine B4 (⟨(CU [(OM l),(98,tB (bif decide (((W64 (2+(AB (AD.mk l 0) 5).1)):Int)<4) then (bif decide (((W64 (2+(AB (AD.mk l 0) 5).1)):Int)<4) then decide ((0:Int)<(AB v5 3).1) else false) else (bif decide (((W64 (2+(AB (AD.mk l 0) 5).1)):Int)<4) then false else false)))]),[FY,(6,.cells [.s name,.own 100000 7 v6_1.length,vN] 61),(14,.cells (AD.c (Z4K l v5)) 146),(Kn v6_1)]⟩) ?_ ?_
 ·refine Nb (Hr l) (fun h2 => ?_) (fun h2 => ?_)
  ·have g2:=oT h2
   refine Dm ?_
   refine Fw Dh 4 [] [] [] [4,5,6,7,94,95] [4,6,14,100000] [] ⟨(CU [(7,Z4k l),(94,Z4m l),(95,Z4n l)]),(OZ name v6_1 v5)⟩ .nil kr .nil ?_
   refine Pr Dh 2 true ((Hr l)=true) [] [(96,(Z4J v5))] [((Hr l)=true)->((Hr l)=true),Ay (Z4J v5).2.1,CH (MO v5)] ⟨(CU [(7,Z4k l),(94,Z4m l),(95,Z4n l),(96,tI (AB v5 3).1)]),[(4,Z4i),(6,Z4t name v6_1),(14,.cells (AD.c (AB v5 3).2) 146),(Ds v6_1)]⟩ rfl kr h2 (.cons (cWr (Bp v5 3 au8 au11)) .nil) kr (.cons id (.cons rfl (.cons rfl .nil))) ?_
   refine En Dh [] [] [] [4,5,6,7,98] [4,6,14,100000] [(Hr l)=true->((Hr l)=true)] ⟨(CU [(7,Z4k l),(98,tB (bif decide (((W64 (2+(JD l).1)):Int)<4) then decide ((0:Int)<(AB v5 3).1) else false))]),[(4,Z4i),(6,Z4t name v6_1),(14,.cells (AD.c (AB v5 3).2) 146),(Ds v6_1)]⟩ .nil kr (.cons id .nil)<|AG ?_
   refine BE ?_
   first | rfl | (simp only [h2,Z4K,cond_true,cond_false] <;> rfl)
  have g2:=oF h2
  refine Dm ?_
  refine Fw Dh 4 [] [] [] [4,5,6,7,94,95] [4,6,14,100000] [] ⟨(CU [(7,Z4k l),(94,Z4m l),(95,Z4n l)]),(OZ name v6_1 v5)⟩ .nil kr .nil ?_
  refine Ps 2 true ((Hr l)=true) ⟨(CU [(7,Z4k l),(94,Z4m l),(95,Z4n l),(96,.grd ((Hr l)=true) (.one (.b false)))]),(OZ name v6_1 v5)⟩ rfl kr (fun e=>by rw [h2] at e;cases e) kr kr ?_
  refine En Dh [] [] [] [4,5,6,7,98] [4,6,14,100000] [¬ ((Hr l)=true),(Hr l)=true->((Hr l)=true)] ⟨(CU [(7,Z4k l),(98,tB (bif decide (((W64 (2+(JD l).1)):Int)<4) then false else false))]),(OZ name v6_1 v5)⟩ .nil kr (.cons (fun e=>by rw [h2] at e;cases e) (.cons id .nil))<|AG ?_
  refine BE ?_
  first | rfl | (simp only [h2,Z4K,cond_true,cond_false] <;> rfl)
 refine B4 (⟨(CU [(OM l)]),[FY,(6,.cells [.s name,.own 100000 7 v6_1.length,.own 100001 2 (Z4P l v5).length] 61),(14,.cells (AD.c (Z4O l v5)) 146),(Kn v6_1),(100001,.row 2 (Z4P l v5).length (AU BO.c (Z4P l v5)) 166)]⟩) ?_ ?_
 ·refine AO (bif decide (((W64 (2+(AB (AD.mk l 0) 5).1)):Int)<4) then (bif decide (((W64 (2+(AB (AD.mk l 0) 5).1)):Int)<4) then decide ((0:Int)<(AB v5 3).1) else false) else (bif decide (((W64 (2+(AB (AD.mk l 0) 5).1)):Int)<4) then false else false)) kr (fun h2 => ?_) (fun h2 => ?_)
  ·refine DP Dh [107] [] [(99,Cu 0),(101,Cu 1),(103,(Z4L l v5))] [4,5,6,7] [4,6,14,107,100000] [Ay (Cu 0).2.1,Ay (Cu 1).2.1,Ay (Z4L l v5).2.1,CH (.cells (AD.c (Z4K l v5)) 146)] ⟨(LR l),[(4,Z4i),(6,.cells [.s name,.own 100000 7 v6_1.length,.own 107 2 1] 61),(14,Z4M l v5),(107,.row 2 1 (BB 2 1 [.i 0,.list true 2 2 (BB 2 2 [.s (As 0),.i 1,.s (As 1),.i (AB (Z4K l v5) 2).1])]) 166),(Ds v6_1)]⟩ (.cons (Ew 0 au12) (.cons (Ew 1 au12) (.cons (cWr (Bp (Z4K l v5) 2 au8 au11)) .nil))) kr (.cons rfl (.cons rfl (.cons rfl (.cons rfl .nil))))<|AG ?_
   refine Cv.trans (DH (⟨(LR l),[(4,Z4i),(6,.cells [.s name,.own 100000 7 v6_1.length,.own 107 2 ([BO.mk 0 [CA.mk (As 0) 1,CA.mk (As 1) (AB (Z4K l v5) 2).1]].length)] 61),(14,Z4M l v5),(107,Z4N l v5),(Ds v6_1)]⟩) lr (.cons ⟨rfl,.refl _⟩ (.cons ⟨rfl,.cells _ (rr2 (.cons (.own _ _ au16) .nil))⟩ (.cons ⟨rfl,.refl _⟩ (.cons ⟨rfl,Ce 166 (Dr (c:=BO.c) (xs:=([BO.mk 0 [CA.mk (As 0) 1,CA.mk (As 1) (AB (Z4K l v5) 2).1]]:List BO)) (y:=[[.i 0,.list true 2 2 (BB 2 2 [.s (As 0),.i 1,.s (As 1),.i (AB (Z4K l v5) 2).1])]]) (z:=[[.i 0,lst 2 CA.c [CA.mk (As 0) 1,CA.mk (As 1) (AB (Z4K l v5) 2).1]]]) rfl kr kr (.cons (rr (.cons (Bk true (Bd (c:=CA.c) (xs:=([CA.mk (As 0) 1,CA.mk (As 1) (AB (Z4K l v5) 2).1]:List CA)) rfl kr)) .nil)) .nil))⟩ lr))))) (Cv.trans (vr 107 100001 hk0) (Cv.trans (ck (⟨(LR l),[(4,Z4i),(6,Z55 name v6_1 l v5),(14,Z4M l v5),(Ds v6_1),(100001,Z4N l v5)]⟩)) (BE ?_)))
   first | rfl | (simp only [h2,Z4O,Z4P,cond_true,cond_false] <;> rfl)
  refine AZ<|AG ?_
  refine Cv.trans (vk [4,5,6,7] [4,6,14,100000]) (Cv.trans (vg 100001 2 (fun _ _=>default) 166 [] [(6,[2])] hk0) (Cv.trans (A2 100001 (CI 2 (fun _ _=>default) BO.c)) (Cv.trans (ck (⟨(LR l),[(4,Z4i),(6,Z56 name v6_1),(14,.cells (AD.c (Z4K l v5)) 146),(Ds v6_1),(100001,Z4o)]⟩)) (BE ?_))))
  first | rfl | (simp only [h2,Z4O,Z4P,cond_true,cond_false] <;> rfl)
 refine AA<|AA ?_
 refine B4 (⟨(CU [(OM l),(115,tB (bif decide ((4:Int)<=(W64 (2+(AB (AD.mk l 0) 5).1))) then (bif decide ((4:Int)<=(W64 (2+(AB (AD.mk l 0) 5).1))) then decide ((0:Int)<(AB (Z4O l v5) 3).1) else false) else (bif decide ((4:Int)<=(W64 (2+(AB (AD.mk l 0) 5).1))) then false else false)))]),[FY,(6,.cells [.s name,.own 100000 7 v6_1.length,.own 100001 2 (Z4P l v5).length] 61),(14,.cells (AD.c (Z4S l v5)) 146),(Kn v6_1),(100001,.row 2 (Z4P l v5).length (AU BO.c (Z4P l v5)) 166)]⟩) ?_ ?_
 ·refine Nb (Hs l) (fun h2 => ?_) (fun h2 => ?_)
  ·have g2:=oT h2
   refine Dm ?_
   refine Fw Dh 4 [] [] [] [4,5,6,7,111,112] [4,6,14,100000,100001] [] ⟨(CU [(7,Z4k l),(111,Z4p l),(112,Z4q l)]),(R3 name v6_1 l v5)⟩ .nil kr .nil ?_
   refine Pr Dh 2 true ((Hs l)=true) [] [(113,(Z4Q l v5))] [((Hs l)=true)->((Hs l)=true),Ay (Z4Q l v5).2.1,CH (.cells (AD.c (Z4O l v5)) 146)] ⟨(CU [(7,Z4k l),(111,Z4p l),(112,Z4q l),(113,tI (AB (Z4O l v5) 3).1)]),[(4,Z4i),(6,Z57 name v6_1 l v5),(14,.cells (AD.c (AB (Z4O l v5) 3).2) 146),(Ds v6_1),(100001,Z4R l v5)]⟩ rfl kr h2 (.cons (cWr (Bp (Z4O l v5) 3 au8 au11)) .nil) kr (.cons id (.cons rfl (.cons rfl .nil))) ?_
   refine En Dh [] [] [] [4,5,6,7,115] [4,6,14,100000,100001] [(Hs l)=true->((Hs l)=true)] ⟨(CU [(7,Z4k l),(115,tB (bif decide ((4:Int)<=(W64 (2+(JD l).1))) then decide ((0:Int)<(AB (Z4O l v5) 3).1) else false))]),[(4,Z4i),(6,Z57 name v6_1 l v5),(14,.cells (AD.c (AB (Z4O l v5) 3).2) 146),(Ds v6_1),(100001,Z4R l v5)]⟩ .nil kr (.cons id .nil)<|AG ?_
   refine BE ?_
   first | rfl | (simp only [h2,Z4S,cond_true,cond_false] <;> rfl)
  have g2:=oF h2
  refine Dm ?_
  refine Fw Dh 4 [] [] [] [4,5,6,7,111,112] [4,6,14,100000,100001] [] ⟨(CU [(7,Z4k l),(111,Z4p l),(112,Z4q l)]),(R3 name v6_1 l v5)⟩ .nil kr .nil ?_
  refine Ps 2 true ((Hs l)=true) ⟨(CU [(7,Z4k l),(111,Z4p l),(112,Z4q l),(113,.grd ((Hs l)=true) (.one (.b false)))]),(R3 name v6_1 l v5)⟩ rfl kr (fun e=>by rw [h2] at e;cases e) kr kr ?_
  refine En Dh [] [] [] [4,5,6,7,115] [4,6,14,100000,100001] [¬ ((Hs l)=true),(Hs l)=true->((Hs l)=true)] ⟨(CU [(7,Z4k l),(115,tB (bif decide ((4:Int)<=(W64 (2+(JD l).1))) then false else false))]),(R3 name v6_1 l v5)⟩ .nil kr (.cons (fun e=>by rw [h2] at e;cases e) (.cons id .nil))<|AG ?_
  refine BE ?_
  first | rfl | (simp only [h2,Z4S,cond_true,cond_false] <;> rfl)
 refine B4 (⟨(CU [(OM l)]),[FY,(6,.cells [.s name,.own 100000 7 v6_1.length,.own 100002 2 (Z4X l v5).length] 61),(14,.cells (AD.c (Z4W l v5)) 146),(Kn v6_1),(100002,.row 2 (Z4X l v5).length (AU BO.c (Z4X l v5)) 166)]⟩) ?_ ?_
 ·refine AO (bif decide ((4:Int)<=(W64 (2+(AB (AD.mk l 0) 5).1))) then (bif decide ((4:Int)<=(W64 (2+(AB (AD.mk l 0) 5).1))) then decide ((0:Int)<(AB (Z4O l v5) 3).1) else false) else (bif decide ((4:Int)<=(W64 (2+(AB (AD.mk l 0) 5).1))) then false else false)) kr (fun h2 => ?_) (fun h2 => ?_)
  ·refine AA<|rb 117 (Z4T l v5) (.cells (AD.c (Z4S l v5)) 146) ⟨(CU [(7,Z4k l),(11,tI (Gf l v5).1)]),[(4,Z4i),(6,Z57 name v6_1 l v5),(14,Z4U l v5),(Ds v6_1),(100001,Z4R l v5)]⟩ (cWr (Bp (Z4S l v5) 2 au8 au11))<|AG ?_
   refine DP Dh [134] [] [(118,Cu 0),(121,Cu 1),(126,Cu 2),(129,Cu 3)] [4,5,6,7] [4,6,14,134,100000] [Ay (Cu 0).2.1,Ay (Cu 1).2.1,Ay (Cu 2).2.1,Ay (Cu 3).2.1] ⟨(LR l),[(4,Z4i),(6,.cells [.s name,.own 100000 7 v6_1.length,.own 134 2 2] 61),(14,Z4U l v5),(134,.row 2 2 (BB 2 2 [.i 1,.list true 2 2 (BB 2 2 [.s (As 0),.i (Gf l v5).1,.s (As 1),.i (Gf l v5).1]),.i 1,.list true 2 2 (BB 2 2 [.s (As 2),.i (Gf l v5).1,.s (As 3),.i (Gf l v5).1])]) 166),(Ds v6_1)]⟩ (.cons (Ew 0 au12) (.cons (Ew 1 au12) (.cons (Ew 2 au12) (.cons (Ew 3 au12) .nil)))) kr (.cons rfl (.cons rfl (.cons rfl (.cons rfl .nil))))<|AG ?_
   refine Cv.trans (DH (⟨(LR l),[(4,Z4i),(6,.cells [.s name,.own 100000 7 v6_1.length,.own 134 2 ([BO.mk 1 [CA.mk (As 0) (AB (Z4S l v5) 2).1,CA.mk (As 1) (AB (Z4S l v5) 2).1],BO.mk 1 [CA.mk (As 2) (AB (Z4S l v5) 2).1,CA.mk (As 3) (AB (Z4S l v5) 2).1]].length)] 61),(14,Z4U l v5),(134,Z4V l v5),(Ds v6_1)]⟩) lr (.cons ⟨rfl,.refl _⟩ (.cons ⟨rfl,.cells _ (rr2 (.cons (.own _ _ au16) .nil))⟩ (.cons ⟨rfl,.refl _⟩ (.cons ⟨rfl,Ce 166 (Dr (c:=BO.c) (xs:=([BO.mk 1 [CA.mk (As 0) (AB (Z4S l v5) 2).1,CA.mk (As 1) (AB (Z4S l v5) 2).1],BO.mk 1 [CA.mk (As 2) (AB (Z4S l v5) 2).1,CA.mk (As 3) (AB (Z4S l v5) 2).1]]:List BO)) (y:=[[.i 1,.list true 2 2 (BB 2 2 [.s (As 0),.i (AB (Z4S l v5) 2).1,.s (As 1),.i (AB (Z4S l v5) 2).1])],[.i 1,.list true 2 2 (BB 2 2 [.s (As 2),.i (AB (Z4S l v5) 2).1,.s (As 3),.i (AB (Z4S l v5) 2).1])]]) (z:=[[.i 1,lst 2 CA.c [CA.mk (As 0) (AB (Z4S l v5) 2).1,CA.mk (As 1) (AB (Z4S l v5) 2).1]],[.i 1,lst 2 CA.c [CA.mk (As 2) (AB (Z4S l v5) 2).1,CA.mk (As 3) (AB (Z4S l v5) 2).1]]]) rfl kr kr (.cons (rr (.cons (Bk true (Bd (c:=CA.c) (xs:=([CA.mk (As 0) (AB (Z4S l v5) 2).1,CA.mk (As 1) (AB (Z4S l v5) 2).1]:List CA)) rfl kr)) .nil)) (.cons (rr (.cons (Bk true (Bd (c:=CA.c) (xs:=([CA.mk (As 2) (AB (Z4S l v5) 2).1,CA.mk (As 3) (AB (Z4S l v5) 2).1]:List CA)) rfl kr)) .nil)) .nil)))⟩ lr))))) (Cv.trans (vr 134 100002 hk0) (Cv.trans (ck (⟨(LR l),[(4,Z4i),(6,Z58 name v6_1 l v5),(14,Z4U l v5),(Ds v6_1),(100002,Z4V l v5)]⟩)) (BE ?_)))
   first | rfl | (simp only [h2,Z4W,Z4X,cond_true,cond_false] <;> rfl)
  refine AZ<|AG ?_
  refine Cv.trans (vk [4,5,6,7] [4,6,14,100000,100001]) (Cv.trans (wr (⟨(LR l),[(4,Z4i),(6,.cells [.s name,.own 100000 7 v6_1.length,.own 100002 2 (Z4P l v5).length] 61),(14,.cells (AD.c (Z4S l v5)) 146),(Ds v6_1),(100002,Z4R l v5)]⟩) 100001 100002 hk0) (BE ?_))
  first | rfl | (simp only [h2,Z4W,Z4X,cond_true,cond_false] <;> rfl)
 refine AA<|AA ?_
 refine B4 (⟨(CU [(148,tB (bif bif decide (((W64 (2+(AB (AD.mk l 0) 5).1)):Int)=6) then decide ((0:Int)<(((Z4X l v5).length:Nat):Int)) else false then (bif bif decide (((W64 (2+(AB (AD.mk l 0) 5).1)):Int)=6) then decide ((0:Int)<(((Z4X l v5).length:Nat):Int)) else false then decide (((AB (Z4W l v5) 2).1:Int)=1) else false) else (bif bif decide (((W64 (2+(AB (AD.mk l 0) 5).1)):Int)=6) then decide ((0:Int)<(((Z4X l v5).length:Nat):Int)) else false then false else false)))]),[FY,(6,.cells [.s name,.own 100000 7 v6_1.length,.own 100002 2 (Z4X l v5).length] 61),(14,.cells (AD.c (Z50 l v5)) 146),(Kn v6_1),(100002,.row 2 (Z4X l v5).length (AU BO.c (Z4X l v5)) 166)]⟩) ?_ ?_
 ·refine Nb (bif decide (((W64 (2+(AB (AD.mk l 0) 5).1)):Int)=6) then decide ((0:Int)<(((Z4X l v5).length:Nat):Int)) else false) (fun h2 => ?_) (fun h2 => ?_)
  ·have g2:=N1 h2
   refine Dm ?_
   refine Fw Dh 10 [] [] [] [4,5,6,144,145] [4,6,14,100000,100002] [((Gq l)=true)->((Gq l)=true),((Gq l)=true)->((Gq l)=true),((Gq l)=true)->((Gq l)=true),(Gq l)=true->((Gq l)=true)] ⟨(CU [(144,tB (LS l v5)),(145,.grd ((LS l v5)=true) MS)]),(R2 name v6_1 l v5)⟩ .nil kr (.cons id (.cons id (.cons id (.cons id .nil)))) ?_
   refine Pr Dh 8 true ((bif decide (((W64 (2+(AB (AD.mk l 0) 5).1)):Int)=6) then decide ((0:Int)<(((Z4X l v5).length:Nat):Int)) else false)=true) [] [(146,(Z4Y l v5))] [((bif decide (((W64 (2+(AB (AD.mk l 0) 5).1)):Int)=6) then decide ((0:Int)<(((Z4X l v5).length:Nat):Int)) else false)=true)->((bif decide (((W64 (2+(AB (AD.mk l 0) 5).1)):Int)=6) then decide ((0:Int)<(((Z4X l v5).length:Nat):Int)) else false)=true),Ay (Z4Y l v5).2.1,CH (.cells (AD.c (Z4W l v5)) 146)] ⟨(CU [(144,tB (LS l v5)),(145,.grd ((LS l v5)=true) MS),(146,tI (AB (Z4W l v5) 2).1)]),[(4,Z4i),(6,Z59 name v6_1 l v5),(14,.cells (AD.c (AB (Z4W l v5) 2).2) 146),(Ds v6_1),(100002,Z4Z l v5)]⟩ rfl kr h2 (.cons (cWr (Bp (Z4W l v5) 2 au8 au11)) .nil) kr (.cons id (.cons rfl (.cons rfl .nil))) ?_
   refine En Dh [] [] [] [4,5,6,148] [4,6,14,100000,100002] [(bif decide (((W64 (2+(AB (AD.mk l 0) 5).1)):Int)=6) then decide ((0:Int)<(((Z4X l v5).length:Nat):Int)) else false)=true->((bif decide (((W64 (2+(AB (AD.mk l 0) 5).1)):Int)=6) then decide ((0:Int)<(((Z4X l v5).length:Nat):Int)) else false)=true)] ⟨(CU [(148,tB (bif bif decide (((W64 (2+(JD l).1)):Int)=6) then decide ((0:Int)<(((Z4X l v5).length:Nat):Int)) else false then decide (((AB (Z4W l v5) 2).1:Int)=1) else false))]),[(4,Z4i),(6,Z59 name v6_1 l v5),(14,.cells (AD.c (AB (Z4W l v5) 2).2) 146),(Ds v6_1),(100002,Z4Z l v5)]⟩ .nil kr (.cons id .nil)<|AG ?_
   refine BE ?_
   first | rfl | (simp only [h2,Z50,cond_true,cond_false] <;> rfl)
  refine Dm ?_
  refine Fw Dh 10 [] [] [] [4,5,6,144,145] [4,6,14,100000,100002] [((Gq l)=true)->((Gq l)=true),((Gq l)=true)->((Gq l)=true),((Gq l)=true)->((Gq l)=true),(Gq l)=true->((Gq l)=true)] ⟨(CU [(144,tB (LS l v5)),(145,.grd ((LS l v5)=true) MS)]),(R2 name v6_1 l v5)⟩ .nil kr (.cons id (.cons id (.cons id (.cons id .nil)))) ?_
  refine Ps 8 true ((bif decide (((W64 (2+(AB (AD.mk l 0) 5).1)):Int)=6) then decide ((0:Int)<(((Z4X l v5).length:Nat):Int)) else false)=true) ⟨(CU [(144,tB (LS l v5)),(145,.grd ((LS l v5)=true) MS),(146,.grd ((LS l v5)=true) (.one (.b false)))]),(R2 name v6_1 l v5)⟩ rfl kr (fun e=>by rw [h2] at e;cases e) kr kr ?_
  refine En Dh [] [] [] [4,5,6,148] [4,6,14,100000,100002] [¬ ((bif decide (((W64 (2+(AB (AD.mk l 0) 5).1)):Int)=6) then decide ((0:Int)<(((Z4X l v5).length:Nat):Int)) else false)=true),(bif decide (((W64 (2+(AB (AD.mk l 0) 5).1)):Int)=6) then decide ((0:Int)<(((Z4X l v5).length:Nat):Int)) else false)=true->((bif decide (((W64 (2+(AB (AD.mk l 0) 5).1)):Int)=6) then decide ((0:Int)<(((Z4X l v5).length:Nat):Int)) else false)=true)] ⟨(CU [(148,tB (bif bif decide (((W64 (2+(JD l).1)):Int)=6) then decide ((0:Int)<(((Z4X l v5).length:Nat):Int)) else false then false else false))]),(R2 name v6_1 l v5)⟩ .nil kr (.cons (fun e=>by rw [h2] at e;cases e) (.cons id .nil))<|AG ?_
  refine BE ?_
  first | rfl | (simp only [h2,Z50,cond_true,cond_false] <;> rfl)
 refine B4 (⟨OT,[FY,(6,.cells [.s name,.own 100000 7 v6_1.length,.own 100003 2 (Z53 l v5).length] 61),(Kn v6_1),(100003,.row 2 (Z53 l v5).length (AU BO.c (Z53 l v5)) 166)]⟩) ?_ ?_
 ·refine AO (bif bif decide (((W64 (2+(AB (AD.mk l 0) 5).1)):Int)=6) then decide ((0:Int)<(((Z4X l v5).length:Nat):Int)) else false then (bif bif decide (((W64 (2+(AB (AD.mk l 0) 5).1)):Int)=6) then decide ((0:Int)<(((Z4X l v5).length:Nat):Int)) else false then decide (((AB (Z4W l v5) 2).1:Int)=1) else false) else (bif bif decide (((W64 (2+(AB (AD.mk l 0) 5).1)):Int)=6) then decide ((0:Int)<(((Z4X l v5).length:Nat):Int)) else false then false else false)) kr (fun h2 => ?_) (fun h2 => ?_)
  ·refine dw [] [(152,(Z51 l v5)),(153,Cu 5),(163,Cu 4)] [Ay (Z51 l v5).2.1,CH (.cells (AD.c (Z50 l v5)) 146),Ay (Cu 5).2.1,0<=(0:Int)/\(0:Int)<(((Z4X l v5).length:Nat):Int),0<(Z4X l v5).length,0<=(0:Int)/\(0:Int)<((((Z4X l v5).getD 0 default).Legs.length:Nat):Int),Ay (Cu 4).2.1,0<=(0:Int)/\(0:Int)<(((Z4X l v5).length:Nat):Int),0<(Z4X l v5).length,0<=(1:Int)/\(1:Int)<((((Z4X l v5).getD 0 default).Legs.length:Nat):Int),(Z4X l v5).length=(Z4X l v5).length,(Z4X l v5).length+1<=maxLen,((Z4X l v5).length+1)*32<=140737488355328] ⟨OT,[(4,Z4i),(6,.cells [.s name,.own 100000 7 v6_1.length,.own 176 2 ((Z4X l v5).length+1)] 61),(176,.row 2 ((Z4X l v5).length+1) (fun i_ j_=>if i_<(Z4X l v5).length then (AU BO.c (Z4X l v5)) i_ j_ else (BB 2 1 [.i (AB (Z50 l v5) 3).1,.list true 2 2 (BB 2 2 [.s (As 5),.i (((Z4X l v5).getD 0 default).Legs.getD 0 default).Group,.s (As 4),.i (((Z4X l v5).getD 0 default).Legs.getD 1 default).Group])]) (i_-(Z4X l v5).length) j_) 166),(Ds v6_1)]⟩ (.cons (cWr (Bp (Z50 l v5) 3 au8 au11)) (.cons (Ew 5 au12) (.cons (Ew 4 au12) .nil))) (.cons rfl (.cons rfl (.cons rfl (.cons ⟨by decide,(H9 (by with_reducible assumption))⟩ (.cons (YA (H9 (by with_reducible assumption))) (.cons (YN (by decide) rfl rfl rfl (H9 (by with_reducible assumption))) (.cons rfl (.cons ⟨by decide,(H9 (by with_reducible assumption))⟩ (.cons (YA (H9 (by with_reducible assumption))) (.cons (YN (by decide) rfl rfl rfl (H9 (by with_reducible assumption))) (.cons rfl (.cons (fY (Qu rfl)) (.cons (fZ (Qu rfl)) .nil)))))))))))))<|AG ?_
   refine Cv.trans (DH (⟨OT,[(4,Z4i),(6,.cells [.s name,.own 100000 7 v6_1.length,.own 176 2 ((Z4X l v5)++[BO.mk (AB (Z50 l v5) 3).1 [CA.mk (As 5) (((Z4X l v5).getD 0 default).Legs.getD 0 default).Group,CA.mk (As 4) (((Z4X l v5).getD 0 default).Legs.getD 1 default).Group]]).length] 61),(176,Z52 l v5),(Ds v6_1)]⟩) lr (.cons ⟨rfl,.refl _⟩ (.cons ⟨rfl,.cells _ (rr2 (.cons (.own _ _ au16) .nil))⟩ (.cons ⟨rfl,Ce 166 (Au (Am 2 BO.c (Z4X l v5)) (Dr (c:=BO.c) (xs:=([BO.mk (AB (Z50 l v5) 3).1 [CA.mk (As 5) (((Z4X l v5).getD 0 default).Legs.getD 0 default).Group,CA.mk (As 4) (((Z4X l v5).getD 0 default).Legs.getD 1 default).Group]]:List BO)) (y:=[[.i (AB (Z50 l v5) 3).1,.list true 2 2 (BB 2 2 [.s (As 5),.i (((Z4X l v5).getD 0 default).Legs.getD 0 default).Group,.s (As 4),.i (((Z4X l v5).getD 0 default).Legs.getD 1 default).Group])]]) (z:=[[.i (AB (Z50 l v5) 3).1,lst 2 CA.c [CA.mk (As 5) (((Z4X l v5).getD 0 default).Legs.getD 0 default).Group,CA.mk (As 4) (((Z4X l v5).getD 0 default).Legs.getD 1 default).Group]]]) rfl kr kr (.cons (rr (.cons (Bk true (Bd (c:=CA.c) (xs:=([CA.mk (As 5) (((Z4X l v5).getD 0 default).Legs.getD 0 default).Group,CA.mk (As 4) (((Z4X l v5).getD 0 default).Legs.getD 1 default).Group]:List CA)) rfl kr)) .nil)) .nil)))⟩ lr)))) (Cv.trans (vr 176 100003 hk0) (Cv.trans (ck (⟨OT,[(4,Z4i),(6,Z5a name v6_1 l v5),(Ds v6_1),(100003,Z52 l v5)]⟩)) (BE ?_)))
   first | rfl | (simp only [h2,Z53,cond_true,cond_false] <;> rfl)
  refine AZ<|AG ?_
  refine Cv.trans (vk [4,6] [4,6,100000,100002]) (Cv.trans (wr (⟨OT,[(4,Z4i),(6,.cells [.s name,.own 100000 7 v6_1.length,.own 100003 2 (Z4X l v5).length] 61),(Ds v6_1),(100003,Z4Z l v5)]⟩) 100002 100003 hk0) (BE ?_))
  first | rfl | (simp only [h2,Z53,cond_true,cond_false] <;> rfl)
 refine AA<|on<|AY ?_
 exact zy (Cv.trans (vf 100000 hk0) (Cv.trans (vf 100003 hk0) (Cv.refl _))) (by rw [<- hF0];simp only [DW,h1,cond_true,cond_false] <;> kernel_rfl)
theorem UR (l:(List Int)) (name:ByteArray) (hl:(l.length:Int)<=9223372036854775807):OKc (KB l name):=cPu<|kI l name hl
def KC (x0:AE) (x1:AE):AN:=AN.mk 1 x0 x1 (AE.mk 0 0)
def GQ:CT:=(89,[.agg (AE.c x0),.agg (AE.c x1)],.val [] (.av (.agg (AN.c (KC x0 x1)))))
theorem jV (x0:AE) (x1:AE):PuP 89 (GQ x0 x1).2.1 (.av (.agg (AN.c (KC x0 x1)))):=by
 refine pwf Tryz.func89 fun W0 M0 => ?_
 refine AA<|on<|AA ?_
 refine on<|AY ?_
 exact zl
theorem LY (x0:AE) (x1:AE):OKc (GQ x0 x1):=cPu<|jV x0 x1
def Z5b:Blk:=.cells [.i 0,vN,.i 0] 27
def Z5c:Blk:=.cells [.i 2,vN,.i 0] 27
def Z5d:Blk:=.cells [.i (W64 (r.X1-radius)),.i (W64 (r.Y0+radius)),.i (W64 (r.X1-radius)),.i (W64 (r.Y1-radius)),.i (W64 (r.X0+radius)),.i (W64 (r.Y1-radius)),.i (W64 (r.X0+radius)),.i (W64 (r.Y0+radius))] 194
def Z5e:AN:=Fd (AE.mk (W64 (r.X1-radius)) (W64 (r.Y0+radius))) radius 3 2
def Z5f:AN:=Fd (AE.mk (W64 (r.X1-radius)) (W64 (r.Y1-radius))) radius 4 2
def Z5g:Blk:=.cells (AN.c (Z5f r radius)) 136
def Z5h:AN:=KC (Z5e r radius).B (Z5f r radius).A
def Z5i:Blk:=.cells [.i 2,.own 77 7 ([Z5e r radius,Z5h r radius].length),.i 0] 27
def Z5j:Blk:=.row 7 ([Z5e r radius,Z5h r radius].length) (AU AN.c [Z5e r radius,Z5h r radius]) 136
def Z5k:Blk:=.cells [.i 2,.own 100000 7 ([Z5e r radius,Z5h r radius].length),.i 0] 27
def Z5l:AN:=Fd (AE.mk (W64 (r.X0+radius)) (W64 (r.Y1-radius))) radius 5 2
def Z5m:Blk:=.cells (AN.c (Z5l r radius)) 136
def Z5n:AN:=KC (Z5f r radius).B (Z5l r radius).A
def Z5o:Blk:=.cells [.i 2,.own 77 7 ([Z5e r radius,Z5h r radius]++[Z5f r radius,Z5n r radius]).length,.i 0] 27
def Z5p:Blk:=.row 7 ([Z5e r radius,Z5h r radius]++[Z5f r radius,Z5n r radius]).length (AU AN.c ([Z5e r radius,Z5h r radius]++[Z5f r radius,Z5n r radius])) 136
def Z5q:Blk:=.cells [.i 2,.own 100001 7 ([Z5e r radius,Z5h r radius]++[Z5f r radius,Z5n r radius]).length,.i 0] 27
def Z5r:AN:=Fd (AE.mk (W64 (r.X0+radius)) (W64 (r.Y0+radius))) radius 6 2
def Z5s:Blk:=.cells (AN.c (Z5r r radius)) 136
def Z5t:AN:=KC (Z5l r radius).B (Z5r r radius).A
def Z5u:Blk:=.cells [.i 2,.own 77 7 (([Z5e r radius,Z5h r radius]++[Z5f r radius,Z5n r radius])++[Z5l r radius,Z5t r radius]).length,.i 0] 27
def Z5v:Blk:=.row 7 (([Z5e r radius,Z5h r radius]++[Z5f r radius,Z5n r radius])++[Z5l r radius,Z5t r radius]).length (AU AN.c (([Z5e r radius,Z5h r radius]++[Z5f r radius,Z5n r radius])++[Z5l r radius,Z5t r radius])) 136
def Z5w:Blk:=.cells [.i 2,.own 100002 7 (([Z5e r radius,Z5h r radius]++[Z5f r radius,Z5n r radius])++[Z5l r radius,Z5t r radius]).length,.i 0] 27
def Z5x:AN:=Fd (AE.mk (W64 (r.X1-radius)) (W64 (r.Y0+radius))) radius 7 2
def Z5y:AN:=KC (Z5r r radius).B (Z5x r radius).A
def Z5z:Blk:=.cells [.i 2,.own 77 7 ((([Z5e r radius,Z5h r radius]++[Z5f r radius,Z5n r radius])++[Z5l r radius,Z5t r radius])++[Z5r r radius,Z5y r radius]).length,.i 0] 27
def Z5A:Blk:=.row 7 ((([Z5e r radius,Z5h r radius]++[Z5f r radius,Z5n r radius])++[Z5l r radius,Z5t r radius])++[Z5r r radius,Z5y r radius]).length (AU AN.c ((([Z5e r radius,Z5h r radius]++[Z5f r radius,Z5n r radius])++[Z5l r radius,Z5t r radius])++[Z5r r radius,Z5y r radius])) 136
def Z5B:Blk:=.cells [.i 2,.own 100003 7 ((([Z5e r radius,Z5h r radius]++[Z5f r radius,Z5n r radius])++[Z5l r radius,Z5t r radius])++[Z5r r radius,Z5y r radius]).length,.i 0] 27
def G2 (r:Al) (radius:Int):An:=An.mk 2 ((([Z5e r radius,Z5h r radius]++[Z5f r radius,Z5n r radius])++[Z5l r radius,Z5t r radius])++[Z5r r radius,Z5y r radius]) 0
def M9:CT:=(49,[.agg (Al.c r),.one (.i radius)],.val [] (.av (.agg (An.c (G2 r radius)))))
abbrev IH (t_:List (Nat×Tv)):List (Nat×Tv):=(1,tI radius)::(4,tP 4 0)::(5,tP 5 0)::(6,tP 6 0)::t_
theorem Y4 (r:Al) (radius:Int):PuP 49 (M9 r radius).2.1 (.av (.agg (An.c (G2 r radius)))):=by
 refine pwf Tryz.func49 fun W0 M0 => ?_
 refine AA<|on<|AA ?_
 refine on<|AA ?_
 refine on ?_
 refine AA<|AA ?_
 refine rn ⟨(IH radius [(7,tI 0)]),[(4,Z5b),(5,Z5c),(6,Z5d r radius)]⟩<|AQ ?_
 refine Di 5 ?_
 refine Bu<|AA<|AA ?_
 refine on ?_
 refine CN kr<|AZ ?_
 refine AG<|AA ?_
 refine AQ<|AA ?_
 refine oc [(58,CZ (AE.mk (W64 (r.X1-radius)) (W64 (r.Y0+radius))) radius 3 2)] [0<=(0:Int)/\(0:Int)<(4:Int),Ay (CZ (AE.mk (W64 (r.X1-radius)) (W64 (r.Y0+radius))) radius 3 2).2.1] (.cons (EG (AE.mk (W64 (r.X1-radius)) (W64 (r.Y0+radius))) radius 3 2) .nil) (.cons (by decide) (.cons rfl .nil))<|AG<|AA ?_
 refine oc [(67,CZ (AE.mk (W64 (r.X1-radius)) (W64 (r.Y1-radius))) radius 4 2)] [(4:Int)≠0,0<=(1:Int)/\(1:Int)<(4:Int),Ay (CZ (AE.mk (W64 (r.X1-radius)) (W64 (r.Y1-radius))) radius 4 2).2.1] (.cons (EG (AE.mk (W64 (r.X1-radius)) (W64 (r.Y1-radius))) radius 4 2) .nil) (.cons au14 (.cons (by decide) (.cons rfl .nil)))<|AG ?_
 refine od [] [(75,GQ (Z5e r radius).B (Z5f r radius).A)] [Ay (GQ (Z5e r radius).B (Z5f r radius).A).2.1,2<=maxLen,2*56<=140737488355328] (.cons (LY (Z5e r radius).B (Z5f r radius).A) .nil) (.cons rfl (.cons au3 (.cons au3 .nil)))<|A3<|AG ?_
 refine Ap (A2 77 (A0 7 AN.c ([Z5e r radius,Z5h r radius]:List AN))) ?_
 refine rn ⟨(IH radius [(7,tI 1)]),[(4,Z5b),(5,Z5i r radius),(6,Z5d r radius),(77,Z5j r radius)]⟩ ?_
 refine Bu ?_
 refine Ap (Cv.trans (wr (⟨(IH radius [(7,tI 1)]),[(4,Z5b),(5,Z5k r radius),(6,Z5d r radius),(100000,Z5j r radius)]⟩) 77 100000 hk0) (Cv.refl _))<|AA<|AA ?_
 refine on ?_
 refine CN kr<|AZ ?_
 refine AG<|AA ?_
 refine AQ<|AA ?_
 refine oc [(58,CZ (AE.mk (W64 (r.X1-radius)) (W64 (r.Y1-radius))) radius 4 2)] [0<=(1:Int)/\(1:Int)<(4:Int),Ay (CZ (AE.mk (W64 (r.X1-radius)) (W64 (r.Y1-radius))) radius 4 2).2.1] (.cons (EG (AE.mk (W64 (r.X1-radius)) (W64 (r.Y1-radius))) radius 4 2) .nil) (.cons (by decide) (.cons rfl .nil))<|AG<|AA ?_
 refine oc [(67,CZ (AE.mk (W64 (r.X0+radius)) (W64 (r.Y1-radius))) radius 5 2)] [(4:Int)≠0,0<=(2:Int)/\(2:Int)<(4:Int),Ay (CZ (AE.mk (W64 (r.X0+radius)) (W64 (r.Y1-radius))) radius 5 2).2.1] (.cons (EG (AE.mk (W64 (r.X0+radius)) (W64 (r.Y1-radius))) radius 5 2) .nil) (.cons au14 (.cons (by decide) (.cons rfl .nil)))<|AG ?_
 refine od [] [(75,GQ (Z5f r radius).B (Z5l r radius).A)] [Ay (GQ (Z5f r radius).B (Z5l r radius).A).2.1,[Z5e r radius,Z5h r radius].length=[Z5e r radius,Z5h r radius].length,([Z5e r radius,Z5h r radius].length)+2<=maxLen,(([Z5e r radius,Z5h r radius].length)+2)*56<=140737488355328] (.cons (LY (Z5f r radius).B (Z5l r radius).A) .nil) (.cons rfl (.cons rfl (.cons au3 (.cons au3 .nil))))<|A3<|AG ?_
 refine Ap (A2 77 (Au (Am 7 AN.c [Z5e r radius,Z5h r radius]) (A0 7 AN.c ([Z5f r radius,Z5n r radius]:List AN)))) ?_
 refine rn ⟨(IH radius [(7,tI 2)]),[(4,Z5b),(5,Z5o r radius),(6,Z5d r radius),(77,Z5p r radius)]⟩ ?_
 refine Bu ?_
 refine Ap (Cv.trans (wr (⟨(IH radius [(7,tI 2)]),[(4,Z5b),(5,Z5q r radius),(6,Z5d r radius),(100001,Z5p r radius)]⟩) 77 100001 hk0) (Cv.refl _))<|AA<|AA ?_
 refine on ?_
 refine CN kr<|AZ ?_
 refine AG<|AA ?_
 refine AQ<|AA ?_
 refine oc [(58,CZ (AE.mk (W64 (r.X0+radius)) (W64 (r.Y1-radius))) radius 5 2)] [0<=(2:Int)/\(2:Int)<(4:Int),Ay (CZ (AE.mk (W64 (r.X0+radius)) (W64 (r.Y1-radius))) radius 5 2).2.1] (.cons (EG (AE.mk (W64 (r.X0+radius)) (W64 (r.Y1-radius))) radius 5 2) .nil) (.cons (by decide) (.cons rfl .nil))<|AG<|AA ?_
 refine oc [(67,CZ (AE.mk (W64 (r.X0+radius)) (W64 (r.Y0+radius))) radius 6 2)] [(4:Int)≠0,0<=(3:Int)/\(3:Int)<(4:Int),Ay (CZ (AE.mk (W64 (r.X0+radius)) (W64 (r.Y0+radius))) radius 6 2).2.1] (.cons (EG (AE.mk (W64 (r.X0+radius)) (W64 (r.Y0+radius))) radius 6 2) .nil) (.cons au14 (.cons (by decide) (.cons rfl .nil)))<|AG ?_
 refine od [] [(75,GQ (Z5l r radius).B (Z5r r radius).A)] [Ay (GQ (Z5l r radius).B (Z5r r radius).A).2.1,([Z5e r radius,Z5h r radius]++[Z5f r radius,Z5n r radius]).length=([Z5e r radius,Z5h r radius]++[Z5f r radius,Z5n r radius]).length,([Z5e r radius,Z5h r radius]++[Z5f r radius,Z5n r radius]).length+2<=maxLen,(([Z5e r radius,Z5h r radius]++[Z5f r radius,Z5n r radius]).length+2)*56<=140737488355328] (.cons (LY (Z5l r radius).B (Z5r r radius).A) .nil) (.cons rfl (.cons rfl (.cons au3 (.cons au3 .nil))))<|A3<|AG ?_
 refine Ap (A2 77 (Au (Am 7 AN.c ([Z5e r radius,Z5h r radius]++[Z5f r radius,Z5n r radius])) (A0 7 AN.c ([Z5l r radius,Z5t r radius]:List AN)))) ?_
 refine rn ⟨(IH radius [(7,tI 3)]),[(4,Z5b),(5,Z5u r radius),(6,Z5d r radius),(77,Z5v r radius)]⟩ ?_
 refine Bu ?_
 refine Ap (Cv.trans (wr (⟨(IH radius [(7,tI 3)]),[(4,Z5b),(5,Z5w r radius),(6,Z5d r radius),(100002,Z5v r radius)]⟩) 77 100002 hk0) (Cv.refl _))<|AA<|AA ?_
 refine on ?_
 refine CN kr<|AZ ?_
 refine AG<|AA ?_
 refine AQ<|AA ?_
 refine oc [(58,CZ (AE.mk (W64 (r.X0+radius)) (W64 (r.Y0+radius))) radius 6 2)] [0<=(3:Int)/\(3:Int)<(4:Int),Ay (CZ (AE.mk (W64 (r.X0+radius)) (W64 (r.Y0+radius))) radius 6 2).2.1] (.cons (EG (AE.mk (W64 (r.X0+radius)) (W64 (r.Y0+radius))) radius 6 2) .nil) (.cons (by decide) (.cons rfl .nil))<|AG<|AA ?_
 refine oc [(67,CZ (AE.mk (W64 (r.X1-radius)) (W64 (r.Y0+radius))) radius 7 2)] [(4:Int)≠0,0<=(0:Int)/\(0:Int)<(4:Int),Ay (CZ (AE.mk (W64 (r.X1-radius)) (W64 (r.Y0+radius))) radius 7 2).2.1] (.cons (EG (AE.mk (W64 (r.X1-radius)) (W64 (r.Y0+radius))) radius 7 2) .nil) (.cons au14 (.cons (by decide) (.cons rfl .nil)))<|AG ?_
 refine od [] [(75,GQ (Z5r r radius).B (Z5x r radius).A)] [Ay (GQ (Z5r r radius).B (Z5x r radius).A).2.1,(([Z5e r radius,Z5h r radius]++[Z5f r radius,Z5n r radius])++[Z5l r radius,Z5t r radius]).length=(([Z5e r radius,Z5h r radius]++[Z5f r radius,Z5n r radius])++[Z5l r radius,Z5t r radius]).length,(([Z5e r radius,Z5h r radius]++[Z5f r radius,Z5n r radius])++[Z5l r radius,Z5t r radius]).length+2<=maxLen,((([Z5e r radius,Z5h r radius]++[Z5f r radius,Z5n r radius])++[Z5l r radius,Z5t r radius]).length+2)*56<=140737488355328] (.cons (LY (Z5r r radius).B (Z5x r radius).A) .nil) (.cons rfl (.cons rfl (.cons au3 (.cons au3 .nil))))<|A3<|AG ?_
 refine Ap (A2 77 (Au (Am 7 AN.c (([Z5e r radius,Z5h r radius]++[Z5f r radius,Z5n r radius])++[Z5l r radius,Z5t r radius])) (A0 7 AN.c ([Z5r r radius,Z5y r radius]:List AN)))) ?_
 refine rn ⟨(IH radius [(7,tI 4)]),[(4,Z5b),(5,Z5z r radius),(6,Z5d r radius),(77,Z5A r radius)]⟩ ?_
 refine Bu ?_
 refine Ap (Cv.trans (wr (⟨(IH radius [(7,tI 4)]),[(4,Z5b),(5,Z5B r radius),(6,Z5d r radius),(100003,Z5A r radius)]⟩) 77 100003 hk0) (Cv.refl _))<|AA<|AA ?_
 refine on ?_
 refine Ar kr<|BH ?_
 refine A5<|A5 ?_
 refine BI<|AG<|AA ?_
 refine on<|AY ?_
 exact zy (Cv.trans (vf 100003 hk0) (Cv.refl _))
theorem Wh (r:Al) (radius:Int):OKc (M9 r radius):=cPu<|Y4 r radius
end
section
open Go.RowKit
theorem Qg (l:List Int) (name:ByteArray):∀ (n:Nat) (v:List BL) (d:AD) (k:Int),0<=k->k<=W64 (2+(AB (AD.mk l 0) 5).1)->((W64 (2+(AB (AD.mk l 0) 5).1))-k).toNat<n ->
  (DW l name n v d k).Name=name/\((DW l name n v d k).Pads.length:Int)=v.length+(W64 (2+(AB (AD.mk l 0) 5).1)-k)
 | 0,v,d,k,_,_,h=>absurd h (Nat.not_lt_zero _)
 | n+1,v,d,k,h0,h1,h2=>by
  unfold DW
  by_cases h:k<W64 (2+(AB (AD.mk l 0) 5).1)
  ·simp only [h,decide_true,cond_true]
   obtain ⟨e1,e2⟩:=Qg l name n (v++[_]) _ (k+1) (by omega) (by omega) (by omega)
   refine ⟨e1,e2.trans ?_⟩
   simp only [List.length_append,List.length_cons,List.length_nil]
   omega
  simp only [h,decide_false,cond_false]
  refine ⟨by first | trivial | rfl,?_⟩
  show (v.length:Int)=_
  omega
theorem GB (l:List Int) (name:ByteArray):(BG l name).Name=name/\2<=((BG l name).Pads.length:Int)/\((BG l name).Pads.length:Int)<=6:=by
 have hn:=Db (AD.mk l 0) 5 (by decide) (by decide)
 have hw:W64 (2+(AB (AD.mk l 0) 5).1)=2+(AB (AD.mk l 0) 5).1:=Az (by omega) (by omega)
 obtain ⟨e1,e2⟩:=Qg l name (((W64 (2+(AB (AD.mk l 0) 5).1))-0).toNat+1) [] (AB (AD.mk l 0) 5).2 0 (by omega) (by omega) (by omega)
 refine ⟨e1,?_⟩
 unfold BG
 rw [e2,hw]
 simp only [List.length_nil]
 omega
theorem Qt {a c:AV}:Bs [a,c] a.Name=(a,true):=by
 unfold Bs EC
 simp [Z0t]
theorem Qr {a c:AV} (h:¬ a.Name.toList=c.Name.toList):Bs [a,c] c.Name=(c,true):=by
 have hb:(a.Name.toList==c.Name.toList)=false:=by simp [h]
 unfold Bs EC
 simp [EC,Z0t,hb]
def Py (types:List AV) (xs:List AF):Prop:=∀ k:Int,0<=k->k<(xs.length:Int)->1<=((Bs types (xs.getD k.toNat default).Type').1.Pads.length:Int)/\((Bs types (xs.getD k.toNat default).Type').1.Pads.length:Int)<=6
theorem Xv {types:List AV}:Py types ([]:List AF):=fun k h0 h1=>absurd h1 (by simp only [List.length_nil];omega)
theorem Xw {types:List AV} {xs:List AF} {p:AF} (h:Py types xs) (hp:1<=((Bs types p.Type').1.Pads.length:Int)/\((Bs types p.Type').1.Pads.length:Int)<=6):Py types (xs++[p]):=by
 intro k h0 h1
 simp only [List.length_append,List.length_cons,List.length_nil] at h1
 by_cases hk:k.toNat<xs.length
 ·rw [List.getD_eq_getElem?_getD,List.getElem?_append_left hk,<- List.getD_eq_getElem?_getD]
  exact h k h0 oM
 rw [List.getD_eq_getElem?_getD,List.getElem?_append_right oM,show k.toNat-xs.length=0 by omega]
 exact hp
theorem QJ (a c:List Int) (i:Int) (hi:0<=i/\i<2):1<=((Bs [BG a { data := #[82] },BG c { data := #[81] }] (([BG a { data := #[82] },BG c { data := #[81] }]:List AV).getD i.toNat default).Name).1.Pads.length:Int)/\((Bs [BG a { data := #[82] },BG c { data := #[81] }] (([BG a { data := #[82] },BG c { data := #[81] }]:List AV).getD i.toNat default).Name).1.Pads.length:Int)<=6:=by
 have ha:=GB a { data := #[82] }
 have hc:=GB c { data := #[81] }
 have h01:i=0\/i=1:=by omega
 rcases h01 with rfl | rfl
 ·show 1<=((Bs [BG a { data := #[82] },BG c { data := #[81] }] (BG a { data := #[82] }).Name).1.Pads.length:Int)/\((Bs [BG a { data := #[82] },BG c { data := #[81] }] (BG a { data := #[82] }).Name).1.Pads.length:Int)<=6
  rw [Qt]
  exact ⟨by show 1<=((BG a { data := #[82] }).Pads.length:Int);omega,ha.2.2⟩
 show 1<=((Bs [BG a { data := #[82] },BG c { data := #[81] }] (BG c { data := #[81] }).Name).1.Pads.length:Int)/\((Bs [BG a { data := #[82] },BG c { data := #[81] }] (BG c { data := #[81] }).Name).1.Pads.length:Int)<=6
 rw [Qr (by rw [ha.1,hc.1];decide +kernel)]
 exact ⟨by show 1<=((BG c { data := #[81] }).Pads.length:Int);omega,hc.2.2⟩
theorem ZJ {d:AD} (h:(AB d 5).1<3) (h0:¬ (AB d 5).1=0) (h1:¬ (AB d 5).1=1):(AB d 5).1=2:=by
 have:=Db d 5 (by decide) (by decide)
 omega
theorem dJ {b:AC} {types:List AV} (h:Py types b.Parts):N3 b types:=fun k h0 h1=>(h k h0 h1).1
def Dg (v:List AX) (m:Int):Prop:=(v.length:Int)<=m
theorem FK {α:Type} {c:Bool} {a b:List α} {m:Int} (ha:(a.length:Int)<=m) (hb:(b.length:Int)<=m):((bif c then a else b).length:Int)<=m:=by cases c <;> assumption
theorem FL {α:Type} {a:List α} {x:α} {m:Int} (h:(a.length:Int)+1<=m):((a++[x]).length:Int)<=m:=by simp only [List.length_append,List.length_cons,List.length_nil];omega
theorem nM {d:AD} {a c:AV}:0<=(AB d 2).1/\(AB d 2).1<((([a,c]:List AV).length:Nat):Int):=Db d 2 (by decide) (by decide)
theorem cD {v:Int} {a b c:ByteArray} (h0:0<=v) (h:v<3):0<=v/\v<((([a,b,c]:List ByteArray).length:Nat):Int):=⟨h0,h⟩
theorem oU {b B:AC} (h:Lz b B) (hb:(b.Parts.length:Int)<=1000000):(B.Parts.length:Int)<=1000000:=by rw [h.par];exact hb
theorem kK {b B:AC} (h:Lz b B) (hb:1<=(b.Parts.length:Int)):1<=(B.Parts.length:Int):=by rw [h.par];exact hb
theorem oQ {b B:AC} (h:Lz b B):(B.Tracks.length:Int)<=1000000:=by have:=h.trk;omega
theorem oP {b B:AC} (h:Lz b B):(B.Vias.length:Int)<=1000000:=by have:=h.via;omega
theorem oS {b B:AC} (h:Lz b B):(B.Pours.length:Int)<=1000000:=by have:=h.pou;omega
theorem oV {b B:AC} (h:Lz b B):(B.Keeps.length:Int)<=1000000:=by have:=h.kee;omega
theorem oR {b B:AC} (h:Lz b B):(B.Slots.length:Int)<=1000000:=by have:=h.slo;omega
variable (v6_4:List AF) (v31_1':List AX) (v5'':AD) (v10:Int) (l:List (List Int)) (v31_1 v31_3' v31_3:List AX) (v8:Int) (v31_5':List AX) (v13:Int) (v31_5:List AX) (v5 v5':AD)
def Z5C:Tv:=.av (oL l)
def Z5D:Blk:=.cells Gg 40
def Z5E:AV:=BG (Aa l 0) ({ data := #[82] }:ByteArray)
def Z5F:AV:=BG (Aa l 1) ({ data := #[81] }:ByteArray)
def Z5G:Tv:=.av (.one (lst 3 AV.c [Z5E l,Z5F l]))
def Z5H:Blk:=.cells [lst 1 eIn (Aa l 2),.i 0] 146
abbrev Km:=Al.mk 0 0 400 400
def Z5I:Blk:=.cells [.i 2,.i (DT Km).Kind,lst 7 AN.c (DT Km).Edges,.i (DT Km).R,vN,.own 31 2 3,vN,vN,vN,vN,vN,vN,vN,vN,vN] 40
def Z5J:Blk:=.rowx 2 3 (fun _ _=>default) 84 [(0,[.s ({ data := #[78,49] }:ByteArray),vN]),(1,[.s ({ data := #[78,50] }:ByteArray),vN]),(2,[.s ({ data := #[71,78,68] }:ByteArray),vN])]
abbrev G7:=AB (AD.mk (Aa l 2) 0) 3
def Z5K:CT:=(48,(FX:List Av).map (CC 1000 25),wrI 25 (.cells [lst 1 eIn (Aa l 2),.i 0] 146) (tI (G7 l).1) (.cells (AD.c (G7 l).2) 146))
def Z5L:Blk:=.cells (AD.c (G7 l).2) 146
def Z5M:An:=bif decide (((AB (AD.mk (Aa l 2) 0) 3).1:Int)=0) then (G2 (Al.mk 0 0 400 400) 50) else (DT (Al.mk 0 0 400 400))
def Z5N:CT:=(48,(FX:List Av).map (CC 1000 25),wrI 25 (.cells (AD.c (G7 l).2) 146) (tI (AB (G7 l).2 3).1) (.cells (AD.c (AB (G7 l).2 3).2) 146))
abbrev Z5O:AD:=(AB (AB (AD.mk (Aa l 2) 0) 3).2 3).2
def Z5P:Tv:=tI (W64 (1+(AB (G7 l).2 3).1))
abbrev IJ (t_:List Cl):List Cl:=(.i 2)::(.i (Z5M l).Kind)::(lst 7 AN.c (Z5M l).Edges)::(.i (Z5M l).R)::t_
def Z5Q:Blk:=.cells (IJ l [vN,.own 31 2 3,vN,vN,vN,vN,vN,vN,vN,vN,vN]) 40
def Z5R:Blk:=.cells [lst 1 eIn (Aa l 3),.i 0] 146
def Z5S:Blk:=.row 7 ([]:List AF).length (AU AF.c ([]:List AF)) 49
def Z5T:Blk:=.cells (IJ l [.own 100000 7 ([]:List AF).length,.own 31 2 3,vN,vN,vN,vN,vN,vN,vN,vN,vN]) 40
def Z5U (l:(List (List Int))) (v6_4:List AF):Blk:=.cells (IJ l [.own 100000 7 v6_4.length,.own 31 2 3,vN,vN,vN,vN,vN,vN,vN,vN,vN]) 40
def Z5V:Blk:=.row 7 v6_4.length (AU AF.c v6_4) 49
def Z5W:CT:=(48,(Hq:List Av).map (CC 1000 25),wrI 25 (MO v5) (tI (AB v5 2).1) (MT v5))
abbrev JO:=AB (AB v5 2).2 4
def Z5X:CT:=(48,(KI:List Av).map (CC 1000 25),wrI 25 (MT v5) (tI (JO v5).1) (.cells (AD.c (JO v5).2) 146))
def Z5Y:CT:=(48,(FX:List Av).map (CC 1000 25),wrI 25 (.cells (AD.c (JO v5).2) 146) (tI (AB (JO v5).2 3).1) (.cells (AD.c (AB (JO v5).2 3).2) 146))
abbrev Z5Z:AD:=(AB (AB (AB v5 2).2 4).2 3).2
def Z60:CT:=(48,Kh.map (CC 1000 25),wrI 25 (.cells (AD.c (Z5Z v5)) 146) (tI (AB (Z5Z v5) 5).1) (.cells (AD.c (AB (Z5Z v5) 5).2) 146))
def Z61:CT:=(48,(FX:List Av).map (CC 1000 25),wrI 25 (.cells (AD.c (AB (Z5Z v5) 5).2) 146) (tI (AB (AB (Z5Z v5) 5).2 3).1) (.cells (AD.c (AB (AB (Z5Z v5) 5).2 3).2) 146))
abbrev Z62:AD:=(AB (AB (Z5Z v5) 5).2 3).2
def Z63:CT:=(48,(FX:List Av).map (CC 1000 25),wrI 25 (.cells (AD.c (Z62 v5)) 146) (tI (AB (Z62 v5) 3).1) (.cells (AD.c (AB (Z62 v5) 3).2) 146))
def Z64:Blk:=.cells (AD.c (AB (Z62 v5) 3).2) 146
abbrev Zr:=AE.mk (W64 ((W64 (80+(W64 (100*v8))))+(W64 (5*(AB (Z5Z v5) 5).1)))) (W64 ((W64 (100+(W64 (80*(AB (AB (Z5Z v5) 5).2 3).1))))+(W64 (5*(AB (Z62 v5) 3).1))))
abbrev MZ:Bool:=(decide (((AB (JO v5).2 3).1:Int)=0))
def Z65 (l:(List (List Int))) (v6_4:List AF) (v8:Int) (v5:AD):Blk:=.cells (IJ l [.own 86 7 (v6_4++[AF.mk (W64 (1+v8)) (([({ data := #[82,49] }:ByteArray),({ data := #[82,50] }:ByteArray),({ data := #[120,47,82,49] }:ByteArray)]:List ByteArray).getD v8.toNat ⟨#[]⟩) ([Z5E l,Z5F l].getD (AB v5 2).1.toNat default).Name (Zr v8 v5) (JO v5).1 (MZ v5)]).length,.own 31 2 3,vN,vN,vN,vN,vN,vN,vN,vN,vN]) 40
def Z66 (v6_4:List AF) (v8:Int) (l:(List (List Int))) (v5:AD):Blk:=.row 7 (v6_4++[AF.mk (W64 (1+v8)) (([({ data := #[82,49] }:ByteArray),({ data := #[82,50] }:ByteArray),({ data := #[120,47,82,49] }:ByteArray)]:List ByteArray).getD v8.toNat ⟨#[]⟩) ([Z5E l,Z5F l].getD (AB v5 2).1.toNat default).Name (Zr v8 v5) (JO v5).1 (MZ v5)]).length (AU AF.c (v6_4++[AF.mk (W64 (1+v8)) (([({ data := #[82,49] }:ByteArray),({ data := #[82,50] }:ByteArray),({ data := #[120,47,82,49] }:ByteArray)]:List ByteArray).getD v8.toNat ⟨#[]⟩) ([Z5E l,Z5F l].getD (AB v5 2).1.toNat default).Name (Zr v8 v5) (JO v5).1 (MZ v5)])) 49
def Z67:Blk:=.row 2 ([]:List AX).length (AU AX.c ([]:List AX)) 65
def Z68:Blk:=.row 2 v31_1.length (AU AX.c v31_1) 65
def Z69:Blk:=.row 2 v31_3.length (AU AX.c v31_3) 65
def Z6a:Blk:=.row 2 v31_5.length (AU AX.c v31_5) 65
def Z6b (l:(List (List Int))) (v6_4:List AF):Blk:=.cells (IJ l [lst 7 AF.c v6_4,.own 31 2 3,vN,vN,vN,vN,vN,vN,vN,vN,vN]) 40
def Z6c:Tv:=tB (decide ((v10:Int)<(W64 (1+(AB (G7 l).2 3).1))))
def Z6d (l:(List (List Int))) (v6_4:List AF) (v10:Int):AV:=(Bs [Z5E l,Z5F l] (v6_4.getD v10.toNat default).Type').1
def Z6e (l:(List (List Int))) (v6_4:List AF) (v10:Int):Blk:=.cells (AV.c (Z6d l v6_4 v10)) 61
def Z6f:Blk:=.row 2 v31_1'.length (AU AX.c v31_1') 65
def Z6g:Blk:=.row 2 v31_3'.length (AU AX.c v31_3') 65
def Z6h:Blk:=.row 2 v31_5'.length (AU AX.c v31_5') 65
def Z6i:CT:=(48,Kh.map (CC 1000 91),wrI 91 (.cells (AD.c v5'') 146) (tI (AB v5'' 5).1) (.cells (AD.c (AB v5'' 5).2) 146))
abbrev I8:=[AX.mk (v6_4.getD v10.toNat default).Ref ((Z6d l v6_4 v10).Pads.getD v13.toNat default).Name]
def Z6j (v31_1':List AX) (v6_4:List AF) (v10:Int) (l:(List (List Int))) (v13:Int):Blk:=.row 2 (v31_1'++(I8 v6_4 v10 l v13)).length (AU AX.c (v31_1'++(I8 v6_4 v10 l v13))) 65
def Z6k (v31_3':List AX) (v6_4:List AF) (v10:Int) (l:(List (List Int))) (v13:Int):Blk:=.row 2 (v31_3'++(I8 v6_4 v10 l v13)).length (AU AX.c (v31_3'++(I8 v6_4 v10 l v13))) 65
def Z6l (v31_5':List AX) (v6_4:List AF) (v10:Int) (l:(List (List Int))) (v13:Int):Blk:=.row 2 (v31_5'++(I8 v6_4 v10 l v13)).length (AU AX.c (v31_5'++(I8 v6_4 v10 l v13))) 65
def Z6m (v5'':AD) (v31_1':List AX) (v6_4:List AF) (v10:Int) (l:(List (List Int))) (v13:Int):(List AX):=bif decide (((AB v5'' 5).1:Int)<3) then (bif decide (((AB v5'' 5).1:Int)=0) then (v31_1'++[AX.mk (v6_4.getD v10.toNat default).Ref ((Z6d l v6_4 v10).Pads.getD v13.toNat default).Name]) else v31_1') else v31_1'
def Z6n (v5'':AD) (v31_3':List AX) (v6_4:List AF) (v10:Int) (l:(List (List Int))) (v13:Int):(List AX):=bif decide (((AB v5'' 5).1:Int)<3) then (bif decide (((AB v5'' 5).1:Int)=0) then v31_3' else (bif decide (((AB v5'' 5).1:Int)=1) then (v31_3'++[AX.mk (v6_4.getD v10.toNat default).Ref ((Z6d l v6_4 v10).Pads.getD v13.toNat default).Name]) else v31_3')) else v31_3'
def Z6o (v5'':AD) (v31_5':List AX) (v6_4:List AF) (v10:Int) (l:(List (List Int))) (v13:Int):(List AX):=bif decide (((AB v5'' 5).1:Int)<3) then (bif decide (((AB v5'' 5).1:Int)=0) then v31_5' else (bif decide (((AB v5'' 5).1:Int)=1) then v31_5' else (v31_5'++[AX.mk (v6_4.getD v10.toNat default).Ref ((Z6d l v6_4 v10).Pads.getD v13.toNat default).Name]))) else v31_5'
def Z6p (v5'':AD) (v31_1':List AX) (v6_4:List AF) (v10:Int) (l:(List (List Int))) (v13:Int):Blk:=.row 2 (Z6m v5'' v31_1' v6_4 v10 l v13).length (AU AX.c (Z6m v5'' v31_1' v6_4 v10 l v13)) 65
def Z6q (v5'':AD) (v31_3':List AX) (v6_4:List AF) (v10:Int) (l:(List (List Int))) (v13:Int):Blk:=.row 2 (Z6n v5'' v31_3' v6_4 v10 l v13).length (AU AX.c (Z6n v5'' v31_3' v6_4 v10 l v13)) 65
def Z6r (v5'':AD) (v31_5':List AX) (v6_4:List AF) (v10:Int) (l:(List (List Int))) (v13:Int):Blk:=.row 2 (Z6o v5'' v31_5' v6_4 v10 l v13).length (AU AX.c (Z6o v5'' v31_5' v6_4 v10 l v13)) 65
def Z6s (l:(List (List Int))) (v6_4:List AF) (v31_1:List AX) (v31_3:List AX) (v31_5:List AX):AC:=Ba (AC.mk 2 (Z5M l) v6_4 [BA.mk ({ data := #[78,49] }:ByteArray) v31_1,BA.mk ({ data := #[78,50] }:ByteArray) v31_3,BA.mk ({ data := #[71,78,68] }:ByteArray) v31_5] [] [] [] [] [] [] [] [] []) [Z5E l,Z5F l] l
abbrev Xh (l:List (List Int)) (v6_4:List AF) (v31_1:List AX) (v31_3:List AX) (v31_5:List AX):List Cl:=[.i (Z6s l v6_4 v31_1 v31_3 v31_5).Layers,.i (Z6s l v6_4 v31_1 v31_3 v31_5).Outline.Kind,lst 7 AN.c (Z6s l v6_4 v31_1 v31_3 v31_5).Outline.Edges,.i (Z6s l v6_4 v31_1 v31_3 v31_5).Outline.R,lst 7 AF.c (Z6s l v6_4 v31_1 v31_3 v31_5).Parts,lst 2 BA.c (Z6s l v6_4 v31_1 v31_3 v31_5).Nets,lst 6 Aq.c (Z6s l v6_4 v31_1 v31_3 v31_5).Tracks,lst 8 Bx.c (Z6s l v6_4 v31_1 v31_3 v31_5).Vias,lst 8 A8.c (Z6s l v6_4 v31_1 v31_3 v31_5).Pours,lst 5 BR.c (Z6s l v6_4 v31_1 v31_3 v31_5).Keeps,lst 4 Bq.c (Z6s l v6_4 v31_1 v31_3 v31_5).Slots,vN,vN,vN,vN]
def Z6t (l:(List (List Int))) (v6_4:List AF) (v31_1:List AX) (v31_3:List AX) (v31_5:List AX):CT:=(50,([.one (.ptr 1000 0),.one (lst 3 AV.c [Z5E l,Z5F l]),.one (lst 1 (fun x=>[lst 1 eIn x]) l)]:List Av).map (CC 1000 6),wrI 6 (.cells (IJ l [lst 7 AF.c v6_4,lst 2 BA.c [BA.mk ({ data := #[78,49] }:ByteArray) v31_1,BA.mk ({ data := #[78,50] }:ByteArray) v31_3,BA.mk ({ data := #[71,78,68] }:ByteArray) v31_5],vN,vN,vN,vN,vN,vN,vN,vN,vN]) 40) (.tup []) (.cells (Xh l v6_4 v31_1 v31_3 v31_5) 40))
def Z6u (l:(List (List Int))) (v6_4:List AF) (v31_1:List AX) (v31_3:List AX) (v31_5:List AX):AC×AD:=DB (AC.mk (Z6s l v6_4 v31_1 v31_3 v31_5).Layers (Z6s l v6_4 v31_1 v31_3 v31_5).Outline (Z6s l v6_4 v31_1 v31_3 v31_5).Parts (Z6s l v6_4 v31_1 v31_3 v31_5).Nets (Z6s l v6_4 v31_1 v31_3 v31_5).Tracks (Z6s l v6_4 v31_1 v31_3 v31_5).Vias (Z6s l v6_4 v31_1 v31_3 v31_5).Pours (Z6s l v6_4 v31_1 v31_3 v31_5).Keeps (Z6s l v6_4 v31_1 v31_3 v31_5).Slots [] [] [] []) (AD.mk (Aa l 7) 0)
def Z6v (l:(List (List Int))) (v6_4:List AF) (v31_1:List AX) (v31_3:List AX) (v31_5:List AX):CT:=(51,(Oe:List Av).map (F4 1000 6 1001 151),nK 6 151 (.cells (Xh l v6_4 v31_1 v31_3 v31_5) 40) (.cells [lst 1 eIn (Aa l 7),.i 0] 146) (.tup []) (.cells (AC.c (Z6u l v6_4 v31_1 v31_3 v31_5).1) 40) (.cells (AD.c (Z6u l v6_4 v31_1 v31_3 v31_5).2) 146))
def Z6w:Blk:=.rowx 2 3 (fun _ _=>default) 84 [(0,[.s ({ data := #[78,49] }:ByteArray),.own 100001 2 ([]:List AX).length]),(1,[.s ({ data := #[78,50] }:ByteArray),.own 100002 2 ([]:List AX).length]),(2,[.s ({ data := #[71,78,68] }:ByteArray),.own 100003 2 ([]:List AX).length])]
def Z6x:Blk:=.rowx 2 3 (fun _ _=>default) 84 [(0,[.s ({ data := #[78,49] }:ByteArray),.own 100001 2 v31_1.length]),(1,[.s ({ data := #[78,50] }:ByteArray),.own 100002 2 v31_3.length]),(2,[.s ({ data := #[71,78,68] }:ByteArray),.own 100003 2 v31_5.length])]
def Z6y:Blk:=.rowx 2 3 (fun _ _=>default) 84 [(0,[.s ({ data := #[78,49] }:ByteArray),.own 100001 2 v31_1'.length]),(1,[.s ({ data := #[78,50] }:ByteArray),.own 100002 2 v31_3'.length]),(2,[.s ({ data := #[71,78,68] }:ByteArray),.own 100003 2 v31_5'.length])]
def Z6z (v31_1':List AX) (v6_4:List AF) (v10:Int) (l:(List (List Int))) (v13:Int) (v31_3':List AX) (v31_5':List AX):Blk:=.rowx 2 3 (fun _ _=>default) 84 [(0,[.s ({ data := #[78,49] }:ByteArray),.own 100004 2 (v31_1'++(I8 v6_4 v10 l v13)).length]),(1,[.s ({ data := #[78,50] }:ByteArray),.own 100005 2 v31_3'.length]),(2,[.s ({ data := #[71,78,68] }:ByteArray),.own 100006 2 v31_5'.length])]
def Z6A (v31_1':List AX) (v31_3':List AX) (v6_4:List AF) (v10:Int) (l:(List (List Int))) (v13:Int) (v31_5':List AX):Blk:=.rowx 2 3 (fun _ _=>default) 84 [(0,[.s ({ data := #[78,49] }:ByteArray),.own 100004 2 v31_1'.length]),(1,[.s ({ data := #[78,50] }:ByteArray),.own 100005 2 (v31_3'++(I8 v6_4 v10 l v13)).length]),(2,[.s ({ data := #[71,78,68] }:ByteArray),.own 100006 2 v31_5'.length])]
def Z6B (v31_1':List AX) (v31_3':List AX) (v31_5':List AX) (v6_4:List AF) (v10:Int) (l:(List (List Int))) (v13:Int):Blk:=.rowx 2 3 (fun _ _=>default) 84 [(0,[.s ({ data := #[78,49] }:ByteArray),.own 100004 2 v31_1'.length]),(1,[.s ({ data := #[78,50] }:ByteArray),.own 100005 2 v31_3'.length]),(2,[.s ({ data := #[71,78,68] }:ByteArray),.own 100006 2 (v31_5'++(I8 v6_4 v10 l v13)).length])]
def Dn (l:(List (List Int))) (v6_4:List AF) (v5:AD) (v8:Int) (v31_1:List AX) (v31_3:List AX) (v31_5:List AX) (v5':AD) (v10:Int) (K0:List AF->AD->Int->(AC×(List AV))) (K1:List AX->List AX->List AX->AD->Int->(AC×(List AV))):Nat->List AX->List AX->List AX->AD->Int->(AC×(List AV))
 | 0,_,_,_,_,_=>default
 | n2+1,v31_1',v31_3',v31_5',v5'',v13=>bif decide ((v13:Int)<((Z6d l v6_4 v10).Pads.length:Int)) then ((Dn l v6_4 v5 v8 v31_1 v31_3 v31_5 v5' v10 K0 K1 n2) (Z6m v5'' v31_1' v6_4 v10 l v13) (Z6n v5'' v31_3' v6_4 v10 l v13) (Z6o v5'' v31_5' v6_4 v10 l v13) (AB v5'' 5).2 (v13+1)) else (K1 v31_1' v31_3' v31_5' v5'' (v10+1))
def DV (l:(List (List Int))) (v6_4:List AF) (v5:AD) (v8:Int) (K0:List AF->AD->Int->(AC×(List AV))):Nat->List AX->List AX->List AX->AD->Int->(AC×(List AV))
 | 0,_,_,_,_,_=>default
 | n1+1,v31_1,v31_3,v31_5,v5',v10=>bif decide ((v10:Int)<(W64 (1+(AB (AB (AD.mk (Aa l 2) 0) 3).2 3).1))) then (Dn l v6_4 v5 v8 v31_1 v31_3 v31_5 v5' v10 K0 (DV l v6_4 v5 v8 K0 n1) ((((Z6d l v6_4 v10).Pads.length:Int)-0).toNat+1) v31_1 v31_3 v31_5 v5' 0) else ((Z6u l v6_4 v31_1 v31_3 v31_5).1,[Z5E l,Z5F l])
def Cs (l:(List (List Int))):Nat->List AF->AD->Int->(AC×(List AV))
 | 0,_,_,_=>default
 | n0+1,v6_4,v5,v8=>bif decide ((v8:Int)<(W64 (1+(AB (AB (AD.mk (Aa l 2) 0) 3).2 3).1))) then ((Cs l n0) (v6_4++[AF.mk (W64 (1+v8)) (([({ data := #[82,49] }:ByteArray),({ data := #[82,50] }:ByteArray),({ data := #[120,47,82,49] }:ByteArray)]:List ByteArray).getD v8.toNat ⟨#[]⟩) ([Z5E l,Z5F l].getD (AB v5 2).1.toNat default).Name (AE.mk (W64 ((W64 (80+(W64 (100*v8))))+(W64 (5*(AB (Z5Z v5) 5).1)))) (W64 ((W64 (100+(W64 (80*(AB (AB (Z5Z v5) 5).2 3).1))))+(W64 (5*(AB (Z62 v5) 3).1))))) (AB (AB v5 2).2 4).1 (decide (((AB (AB (AB v5 2).2 4).2 3).1:Int)=0))]) (AB (Z62 v5) 3).2 (v8+1)) else (DV l v6_4 v5 v8 (Cs l n0) (((W64 (1+(AB (AB (AD.mk (Aa l 2) 0) 3).2 3).1))-0).toNat+1) ([]:List AX) ([]:List AX) ([]:List AX) (AD.mk (Aa l 3) 0) 0)
def DI (l:(List (List Int))):(AC×(List AV)):=Cs l (((W64 (1+(AB (AB (AD.mk (Aa l 2) 0) 3).2 3).1))-0).toNat+1) ([]:List AF) (Z5O l) 0
def N0:CT:=(20,[.one (lst 1 (fun x=>[lst 1 eIn x]) l)],.val [] (.tup [.agg (AC.c (DI l).1),.one (lst 3 AV.c (DI l).2)]))
abbrev G5 (t_:List (Nat×Tv)):List (Nat×Tv):=(0,Z5C l)::(2,tP 2 0)::(4,Z5G l)::(5,tP 91 0)::(6,tP 6 0)::(7,Z5P l)::t_
abbrev KM (l:List (List Int)) (v10:Int) (v13:Int):List (Nat×Tv):=(G5 l [(10,tI v10),(11,tP 11 0),(13,tI v13)])
abbrev Tf (l:List (List Int)) (v10:Int):List (Nat×Tv):=(G5 l [(10,tI v10),(94,Z6c v10 l)])
abbrev HX:Nat×Blk:=(91,.cells (AD.c (AB v5'' 5).2) 146)
abbrev SG:List (Nat×Tv):=(G5 l [(10,tI 0)])
abbrev DZ:Nat×Blk:=(100000,Z5V v6_4)
abbrev JI (t_:List (Nat×Tv)):List (Nat×Tv):=(0,Z5C l)::(2,tP 2 0)::(4,Z5G l)::(5,tP 25 0)::(6,tP 6 0)::t_
abbrev R1:List (Nat×Tv):=(JI l [])
abbrev Va:=BB 2 1 [.s (v6_4.getD v10.toNat default).Ref,.s ((Z6d l v6_4 v10).Pads.getD v13.toNat default).Name]
abbrev MQ:Nat×Blk:=(91,.cells (AD.c v5') 146)
abbrev E7 (l:List (List Int)) (v6_4:List AF) (v10:Int) (t_:List (Nat×Blk)):List (Nat×Blk):=(2,Z5D)::(6,Z5U l v6_4)::(11,Z6e l v6_4 v10)::t_
theorem au18 {p:Prop} (h:p:=by first | (with_reducible exact Dt hll _) | with_reducible assumption | omega | decide | (simp only [List.length_cons,List.length_nil,List.length_append];omega) | (exact dJ (by assumption)) | ((refine And.intro ?_ ?_ <;> simp;done)) | ((simp only;exact oU (Gv _ _ _) (by show (v6_4.length:Int)≤_;omega))) | ((simp only;exact kK (Gv _ _ _) (by show 1≤(v6_4.length:Int);omega))) | ((simp only;exact oQ (Gv _ _ _))) | ((simp only;exact oP (Gv _ _ _))) | ((simp only;exact oS (Gv _ _ _))) | ((simp only;exact oV (Gv _ _ _))) | ((simp only;exact oR (Gv _ _ _))) | assumption):p:=h
theorem au19 {p:Prop} (h:p:=by first | exact J3 _ _ _ (by decide) (by decide) (by decide) | exact nM | exact cD (by omega) (by omega) | decide | omega):p:=h
theorem au23 {p:Prop} (h:p:=by first | (unfold Dg at *;unfold maxLen;omega) | (unfold Dg at *;omega) | (unfold maxLen;omega) | omega | (simp only [ZF,ZE,ZD];omega)):p:=h
set_option maxHeartbeats 4000000 in
theorem kH (l:(List (List Int))) (hl:(l.length:Int)<=9223372036854775807) (hll:∀ x∈l,(x.length:Int)<=9223372036854775807):PuP 20 (N0 l).2.1 (.tup [.agg (AC.c (DI l).1),.one (lst 3 AV.c (DI l).2)]):=by
 refine pwf Tryz.func20 fun W0 M0 => ?_
 have hmany:1<=W64 (1+(AB (AB (AD.mk (Aa l 2) 0) 3).2 3).1):=by have:=Db (AB (AD.mk (Aa l 2) 0) 3).2 3 (by decide) (by decide);rw [Az oM oM];omega
 refine AA<|on<|AA ?_
 refine rc [(16,Ex l 0),(17,KB (Aa l 0) ({ data := #[82] }:ByteArray)),(19,Ex l 1),(20,KB (Aa l 1) ({ data := #[81] }:ByteArray))] [Ay (Ex l 0).2.1,Ay (KB (Aa l 0) ({ data := #[82] }:ByteArray)).2.1,Ay (Ex l 1).2.1,Ay (KB (Aa l 1) ({ data := #[81] }:ByteArray)).2.1] ⟨[(0,Z5C l),(2,tP 2 0),(4,.av (.one (.list true 3 2 (BB 3 2 [.s (Z5E l).Name,lst 7 BL.c (Z5E l).Pads,lst 2 BO.c (Z5E l).Gates,.s (Z5F l).Name,lst 7 BL.c (Z5F l).Pads,lst 2 BO.c (Z5F l).Gates]))))],[(2,Z5D)]⟩ (.cons (GX l 0 au18) (.cons (UR (Aa l 0) ({ data := #[82] }:ByteArray) au18) (.cons (GX l 1 au18) (.cons (UR (Aa l 1) ({ data := #[81] }:ByteArray) au18) .nil)))) (.cons rfl (.cons rfl (.cons rfl (.cons rfl .nil))))<|AG ?_
 refine Ap (Cv.trans (DH (⟨[(0,Z5C l),(2,tP 2 0),(4,Z5G l)],[(2,Z5D)]⟩) (.cons ⟨rfl,.refl _⟩ (.cons ⟨rfl,.refl _⟩ (.cons ⟨rfl,.av (.one (Bk true (Bd (c:=AV.c) (xs:=([Z5E l,Z5F l]:List AV)) rfl kr)))⟩ .nil))) lr) (Cv.refl _))<|AA ?_
 refine rs 23 (Ex l 2) ⟨[(0,Z5C l),(2,tP 2 0),(4,Z5G l),(5,tP 25 0)],[(2,Z5D),(25,Z5H l)]⟩ (GX l 2 au18)<|AG<|AA ?_
 refine DP Dh [31] [] [(27,Hn Km)] [0,2,4,5,6] [2,6,25,31] [Ay (Hn (Al.mk 0 0 400 400)).2.1] ⟨(R1 l),[(2,Z5D),(6,Z5I),(25,Z5H l),(31,.row 2 3 (BB 2 3 [.s ({ data := #[78,49] }:ByteArray),vN,.s ({ data := #[78,50] }:ByteArray),vN,.s ({ data := #[71,78,68] }:ByteArray),vN]) 84)]⟩ (.cons (La (Al.mk 0 0 400 400)) .nil) kr (.cons rfl .nil)<|AG ?_
 refine Ap (Cv.trans (gO (⟨(R1 l),[(2,Z5D),(6,Z5I),(25,Z5H l),(31,Z5J)]⟩) 31 2 3 (BB 2 3 [.s ({ data := #[78,49] }:ByteArray),vN,.s ({ data := #[78,50] }:ByteArray),vN,.s ({ data := #[71,78,68] }:ByteArray),vN]) 84 kr kr kr) (Cv.refl _))<|AA<|AA ?_
 refine rb 34 (Z5K l) (.cells [lst 1 eIn (Aa l 2),.i 0] 146) ⟨(JI l [(35,tB (decide (((G7 l).1:Int)=0)))]),[(2,Z5D),(6,Z5I),(25,Z5L l),(31,Z5J)]⟩ (cWr (Bp (AD.mk (Aa l 2) 0) 3 au8 au11))<|AG ?_
 refine B4 (⟨[(0,.av (oL l)),(2,tP 2 0),(4,tO (lst 3 AV.c [Z5E l,Z5F l])),(5,tP 25 0),(6,tP 6 0)],[(2,.cells Gg 40),(6,.cells [.i 2,.i (Z5M l).Kind,lst 7 AN.c (Z5M l).Edges,.i (Z5M l).R,vN,.own 31 2 3,vN,vN,vN,vN,vN,vN,vN,vN,vN] 40),(25,.cells (AD.c (G7 l).2) 146),(31,.rowx 2 3 (fun _ _=>default) 84 [(0,[.s ({ data := #[78,49] }:ByteArray),vN]),(1,[.s ({ data := #[78,50] }:ByteArray),vN]),(2,[.s ({ data := #[71,78,68] }:ByteArray),vN])])]⟩) ?_ ?_
 ·refine AO _ rfl (fun h1 => ?_) (fun h1 => ?_)
  ·refine rs 37 (M9 (Al.mk 0 0 400 400) 50) ⟨(R1 l),[(2,Z5D),(6,.cells [.i 2,.i (G2 Km 50).Kind,lst 7 AN.c (G2 Km 50).Edges,.i (G2 Km 50).R,vN,.own 31 2 3,vN,vN,vN,vN,vN,vN,vN,vN,vN] 40),(25,Z5L l),(31,Z5J)]⟩ (Wh (Al.mk 0 0 400 400) 50)<|AG ?_
   refine BE ?_
   first | rfl | (simp only [h1,Z5M,cond_true,cond_false] <;> rfl)
  refine AZ<|AG ?_
  refine Cv.trans (ck (⟨(R1 l),[(2,Z5D),(6,Z5I),(25,Z5L l),(31,Z5J)]⟩)) (BE ?_)
  first | rfl | (simp only [h1,Z5M,cond_true,cond_false] <;> rfl)
 refine AA<|rb 40 (Z5N l) (.cells (AD.c (AB (AD.mk (Aa l 2) 0) 3).2) 146) ⟨(JI l [(7,Z5P l)]),[(2,Z5D),(6,Z5Q l),(25,.cells (AD.c (Z5O l)) 146),(31,Z5J)]⟩ (cWr (Bp (AB (AD.mk (Aa l 2) 0) 3).2 3 au8 au11))<|AG ?_
 refine AA<|AA ?_
 refine rn ⟨(JI l [(7,Z5P l),(8,tI 0)]),[(2,Z5D),(6,Z5Q l),(25,.cells (AD.c (Z5O l)) 146),(31,Z5J)]⟩<|AQ ?_
 refine Ap (Cv.trans (vg 100000 7 (fun _ _=>default) 49 [] [(6,[4])] hk0) (Cv.trans (A2 100000 (CI 7 (fun _ _=>default) AF.c)) (Cv.trans (ck (⟨(JI l [(7,Z5P l),(8,tI 0)]),[(2,Z5D),(6,Z5T l),(25,.cells (AD.c (Z5O l)) 146),(31,Z5J),(100000,Z5S)]⟩)) (Cv.refl _)))) ?_
 refine BP (ι:=Nat×List AF×AD×Int) (fun x=>⟨(JI l [(7,Z5P l),(8,tI x.2.2.2)]),[(2,Z5D),(6,.cells (IJ l [.own 100000 7 x.2.1.length,.own 31 2 3,vN,vN,vN,vN,vN,vN,vN,vN,vN]) 40),(25,.cells (AD.c x.2.2.1) 146),(31,Z5J),(100000,.row 7 x.2.1.length (AU AF.c x.2.1) 49)]⟩) (fun x=>((W64 (1+(AB (AB (AD.mk (Aa l 2) 0) 3).2 3).1))-x.2.2.2).toNat<x.1/\((x.2.1.length:Int)=x.2.2.2/\Py [BG (Aa l 0) ({ data := #[82] }:ByteArray),BG (Aa l 1) ({ data := #[81] }:ByteArray)] x.2.1/\B2 x.2.2.1/\0<=x.2.2.2/\(x.2.2.2<=(W64 (1+(AB (AB (AD.mk (Aa l 2) 0) 3).2 3).1))\/x.2.2.2=0)/\(x.2.1.length:Int)<=0+1*(x.2.2.2-0))/\Cs l x.1 x.2.1 x.2.2.1 x.2.2.2=DI l) (fun x=>x.1) ?_ (((W64 (1+(AB (AB (AD.mk (Aa l 2) 0) 3).2 3).1))-0).toNat+1,([]:List AF),Z5O l,0) ⟨Nat.lt_succ_self _,⟨ax0,(by show Py [BG (Aa l 0) ({ data := #[82] }:ByteArray),BG (Aa l 1) ({ data := #[81] }:ByteArray)] ([]:List AF);first | exact Xv | exact Xw (by assumption) (QJ _ _ _ (Db _ 2 (by decide) (by decide))) | assumption),(by show B2 (Z5O l);repeat (first | with_reducible assumption | exact DA (Dt hll _) | with_reducible refine Bl ?_ | with_reducible refine E9 ?_ | with_reducible refine D3 ?_ | with_reducible refine Dl ?_  | with_reducible refine DK ?_ ?_)),ax0,ax0,ax0⟩,(by simp only [DI,cond_true,cond_false])⟩
 rintro ⟨n0,v6_4,v5,v8⟩ ⟨hm0,hinv0,hF0⟩
 try dsimp only at hm0 hinv0 hF0
 cases n0 with | zero=>exact nz hm0 | succ n0 => ?_
 have hi0_1:=hinv0.2.1
 have hi0_2:=hinv0.2.2.1
 refine AA<|AA ?_
 refine rn ⟨(JI l [(7,Z5P l),(8,tI v8),(44,tB (decide ((v8:Int)<(W64 (1+(AB (AB (AD.mk (Aa l 2) 0) 3).2 3).1)))))]),[(2,Z5D),(6,Z5U l v6_4),(25,.cells (AD.c v5) 146),(31,Z5J),(DZ v6_4)]⟩ ?_
 refine AO (decide ((v8:Int)<(W64 (1+(AB (AB (AD.mk (Aa l 2) 0) 3).2 3).1)))) kr (fun h1 => ?_) (fun h1 => ?_)
 ·have g1:=oT h1
  have k1:=Ss g1 (by decide) (by decide) (by decide) (by decide)
  have kk1:=PT g1 (by decide) (by decide) (by decide) (by decide)
  refine AZ<|AG ?_
  refine AA<|AQ<|AA ?_
  refine od [] [(55,(Z5W v5)),(60,(Z5X v5)),(62,(Z5Y v5))] [0<=(v8:Int)/\(v8:Int)<((3:Nat):Int),Ay (Z5W v5).2.1,CH (MO v5),0<=((AB v5 2).1:Int)/\((AB v5 2).1:Int)<(([Z5E l,Z5F l].length:Nat):Int),Ay (Z5X v5).2.1,CH (MT v5),Ay (Z5Y v5).2.1,CH (.cells (AD.c (AB (AB v5 2).2 4).2) 146)] (.cons (cWr (Bp v5 2 au8 au11)) (.cons (cWr (Bp (AB v5 2).2 4 au8 au11)) (.cons (cWr (Bp (AB (AB v5 2).2 4).2 3 au8 au11)) .nil))) (.cons au19 (.cons rfl (.cons rfl (.cons au19 (.cons rfl (.cons rfl (.cons rfl (.cons rfl .nil))))))))<|AG<|AA ?_
  refine oc [(69,(Z60 v5)),(73,(Z61 v5)),(77,(Z63 v5))] [Ay (Z60 v5).2.1,CH (.cells (AD.c (Z5Z v5)) 146),Ay (Z61 v5).2.1,CH (.cells (AD.c (AB (Z5Z v5) 5).2) 146),Ay (Z63 v5).2.1,CH (.cells (AD.c (Z62 v5)) 146)] (.cons (cWr (Bp (Z5Z v5) 5 au8 au11)) (.cons (cWr (Bp (AB (Z5Z v5) 5).2 3 au8 au11)) (.cons (cWr (Bp (Z62 v5) 3 au8 au11)) .nil))) (.cons rfl (.cons rfl (.cons rfl (.cons rfl (.cons rfl (.cons rfl .nil))))))<|AG ?_
  refine oc [] [v6_4.length=v6_4.length,v6_4.length+1<=maxLen,(v6_4.length+1)*72<=140737488355328] .nil (.cons rfl (.cons au23 (.cons au23 .nil)))<|A3<|AG ?_
  refine Ap (A2 86 (Au (Am 7 AF.c v6_4) (A0 7 AF.c ([AF.mk (W64 (1+v8)) (([({ data := #[82,49] }:ByteArray),({ data := #[82,50] }:ByteArray),({ data := #[120,47,82,49] }:ByteArray)]:List ByteArray).getD v8.toNat ⟨#[]⟩) ([Z5E l,Z5F l].getD (AB v5 2).1.toNat default).Name (AE.mk (W64 ((W64 (80+(W64 (100*v8))))+(W64 (5*(AB (Z5Z v5) 5).1)))) (W64 ((W64 (100+(W64 (80*(AB (AB (Z5Z v5) 5).2 3).1))))+(W64 (5*(AB (Z62 v5) 3).1))))) (AB (AB v5 2).2 4).1 (MZ v5)]:List AF)))) ?_
  refine rg ⟨(JI l [(7,Z5P l),(8,tI (W64 (v8+1)))]),[(2,Z5D),(6,Z65 l v6_4 v8 v5),(25,Z64 v5),(31,Z5J),(86,Z66 v6_4 v8 l v5)]⟩ ?_
  (try rw [(show W64 (v8+1)=v8+1 from Az oM au6)])
  refine AG ?_
  refine ⟨(n0,v6_4++[AF.mk (W64 (1+v8)) (([({ data := #[82,49] }:ByteArray),({ data := #[82,50] }:ByteArray),({ data := #[120,47,82,49] }:ByteArray)]:List ByteArray).getD v8.toNat ⟨#[]⟩) ([Z5E l,Z5F l].getD (AB v5 2).1.toNat default).Name (AE.mk (W64 ((W64 (80+(W64 (100*v8))))+(W64 (5*(AB (Z5Z v5) 5).1)))) (W64 ((W64 (100+(W64 (80*(AB (AB (Z5Z v5) 5).2 3).1))))+(W64 (5*(AB (Z62 v5) 3).1))))) (AB (AB v5 2).2 4).1 (MZ v5)],(AB (Z62 v5) 3).2,v8+1),⟨?_,?_,(by rw [<- hF0];simp only [Cs,h1,cond_true,cond_false])⟩,Nat.lt_succ_self _,Cv.trans (vr 86 100000 hk0) (BE kr)⟩
  ·show ((W64 (1+(AB (AB (AD.mk (Aa l 2) 0) 3).2 3).1))-(v8+1)).toNat<n0;omega
  exact ⟨ax0,(by show Py [BG (Aa l 0) ({ data := #[82] }:ByteArray),BG (Aa l 1) ({ data := #[81] }:ByteArray)] (v6_4++[AF.mk (W64 (1+v8)) (([({ data := #[82,49] }:ByteArray),({ data := #[82,50] }:ByteArray),({ data := #[120,47,82,49] }:ByteArray)]:List ByteArray).getD v8.toNat ⟨#[]⟩) ([Z5E l,Z5F l].getD (AB v5 2).1.toNat default).Name (AE.mk (W64 ((W64 (80+(W64 (100*v8))))+(W64 (5*(AB (Z5Z v5) 5).1)))) (W64 ((W64 (100+(W64 (80*(AB (AB (Z5Z v5) 5).2 3).1))))+(W64 (5*(AB (Z62 v5) 3).1))))) (AB (AB v5 2).2 4).1 (MZ v5)]);first | exact Xv | exact Xw (by assumption) (QJ _ _ _ (Db _ 2 (by decide) (by decide))) | assumption),(by show B2 ((AB (Z62 v5) 3).2);repeat (first | with_reducible assumption | exact DA (Dt hll _) | with_reducible refine Bl ?_ | with_reducible refine E9 ?_ | with_reducible refine D3 ?_ | with_reducible refine Dl ?_  | with_reducible refine DK ?_ ?_)),ax0,ax0,ax0⟩
 have g1:=oF h1
 have k1:=S9 g1 (by decide) (by decide) (by decide) (by decide)
 refine BH<|A5 ?_
 refine A5<|BI ?_
 refine AG<|AA ?_
 refine oq 89 (Ex l 3) (GX l 3 au18)<|AG ?_
 refine AA<|AA ?_
 refine rn ⟨(SG l),[(2,Z5D),(6,Z5U l v6_4),(31,Z5J),(91,Z5R l),(DZ v6_4)]⟩<|AQ ?_
 refine Ap (Cv.trans (vg 100001 2 (fun _ _=>default) 65 [] [(31,[1])] hk0) (Cv.trans (vg 100002 2 (fun _ _=>default) 65 [] [(31,[3])] hk0) (Cv.trans (wg (⟨(SG l),[(100003,.row 2 0 (fun _ _=>default) 65),(100002,.row 2 0 (fun _ _=>default) 65),(100001,.row 2 0 (fun _ _=>default) 65),(2,Z5D),(6,Z5U l v6_4),(31,.rowx 2 3 (fun _ _=>default) 84 [(0,[.s ({ data := #[78,49] }:ByteArray),.own 100001 2 0]),(1,[.s ({ data := #[78,50] }:ByteArray),.own 100002 2 0]),(2,[.s ({ data := #[71,78,68] }:ByteArray),.own 100003 2 0])]),(91,Z5R l),(DZ v6_4)]⟩) 100003 2 (fun _ _=>default) 65 [] [(31,[5])] hk0) (Cv.trans (DH (⟨(SG l),[(100003,Z67),(100002,Z67),(100001,Z67),(2,Z5D),(6,Z5U l v6_4),(31,Z6w),(91,Z5R l),(DZ v6_4)]⟩) lr (.cons ⟨rfl,Ce 65 (CI 2 (fun _ _=>default) AX.c)⟩ (.cons ⟨rfl,Ce 65 (CI 2 (fun _ _=>default) AX.c)⟩ (.cons ⟨rfl,Ce 65 (CI 2 (fun _ _=>default) AX.c)⟩ (.cons ⟨rfl,.refl _⟩ (.cons ⟨rfl,.refl _⟩ (.cons ⟨rfl,.rowx _ _ _ _ (.cons ⟨rfl,(rr (.cons (.own _ _ au16) .nil))⟩ (.cons ⟨rfl,(rr (.cons (.own _ _ au16) .nil))⟩ (.cons ⟨rfl,(rr (.cons (.own _ _ au16) .nil))⟩ .nil)))⟩ lr))))))) (Cv.trans (ck (⟨(SG l),[(2,Z5D),(6,Z5U l v6_4),(31,Z6w),(91,Z5R l),(DZ v6_4),(100001,Z67),(100002,Z67),(100003,Z67)]⟩)) (Cv.refl _)))))) ?_
 refine BP (ι:=Nat×List AX×List AX×List AX×AD×Int) (fun x=>⟨(G5 l [(10,tI x.2.2.2.2.2)]),[(2,Z5D),(6,Z5U l v6_4),(31,.rowx 2 3 (fun _ _=>default) 84 [(0,[.s ({ data := #[78,49] }:ByteArray),.own 100001 2 x.2.1.length]),(1,[.s ({ data := #[78,50] }:ByteArray),.own 100002 2 x.2.2.1.length]),(2,[.s ({ data := #[71,78,68] }:ByteArray),.own 100003 2 x.2.2.2.1.length])]),(91,.cells (AD.c x.2.2.2.2.1) 146),(DZ v6_4),(100001,.row 2 x.2.1.length (AU AX.c x.2.1) 65),(100002,.row 2 x.2.2.1.length (AU AX.c x.2.2.1) 65),(100003,.row 2 x.2.2.2.1.length (AU AX.c x.2.2.2.1) 65)]⟩) (fun x=>((W64 (1+(AB (AB (AD.mk (Aa l 2) 0) 3).2 3).1))-x.2.2.2.2.2).toNat<x.1/\(Dg x.2.1 (6*x.2.2.2.2.2)/\Dg x.2.2.1 (6*x.2.2.2.2.2)/\Dg x.2.2.2.1 (6*x.2.2.2.2.2)/\B2 x.2.2.2.2.1/\0<=x.2.2.2.2.2/\(x.2.2.2.2.2<=(W64 (1+(AB (AB (AD.mk (Aa l 2) 0) 3).2 3).1))\/x.2.2.2.2.2=0))/\DV l v6_4 v5 v8 (Cs l n0) x.1 x.2.1 x.2.2.1 x.2.2.2.1 x.2.2.2.2.1 x.2.2.2.2.2=DI l) (fun x=>x.1) ?_ (((W64 (1+(AB (AB (AD.mk (Aa l 2) 0) 3).2 3).1))-0).toNat+1,([]:List AX),([]:List AX),([]:List AX),AD.mk (Aa l 3) 0,0) ⟨Nat.lt_succ_self _,⟨(by show Dg ([]:List AX) (6*0);unfold Dg at *;repeat (first | omega | exact FL oM | refine FK ?_ ?_ | (simp;done))),(by show Dg ([]:List AX) (6*0);unfold Dg at *;repeat (first | omega | exact FL oM | refine FK ?_ ?_ | (simp;done))),(by show Dg ([]:List AX) (6*0);unfold Dg at *;repeat (first | omega | exact FL oM | refine FK ?_ ?_ | (simp;done))),(by show B2 (AD.mk (Aa l 3) 0);repeat (first | with_reducible assumption | exact DA (Dt hll _) | with_reducible refine Bl ?_ | with_reducible refine E9 ?_ | with_reducible refine D3 ?_ | with_reducible refine Dl ?_  | with_reducible refine DK ?_ ?_)),ax0,ax0⟩,(by rw [<- hF0];simp only [Cs,h1,cond_true,cond_false])⟩
 rintro ⟨n1,v31_1,v31_3,v31_5,v5',v10⟩ ⟨hm1,hinv1,hF1⟩
 try dsimp only at hm1 hinv1 hF1
 cases n1 with | zero=>exact nz hm1 | succ n1 => ?_
 have hi1_0:=hinv1.1
 have hi1_1:=hinv1.2.1
 have hi1_2:=hinv1.2.2.1
 have hi1_3:=hinv1.2.2.2.1
 refine AA<|AA ?_
 refine rn ⟨(Tf l v10),[(2,Z5D),(6,Z5U l v6_4),(31,Z6x v31_1 v31_3 v31_5),(MQ v5'),(DZ v6_4),(100001,Z68 v31_1),(100002,Z69 v31_3),(100003,Z6a v31_5)]⟩ ?_
 refine AO (decide ((v10:Int)<(W64 (1+(AB (AB (AD.mk (Aa l 2) 0) 3).2 3).1)))) kr (fun h2 => ?_) (fun h2 => ?_)
 ·have g2:=oT h2
  have k2:=Ss g2 (by decide) (by decide) (by decide) (by decide)
  have kk2:=PT g2 (by decide) (by decide) (by decide) (by decide)
  refine AZ<|AG ?_
  refine AA<|AQ<|AA ?_
  refine oc [(105,LJ [Z5E l,Z5F l] (v6_4.getD v10.toNat default).Type')] [0<=(v10:Int)/\(v10:Int)<((v6_4.length:Nat):Int),v10.toNat<v6_4.length,Ay (LJ [Z5E l,Z5F l] (v6_4.getD v10.toNat default).Type').2.1] (.cons (Sj [Z5E l,Z5F l] (v6_4.getD v10.toNat default).Type' au18) .nil) (.cons au19 (.cons au19 (.cons rfl .nil)))<|AG<|AA ?_
  refine rn ⟨(G5 l [(10,tI v10),(11,tP 11 0),(13,tI 0)]),(E7 l v6_4 v10 [(31,Z6x v31_1 v31_3 v31_5),(MQ v5'),(DZ v6_4),(100001,Z68 v31_1),(100002,Z69 v31_3),(100003,Z6a v31_5)])⟩<|AQ ?_
  refine BP (ι:=Nat×List AX×List AX×List AX×AD×Int) (fun x=>⟨(G5 l [(10,tI v10),(11,tP 11 0),(13,tI x.2.2.2.2.2)]),(E7 l v6_4 v10 [(31,.rowx 2 3 (fun _ _=>default) 84 [(0,[.s ({ data := #[78,49] }:ByteArray),.own 100001 2 x.2.1.length]),(1,[.s ({ data := #[78,50] }:ByteArray),.own 100002 2 x.2.2.1.length]),(2,[.s ({ data := #[71,78,68] }:ByteArray),.own 100003 2 x.2.2.2.1.length])]),(91,.cells (AD.c x.2.2.2.2.1) 146),(DZ v6_4),(100001,.row 2 x.2.1.length (AU AX.c x.2.1) 65),(100002,.row 2 x.2.2.1.length (AU AX.c x.2.2.1) 65),(100003,.row 2 x.2.2.2.1.length (AU AX.c x.2.2.2.1) 65)])⟩) (fun x=>(((Z6d l v6_4 v10).Pads.length:Int)-x.2.2.2.2.2).toNat<x.1/\(Dg x.2.1 (6*v10+x.2.2.2.2.2)/\Dg x.2.2.1 (6*v10+x.2.2.2.2.2)/\Dg x.2.2.2.1 (6*v10+x.2.2.2.2.2)/\B2 x.2.2.2.2.1/\0<=x.2.2.2.2.2/\(x.2.2.2.2.2<=((Z6d l v6_4 v10).Pads.length:Int)\/x.2.2.2.2.2=0))/\Dn l v6_4 v5 v8 v31_1 v31_3 v31_5 v5' v10 (Cs l n0) (DV l v6_4 v5 v8 (Cs l n0) n1) x.1 x.2.1 x.2.2.1 x.2.2.2.1 x.2.2.2.2.1 x.2.2.2.2.2=DI l) (fun x=>x.1) ?_ ((((Z6d l v6_4 v10).Pads.length:Int)-0).toNat+1,v31_1,v31_3,v31_5,v5',0) ⟨Nat.lt_succ_self _,⟨(by show Dg v31_1 (6*v10+0);unfold Dg at *;repeat (first | omega | exact FL oM | refine FK ?_ ?_ | (simp;done))),(by show Dg v31_3 (6*v10+0);unfold Dg at *;repeat (first | omega | exact FL oM | refine FK ?_ ?_ | (simp;done))),(by show Dg v31_5 (6*v10+0);unfold Dg at *;repeat (first | omega | exact FL oM | refine FK ?_ ?_ | (simp;done))),(by show B2 v5';repeat (first | with_reducible assumption | exact DA (Dt hll _) | with_reducible refine Bl ?_ | with_reducible refine E9 ?_ | with_reducible refine D3 ?_ | with_reducible refine Dl ?_  | with_reducible refine DK ?_ ?_)),ax0,ax0⟩,(by rw [<- hF1];simp only [DV,h2,cond_true,cond_false])⟩
  rintro ⟨n2,v31_1',v31_3',v31_5',v5'',v13⟩ ⟨hm2,hinv2,hF2⟩
  try dsimp only at hm2 hinv2 hF2
  cases n2 with | zero=>exact nz hm2 | succ n2 => ?_
  have hi2_0:=hinv2.1
  have hi2_1:=hinv2.2.1
  have hi2_2:=hinv2.2.2.1
  have hi2_3:=hinv2.2.2.2.1
  have hp6:((Z6d l v6_4 v10).Pads.length:Int)<=6:=(hi0_1 v10 oM oM).2
  refine AA<|AA ?_
  refine rn ⟨(G5 l [(10,tI v10),(11,tP 11 0),(13,tI v13),(112,tB (decide ((v13:Int)<((Z6d l v6_4 v10).Pads.length:Int))))]),(E7 l v6_4 v10 [(31,Z6y v31_1' v31_3' v31_5'),(91,.cells (AD.c v5'') 146),(DZ v6_4),(100001,Z6f v31_1'),(100002,Z6g v31_3'),(100003,Z6h v31_5')])⟩ ?_
  refine AO _ rfl (fun h3 => ?_) (fun h3 => ?_)
  ·have g3:=oT h3
   refine AZ<|AG<|AA ?_
   refine B4 (⟨[(0,.av (oL l)),(2,tP 2 0),(4,tO (lst 3 AV.c [Z5E l,Z5F l])),(5,tP 91 0),(6,tP 6 0),(7,tI (W64 (1+(AB (G7 l).2 3).1))),(10,tI v10),(11,tP 11 0),(13,tI v13)],[(2,.cells Gg 40),(6,.cells [.i 2,.i (Z5M l).Kind,lst 7 AN.c (Z5M l).Edges,.i (Z5M l).R,.own 100000 7 v6_4.length,.own 31 2 3,vN,vN,vN,vN,vN,vN,vN,vN,vN] 40),(11,.cells (AV.c (Z6d l v6_4 v10)) 61),(31,.rowx 2 3 (fun _ _=>default) 84 [(0,[.s ({ data := #[78,49] }:ByteArray),.own 100004 2 (Z6m v5'' v31_1' v6_4 v10 l v13).length]),(1,[.s ({ data := #[78,50] }:ByteArray),.own 100005 2 (Z6n v5'' v31_3' v6_4 v10 l v13).length]),(2,[.s ({ data := #[71,78,68] }:ByteArray),.own 100006 2 (Z6o v5'' v31_5' v6_4 v10 l v13).length])]),(HX v5''),(100000,.row 7 v6_4.length (AU AF.c v6_4) 49),(100004,.row 2 (Z6m v5'' v31_1' v6_4 v10 l v13).length (AU AX.c (Z6m v5'' v31_1' v6_4 v10 l v13)) 65),(100005,.row 2 (Z6n v5'' v31_3' v6_4 v10 l v13).length (AU AX.c (Z6n v5'' v31_3' v6_4 v10 l v13)) 65),(100006,.row 2 (Z6o v5'' v31_5' v6_4 v10 l v13).length (AU AX.c (Z6o v5'' v31_5' v6_4 v10 l v13)) 65)]⟩) ?_ ?_
   ·refine AQ<|AA ?_
    refine rb 116 (Z6i v5'') (.cells (AD.c v5'') 146) ⟨(G5 l [(10,tI v10),(11,tP 11 0),(13,tI v13),(14,tI (AB v5'' 5).1)]),(E7 l v6_4 v10 [(31,Z6y v31_1' v31_3' v31_5'),(HX v5''),(DZ v6_4),(100001,Z6f v31_1'),(100002,Z6g v31_3'),(100003,Z6h v31_5')])⟩ (cWr (Bp v5'' 5 au8 au11))<|AG<|AA ?_
    refine rn ⟨(G5 l [(10,tI v10),(11,tP 11 0),(13,tI v13),(14,tI (AB v5'' 5).1),(118,tB (decide (((AB v5'' 5).1:Int)<3)))]),(E7 l v6_4 v10 [(31,Z6y v31_1' v31_3' v31_5'),(HX v5''),(DZ v6_4),(100001,Z6f v31_1'),(100002,Z6g v31_3'),(100003,Z6h v31_5')])⟩ ?_
    refine AO _ rfl (fun h4 => ?_) (fun h4 => ?_)
    ·have g4:=oT h4
     refine Nb (decide (((AB v5'' 5).1:Int)=0)) (fun h5 => ?_) (fun h5 => ?_)
     ·have g5:=oT h5
      (try rw [g5])
      refine dw [] [] [0<=(0:Int)/\(0:Int)<((3:Nat):Int),0<=(v10:Int)/\(v10:Int)<((v6_4.length:Nat):Int),v10.toNat<v6_4.length,0<=(v13:Int)/\(v13:Int)<(((Z6d l v6_4 v10).Pads.length:Nat):Int),v31_1'.length=v31_1'.length,v31_1'.length+1<=maxLen,(v31_1'.length+1)*32<=140737488355328,0<=(0:Int)/\(0:Int)<((3:Nat):Int)] ⟨(KM l v10 v13),(E7 l v6_4 v10 [(31,.rowx 2 3 (fun _ _=>default) 84 [(0,[.s ({ data := #[78,49] }:ByteArray),.own 142 2 (v31_1'.length+1)]),(1,[.s ({ data := #[78,50] }:ByteArray),.own 100002 2 v31_3'.length]),(2,[.s ({ data := #[71,78,68] }:ByteArray),.own 100003 2 v31_5'.length])]),(HX v5''),(142,.row 2 (v31_1'.length+1) (fun i_ j_=>if i_<v31_1'.length then (AU AX.c v31_1') i_ j_ else (Va v6_4 v10 l v13) (i_-v31_1'.length) j_) 65),(DZ v6_4),(100002,Z6g v31_3'),(100003,Z6h v31_5')])⟩ .nil (.cons au19 (.cons au19 (.cons au19 (.cons au19 (.cons rfl (.cons au23 (.cons au23 (.cons au19 .nil))))))))<|A3<|AG ?_
      refine Cv.trans (DH (⟨(KM l v10 v13),(E7 l v6_4 v10 [(31,.rowx 2 3 (fun _ _=>default) 84 [(0,[.s ({ data := #[78,49] }:ByteArray),.own 142 2 (v31_1'++(I8 v6_4 v10 l v13)).length]),(1,[.s ({ data := #[78,50] }:ByteArray),.own 100002 2 v31_3'.length]),(2,[.s ({ data := #[71,78,68] }:ByteArray),.own 100003 2 v31_5'.length])]),(HX v5''),(142,Z6j v31_1' v6_4 v10 l v13),(DZ v6_4),(100002,Z6g v31_3'),(100003,Z6h v31_5')])⟩) lr (.cons ⟨rfl,.refl _⟩ (.cons ⟨rfl,.refl _⟩ (.cons ⟨rfl,.refl _⟩ (.cons ⟨rfl,.rowx _ _ _ _ (.cons ⟨rfl,(rr (.cons (.own _ _ au16) .nil))⟩ (.cons ⟨rfl,(rr2 .nil)⟩ (.cons ⟨rfl,(rr2 .nil)⟩ .nil)))⟩ (.cons ⟨rfl,.refl _⟩ (.cons ⟨rfl,Ce 65 (Au (Am 2 AX.c v31_1') (Bd (c:=AX.c) (xs:=([AX.mk (v6_4.getD v10.toNat default).Ref ((Z6d l v6_4 v10).Pads.getD v13.toNat default).Name]:List AX)) rfl kr))⟩ lr))))))) (Cv.trans (vr 142 100004 hk0) (Cv.trans (vr 100002 100005 hk0) (Cv.trans (vr 100003 100006 hk0) (Cv.trans (ck (⟨(KM l v10 v13),(E7 l v6_4 v10 [(31,Z6z v31_1' v6_4 v10 l v13 v31_3' v31_5'),(HX v5''),(DZ v6_4),(100004,Z6j v31_1' v6_4 v10 l v13),(100005,Z6g v31_3'),(100006,Z6h v31_5')])⟩)) (BE ?_)))))
      first | rfl | (simp only [h4,h5,Z6m,Z6n,Z6o,cond_true,cond_false] <;> rfl)
     have g5:=oF h5
     refine Nb (decide (((AB v5'' 5).1:Int)=1)) (fun h6 => ?_) (fun h6 => ?_)
     ·have g6:=oT h6
      (try rw [g6])
      refine dw [] [] [0<=(1:Int)/\(1:Int)<((3:Nat):Int),0<=(v10:Int)/\(v10:Int)<((v6_4.length:Nat):Int),v10.toNat<v6_4.length,0<=(v13:Int)/\(v13:Int)<(((Z6d l v6_4 v10).Pads.length:Nat):Int),v31_3'.length=v31_3'.length,v31_3'.length+1<=maxLen,(v31_3'.length+1)*32<=140737488355328,0<=(1:Int)/\(1:Int)<((3:Nat):Int)] ⟨(KM l v10 v13),(E7 l v6_4 v10 [(31,.rowx 2 3 (fun _ _=>default) 84 [(0,[.s ({ data := #[78,49] }:ByteArray),.own 100001 2 v31_1'.length]),(1,[.s ({ data := #[78,50] }:ByteArray),.own 142 2 (v31_3'.length+1)]),(2,[.s ({ data := #[71,78,68] }:ByteArray),.own 100003 2 v31_5'.length])]),(HX v5''),(142,.row 2 (v31_3'.length+1) (fun i_ j_=>if i_<v31_3'.length then (AU AX.c v31_3') i_ j_ else (Va v6_4 v10 l v13) (i_-v31_3'.length) j_) 65),(DZ v6_4),(100001,Z6f v31_1'),(100003,Z6h v31_5')])⟩ .nil (.cons au19 (.cons au19 (.cons au19 (.cons au19 (.cons rfl (.cons au23 (.cons au23 (.cons au19 .nil))))))))<|A3<|AG ?_
      refine Cv.trans (DH (⟨(KM l v10 v13),(E7 l v6_4 v10 [(31,.rowx 2 3 (fun _ _=>default) 84 [(0,[.s ({ data := #[78,49] }:ByteArray),.own 100001 2 v31_1'.length]),(1,[.s ({ data := #[78,50] }:ByteArray),.own 142 2 (v31_3'++(I8 v6_4 v10 l v13)).length]),(2,[.s ({ data := #[71,78,68] }:ByteArray),.own 100003 2 v31_5'.length])]),(HX v5''),(142,Z6k v31_3' v6_4 v10 l v13),(DZ v6_4),(100001,Z6f v31_1'),(100003,Z6h v31_5')])⟩) lr (.cons ⟨rfl,.refl _⟩ (.cons ⟨rfl,.refl _⟩ (.cons ⟨rfl,.refl _⟩ (.cons ⟨rfl,.rowx _ _ _ _ (.cons ⟨rfl,(rr2 .nil)⟩ (.cons ⟨rfl,(rr (.cons (.own _ _ au16) .nil))⟩ (.cons ⟨rfl,(rr2 .nil)⟩ .nil)))⟩ (.cons ⟨rfl,.refl _⟩ (.cons ⟨rfl,Ce 65 (Au (Am 2 AX.c v31_3') (Bd (c:=AX.c) (xs:=([AX.mk (v6_4.getD v10.toNat default).Ref ((Z6d l v6_4 v10).Pads.getD v13.toNat default).Name]:List AX)) rfl kr))⟩ lr))))))) (Cv.trans (vr 100001 100004 hk0) (Cv.trans (vr 142 100005 hk0) (Cv.trans (vr 100003 100006 hk0) (Cv.trans (ck (⟨(KM l v10 v13),(E7 l v6_4 v10 [(31,Z6A v31_1' v31_3' v6_4 v10 l v13 v31_5'),(HX v5''),(DZ v6_4),(100004,Z6f v31_1'),(100005,Z6k v31_3' v6_4 v10 l v13),(100006,Z6h v31_5')])⟩)) (BE ?_)))))
      first | rfl | (simp only [h4,h5,h6,Z6m,Z6n,Z6o,cond_true,cond_false] <;> rfl)
     have g6:=oF h6
     have g7:((AB v5'' 5).1:Int)=2:=ZJ (by with_reducible assumption) (by with_reducible assumption) (by with_reducible assumption)
     (try rw [g7])
     refine dw [] [] [0<=(2:Int)/\(2:Int)<((3:Nat):Int),0<=(v10:Int)/\(v10:Int)<((v6_4.length:Nat):Int),v10.toNat<v6_4.length,0<=(v13:Int)/\(v13:Int)<(((Z6d l v6_4 v10).Pads.length:Nat):Int),v31_5'.length=v31_5'.length,v31_5'.length+1<=maxLen,(v31_5'.length+1)*32<=140737488355328,0<=(2:Int)/\(2:Int)<((3:Nat):Int)] ⟨(KM l v10 v13),(E7 l v6_4 v10 [(31,.rowx 2 3 (fun _ _=>default) 84 [(0,[.s ({ data := #[78,49] }:ByteArray),.own 100001 2 v31_1'.length]),(1,[.s ({ data := #[78,50] }:ByteArray),.own 100002 2 v31_3'.length]),(2,[.s ({ data := #[71,78,68] }:ByteArray),.own 142 2 (v31_5'.length+1)])]),(HX v5''),(142,.row 2 (v31_5'.length+1) (fun i_ j_=>if i_<v31_5'.length then (AU AX.c v31_5') i_ j_ else (Va v6_4 v10 l v13) (i_-v31_5'.length) j_) 65),(DZ v6_4),(100001,Z6f v31_1'),(100002,Z6g v31_3')])⟩ .nil (.cons au19 (.cons au19 (.cons au19 (.cons au19 (.cons rfl (.cons au23 (.cons au23 (.cons au19 .nil))))))))<|A3<|AG ?_
     refine Cv.trans (DH (⟨(KM l v10 v13),(E7 l v6_4 v10 [(31,.rowx 2 3 (fun _ _=>default) 84 [(0,[.s ({ data := #[78,49] }:ByteArray),.own 100001 2 v31_1'.length]),(1,[.s ({ data := #[78,50] }:ByteArray),.own 100002 2 v31_3'.length]),(2,[.s ({ data := #[71,78,68] }:ByteArray),.own 142 2 (v31_5'++(I8 v6_4 v10 l v13)).length])]),(HX v5''),(142,Z6l v31_5' v6_4 v10 l v13),(DZ v6_4),(100001,Z6f v31_1'),(100002,Z6g v31_3')])⟩) lr (.cons ⟨rfl,.refl _⟩ (.cons ⟨rfl,.refl _⟩ (.cons ⟨rfl,.refl _⟩ (.cons ⟨rfl,.rowx _ _ _ _ (.cons ⟨rfl,(rr2 .nil)⟩ (.cons ⟨rfl,(rr2 .nil)⟩ (.cons ⟨rfl,(rr (.cons (.own _ _ au16) .nil))⟩ .nil)))⟩ (.cons ⟨rfl,.refl _⟩ (.cons ⟨rfl,Ce 65 (Au (Am 2 AX.c v31_5') (Bd (c:=AX.c) (xs:=([AX.mk (v6_4.getD v10.toNat default).Ref ((Z6d l v6_4 v10).Pads.getD v13.toNat default).Name]:List AX)) rfl kr))⟩ lr))))))) (Cv.trans (vr 100001 100004 hk0) (Cv.trans (vr 100002 100005 hk0) (Cv.trans (vr 142 100006 hk0) (Cv.trans (ck (⟨(KM l v10 v13),(E7 l v6_4 v10 [(31,Z6B v31_1' v31_3' v31_5' v6_4 v10 l v13),(HX v5''),(DZ v6_4),(100004,Z6f v31_1'),(100005,Z6g v31_3'),(100006,Z6l v31_5' v6_4 v10 l v13)])⟩)) (BE ?_)))))
     first | rfl | (simp only [h4,h5,h6,Z6m,Z6n,Z6o,cond_true,cond_false] <;> rfl)
    refine AZ<|A3<|AG ?_
    refine Cv.trans (vk [0,2,4,5,6,7,10,11,13] [2,6,11,31,91,100000,100001,100002,100003]) (Cv.trans (vr 100001 100004 hk0) (Cv.trans (vr 100002 100005 hk0) (Cv.trans (wr (⟨(KM l v10 v13),(E7 l v6_4 v10 [(31,.rowx 2 3 (fun _ _=>default) 84 [(0,[.s ({ data := #[78,49] }:ByteArray),.own 100004 2 v31_1'.length]),(1,[.s ({ data := #[78,50] }:ByteArray),.own 100005 2 v31_3'.length]),(2,[.s ({ data := #[71,78,68] }:ByteArray),.own 100006 2 v31_5'.length])]),(HX v5''),(DZ v6_4),(100004,Z6f v31_1'),(100005,Z6g v31_3'),(100006,Z6h v31_5')])⟩) 100003 100006 hk0) (BE ?_))))
    first | rfl | (simp only [h4,Z6m,Z6n,Z6o,cond_true,cond_false] <;> rfl)
   refine rg ⟨(G5 l [(10,tI v10),(11,tP 11 0),(13,tI (W64 (v13+1)))]),(E7 l v6_4 v10 [(31,.rowx 2 3 (fun _ _=>default) 84 [(0,[.s ({ data := #[78,49] }:ByteArray),.own 100004 2 (Z6m v5'' v31_1' v6_4 v10 l v13).length]),(1,[.s ({ data := #[78,50] }:ByteArray),.own 100005 2 (Z6n v5'' v31_3' v6_4 v10 l v13).length]),(2,[.s ({ data := #[71,78,68] }:ByteArray),.own 100006 2 (Z6o v5'' v31_5' v6_4 v10 l v13).length])]),(HX v5''),(DZ v6_4),(100004,Z6p v5'' v31_1' v6_4 v10 l v13),(100005,Z6q v5'' v31_3' v6_4 v10 l v13),(100006,Z6r v5'' v31_5' v6_4 v10 l v13)])⟩ ?_
   (try rw [(show W64 (v13+1)=v13+1 from Az oM au6)])
   refine AG ?_
   refine ⟨(n2,Z6m v5'' v31_1' v6_4 v10 l v13,Z6n v5'' v31_3' v6_4 v10 l v13,Z6o v5'' v31_5' v6_4 v10 l v13,(AB v5'' 5).2,v13+1),⟨?_,?_,(by rw [<- hF2];simp only [Dn,h3,cond_true,cond_false])⟩,Nat.lt_succ_self _,Cv.trans (vr 100004 100001 hk0) (Cv.trans (vr 100005 100002 hk0) (Cv.trans (vr 100006 100003 hk0) (BE kr)))⟩
   ·show (((Z6d l v6_4 v10).Pads.length:Int)-(v13+1)).toNat<n2;omega
   exact ⟨(by show Dg (Z6m v5'' v31_1' v6_4 v10 l v13) (6*v10+(v13+1));unfold Dg at *;repeat (first | omega | exact FL oM | refine FK ?_ ?_ | (simp;done))),(by show Dg (Z6n v5'' v31_3' v6_4 v10 l v13) (6*v10+(v13+1));unfold Dg at *;repeat (first | omega | exact FL oM | refine FK ?_ ?_ | (simp;done))),(by show Dg (Z6o v5'' v31_5' v6_4 v10 l v13) (6*v10+(v13+1));unfold Dg at *;repeat (first | omega | exact FL oM | refine FK ?_ ?_ | (simp;done))),(by show B2 ((AB v5'' 5).2);repeat (first | with_reducible assumption | exact DA (Dt hll _) | with_reducible refine Bl ?_ | with_reducible refine E9 ?_ | with_reducible refine D3 ?_ | with_reducible refine Dl ?_  | with_reducible refine DK ?_ ?_)),ax0,ax0⟩
  have g3:=oF h3
  refine BH<|A5 ?_
  refine A5<|BI ?_
  refine A3<|AG ?_
  refine rg ⟨(G5 l [(10,tI (W64 (v10+1)))]),[(2,Z5D),(6,Z5U l v6_4),(31,Z6y v31_1' v31_3' v31_5'),(91,.cells (AD.c v5'') 146),(DZ v6_4),(100001,Z6f v31_1'),(100002,Z6g v31_3'),(100003,Z6h v31_5')]⟩ ?_
  (try rw [(show W64 (v10+1)=v10+1 from Az oM au6)])
  refine AG ?_
  refine ⟨(n1,v31_1',v31_3',v31_5',v5'',v10+1),⟨?_,?_,(by rw [<- hF2];simp only [Dn,h3,cond_true,cond_false])⟩,Nat.lt_succ_self _,BE kr⟩
  ·show ((W64 (1+(AB (AB (AD.mk (Aa l 2) 0) 3).2 3).1))-(v10+1)).toNat<n1;omega
  exact ⟨(by show Dg v31_1' (6*(v10+1));unfold Dg at *;repeat (first | omega | exact FL oM | refine FK ?_ ?_ | (simp;done))),(by show Dg v31_3' (6*(v10+1));unfold Dg at *;repeat (first | omega | exact FL oM | refine FK ?_ ?_ | (simp;done))),(by show Dg v31_5' (6*(v10+1));unfold Dg at *;repeat (first | omega | exact FL oM | refine FK ?_ ?_ | (simp;done))),(by show B2 v5'';repeat (first | with_reducible assumption | exact DA (Dt hll _) | with_reducible refine Bl ?_ | with_reducible refine E9 ?_ | with_reducible refine D3 ?_ | with_reducible refine Dl ?_  | with_reducible refine DK ?_ ?_)),ax0,ax0⟩
 have g2:=oF h2
 have k2:=S9 g2 (by decide) (by decide) (by decide) (by decide)
 refine BH<|A5 ?_
 refine A5<|BI ?_
 refine AG<|AA ?_
 refine Ap (Cv.trans (H6 (⟨(Tf l v10),[(2,Z5D),(6,Z6b l v6_4),(31,Z6x v31_1 v31_3 v31_5),(MQ v5'),(100001,Z68 v31_1),(100002,Z69 v31_3),(100003,Z6a v31_5)]⟩) 100000 hk0) (Cv.refl _)) ?_
 refine Ap (Cv.trans (vf 100001 hk0) (Cv.trans (vf 100002 hk0) (Cv.trans (H6 (⟨(Tf l v10),[(2,Z5D),(6,Z6b l v6_4),(31,.rowx 2 3 (fun _ _=>default) 84 [(0,[.s ({ data := #[78,49] }:ByteArray),lst 2 AX.c v31_1]),(1,[.s ({ data := #[78,50] }:ByteArray),lst 2 AX.c v31_3]),(2,[.s ({ data := #[71,78,68] }:ByteArray),lst 2 AX.c v31_5])]),(MQ v5')]⟩) 100003 hk0) (Cv.trans (HK (⟨(Tf l v10),[(2,Z5D),(6,Z6b l v6_4),(31,.row 2 3 (BB 2 3 [.s ({ data := #[78,49] }:ByteArray),lst 2 AX.c v31_1,.s ({ data := #[78,50] }:ByteArray),lst 2 AX.c v31_3,.s ({ data := #[71,78,68] }:ByteArray),lst 2 AX.c v31_5]) 84),(MQ v5')]⟩) 31 2 3 (fun _ _=>default) 84 [[.s ({ data := #[78,49] }:ByteArray),lst 2 AX.c v31_1],[.s ({ data := #[78,50] }:ByteArray),lst 2 AX.c v31_3],[.s ({ data := #[71,78,68] }:ByteArray),lst 2 AX.c v31_5]] kr kr kr kr) (Cv.trans (A2 31 (A0 2 BA.c ([BA.mk ({ data := #[78,49] }:ByteArray) v31_1,BA.mk ({ data := #[78,50] }:ByteArray) v31_3,BA.mk ({ data := #[71,78,68] }:ByteArray) v31_5]:List BA))) (Cv.trans (H6 (⟨(Tf l v10),[(2,Z5D),(6,.cells (IJ l [lst 7 AF.c v6_4,lst 2 BA.c [BA.mk ({ data := #[78,49] }:ByteArray) v31_1,BA.mk ({ data := #[78,50] }:ByteArray) v31_3,BA.mk ({ data := #[71,78,68] }:ByteArray) v31_5],vN,vN,vN,vN,vN,vN,vN,vN,vN]) 40),(MQ v5')]⟩) 31 hk0) (Cv.refl _))))))) ?_
 refine rb 147 (Z6t l v6_4 v31_1 v31_3 v31_5) (.cells (IJ l [lst 7 AF.c v6_4,lst 2 BA.c [BA.mk ({ data := #[78,49] }:ByteArray) v31_1,BA.mk ({ data := #[78,50] }:ByteArray) v31_3,BA.mk ({ data := #[71,78,68] }:ByteArray) v31_5],vN,vN,vN,vN,vN,vN,vN,vN,vN]) 40) ⟨[(0,Z5C l),(2,tP 2 0),(4,Z5G l),(6,tP 6 0)],[(2,Z5D),(6,.cells (Xh l v6_4 v31_1 v31_3 v31_5) 40)]⟩ (cWr (WS (AC.mk 2 (Z5M l) v6_4 [BA.mk ({ data := #[78,49] }:ByteArray) v31_1,BA.mk ({ data := #[78,50] }:ByteArray) v31_3,BA.mk ({ data := #[71,78,68] }:ByteArray) v31_5] [] [] [] [] [] [] [] [] []) [Z5E l,Z5F l] l au18 au18 au18 au18 au18 au18))<|AG<|AA ?_
 refine oc [(149,Ex l 7),(152,(Z6v l v6_4 v31_1 v31_3 v31_5))] [Ay (Ex l 7).2.1,Ay (Z6v l v6_4 v31_1 v31_3 v31_5).2.1,TU [.cells (Xh l v6_4 v31_1 v31_3 v31_5) 40,.cells [lst 1 eIn (Aa l 7),.i 0] 146]] (.cons (GX l 7 au18) (.cons (XJ (fun _ _=>kr) kr rfl rfl kr kr (dD (AC.mk (Z6s l v6_4 v31_1 v31_3 v31_5).Layers (Z6s l v6_4 v31_1 v31_3 v31_5).Outline (Z6s l v6_4 v31_1 v31_3 v31_5).Parts (Z6s l v6_4 v31_1 v31_3 v31_5).Nets (Z6s l v6_4 v31_1 v31_3 v31_5).Tracks (Z6s l v6_4 v31_1 v31_3 v31_5).Vias (Z6s l v6_4 v31_1 v31_3 v31_5).Pours (Z6s l v6_4 v31_1 v31_3 v31_5).Keeps (Z6s l v6_4 v31_1 v31_3 v31_5).Slots [] [] [] []) (AD.mk (Aa l 7) 0) au8 au18 au18 au18 au18 au18 au18 au18)) .nil)) (.cons rfl (.cons rfl (.cons rfl .nil)))<|AG<|AA ?_
 refine on<|AY ?_
 exact zl (by rw [<- hF1];simp only [DV,h2,cond_true,cond_false] <;> kernel_rfl)
theorem dY (l:(List (List Int))) (hl:(l.length:Int)<=9223372036854775807) (hll:∀ x∈l,(x.length:Int)<=9223372036854775807):OKc (N0 l):=cPu<|kH l hl hll
end
abbrev nN1:ByteArray:={ data := #[78,49] }
abbrev nN2:ByteArray:={ data := #[78,50] }
abbrev kX:ByteArray:={ data := #[71,78,68] }
structure IC (B:AC):Prop where
 lay:B.Layers=2
 par:1<=(B.Parts.length:Int)/\(B.Parts.length:Int)<=3
 net:∃ p q r,B.Nets=[BA.mk nN1 p,BA.mk nN2 q,BA.mk kX r]
 trk:(B.Tracks.length:Int)<=6
 edg:∀ t∈B.Tracks,(t.Shape.Edges.length:Int)<=2
 via:(B.Vias.length:Int)<=3
 pou:(B.Pours.length:Int)<=2
 kee:(B.Keeps.length:Int)<=1
 slo:(B.Slots.length:Int)<=1
theorem pI {α:Type} {c:Bool} {a b:AC×α} (h:IC a.1) (k:IC b.1):IC (bif c then a else b).1:=by cases c <;> assumption
theorem jD {b:AC} {d:AD} (h:IC b):IC (DB b d).1:=by
 unfold DB
 obtain ⟨h1,h2,h3,h4,h5,h6,h7,h8,h9⟩:=h
 exact pI ⟨h1,h2,h3,h4,h5,h6,h7,h8,h9⟩ ⟨h1,h2,h3,h4,h5,h6,h7,h8,h9⟩
theorem pB {b:AC} {types:List AV} {l:List (List Int)} {x y z w:List Unit} (h1:b.Layers=2) (h2:1<=(b.Parts.length:Int)/\(b.Parts.length:Int)<=3) (h3:∃ p q r,b.Nets=[BA.mk nN1 p,BA.mk nN2 q,BA.mk kX r]) {c:List BS} {ru:List A1} {wa:List BM} {ma:List Bb} :
  IC (AC.mk (Ba b types l).Layers (Ba b types l).Outline (Ba b types l).Parts (Ba b types l).Nets (Ba b types l).Tracks (Ba b types l).Vias (Ba b types l).Pours (Ba b types l).Keeps (Ba b types l).Slots c ru wa ma):=by
 obtain ⟨k1,k2,k3,k4,k5,k6,k7,k8,k9,k10⟩:=Gv b types l
 exact ⟨k1.trans h1,by show 1<=((Ba b types l).Parts.length:Int)/\((Ba b types l).Parts.length:Int)<=3;rw [k3];exact h2,by rw [<- k4] at h3;exact h3,k5,k6,k7,k8,k9,k10⟩
theorem YE (l:List (List Int)) (v6_4:List AF) (v5:AD) (v8:Int) (a1 a3 a5:List AX) (d1:AD) (v10:Int) (K0:List AF->AD->Int->(AC×(List AV))) (K1:List AX->List AX->List AX->AD->Int->(AC×(List AV))) (hK:∀ a b c d,IC (K1 a b c d (v10+1)).1):∀ (n:Nat) (x y z:List AX) (d:AD) (k:Int),0<=k->(((Bs [BG (Aa l 0) ({ data := #[82] }:ByteArray),BG (Aa l 1) ({ data := #[81] }:ByteArray)] (v6_4.getD v10.toNat default).Type').1.Pads.length:Int)-k).toNat<n->IC (Dn l v6_4 v5 v8 a1 a3 a5 d1 v10 K0 K1 n x y z d k).1
 | 0,x,y,z,d,k,_,h=>absurd h (Nat.not_lt_zero _)
 | n+1,x,y,z,d,k,k0,h=>by
  unfold Dn
  show IC (bif decide ((k:Int)<((Bs [BG (Aa l 0) ({ data := #[82] }:ByteArray),BG (Aa l 1) ({ data := #[81] }:ByteArray)] (v6_4.getD v10.toNat default).Type').1.Pads.length:Int)) then (_:AC×List AV) else _).1
  by_cases hc:(k:Int)<((Bs [BG (Aa l 0) ({ data := #[82] }:ByteArray),BG (Aa l 1) ({ data := #[81] }:ByteArray)] (v6_4.getD v10.toNat default).Type').1.Pads.length:Int)
  ·rw [decide_eq_true hc]
   exact YE l v6_4 v5 v8 a1 a3 a5 d1 v10 K0 K1 hK n _ _ _ _ _ (by omega) (by omega)
  rw [decide_eq_false hc]
  exact hK _ _ _ _
theorem YF (l:List (List Int)) (v6_4:List AF) (v5:AD) (v8:Int) (K0:List AF->AD->Int->(AC×(List AV))) (hp:1<=(v6_4.length:Int)/\(v6_4.length:Int)<=3):∀ (n:Nat) (x y z:List AX) (d:AD) (k:Int),0<=k->(W64 (1+(AB (AB (AD.mk (Aa l 2) 0) 3).2 3).1)-k).toNat<n->IC (DV l v6_4 v5 v8 K0 n x y z d k).1
 | 0,x,y,z,d,k,_,h=>absurd h (Nat.not_lt_zero _)
 | n+1,x,y,z,d,k,k0,h=>by
  unfold DV
  by_cases hc:k<W64 (1+(AB (AB (AD.mk (Aa l 2) 0) 3).2 3).1)
  ·simp only [hc,decide_true,cond_true]
   exact YE l v6_4 v5 v8 x y z d k K0 _ (fun a b c e=>YF l v6_4 v5 v8 K0 hp n a b c e (k+1) (by omega) (by omega)) _ _ _ _ _ 0 (by omega) (Nat.lt_succ_self _)
  simp only [hc,decide_false,cond_false]
  exact jD (pB (x:=[]) (y:=[]) (z:=[]) (w:=[]) rfl hp ⟨_,_,_,rfl⟩)
theorem YG (l:List (List Int)):∀ (n:Nat) (v:List AF) (d:AD) (k:Int),0<=k->(v.length:Int)=k->k<=W64 (1+(AB (AB (AD.mk (Aa l 2) 0) 3).2 3).1)->(W64 (1+(AB (AB (AD.mk (Aa l 2) 0) 3).2 3).1)-k).toNat<n->IC (Cs l n v d k).1
 | 0,v,d,k,_,_,_,h=>absurd h (Nat.not_lt_zero _)
 | n+1,v,d,k,k0,kv,k1,h=>by
  have hmany:1<=W64 (1+(AB (AB (AD.mk (Aa l 2) 0) 3).2 3).1)/\W64 (1+(AB (AB (AD.mk (Aa l 2) 0) 3).2 3).1)<=3:=by
   have:=Db (AB (AD.mk (Aa l 2) 0) 3).2 3 (by decide) (by decide)
   rw [Az (by omega) (by omega)];omega
  unfold Cs
  by_cases hc:k<W64 (1+(AB (AB (AD.mk (Aa l 2) 0) 3).2 3).1)
  ·simp only [hc,decide_true,cond_true]
   exact YG l n _ _ _ (by omega) (by simp only [List.length_append,List.length_cons,List.length_nil];omega) (by omega) (by omega)
  simp only [hc,decide_false,cond_false]
  exact YF l v d k _ (by omega) _ _ _ _ _ 0 (by omega) (Nat.lt_succ_self _)
theorem pL (l:List (List Int)):IC (DI l).1:=by
 have hmany:1<=W64 (1+(AB (AB (AD.mk (Aa l 2) 0) 3).2 3).1):=by
  have:=Db (AB (AD.mk (Aa l 2) 0) 3).2 3 (by decide) (by decide)
  rw [Az (by omega) (by omega)];omega
 unfold DI
 exact YG l _ _ _ 0 (by omega) rfl (by omega) (Nat.lt_succ_self _)
section
open Go.RowKit
def Bm (op:Int) (tx:ByteArray) (n:Int) (bx:Al):Bt:=Bt.mk op tx n bx (OpL.mk 0 (fun _ _=>default))
abbrev KL:Nat×Blk:=(2,.cells [.i 0,.s (⟨#[]⟩),.i 0,.i 0,.i 0,.i 0,.i 0,vN] 107)
variable (xop:Int) (xtx:ByteArray) (xn op yop:Int) (tx:ByteArray) (xbx:Al) (ytx:ByteArray) (n yn:Int) (bx:Al) (c:Bt) (f:Nat->Cl) (ybx:Al)
abbrev IG (t_:List Cl):List Cl:=(.i op)::(.s tx)::(.i n)::(.i bx.X0)::(.i bx.Y0)::(.i bx.X1)::(.i bx.Y1)::t_
abbrev MY:List Cl:=(IG op tx n bx [vN])
theorem Se  (op:Int) (tx:ByteArray) (n:Int) (bx:Al):GE Tryz.prog 53 [.agg [.i op,.s tx,.i n,.i bx.X0,.i bx.Y0,.i bx.X1,.i bx.Y1,vN]] (.av (.agg (Bt.c (Bm op tx n bx)))):=by
 refine pwf Tryz.func53 fun W0 M0 => ?_
 refine AA<|on<|AA ?_
 refine on<|AA ?_
 refine on ?_
 refine AA<|AA ?_
 refine rn ⟨[(1,tP 1 0),(2,tP 2 0),(3,.av (.one vN)),(4,tI 0)],[(1,.cells (MY op tx n bx) 107),KL]⟩<|AQ ?_
 refine Di 1 ?_
 refine Bu<|AA<|AA ?_
 refine on ?_
 refine Ar kr<|BH ?_
 refine A5<|A5 ?_
 refine BI<|AG<|AA ?_
 refine on<|AY ?_
 exact xl (.av (.agg (MY op tx n bx))) (DS (y:=.av (.agg (IG op tx n bx [opL (OpL.mk 0 (fun _ _=>default))]))) (.av (.agg (rr5 (rr2 (.cons (.nil _ _) .nil))))) (by rfl))
abbrev Oa:List Cl:=[.i xop,.s xtx,.i xn,.i xbx.X0,.i xbx.Y0,.i xbx.X1,.i xbx.Y1,vN]
def Z6C:CT:=(53,[.agg (Oa xop xtx xn xbx)],.val [] (.av (.agg (Bt.c (Bm xop xtx xn xbx)))))
def mA (xop:Int) (xtx:ByteArray) (xn:Int) (xbx:Al) (op:Int) (tx:ByteArray) (n:Int) (bx:Al):Bt:=Bt.mk op tx n bx (OpL.mk ([Bm xop xtx xn xbx].length) (AU Bt.c [Bm xop xtx xn xbx]))
theorem kB  (xop:Int) (xtx:ByteArray) (xn:Int) (xbx:Al) (op:Int) (tx:ByteArray) (n:Int) (bx:Al):GE Tryz.prog 53 [.agg [.i op,.s tx,.i n,.i bx.X0,.i bx.Y0,.i bx.X1,.i bx.Y1,.list false 8 1 (BB 8 1 [.i xop,.s xtx,.i xn,.i xbx.X0,.i xbx.Y0,.i xbx.X1,.i xbx.Y1,vN])]] (.av (.agg (Bt.c (mA xop xtx xn xbx op tx n bx)))):=by
 refine pwf Tryz.func53 fun W0 M0 => ?_
 refine AA<|on<|AA ?_
 refine on<|AA ?_
 refine on ?_
 refine AA<|AA ?_
 refine rn ⟨[(1,tP 1 0),(2,tP 2 0),(3,.av (.one (.list false 8 1 (BB 8 1 (Oa xop xtx xn xbx))))),(4,tI 0)],[(1,.cells (MY op tx n bx) 107),KL]⟩<|AQ ?_
 refine Di 2 ?_
 refine Bu<|AA<|AA ?_
 refine on ?_
 refine CN kr<|AZ ?_
 refine AG<|AA<|AQ ?_
 refine od [] [(20,(Z6C xop xtx xn xbx))] [0<=(0:Int)/\(0:Int)<((1:Nat):Int),Ay (Z6C xop xtx xn xbx).2.1,1<=maxLen,1*88<=140737488355328] (.cons (cPu<|Se xop xtx xn xbx) .nil) (.cons au0 (.cons rfl (.cons au3 (.cons au3 .nil))))<|A3<|AG ?_
 refine Ap (A2 22 (A0 8 Bt.c ([Bm xop xtx xn xbx]:List Bt))) ?_
 refine rn ⟨[(1,tP 1 0),(2,tP 2 0),(3,.av (.one (.list false 8 1 (BB 8 1 (Oa xop xtx xn xbx))))),(4,tI 1)],[(1,.cells (IG op tx n bx [.own 22 8 ([Bm xop xtx xn xbx].length)]) 107),KL,(22,.row 8 ([Bm xop xtx xn xbx].length) (AU Bt.c [Bm xop xtx xn xbx]) 107)]⟩ ?_
 refine Bu ?_
 refine Ap (Cv.trans (wr (⟨[(1,tP 1 0),(2,tP 2 0),(3,.av (.one (.list false 8 1 (BB 8 1 (Oa xop xtx xn xbx))))),(4,tI 1)],[(1,.cells (IG op tx n bx [.own 100000 8 ([Bm xop xtx xn xbx].length)]) 107),KL,(100000,.row 8 ([Bm xop xtx xn xbx].length) (AU Bt.c [Bm xop xtx xn xbx]) 107)]⟩) 22 100000 hk0) (Cv.refl _))<|AA<|AA ?_
 refine on ?_
 refine Ar kr<|BH ?_
 refine A5<|A5 ?_
 refine BI<|AG<|AA ?_
 refine on<|AY ?_
 exact zy (Cv.trans (vf 100000 hk0) (Cv.refl _))
def Z6D:CT:=(53,[.agg (Oa xop xtx xn xbx)],.val [] (.av (.agg (Bt.c (Bm xop xtx xn xbx)))))
def Z6E:CT:=(53,[.agg [.i yop,.s ytx,.i yn,.i ybx.X0,.i ybx.Y0,.i ybx.X1,.i ybx.Y1,vN]],.val [] (.av (.agg (Bt.c (Bm yop ytx yn ybx)))))
def lZ (xop:Int) (xtx:ByteArray) (xn:Int) (xbx:Al) (yop:Int) (ytx:ByteArray) (yn:Int) (ybx:Al) (op:Int) (tx:ByteArray) (n:Int) (bx:Al):Bt:=Bt.mk op tx n bx (OpL.mk ([Bm xop xtx xn xbx]++[Bm yop ytx yn ybx]).length (AU Bt.c ([Bm xop xtx xn xbx]++[Bm yop ytx yn ybx])))
abbrev Tg (xop:Int) (xtx:ByteArray) (xn:Int) (xbx:Al) (yop:Int) (ytx:ByteArray) (yn:Int) (ybx:Al):Nat×Tv:=(3,.av (.one (.list false 8 2 (BB 8 2 [.i xop,.s xtx,.i xn,.i xbx.X0,.i xbx.Y0,.i xbx.X1,.i xbx.Y1,vN,.i yop,.s ytx,.i yn,.i ybx.X0,.i ybx.Y0,.i ybx.X1,.i ybx.Y1,vN]))))
theorem kA  (xop:Int) (xtx:ByteArray) (xn:Int) (xbx:Al) (yop:Int) (ytx:ByteArray) (yn:Int) (ybx:Al) (op:Int) (tx:ByteArray) (n:Int) (bx:Al):GE Tryz.prog 53 [.agg [.i op,.s tx,.i n,.i bx.X0,.i bx.Y0,.i bx.X1,.i bx.Y1,.list false 8 2 (BB 8 2 [.i xop,.s xtx,.i xn,.i xbx.X0,.i xbx.Y0,.i xbx.X1,.i xbx.Y1,vN,.i yop,.s ytx,.i yn,.i ybx.X0,.i ybx.Y0,.i ybx.X1,.i ybx.Y1,vN])]] (.av (.agg (Bt.c (lZ xop xtx xn xbx yop ytx yn ybx op tx n bx)))):=by
 refine pwf Tryz.func53 fun W0 M0 => ?_
 refine AA<|on<|AA ?_
 refine on<|AA ?_
 refine on ?_
 refine AA<|AA ?_
 refine rn ⟨[(1,tP 1 0),(2,tP 2 0),(Tg xop xtx xn xbx yop ytx yn ybx),(4,tI 0)],[(1,.cells (MY op tx n bx) 107),KL]⟩<|AQ ?_
 refine Di 3 ?_
 refine Bu<|AA<|AA ?_
 refine on ?_
 refine CN kr<|AZ ?_
 refine AG<|AA<|AQ ?_
 refine od [] [(20,(Z6D xop xtx xn xbx))] [0<=(0:Int)/\(0:Int)<((2:Nat):Int),Ay (Z6D xop xtx xn xbx).2.1,1<=maxLen,1*88<=140737488355328] (.cons (cPu<|Se xop xtx xn xbx) .nil) (.cons au0 (.cons rfl (.cons au3 (.cons au3 .nil))))<|A3<|AG ?_
 refine Ap (A2 22 (A0 8 Bt.c ([Bm xop xtx xn xbx]:List Bt))) ?_
 refine rn ⟨[(1,tP 1 0),(2,tP 2 0),(Tg xop xtx xn xbx yop ytx yn ybx),(4,tI 1)],[(1,.cells (IG op tx n bx [.own 22 8 ([Bm xop xtx xn xbx].length)]) 107),KL,(22,.row 8 ([Bm xop xtx xn xbx].length) (AU Bt.c [Bm xop xtx xn xbx]) 107)]⟩ ?_
 refine Bu ?_
 refine Ap (Cv.trans (wr (⟨[(1,tP 1 0),(2,tP 2 0),(Tg xop xtx xn xbx yop ytx yn ybx),(4,tI 1)],[(1,.cells (IG op tx n bx [.own 100000 8 ([Bm xop xtx xn xbx].length)]) 107),KL,(100000,.row 8 ([Bm xop xtx xn xbx].length) (AU Bt.c [Bm xop xtx xn xbx]) 107)]⟩) 22 100000 hk0) (Cv.refl _))<|AA<|AA ?_
 refine on ?_
 refine CN kr<|AZ ?_
 refine AG<|AA<|AQ ?_
 refine od [] [(20,(Z6E yop ytx yn ybx))] [0<=(1:Int)/\(1:Int)<((2:Nat):Int),Ay (Z6E yop ytx yn ybx).2.1,[Bm xop xtx xn xbx].length=[Bm xop xtx xn xbx].length,([Bm xop xtx xn xbx].length)+1<=maxLen,(([Bm xop xtx xn xbx].length)+1)*88<=140737488355328] (.cons (cPu<|Se yop ytx yn ybx) .nil) (.cons au0 (.cons rfl (.cons rfl (.cons au3 (.cons au3 .nil)))))<|A3<|AG ?_
 refine Ap (A2 22 (Au (Am 8 Bt.c [Bm xop xtx xn xbx]) (A0 8 Bt.c ([Bm yop ytx yn ybx]:List Bt)))) ?_
 refine rn ⟨[(1,tP 1 0),(2,tP 2 0),(Tg xop xtx xn xbx yop ytx yn ybx),(4,tI 2)],[(1,.cells (IG op tx n bx [.own 22 8 ([Bm xop xtx xn xbx]++[Bm yop ytx yn ybx]).length]) 107),KL,(22,.row 8 ([Bm xop xtx xn xbx]++[Bm yop ytx yn ybx]).length (AU Bt.c ([Bm xop xtx xn xbx]++[Bm yop ytx yn ybx])) 107)]⟩ ?_
 refine Bu ?_
 refine Ap (Cv.trans (wr (⟨[(1,tP 1 0),(2,tP 2 0),(Tg xop xtx xn xbx yop ytx yn ybx),(4,tI 2)],[(1,.cells (IG op tx n bx [.own 100001 8 ([Bm xop xtx xn xbx]++[Bm yop ytx yn ybx]).length]) 107),KL,(100001,.row 8 ([Bm xop xtx xn xbx]++[Bm yop ytx yn ybx]).length (AU Bt.c ([Bm xop xtx xn xbx]++[Bm yop ytx yn ybx])) 107)]⟩) 22 100001 hk0) (Cv.refl _))<|AA<|AA ?_
 refine on ?_
 refine Ar kr<|BH ?_
 refine A5<|A5 ?_
 refine BI<|AG<|AA ?_
 refine on<|AY ?_
 exact zy (Cv.trans (vf 100001 hk0) (Cv.refl _))
def lY (f:Nat->Nat->Cl) (op:Int) (tx:ByteArray) (n:Int) (bx:Al):Bt:=Bt.mk op tx n bx (OpL.mk 0 (fun _ _=>default))
theorem jZ  (f:Nat->Nat->Cl) (op:Int) (tx:ByteArray) (n:Int) (bx:Al):GE Tryz.prog 53 [.agg [.i op,.s tx,.i n,.i bx.X0,.i bx.Y0,.i bx.X1,.i bx.Y1,.list false 8 0 f]] (.av (.agg (Bt.c (lY f op tx n bx)))):=by
 refine pwf Tryz.func53 fun W0 M0 => ?_
 refine AA<|on<|AA ?_
 refine on<|AA ?_
 refine on ?_
 refine AA<|AA ?_
 refine rn ⟨[(1,tP 1 0),(2,tP 2 0),(3,.av (.one (.list false 8 0 f))),(4,tI 0)],[(1,.cells (MY op tx n bx) 107),KL]⟩<|AQ ?_
 refine Di 1 ?_
 refine Bu<|AA<|AA ?_
 refine on ?_
 refine Ar kr<|BH ?_
 refine A5<|A5 ?_
 refine BI<|AG<|AA ?_
 refine on<|AY ?_
 exact xl (.av (.agg (MY op tx n bx))) (DS (y:=.av (.agg (IG op tx n bx [opL (OpL.mk 0 (fun _ _=>default))]))) (.av (.agg (rr5 (rr2 (.cons (.nil _ _) .nil))))) (by rfl))
def clI:Cl->Int
 | .val (.int _ n)=>n
 | _=>0
def clS:Cl->ByteArray
 | .val (.string s)=>s
 | _=>⟨#[]⟩
def CG (c:Bt):Prop:=(∃ f,c.L=OpL.mk 0 f)\/(∃ (xop:Int) (xtx:ByteArray) (xn:Int) (xbx:Al),c.L=OpL.mk 1 (BB 8 1 [.i xop,.s xtx,.i xn,.i xbx.X0,.i xbx.Y0,.i xbx.X1,.i xbx.Y1,vN]))\/∃ (xop:Int) (xtx:ByteArray) (xn:Int) (xbx:Al) (yop:Int) (ytx:ByteArray) (yn:Int) (ybx:Al),c.L=OpL.mk 2 (BB 8 2 [.i xop,.s xtx,.i xn,.i xbx.X0,.i xbx.Y0,.i xbx.X1,.i xbx.Y1,vN,.i yop,.s ytx,.i yn,.i ybx.X0,.i ybx.Y0,.i ybx.X1,.i ybx.Y1,vN])
def Q7:Bt:=Bm (clI (f 0)) (clS (f 1)) (clI (f 2)) (Al.mk (clI (f 3)) (clI (f 4)) (clI (f 5)) (clI (f 6)))
def copyL:OpL->OpL
 | ⟨0,_⟩=>OpL.mk 0 (fun _ _=>default)
 | ⟨1,f⟩=>OpL.mk ([Q7 (f 0)].length) (AU Bt.c [Q7 (f 0)])
 | ⟨_+2,f⟩=>OpL.mk ([Q7 (f 0)]++[Q7 (f 1)]).length (AU Bt.c ([Q7 (f 0)]++[Q7 (f 1)]))
def KD (c:Bt):Bt:=Bt.mk c.Op c.Text c.N c.Box (copyL c.L)
def G1:CT:=(53,[.agg (Bt.c c)],.val [] (.av (.agg (Bt.c (KD c)))))
theorem Yx (c:Bt) (h:CG c):PuP 53 (G1 c).2.1 (.av (.agg (Bt.c (KD c)))):=by
 obtain ⟨op,tx,n,bx,l⟩:=c
 rcases h with ⟨f,e⟩ | ⟨xop,xtx,xn,xbx,e⟩ | ⟨xop,xtx,xn,xbx,yop,ytx,yn,ybx,e⟩
 ·have e:l=OpL.mk 0 f:=e
  subst e
  exact jZ f op tx n bx
 ·have e:l=OpL.mk 1 _:=e
  subst e
  exact kB xop xtx xn xbx op tx n bx
 have e:l=OpL.mk 2 _:=e
 subst e
 exact kA xop xtx xn xbx yop ytx yn ybx op tx n bx
theorem PK (c:Bt) (h:CG c):OKc (G1 c):=cPu<|Yx c h
def TV (b:AC):Prop:=∀ r∈b.Rules,CG r.A/\CG r.B
theorem LV {b:AC} (h:TV b) (k:Nat):CG (b.Rules.getD k default).A/\CG (b.Rules.getD k default).B:=GN (p:=fun r:A1=>CG r.A/\CG r.B) ⟨.inl ⟨_,rfl⟩,.inl ⟨_,rfl⟩⟩ h k
end
structure CW (b:AC):Prop where
 lParts:(b.Parts.length:Int)<=1000000
 lNets:(b.Nets.length:Int)<=1000000
 lTracks:(b.Tracks.length:Int)<=1000000
 lVias:(b.Vias.length:Int)<=1000000
 lPours:(b.Pours.length:Int)<=1000000
 lKeeps:(b.Keeps.length:Int)<=1000000
 lSlots:(b.Slots.length:Int)<=1000000
 lClasses:(b.Classes.length:Int)<=1000000
 lWaivers:(b.Waivers.length:Int)<=1000000
 lMatches:(b.Matches.length:Int)<=1000000
 lRules:(b.Rules.length:Int)<=1000000
 out:(b.Outline.Edges.length:Int)<=1000000
 pin:∀ k,((b.Nets.getD k default).Pins.length:Int)<=1000000
 ted:∀ k,((b.Tracks.getD k default).Shape.Edges.length:Int)<=1000000
 rec':∀ k,((b.Pours.getD k default).Rects.length:Int)<=1000000
 ked:∀ k,((b.Keeps.getD k default).Shape.Edges.length:Int)<=1000000
 sed:∀ k,((b.Slots.getD k default).Shape.Edges.length:Int)<=1000000
 cnt:∀ k,((b.Classes.getD k default).Nets.length:Int)<=1000000
 mnt:∀ k,((b.Matches.getD k default).Nets.length:Int)<=1000000
 rok:TV b
section
open Go.RowKit
def Cl.only (L:List Nat):Cl->Bool
 | .ptr n _=>A7 L n
 | .own n _ _=>A7 L n
 | .rptr n _ _ _=>A7 L n
 | .osl n _ _ _=>A7 L n
 | .om n=>A7 L n
 | .clo _ k caps=>(List.range k).all fun i=>(caps i).only L
 | _=>true
def Av.only (L:List Nat):Av->Bool
 | .one c=>c.only L
 | .agg l=>l.all (Cl.only L)
def Tv.only (L:List Nat):Tv->Bool
 | .av x=>x.only L
 | .tup l=>l.all (Av.only L)
 | .grd _ x=>x.only L
def Blk.only (L:List Nat):Blk->Bool
 | .cells l _=>l.all (Cl.only L)
 | .rowx _ _ _ _ hs=>hs.all fun p=>p.2.all (Cl.only L)
 | _=>true
theorem HC {L:List Nat} {n d:Nat} (h:A7 L n=true) (hd:(!Nat.beq n d)=false):A7 L d=true:=by
 have:Nat.beq n d=true:=by cases hb:Nat.beq n d;rw [hb] at hd;cases hd;rfl
 rw [<- Nat.eq_of_beq_eq_true this];exact h
theorem Ih {L:List Nat} {d:Nat}:∀ {c:Cl},c.only L=true->c.no d=false->A7 L d=true
 | .ptr ..,h,hd=>HC h hd
 | .own ..,h,hd=>HC h hd
 | .rptr ..,h,hd=>HC h hd
 | .osl ..,h,hd=>HC h hd
 | .om ..,h,hd=>HC h hd
 | .clo f k caps,h,hd=>by
  simp only [Cl.no] at hd
  rw [List.all_eq_false] at hd
  obtain ⟨i,hi,hn⟩:=hd
  simp only [Cl.only,List.all_eq_true] at h
  exact Ih (h i hi) (by cases hq:(caps i).no d;rfl;exact absurd hq hn)
 | .val ..,_,hd=>by cases hd
 | .list ..,_,hd=>by cases hd
 | .eptr ..,_,hd=>by cases hd
 | .mp ..,_,hd=>by cases hd
 | .any,_,hd=>by cases hd
theorem Pu {α:Type} {p q:α->Bool} {l:List α} (h:l.all p=true) (hd:l.all q=false):∃ x,p x=true/\q x=false:=by
 rw [List.all_eq_false] at hd
 obtain ⟨x,hx,hn⟩:=hd
 exact ⟨x,List.all_eq_true.1 h x hx,by cases hq:q x;rfl;exact absurd hq hn⟩
theorem PJ {L:List Nat} {d:Nat}:∀ {x:Av},x.only L=true->x.no d=false->A7 L d=true
 | .one _,h,hd=>Ih h hd
 | .agg _,h,hd=>by obtain ⟨x,h1,h2⟩:=Pu h hd;exact Ih h1 h2
theorem UI {L:List Nat} {d:Nat}:∀ {x:Tv},x.only L=true->x.no d=false->A7 L d=true
 | .av _,h,hd=>PJ h hd
 | .tup _,h,hd=>by obtain ⟨x,h1,h2⟩:=Pu h hd;exact PJ h1 h2
 | .grd _ _,h,hd=>PJ h hd
theorem UJ {L:List Nat} {d:Nat}:∀ {x:Blk},x.only L=true->x.no d=false->A7 L d=true
 | .cells _ _,h,hd=>by obtain ⟨x,h1,h2⟩:=Pu h hd;exact Ih h1 h2
 | .row ..,_,hd=>by cases hd
 | .omap ..,_,hd=>by cases hd
 | .rowx ..,h,hd=>by obtain ⟨x,h1,h2⟩:=Pu h hd;obtain ⟨y,h3,h4⟩:=Pu h1 h2;exact Ih h3 h4
def Du (v:Nat->Value):Nat->List Bool->List Cl->List Cl
 | i,true::m,_::l=>.val (v i)::Du v (i+1) m l
 | i,false::m,c::l=>c::Du v (i+1) m l
 | _,_,l=>l
def PQ:List Bool->List Cl->List Cl->List Cl
 | true::m,a::l,_::l'=>a::PQ m l l'
 | false::m,_::l,b::l'=>b::PQ m l l'
 | _,_,l'=>l'
def Mi (p:Cl->Bool):List Bool->List Cl->Bool
 | true::m,a::l=>p a&&Mi p m l
 | false::m,_::l=>Mi p m l
 | _,_=>true
section
variable {M M':Nat→Option Obj} {σ σ' σ2:Nat→Loc}
theorem Qn (v:Nat->Value):∀ (m:List Bool) (i:Nat) (l:List Cl) (c:List Value),(∀ j,v (i+j)=c.getD j undef)->L2 (R M σ) l c->L2 (R M σ) (Du v i m l) c
 | [],i,l,c,_,h=>by unfold Du;exact h
 | b::m,i,[],c,_,h=>by cases b <;> exact h
 | b::m,i,a::l,c,hv,h=>by
  cases h with
  | cons h1 h2 =>
   rename_i u us
   have ht:=Qn v m (i+1) l us (fun j=>by have:=hv (j+1);rw [show i+(j+1)=i+1+j by omega] at this;exact this) h2
   cases b with
   | true =>
    have h0:v i=u:=hv 0
    exact .cons ⟨h0.symm,by rw [h0];exact Jp h1⟩ ht
   | false=>exact .cons h1 ht
theorem Wl (v:Nat->Value) (hm:∀ c V,R M σ c V->(∀ d,c.no d=false->σ2 d=σ d)->R M' σ2 c V) {L:List Nat} (hl:∀ d,A7 L d=true->σ2 d=σ' d) :
  ∀ (m:List Bool) (i:Nat) (l:List Cl) (c:List Value) (l':List Cl) (c':List Value),(∀ j,v (i+j)=c.getD j undef)->L2 (R M σ) l c->L2 (R M' σ') (Du v i m l') c'->l'.length=l.length ->
   (∀ d,Mi (fun x=>x.no d) m l=false->σ2 d=σ d)->(∀ x∈Du v i m l',x.only L=true)->L2 (R M' σ2) (PQ m l l') c'
 | [],i,l,c,l',c',_,_,h',_,_,ho=>by
  simp only [PQ]
  simp only [Du] at h' ho
  exact h'.mono fun a ha b hb=>C4 (fun _ _ h=>h) (fun d hd=>hl d (Ih (ho a ha) hd)) hb
 | b::m,i,[],c,l',c',_,_,h',hlen,_,ho=>by
  have:l'=[]:=List.eq_nil_of_length_eq_zero (by simpa using hlen)
  subst this
  cases b <;> (simp only [PQ];simp only [Du] at h';cases h';exact .nil)
 | b::m,i,a::l,c,[],c',_,_,h',hlen,_,ho=>by simp at hlen
 | b::m,i,a::l,c,a'::l',c',hv,h,h',hlen,hd,ho=>by
  cases h with
  | cons h1 h2 =>
   rename_i u us
   have hv':∀ j,v (i+1+j)=us.getD j undef:=fun j=>by have:=hv (j+1);rw [show i+(j+1)=i+1+j by omega] at this;exact this
   have hlen':l'.length=l.length:=by simpa using hlen
   cases b with
   | true =>
    simp only [Du] at h' ho
    simp only [PQ]
    cases h' with
    | cons k1 k2 =>
     rename_i u' us'
     have e1:u'=v i:=k1.1
     have e2:v i=u:=hv 0
     subst e1
     refine .cons ?_ (Wl v hm hl m (i+1) l us l' us' hv' h2 k2 hlen' (fun d hn=>hd d (by simp only [Mi,hn,Bool.and_false])) (fun x hx=>ho x (List.mem_cons_of_mem _ hx)))
     rw [e2]
     exact hm _ _ h1 fun d hn=>hd d (by simp only [Mi,hn,Bool.false_and])
   | false =>
    simp only [Du] at h' ho
    simp only [PQ]
    cases h' with
    | cons k1 k2 =>
     rename_i u' us'
     refine .cons ?_ (Wl v hm hl m (i+1) l us l' us' hv' h2 k2 hlen' (fun d hn=>hd d hn) (fun x hx=>ho x (List.mem_cons_of_mem _ hx)))
     exact C4 (fun _ _ h=>h) (fun d hn=>hl d (Ih (ho _ (List.mem_cons_self ..)) hn)) k1
end
def JA {α:Type} (ks:List Nat):List (Nat×α)->List (Nat×α)
 | []=>[]
 | (k,v)::r=>bif A7 ks k then JA ks r else (k,v)::JA ks r
theorem Mq {α:Type} (ks:List Nat):∀ (l:List (Nat×α)) (n:Nat) (v:α),get (JA ks l) n=some v->get l n=some v/\A7 ks n=false
 | [],n,v,h=>by cases h
 | (k,u)::r,n,v,h=>by
  simp only [JA] at h
  cases hk:A7 ks k with
  | true =>
   rw [hk] at h
   simp only [cond_true] at h
   obtain ⟨h1,h2⟩:=Mq ks r n v h
   refine ⟨?_,h2⟩
   simp only [get,CR]
   by_cases e:k=n
   ·subst e;rw [hk] at h2;cases h2
   simp [e,h1]
  | false =>
   rw [hk] at h
   simp only [cond_false,get,CR] at h
   by_cases e:k=n
   ·subst e
    simp at h
    subst h
    refine ⟨by simp [get,Nat.beq_refl],hk⟩
   simp [e] at h
   obtain ⟨h1,h2⟩:=Mq ks r n v h
   refine ⟨?_,h2⟩
   simp only [get,CR]
   simp [e,h1]
theorem S7 {α:Type} (l m:List (Nat×α)) (n:Nat):get (l++m) n=match get l n with | some v=>some v | none=>get m n:=by
 induction l with
 | nil=>rfl
 | cons p r ih =>
  obtain ⟨k,v⟩:=p
  simp only [List.cons_append,get,CR]
  by_cases h:k=n
  ·simp [h]
  simp only [h,decide_false,cond_false,ih]
def HD {α:Type}:List (Nat×α)->List Nat
 | []=>[]
 | (k,_)::r=>k::HD r
theorem Pa {α:Type}:∀ {l:List (Nat×α)} {n:Nat} {v:α},get l n=some v->A7 (HD l) n=true
 | (k,u)::r,n,v,h=>by
  simp only [get,CR] at h
  simp only [HD,A7,CR]
  by_cases e:k=n
  ·simp [e]
  simp only [e,decide_false,cond_false] at h ⊢
  exact Pa h
def pZ (q:Nat) (K1:List Nat) (m:List Bool) (s:AS) (l:List Cl) (tE:List (Nat×Tv)) (lE:List Cl) (hE:List (Nat×Blk)):Bool :=
 let L:=q::HD hE
 let F:=JA (q::K1) s.h
 Nat.beq lE.length l.length && !A7 L 299999&&F.all (fun p => !A7 L p.1&&L.all fun d=>p.2.no d)&&(L.all fun d=>Mi (fun x=>x.no d) m l) &&
  tE.all (fun p=>p.2.only L)&&(Du (fun _=>undef) 0 m lE).all (Cl.only L)&&hE.all (fun p=>p.2.only L)
theorem Mp {L:List Nat} (v v':Nat->Value):∀ (m:List Bool) (i:Nat) (l:List Cl),(Du v i m l).all (Cl.only L)=true->(Du v' i m l).all (Cl.only L)=true
 | [],i,l,h=>h
 | b::m,i,[],h=>by cases b <;> exact h
 | b::m,i,a::l,h=>by
  cases b <;> simp only [Du,List.all_cons,Bool.and_eq_true] at h ⊢
  ·exact ⟨h.1,Mp v v' m _ l h.2⟩
  exact ⟨rfl,Mp v v' m _ l h.2⟩
section
variable {P:Program} {rd:Option Nat} {N:Nat} {W0:World} {X:Nat→Option Loc} {M0:Nat→Option Obj} {Q:Exit→AS→Prop} {s:AS}
set_option maxHeartbeats 1000000 in
theorem iF {c:Code} {ι:Type} (q:Nat) (l:List Cl) (ty:TypeId) (m:List Bool) (T1 K1:List Nat) (hX:C5 X W0 []) (hF:P0 X) (I:ι->Prop) (tE:ι->List (Nat×Tv)) (lE:ι->List Cl) (hE:ι->List (Nat×Blk))
  (hq:get s.h q=some (.cells l ty)) (hN:(q::K1).all (fun n=>Nat.ble N n)=true) (hN2:Nat.ble N 299999=true) (hno:noD 299999 s=true) (hK:A7 (q::K1) 299999=false) (hchk:∀ x,pZ q K1 m s l (tE x) (lE x) (hE x)=true)
  (core:∀ (W1:World) (M1:Nat->Option Obj) (X1:Nat->Option Loc) (v:Nat->Value),C5 X1 W1 (q::K1)->P0 X1->AWp P rd N W1 X1 M1 c (fun e s'=>e=.normal/\∃ x,I x/\s'=⟨tE x,(q,.cells (Du v 0 m (lE x)) ty)::hE x⟩) ⟨Fa s.t T1,(q,.cells (Du v 0 m l) ty)::Fa s.h K1⟩)
  (hQ:∀ x,I x->Q .normal ⟨tE x,(q,.cells (PQ m l (lE x)) ty)::(hE x++JA (q::K1) s.h)⟩):AWp P rd N W0 X M0 c Q s:=by
 intro M σ a w hs
 obtain ⟨hqn,cq,hcq,hlq⟩:=hs.blk q _ hq
 obtain ⟨v,hv⟩:∃ v:Nat->Value,∀ j,v (0+j)=cq.getD j undef:=⟨fun j=>cq.getD j undef,fun j=>by rw [Nat.zero_add]⟩
 obtain ⟨X1,hX1⟩:∃ X1:Nat->Option Loc,X1=fun n=>bif A7 (q::K1) n&&(get s.h n).isSome && !(σ n).nil then some (σ n) else bif Nat.beq n 299999 then some ⟨w.heap.size,424242,true⟩ else none:=⟨_,rfl⟩
 obtain ⟨σ1,hσ1⟩:∃ σ1,σ1=upd σ 299999 ⟨w.heap.size,424242,true⟩:=⟨_,rfl⟩
 have hg9:get s.h 299999=none:=X8 hno
 have hs1:∀ n,n≠299999->σ1 n=σ n:=fun n hn=>by rw [hσ1];exact CV _ _ hn
 have hk9:∀ n b,get s.h n=some b->n≠299999:=fun n b h e=>by rw [e,hg9] at h;cases h
 have pins:∀ n x,X1 n=some x->(A7 (q::K1) n=true/\(get s.h n).isSome=true/\(σ n).nil=false/\x=σ n)\/(n=299999/\x=⟨w.heap.size,424242,true⟩):=fun n x h=>by
  rw [hX1] at h
  simp only at h
  cases hb:(A7 (q::K1) n&&(get s.h n).isSome && !(σ n).nil) with
  | true =>
   rw [hb] at h
   simp only [cond_true,Option.some.injEq] at h
   simp only [Bool.and_eq_true,Bool.not_eq_true'] at hb
   exact .inl ⟨hb.1.1,hb.1.2,hb.2,h.symm⟩
  | false =>
   rw [hb] at h
   simp only [cond_false] at h
   cases h9:Nat.beq n 299999 with
   | false=>rw [h9] at h;cases h
   | true=>rw [h9] at h;simp only [cond_true,Option.some.injEq] at h;exact .inr ⟨Nat.eq_of_beq_eq_true h9,h.symm⟩
 have hflat:P0 X1:=⟨299999,⟨w.heap.size,424242,true⟩,by rw [hX1];simp only [hK,Bool.false_and,cond_false,Nat.beq_refl,cond_true],rfl,rfl⟩
 have hpins:C5 X1 w (q::K1):=fun n x h=>by
  rcases pins n x h with ⟨h1,_⟩ | ⟨h1,h2⟩
  ·exact .inl h1
  exact .inr ⟨h1,by rw [h2];exact Nat.le_refl _⟩
 have hpinned:∀ n,A7 (q::K1) n=true->(get s.h n).isSome=true->(σ n).nil=false->X1 n=some (σ n):=fun n h1 h2 h3=>by rw [hX1];simp only [h1,h2,h3,Bool.not_false,Bool.and_true,cond_true]
 have hdef:a.defers=[]:=hs.defers.2 hF
 have hC:∀ n b,get ((q,Blk.cells (Du v 0 m l) ty)::Fa s.h K1) n=some b->A7 (q::K1) n=true/\∃ b0,get s.h n=some b0/\((n=q/\b=.cells (Du v 0 m l) ty)\/(n≠q/\b=b0)):=fun n b h=>by
  simp only [get,CR] at h
  by_cases e:q=n
  ·simp only [e,decide_true,cond_true,Option.some.injEq] at h
   refine ⟨by rw [<- e];simp [A7,Nat.beq_refl],_,by rw [<- e];exact hq,.inl ⟨e.symm,h.symm⟩⟩
  simp only [e,decide_false,cond_false] at h
  refine ⟨?_,b,GD _ _ _ _ h,.inr ⟨fun h'=>e h'.symm,rfl⟩⟩
  have:∀ (ks:List Nat),get (Fa s.h ks) n=some b->A7 ks n=true:=by
   intro ks
   induction ks with
   | nil=>intro h;cases h
   | cons k ks ih =>
    intro h
    simp only [Fa] at h
    simp only [A7,CR]
    by_cases ek:k=n
    ·simp [ek]
    simp only [ek,decide_false,cond_false]
    split at h
    ·simp only [get,CR,ek,decide_false,cond_false] at h;exact ih h
    exact ih h
  simp only [A7,CR,e,decide_false,cond_false]
  exact this K1 h
 have hsim:Sim N w X1 M M σ1 (get (Fa s.t T1)) (get ((q,Blk.cells (Du v 0 m l) ty)::Fa s.h K1)) a w:=by
  have hR:∀ (c:Cl) (V:Value),c.no 299999=true->R M σ c V->R M σ1 c V:=fun c V hc h=>C4 (fun _ _ h=>h) (fun d hd=>hs1 d (fun e=>by rw [e,hc] at hd;cases hd)) h
  refine ⟨rfl,rfl,rfl,Nat.le_refl _,fun _ _ _=>rfl,fun _ _ h=>h,fun _ _ h h'=>by (rw [h] at h';cases h'),fun n x h => ?_,by rw [hdef];exact IE.nil,hs.room,fun i t ht => ?_,hs.imm,fun n b h => ?_,fun n b h => ?_,fun n n' b b' h h' hne => ?_⟩
  ·rcases pins n x h with ⟨h1,h2,h3,rfl⟩ | ⟨rfl,rfl⟩
   ·obtain ⟨b0,hb0⟩:=Option.isSome_iff_exists.1 h2
    exact ⟨Nat.le_of_ble_eq_true (List.all_eq_true.1 hN n (J1 h1)),hs1 n (hk9 n b0 hb0)⟩
   exact ⟨Nat.le_of_ble_eq_true hN2,by rw [hσ1];exact BW _ _ _⟩
  ·have h0:=GD _ _ _ _ ht
   exact Dp (fun _ _ h=>h) (fun d hd=>hs1 d (fun e=>by rw [e,X7 hno h0] at hd;cases hd)) (hs.tmps i t h0)
  ·obtain ⟨_,b0,hb0,⟨rfl,rfl⟩ | ⟨hne,rfl⟩⟩:=hC n b h
   ·rw [hs1 _ (hk9 _ _ hb0)]
    have hnl:∀ c∈l,c.no 299999=true:=fun c hc=>(List.all_eq_true.1 (UU hno hq)) c hc
    exact ⟨hqn,cq,hcq,Qn v m 0 l cq hv (hlq.mono fun c hc V hV=>hR c V (hnl c hc) hV)⟩
   rw [hs1 _ (hk9 _ _ hb0)]
   exact Bv.mono (fun _ _ h=>h) (fun d hd=>hs1 d (fun e=>by rw [e,UU hno hb0] at hd;cases hd)) (fun _=>rfl) (hs.blk n _ hb0)
  ·obtain ⟨h1,b0,hb0,_⟩:=hC n b h
   rw [hs1 _ (hk9 _ _ hb0)]
   cases hnil:(σ n).nil with
   | true=>exact .inl rfl
   | false =>
    rcases hs.loc n b0 hb0 with h2 | ⟨h2,_⟩
    ·rw [hnil] at h2;cases h2
    exact .inr ⟨h2,.inr ⟨n,σ n,hpinned n h1 (by rw [hb0];rfl) hnil,rfl⟩⟩
  obtain ⟨_,b0,hb0,_⟩:=hC n b h
  obtain ⟨_,b1,hb1,_⟩:=hC n' b' h'
  rw [hs1 _ (hk9 _ _ hb0),hs1 _ (hk9 _ _ hb1)]
  exact hs.inj n n' b0 b1 hb0 hb1 hne
 refine wpIn_mono (core w M X1 v hpins hflat M σ1 a w hsim) ?_
 rintro e a' w' ⟨s',M',σ',⟨rfl,x,hI,rfl⟩,hs'⟩
 have hok:=hchk x
 unfold pZ at hok
 simp only [Bool.and_eq_true,Bool.not_eq_true'] at hok
 obtain ⟨⟨⟨⟨⟨⟨ok1,ok2⟩,ok3⟩,ok4⟩,ok5⟩,ok6⟩,ok7⟩:=hok
 obtain ⟨L,hL⟩:∃ L,L=q::HD (hE x):=⟨_,rfl⟩
 rw [<- hL] at ok2 ok3 ok4 ok5 ok6 ok7
 have hlen:(lE x).length=l.length:=Nat.eq_of_beq_eq_true ok1
 obtain ⟨σ2,hσ2⟩:∃ σ2:Nat->Loc,σ2=fun n=>bif A7 L n then σ' n else σ n:=⟨_,rfl⟩
 have hin:∀ n,A7 L n=true->σ2 n=σ' n:=fun n h=>by rw [hσ2];simp only [h,cond_true]
 have hout:∀ n,A7 L n=false->σ2 n=σ n:=fun n h=>by rw [hσ2];simp only [h,cond_false]
 have hMM:∀ b o,M b=some o->M' b=some o:=hs'.sub
 -- where the small state's blocks lie
 have hX1in:∀ b,inX X1 b->(∃ k b0,A7 (q::K1) k=true/\get s.h k=some b0/\(σ k).nil=false/\(σ k).b=b)\/b=w.heap.size:=fun b ⟨n,y,h1,h2⟩=>by
  rcases pins n y h1 with ⟨h3,h4,h5,rfl⟩ | ⟨_,rfl⟩
  ·obtain ⟨b0,hb0⟩:=Option.isSome_iff_exists.1 h4
   exact .inl ⟨n,b0,h3,hb0,h5,h2⟩
  exact .inr h2.symm
 have hnew0:∀ k b0,get s.h k=some b0->(σ k).nil=false->W0.heap.size<=(σ k).b:=fun k b0 hk hnil=>by
  rcases hs.loc k b0 hk with h1 | ⟨_,h1 | ⟨n,y,h1,h2⟩⟩
  ·rw [hnil] at h1;cases h1
  ·exact h1
  rcases hX n y h1 with h3 | ⟨_,h3⟩
  ·cases h3
  rw [<- h2];exact h3
 have hE0:∀ n b,get ((q,Blk.cells (Du v 0 m (lE x)) ty)::hE x) n=some b->A7 L n=true:=fun n b h=>by
  rw [hL]
  have:=Pa h
  exact this
 have hloc':∀ n b,get ((q,Blk.cells (Du v 0 m (lE x)) ty)::hE x) n=some b->(σ' n).nil=true\/(M' (σ' n).b=none/\(w.heap.size<=(σ' n).b\/∃ k b0,A7 (q::K1) k=true/\get s.h k=some b0/\(σ k).nil=false/\(σ k).b=(σ' n).b)):=fun n b h=>by
  rcases hs'.loc n b h with h1 | ⟨h1,h2 | h2⟩
  ·exact .inl h1
  ·exact .inr ⟨h1,.inl h2⟩
  rcases hX1in _ h2 with h3 | h3
  ·exact .inr ⟨h1,.inr h3⟩
  exact .inr ⟨h1,.inl (by rw [h3];exact Nat.le_refl _)⟩
 have hFr:∀ n b,get (JA (q::K1) s.h) n=some b->get s.h n=some b/\A7 (q::K1) n=false/\A7 L n=false/\∀ d,A7 L d=true->b.no d=true:=fun n b h=>by
  obtain ⟨h1,h2⟩:=Mq _ _ _ _ h
  have h3:=List.all_eq_true.1 ok3 _ (C9 h)
  simp only [Bool.and_eq_true,Bool.not_eq_true'] at h3
  exact ⟨h1,h2,h3.1,fun d hd=>List.all_eq_true.1 h3.2 d (J1 hd)⟩
 have hFrlt:∀ n b,get (JA (q::K1) s.h) n=some b->(σ n).nil=false->(σ n).b<w.heap.size/\¬ inX X1 (σ n).b:=fun n b h hnil=>by
  obtain ⟨h1,h2,_⟩:=hFr n b h
  have hlt:=(hs.blk n b h1).lt hnil
  refine ⟨hlt,fun hi => ?_⟩
  rcases hX1in _ hi with ⟨k,b0,h3,h4,h5,h6⟩ | h3
  ·have hne:n≠k:=fun e=>by rw [e,h3] at h2;cases h2
   rcases hs.inj n k b b0 h1 h4 hne with h7 | h7 | h7
   ·rw [hnil] at h7;cases h7
   ·rw [h5] at h7;cases h7
   exact h7 h6.symm
  omega
 have hG:∀ n b,get ((q,Blk.cells (PQ m l (lE x)) ty)::(hE x++JA (q::K1) s.h)) n=some b->(A7 L n=true/\((n=q/\b=.cells (PQ m l (lE x)) ty)\/(n≠q/\get (hE x) n=some b))/\∃ b',get ((q,Blk.cells (Du v 0 m (lE x)) ty)::hE x) n=some b')\/get (JA (q::K1) s.h) n=some b:=fun n b h=>by
  simp only [get,CR] at h
  by_cases e:q=n
  ·simp only [e,decide_true,cond_true,Option.some.injEq] at h
   subst e
   refine .inl ⟨by rw [hL];simp [A7,Nat.beq_refl],.inl ⟨rfl,h.symm⟩,Blk.cells (Du v 0 m (lE x)) ty,?_⟩
   simp only [get,Nat.beq_refl,cond_true]
  simp only [e,decide_false,cond_false] at h
  rw [S7] at h
  cases hg:get (hE x) n with
  | none=>rw [hg] at h;exact .inr h
  | some b2 =>
   rw [hg] at h
   simp only [Option.some.injEq] at h
   subst h
   have hg2:get ((q,Blk.cells (Du v 0 m (lE x)) ty)::hE x) n=some b2:=by simp only [get,CR,e,decide_false,cond_false];exact hg
   exact .inl ⟨hE0 n b2 hg2,.inr ⟨fun h'=>e h'.symm,rfl⟩,b2,hg2⟩
 have hqL:A7 L q=true:=by rw [hL];simp [A7,Nat.beq_refl]
 refine ⟨_,M',σ2,hQ x hI,hs'.os.trans hs.os,hs'.tape.trans hs.tape,hs'.output.trans hs.output,Nat.le_trans hs.size hs'.size,fun b hb hnb => ?_,fun b o h=>hMM b o (hs.sub b o h),fun b o h1 h2 => ?_,fun n y h => ?_,?_,hs'.room,fun i t ht => ?_,hs'.imm,fun n b h => ?_,fun n b h => ?_,fun n n' b b' h h' hne => ?_⟩
 ·refine (hs'.old b (Nat.lt_of_lt_of_le hb hs.size) fun hi => ?_).trans (hs.old b hb hnb)
  rcases hX1in _ hi with ⟨k,b0,_,h4,h5,h6⟩ | h3
  ·have:=hnew0 k b0 h4 h5;omega
  have:=hs.size;omega
 ·cases hM:M b with
  | none=>exact Nat.le_trans hs.size (hs'.new b o h1 hM)
  | some o'=>exact hs.new b o' hM h2
 ·obtain ⟨h1,h2⟩:=hs.pin n y h
  refine ⟨h1,?_⟩
  rcases hX n y h with h3 | ⟨rfl,_⟩
  ·cases h3
  rw [hout _ ok2];exact h2
 ·have:a'.defers=[]:=hs'.defers.2 hflat
  rw [this]
  exact IE.nil
 ·have h1:=List.all_eq_true.1 ok5 _ (C9 ht)
  exact Dp (fun _ _ h=>h) (fun d hd=>hin d (UI h1 hd)) (hs'.tmps i t ht)
 ·rcases hG n b h with ⟨hn,hb,b',hb'⟩ | hfr
  ·rw [hin n hn]
   rcases hb with ⟨rfl,rfl⟩ | ⟨hne,hb⟩
   ·have hq':=hs'.blk n (.cells (Du v 0 m (lE x)) ty) (by simp only [get,Nat.beq_refl,cond_true])
    obtain ⟨hn1,c',hc',hl'⟩:=hq'
    refine ⟨hn1,c',hc',?_⟩
    have honly:=List.all_eq_true.1 (Mp (fun _=>undef) v m 0 (lE x) ok6)
    refine Wl v (σ2:=σ2) (fun c V h1 h2=>C4 hMM h2 h1) hin m 0 l cq (lE x) c' hv hlq hl' hlen (fun d hd => ?_) honly
    refine hout d ?_
    cases hdL:A7 L d with
    | false=>rfl
    | true=>rw [List.all_eq_true.1 ok4 d (J1 hdL)] at hd;cases hd
   have hb2:get ((q,Blk.cells (Du v 0 m (lE x)) ty)::hE x) n=some b:=by simp only [get,CR,Ne.symm hne,decide_false,cond_false];exact hb
   have h1:=List.all_eq_true.1 ok7 _ (C9 hb)
   exact Bv.mono (fun _ _ h=>h) (fun d hd=>hin d (UJ h1 hd)) (fun _=>rfl) (hs'.blk n b hb2)
  obtain ⟨h1,h2,h3,h4⟩:=hFr n b hfr
  rw [hout n h3]
  refine Bv.mono hMM (fun d hd=>hout d ?_) (fun hnil => ?_) (hs.blk n b h1)
  ·cases hdL:A7 L d with
   | false=>rfl
   | true=>rw [h4 d hdL] at hd;cases hd
  obtain ⟨h5,h6⟩:=hFrlt n b hfr hnil
  exact hs'.old _ h5 h6
 ·rcases hG n b h with ⟨hn,_,b',hb'⟩ | hfr
  ·rw [hin n hn]
   rcases hloc' n b' hb' with h1 | ⟨h1,h2 | ⟨k,b0,_,h4,h5,h6⟩⟩
   ·exact .inl h1
   ·exact .inr ⟨h1,.inl (Nat.le_trans hs.size h2)⟩
   exact .inr ⟨h1,.inl (by rw [<- h6];exact hnew0 k b0 h4 h5)⟩
  obtain ⟨h1,h2,h3,_⟩:=hFr n b hfr
  rw [hout n h3]
  cases hnil:(σ n).nil with
  | true=>exact .inl rfl
  | false =>
   have h4:=hFrlt n b hfr hnil
   refine .inr ⟨?_,.inl (hnew0 n b h1 hnil)⟩
   cases hM':M' (σ n).b with
   | none=>rfl
   | some o =>
    have hM:M (σ n).b=none:=by
     rcases hs.loc n b h1 with h5 | ⟨h5,_⟩
     ·rw [hnil] at h5;cases h5
     exact h5
    have:=hs'.new _ o hM' hM
    omega
 have Ld:∀ (n n':Nat) (b':Blk),(A7 L n=true/\∃ b2,get ((q,Blk.cells (Du v 0 m (lE x)) ty)::hE x) n=some b2)->get (JA (q::K1) s.h) n'=some b'->(σ2 n).nil=true\/(σ2 n').nil=true\/(σ2 n).b≠(σ2 n').b:=fun n n' b' ⟨hn,b2,hb2⟩ hfr=>by
  obtain ⟨h1,h2,h3,_⟩:=hFr n' b' hfr
  rw [hin n hn,hout n' h3]
  cases hnil:(σ n').nil with
  | true=>exact .inr (.inl rfl)
  | false =>
   obtain ⟨h4,h5⟩:=hFrlt n' b' hfr hnil
   rcases hloc' n b2 hb2 with h6 | ⟨_,h6 | ⟨k,b0,h7,h8,h9,h10⟩⟩
   ·exact .inl h6
   ·exact .inr (.inr (by omega))
   refine .inr (.inr ?_)
   have hne:n'≠k:=fun e=>by rw [e,h7] at h2;cases h2
   rcases hs.inj n' k b' b0 h1 h8 hne with h11 | h11 | h11
   ·rw [hnil] at h11;cases h11
   ·rw [h9] at h11;cases h11
   rw [<- h10];exact fun e=>h11 e.symm
 rcases hG n b h with ⟨hn,_,b2,hb2⟩ | hfr
 ·rcases hG n' b' h' with ⟨hn',_,b3,hb3⟩ | hfr'
  ·rw [hin n hn,hin n' hn']
   exact hs'.inj n n' b2 b3 hb2 hb3 hne
  exact Ld n n' b' ⟨hn,b2,hb2⟩ hfr'
 rcases hG n' b' h' with ⟨hn',_,b3,hb3⟩ | hfr'
 ·rcases Ld n' n b ⟨hn',b3,hb3⟩ hfr with h1 | h1 | h1
  ·exact .inr (.inl h1)
  ·exact .inl h1
  exact .inr (.inr (Ne.symm h1))
 obtain ⟨h1,_,h3,_⟩:=hFr n b hfr
 obtain ⟨h4,_,h6,_⟩:=hFr n' b' hfr'
 rw [hout n h3,hout n' h6]
 exact hs.inj n n' b b' h1 h4 hne
end
end
section
open Go.RowKit
def mkX (w:World):Nat->Option Loc:=fun n=>bif Nat.beq n 299999 then some ⟨w.heap.size,424242,true⟩ else none
theorem PP {w:World} {n:Nat} {x:Loc} (h:mkX w n=some x):n=299999/\x=⟨w.heap.size,424242,true⟩:=by
 unfold mkX at h
 cases h9:Nat.beq n 299999 with
 | false=>rw [h9] at h;cases h
 | true=>rw [h9] at h;simp only [cond_true,Option.some.injEq] at h;exact ⟨Nat.eq_of_beq_eq_true h9,h.symm⟩
theorem eU (w:World):P0 (mkX w):=⟨299999,⟨w.heap.size,424242,true⟩,by simp only [mkX,Nat.beq_refl,cond_true],rfl,rfl⟩
theorem eR (w:World):C5 (mkX w) w []:=fun n x h=>by
 obtain ⟨h1,rfl⟩:=PP h
 exact .inr ⟨h1,Nat.le_refl _⟩
theorem eS {w:World} {b:Nat} (h:inX (mkX w) b):b=w.heap.size:=by
 obtain ⟨n,x,h1,h2⟩:=h
 obtain ⟨_,rfl⟩:=PP h1
 exact h2.symm
section
variable {P:Program}
def Frs (P:Program) (f:FuncId) (xs:List Av) {ι:Type} (I:ι->Prop) (V:ι->Tv) (hE:ι->List (Nat×Blk)):Prop:=∀ (M:Nat->Option Obj) (σ:Nat->Loc) (w:World) (args:List Value),(∀ b o,M b=some o->w.heap[b]? = some o)->L2 (RA M σ) xs args ->
 Calls P f args.toArray w fun en w'=>∃ U,en=.returned U/\∃ (x:ι) (M':Nat->Option Obj) (σ':Nat->Loc),I x/\GF w w' M M' KO/\(∀ n b,get (hE x) n=some b->Bv M' σ' w' (σ' n) b/\((σ' n).nil=true\/(w.heap.size<=(σ' n).b/\M' (σ' n).b=none))) /\
  (∀ n m b c,get (hE x) n=some b->get (hE x) m=some c->n≠m->(σ' n).nil=true\/(σ' m).nil=true\/(σ' n).b≠(σ' m).b)/\RT M' σ' (V x) U
theorem J9 {f:FuncId} {fn:Func} {c:Code} (hf:P.funcs[f]? = some fn) (hb:fn.body=some c) {xs:List Av} {ι:Type} {I:ι->Prop} {V:ι->Tv} {hE:ι->List (Nat×Blk)} (hN:Nat.ble xs.length fn.ntmps=true) (hN2:Nat.ble fn.ntmps 299999=true) (hdv:xs.all Av.dv=true)
  (h:∀ (W0:World) (M0:Nat->Option Obj) (X:Nat->Option Loc),C5 X W0 []->P0 X->AWp P none fn.ntmps W0 X M0 c (LP P fn.ntmps W0 X M0 fn fun r' s'=>∃ x,I x/\TvE r' (V x)/\∀ n b,get (hE x) n=some b->∃ b',get s'.h n=some b'/\HV b' b) ⟨FA 0 xs,[]⟩):Frs P f xs I V hE:=by
 intro M σ w args himm hargs
 have hargs':L2 (RA M (upd σ 299999 ⟨w.heap.size,424242,true⟩)) xs args:=hargs.mono fun x hx u hu=>HO (r:=.av x) (List.all_eq_true.1 hdv x hx) hu
 refine Em (X:=mkX w) (σ:=upd σ 299999 ⟨w.heap.size,424242,true⟩) (h0:=[]) hf hb (Nat.le_of_ble_eq_true hN) himm hargs' (fun n b h=>by cases h) (fun n b h=>by cases h) (fun n x h => ?_) (fun n m b c h=>by cases h) (EP (h w M (mkX w) (eR w) (eU w))) ?_
 ·obtain ⟨rfl,rfl⟩:=PP h
  exact ⟨Nat.le_of_ble_eq_true hN2,BW _ _ _⟩
 rintro r' s' M' σ' a' w' U ⟨x,hI,he,hbs⟩ hs hR
 have hnew:∀ b,b<w.heap.size->¬ inX (mkX w) b:=fun b hb hi=>by have:=eS hi;omega
 refine ⟨U,rfl,x,M',σ',hI,⟨hs.os,hs.tape,hs.output,hs.size,fun b hb _=>hs.old b hb (hnew b hb),hs.sub,hs.new,hs.imm⟩,fun n b hn => ?_,fun n m b c hn hm hne => ?_,Jq he hR⟩
 ·obtain ⟨b',hb',hbe⟩:=hbs n b hn
  refine ⟨I5 hbe (hs.blk n _ hb'),?_⟩
  rcases hs.loc n _ hb' with h1 | ⟨h1,h2 | h2⟩
  ·exact .inl h1
  ·exact .inr ⟨h2,h1⟩
  exact .inr ⟨by rw [eS h2];exact Nat.le_refl _,h1⟩
 obtain ⟨b',hb',_⟩:=hbs n b hn
 obtain ⟨c',hc',_⟩:=hbs m c hm
 exact hs.inj n m b' c' hb' hc' hne
def qC (N:Nat) (K:List Nat) (d:Nat) (V:Tv) (hE:List (Nat×Blk)) (s:AS):Bool :=
 Nat.ble (d+1) N&&(HD hE).all (fun k=>Mg K k&&noD k s)&&V.only (HD hE)&&hE.all fun p=>p.2.only (HD hE)
def jC (d:Nat) (V:Tv) (hE:List (Nat×Blk)) (s:AS):AS:=⟨put s.t d V,hE++s.h⟩
variable {rd:Option Nat} {N:Nat} {W0:World} {X:Nat→Option Loc} {M0 M M':Nat→Option Obj} {σ σ':Nat→Loc} {w w':World} {a:Act} {Q:Exit→AS→Prop} {s:AS}
theorem Yl {K:List Nat} {d:Nat} {V:Tv} {hE:List (Nat×Blk)} {U:Value} (hX:C5 X W0 K) (hok:qC N K d V hE s=true) (hs:Sim N W0 X M0 M σ (get s.t) (get s.h) a w) (hk:GF w w' M M' KO)
  (hb:∀ n b,get hE n=some b->Bv M' σ' w' (σ' n) b/\((σ' n).nil=true\/(w.heap.size<=(σ' n).b/\M' (σ' n).b=none)))
  (hi:∀ n m b c,get hE n=some b->get hE m=some c->n≠m->(σ' n).nil=true\/(σ' m).nil=true\/(σ' n).b≠(σ' m).b) (hR:RT M' σ' V U) :
  Sim N W0 X M0 M' (fun n=>bif A7 (HD hE) n then σ' n else σ n) (get (jC d V hE s).t) (get (jC d V hE s).h) (a.put (some d) U) w':=by
 unfold qC at hok
 simp only [Bool.and_eq_true] at hok
 obtain ⟨⟨⟨hdN,hks⟩,hV⟩,hEo⟩:=hok
 have hdN:=Nat.le_of_ble_eq_true hdN
 have hkeys:∀ n b,get hE n=some b->A7 (HD hE) n=true:=fun n b h=>Pa h
 generalize HD hE=L at *
 obtain ⟨σ2,hσ2⟩:∃ σ2:Nat->Loc,σ2=fun n=>bif A7 L n then σ' n else σ n:=⟨_,rfl⟩
 rw [<- hσ2]
 have hin:∀ n,A7 L n=true->σ2 n=σ' n:=fun n h=>by rw [hσ2];simp only [h,cond_true]
 have hout:∀ n,A7 L n=false->σ2 n=σ n:=fun n h=>by rw [hσ2];simp only [h,cond_false]
 have hk1:∀ n,A7 L n=true->Mg K n=true/\noD n s=true:=fun n h=>by
  have:=List.all_eq_true.1 hks n (J1 h)
  simpa only [Bool.and_eq_true] using this
 have hno:∀ n,A7 L n=true->get s.h n=none:=fun n h=>X8 (hk1 n h).2
 have hold:∀ (x:Nat),(A7 L x=true->False)->σ2 x=σ x:=fun x h=>hout x (by cases hm:A7 L x;rfl;exact (h hm).elim)
 have hG:∀ n b,get (jC d V hE s).h n=some b->(A7 L n=true/\get hE n=some b)\/(A7 L n=false/\get s.h n=some b):=fun n b h=>by
  have h:get (hE++s.h) n=some b:=h
  rw [S7] at h
  cases hg:get hE n with
  | some b2=>rw [hg] at h;simp only at h;exact .inl ⟨hkeys n b2 hg,h⟩
  | none =>
   rw [hg] at h
   simp only at h
   cases hm:A7 L n with
   | true=>rw [hno n hm] at h;cases h
   | false=>exact .inr ⟨rfl,h⟩
 have hMn:∀ b,b<w.heap.size->M b=none->M' b=none:=fun b hb h0=>by
  cases h1:M' b with
  | none=>rfl
  | some o=>have:=hk.new b o h1 h0;omega
 refine ⟨hk.os.trans hs.os,hk.tape.trans hs.tape,hk.output.trans hs.output,Nat.le_trans hs.size hk.size,fun b hb hnx=>(hk.old b (Nat.lt_of_lt_of_le hb hs.size) (fun h=>h)).trans (hs.old b hb hnx),fun b o h=>hk.sub b o (hs.sub b o h),fun b o h h0 => ?_,fun n u hu=>⟨(hs.pin n u hu).1,?_⟩,hs.defers.mono hk.sub,by simpa [Act.put] using hs.room,fun i v hv => ?_,hk.imm,fun n b hn => ?_,fun n b hn => ?_,fun n m b c hn hm hne => ?_⟩
 ·cases h1:M b with
  | some o'=>exact hs.new b o' h1 h0
  | none=>exact Nat.le_trans hs.size (hk.new b o h h1)
 ·rw [hold n fun h=>Sl hX (hk1 n h).1 hu rfl];exact (hs.pin n u hu).2
 ·have hv:get (put s.t d V) i=some v:=hv
  rw [J5] at hv
  have hput:(a.put (some d) U).tmps.getD i undef=if d=i then U else a.tmps.getD i undef:=HI hs.room (by omega) U i
  rw [hput]
  by_cases hdi:d=i
  ·rw [if_pos hdi] at hv ⊢
   simp only [Option.some.injEq] at hv
   subst hv
   exact Dp (fun _ _ h=>h) (fun k hk'=>hin k (UI hV hk')) hR
  rw [if_neg hdi] at hv ⊢
  exact Dp hk.sub (fun k hk'=>hold k fun h=>by rw [X7 (hk1 k h).2 hv] at hk';cases hk') (hs.tmps i v hv)
 ·rcases hG n b hn with ⟨h1,h2⟩ | ⟨h1,h2⟩
  ·rw [hin n h1]
   exact (hb n b h2).1.mono (fun _ _ h=>h) (fun k hk'=>hin k (UJ (List.all_eq_true.1 hEo _ (C9 h2)) hk')) (fun _=>rfl)
  rw [hout n h1]
  exact (hs.blk n b h2).mono hk.sub (fun k hk'=>hold k fun h=>by rw [UU (hk1 k h).2 h2] at hk';cases hk') (fun hnil=>hk.old _ ((hs.blk n b h2).lt hnil) (fun h=>h))
 ·rcases hG n b hn with ⟨h1,h2⟩ | ⟨h1,h2⟩
  ·rw [hin n h1]
   rcases (hb n b h2).2 with h3 | ⟨h3,h4⟩
   ·exact .inl h3
   exact .inr ⟨h4,.inl (Nat.le_trans hs.size h3)⟩
  rw [hout n h1]
  cases hnil:(σ n).nil with
  | true=>exact .inl rfl
  | false =>
   rcases hs.loc n b h2 with h3 | ⟨h3,h4⟩
   ·rw [hnil] at h3;cases h3
   exact .inr ⟨hMn _ ((hs.blk n b h2).lt hnil) h3,h4⟩
 have Ld:∀ (n m:Nat) (b c:Blk),get hE n=some b->get s.h m=some c->(σ' n).nil=true\/(σ m).nil=true\/(σ' n).b≠(σ m).b:=fun n m b c h1 h2=>by
  rcases (hb n b h1).2 with h3 | ⟨h3,_⟩
  ·exact .inl h3
  cases hnil:(σ m).nil with
  | true=>exact .inr (.inl rfl)
  | false=>have:=(hs.blk m c h2).lt hnil;exact .inr (.inr (by omega))
 rcases hG n b hn with ⟨h1,h2⟩ | ⟨h1,h2⟩ <;> rcases hG m c hm with ⟨h3,h4⟩ | ⟨h3,h4⟩
 ·rw [hin n h1,hin m h3];exact hi n m b c h2 h4 hne
 ·rw [hin n h1,hout m h3];exact Ld n m b c h2 h4
 ·rw [hout n h1,hin m h3]
  rcases Ld m n c b h4 h2 with h | h | h
  ·exact .inr (.inl h)
  ·exact .inl h
  exact .inr (.inr (Ne.symm h))
 rw [hout n h1,hout m h3];exact hs.inj n m b c h2 h4 hne
structure CallS (P:Program) (o:Oper) (s:AS) (f:FuncId) (xs:List Av) (d:Nat):Prop where
 op:∃ c g,o.op=.call c/\c.callee=.value g/\(∃ caps,evT (get s.t) g=some (.av (.one (.clo f 0 caps))))/\E6 (evT (get s.t)) c.args.toList=some xs
 eg:∀ args w,(callFunc f args).run P w=.ok (.enter f args) w
 gd:o.guard=none
 dst:o.dst=some d
theorem H8 {K:List Nat} {ops:Array Oper} {o:Oper} {l:List Oper} {Kk:AS->Prop} {f:FuncId} {xs:List Av} {d:Nat} {ι:Type} {I:ι->Prop} {V:ι->Tv} {hE:ι->List (Nat×Blk)} (S:ι->AS) (hX:C5 X W0 K) (hc:CallS P o s f xs d) (hF:Frs P f xs I V hE) (hok:∀ x,qC N K d (V x) (hE x) s=true) (hS:∀ x,jC d (V x) (hE x) s=S x)
  (h:∀ x,I x->AWL P rd N W0 X M0 ops l Kk (S x)):AWL P rd N W0 X M0 ops (o::l) Kk s:=by
 intro M σ a w hs Q' hQ'
 refine wpListIn_step fun K0 hK' => ?_
 obtain ⟨⟨c,g,ho,hcf,⟨caps,hf⟩,hxs⟩,heg,hgd,hdst⟩:=hc
 rw [if_pos (by simp [Region.wanted,hgd])]
 have hev:∀ x v,evT (get s.t) x=some v->RT M σ v (a.eval x):=fun x v hv=>Gj hs.tmps hv
 obtain ⟨caps',hfv,hsz,hcaps⟩:=hev g _ hf
 have hargs:=I1 hev _ _ hxs
 have hce:caps' = #[]:=Array.eq_empty_of_size_eq_zero (by simpa using hsz)
 subst hce
 have hmap:c.args.map a.eval=(c.args.toList.map a.eval).toArray:=by apply Array.ext';simp
 have hres:(resolve a.eval c o.type).run P w=.ok { target:=.fn (.func f) #[],args:=(c.args.toList.map a.eval).toArray } w:=by
  simp only [resolve,hcf,hfv,Deferred.ofValue,hmap]
  simp
 have hd:XX P o a w fun U w'=>∃ (x:ι) (M':Nat->Option Obj) (σ':Nat->Loc),I x/\GF w w' M M' KO/\(∀ n b,get (hE x) n=some b->Bv M' σ' w' (σ' n) b/\((σ' n).nil=true\/(w.heap.size<=(σ' n).b/\M' (σ' n).b=none))) /\
  (∀ n m b c,get (hE x) n=some b->get (hE x) m=some c->n≠m->(σ' n).nil=true\/(σ' m).nil=true\/(σ' n).b≠(σ' m).b)/\RT M' σ' (V x) U:=by
  refine .inr (.inr ⟨f,(c.args.toList.map a.eval).toArray,?_,?_⟩)
  ·simp only [execOp,ho,Sem.run_bind,hres,Result.andThen_ok,invoke,Array.append_empty]
   exact heg _ _
  exact hF M σ w _ hs.imm hargs
 refine hd.wp (fun U w' ⟨x,M',σ',h1,h2,h3,h4,h5⟩ => ?_) (fun c' hc'=>by rw [ho] at hc';cases hc')
 rw [hdst]
 have:=Yl hX (hok x) hs h2 h3 h4 h5
 rw [hS x] at this
 exact hK' _ _ (h x h1 _ _ _ _ this Q' hQ')
end
open Go.RowKit
def F6:List Bool->Code->Option Code
 | [],c=>some c
 | false::p,.seq c _=>F6 p c
 | true::p,.seq _ c=>F6 p c
 | _,_=>none
section
variable {P:Program} {rd:Option Nat} {N:Nat} {W0:World} {X:Nat→Option Loc} {M0:Nat→Option Obj} {Q:Exit→AS→Prop} {s:AS}
def Np (P:Program) (N:Nat) (L:List Nat) (c:Code) {ι:Type} (I:ι->Prop) (S0:(Nat->Value)->AS) (S1:(Nat->Value)->ι->AS):Prop :=
 ∀ (W1:World) (M1:Nat->Option Obj) (X1:Nat->Option Loc) (v:Nat->Value),C5 X1 W1 L->P0 X1->AWp P none N W1 X1 M1 c (fun e s'=>∃ t,Cv N W1 X1 M1 s' t/\e=.normal/\∃ x,I x/\t=S1 v x) (S0 v)
theorem CE {c:Code} {ι:Type} {I:ι->Prop} {S0:(Nat->Value)->AS} {S1:(Nat->Value)->ι->AS} (q:Nat) (l:List Cl) (ty:TypeId) (m:List Bool) (T1 K1:List Nat) (tE:ι->List (Nat×Tv)) (lE:ι->List Cl) (hE:ι->List (Nat×Blk)) (S:ι->AS) (hX:C5 X W0 []) (hF:P0 X) (core:Np P N (q::K1) c I S0 S1) (hQ:∀ x,I x->Q .normal (S x))
  (hq:get s.h q=some (.cells l ty):=by kernel_rfl) (hN:(q::K1).all (fun n=>Nat.ble N n)=true:=by kernel_rfl) (hN2:Nat.ble N 299999=true:=by kernel_rfl) (hno:noD 299999 s=true:=by kernel_rfl) (hK:A7 (q::K1) 299999=false:=by kernel_rfl) (hchk:∀ x,pZ q K1 m s l (tE x) (lE x) (hE x)=true:=by intro _;kernel_rfl)
  (h0:∀ v,(⟨Fa s.t T1,(q,.cells (Du v 0 m l) ty)::Fa s.h K1⟩:AS)=S0 v:=by intro _;kernel_rfl) (h1:∀ v x,S1 v x=⟨tE x,(q,.cells (Du v 0 m (lE x)) ty)::hE x⟩:=by intro _ _;kernel_rfl)
  (h2:∀ x,(⟨tE x,(q,.cells (PQ m l (lE x)) ty)::(hE x++JA (q::K1) s.h)⟩:AS)=S x:=by intro _;kernel_rfl):AWp P none N W0 X M0 c Q s:=by
 refine iF q l ty m T1 K1 hX hF I tE lE hE hq hN hN2 hno hK hchk (fun W1 M1 X1 v hP hFl=>EP ?_) fun x hx=>by rw [h2 x];exact hQ x hx
 rw [h0 v]
 refine lQ (core W1 M1 X1 v hP hFl) ?_
 rintro e s' ⟨t,h3,h4,x,h5,h6⟩
 exact ⟨t,h3,h4,x,h5,by rw [h6,h1 v x]⟩
end
open Go.RowKit
def mkB (n k:Nat):List Bool:=(List.range n).map fun i => !Nat.beq i k
def lEB (n k:Nat) (c:Cl):List Cl:=(List.range n).map fun i=>bif Nat.beq i k then c else .any
theorem fW {α:Type} {l m:List (Nat×α)} {n:Nat} {v:α} (h:get l n=some v):get (l++m) n=some v:=by
 rw [S7,h]
open Go.RowKit
theorem lJ {V:Tv} {h l m:List (Nat×Blk)} (hh:h=l++m):∃ x:Unit,True/\TvE V V/\∀ n b,get l n=some b->∃ b',get h n=some b'/\HV b' b :=
 ⟨(),trivial,.refl _,fun n b h'=>⟨b,by rw [hh];exact fW h',.refl _⟩⟩
open Go.RowKit
def fzL:List Nat->AS->AS
 | [],s=>s
 | n::r,s=>fzL r (fzN n s)
def lH (K:List Nat):List Nat->AS->Bool
 | [],_=>true
 | n::r,s=>fzK K n s&&lH K r (fzN n s)
def jS:List Nat->AS->List (List (Nat×Nat))
 | [],_=>[]
 | n::r,s=>prS n s::jS r (fzN n s)
def lI:List Nat->AS->List (List (Nat×Nat))
 | [],_=>[]
 | n::r,s=>fzE n s::lI r (fzN n s)
theorem qA {N:Nat} {W0:World} {X:Nat->Option Loc} {M0:Nat->Option Obj} {K:List Nat} (l:List Nat) (hX:C5 X W0 K):∀ {s:AS},lH K l s=true->jS l s=lI l s->Cv N W0 X M0 s (fzL l s):=by
 induction l with
 | nil=>exact fun _ _=>Cv.refl _
 | cons n r ih =>
  intro s h1 h2
  simp only [lH,Bool.and_eq_true] at h1
  simp only [jS,lI,List.cons.injEq] at h2
  exact Cv.trans (XF n hX h1.1 h2.1) (ih h1.2 h2.2)
theorem B5 {N:Nat} {W0:World} {X:Nat->Option Loc} {M0:Nat->Option Obj} {K:List Nat} {s:AS} (l:List Nat) (hX:C5 X W0 K) (hk:lH K l s=true:=by kernel_rfl) (he:jS l s=lI l s:=by kernel_rfl):Cv N W0 X M0 s (fzL l s):=qA l hX hk he
end
end Go.Proofs.YtdbampcfmjbgmaaGreat
