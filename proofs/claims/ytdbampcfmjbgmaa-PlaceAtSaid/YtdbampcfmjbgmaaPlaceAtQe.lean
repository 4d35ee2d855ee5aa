/-
  No statement is proved in this text. It holds a part of what the proof of PlaceAt needs.
-/
import Derived.Test.YtdbampcfmjbgmaaPlaceAtQd
namespace Go.Proofs.Ytdbampcfmjbgmaa
set_option maxRecDepth 100000
set_option linter.unusedVariables false
set_option linter.unusedSimpArgs false
open Go.RowKit
section
open Go.RowKit
def AJ:Bg:=Bg.mk 1 (⟨#[]⟩) 0 (Ai.mk 0 0 0 0) (OpL.mk 0 (fun _ _=>default))
def CZ:CT:=(84,[],.val [] (.av (.agg (Bg.c AJ))))
abbrev aE:Tv:=.av (.agg [.i 1,.s (⟨#[]⟩),.i 0,.i 0,.i 0,.i 0,.i 0,vN])
theorem Y5  : Fo Try.prog 84 (CZ ).2.1 (.av (.agg (Bg.c AJ))):=by
 refine pwf Try.func84 fun W0 M0 => ?_
 refine AB<|on<|AB ?_
 refine on<|Ac ?_
 exact xl aE (DB (y:=.av (.agg [.i 1,.s (⟨#[]⟩),.i 0,.i 0,.i 0,.i 0,.i 0,opL (OpL.mk 0 (fun _ _=>default))])) (.av (.agg (rr5 (rr2 (.cons (.nil _ _) .nil))))) (by rfl))
theorem EX  : OKc (CZ ):=cPu<|Y5
def Z32:Blk:=.cells [.i 0,.s (⟨#[]⟩),.i 0,.i 0,.i 0,.i 0,.i 0,vN] 105
variable (b:AC) (d:AD) (v4 v5 v6 v7 v8 v9:Int)
abbrev GK:Blk:=.cells (AD.c (AA d 9).2) 146
def Z33:CT:=(54,([.one (.ptr 1000 0),.one (.i 9)]:List Av).map (B3 1000 1000),wrI 1000 (HV d) (tI (AA d 9).1) (GK d))
abbrev KL:=AA (AA d 9).2 2
def Z34:CT:=(54,(Hc:List Av).map (B3 1000 1000),wrI 1000 (GK d) (tI (KL d).1) (.cells (AD.c (KL d).2) 146))
def Z35:Blk:=.cells (AD.c (KL d).2) 146
def Z36:CT:=(54,KM.map (B3 1000 1000),wrI 1000 (GK d) (tI (AA (AA d 9).2 5).1) (.cells (AD.c (AA (AA d 9).2 5).2) 146))
def Z37:CT:=(54,(FB:List Av).map (B3 1000 1000),wrI 1000 (GK d) (tI (AA (AA d 9).2 3).1) (.cells (AD.c (AA (AA d 9).2 3).2) 146))
def Z38:CT:=(54,(N3:List Av).map (B3 1000 1000),wrI 1000 (GK d) (tI (AA (AA d 9).2 6).1) (.cells (AD.c (AA (AA d 9).2 6).2) 146))
def Z39:CT:=(54,HU.map (B3 1000 1000),wrI 1000 (.cells (AD.c (KL d).2) 146) (tI (AA (KL d).2 4).1) (.cells (AD.c (AA (KL d).2 4).2) 146))
abbrev Z3a:AD:=(AA (AA (AA d 9).2 2).2 4).2
def BW (d:AD):(Bg×AD):=bif decide (((AA d 9).1:Int)=0) then (Bg.mk 2 (([({ data := #[78,49] }:ByteArray),({ data := #[71,78,68] }:ByteArray)]:List ByteArray).getD (AA (AA d 9).2 2).1.toNat ⟨#[]⟩) 0 (Ai.mk 0 0 0 0) (OpL.mk 0 (fun _ _=>default)),(AA (AA d 9).2 2).2) else (bif decide (((AA d 9).1:Int)=1) then (Bg.mk 3 ({ data := #[112,111,119,101,114] }:ByteArray) 0 (Ai.mk 0 0 0 0) (OpL.mk 0 (fun _ _=>default)),(AA d 9).2) else (bif decide (((AA d 9).1:Int)=2) then (Bg.mk 4 (⟨#[]⟩) (W64 (1+(AA (AA d 9).2 5).1)) (Ai.mk 0 0 0 0) (OpL.mk 0 (fun _ _=>default)),(AA (AA d 9).2 5).2) else (bif decide (((AA d 9).1:Int)=3) then (Bg.mk 5 (⟨#[]⟩) (W64 (1+(AA (AA d 9).2 2).1)) (Ai.mk 0 0 0 0) (OpL.mk 0 (fun _ _=>default)),(AA (AA d 9).2 2).2) else (bif decide (((AA d 9).1:Int)=4) then (Bg.mk 6 (⟨#[]⟩) (W64 (1+(AA (AA d 9).2 3).1)) (Ai.mk 0 0 0 0) (OpL.mk 0 (fun _ _=>default)),(AA (AA d 9).2 3).2) else (bif decide (((AA d 9).1:Int)=5) then (Bg.mk 7 (⟨#[]⟩) 0 (Ai.mk 0 0 (W64 (100+(W64 (50*(AA (AA d 9).2 6).1)))) 400) (OpL.mk 0 (fun _ _=>default)),(AA (AA d 9).2 6).2) else (bif decide (((AA d 9).1:Int)=6) then (Bg.mk 8 (⟨#[]⟩) 0 (Ai.mk 0 0 0 0) (OpL.mk 1 (As 8 1 [.i 5,.s (⟨#[]⟩),.i (W64 (1+(AA (AA d 9).2 2).1)),.i 0,.i 0,.i 0,.i 0,vN])),(AA (AA d 9).2 2).2) else (bif decide (((AA d 9).1:Int)=7) then (Bg.mk (W64 (9+(AA (AA d 9).2 2).1)) (⟨#[]⟩) 0 (Ai.mk 0 0 0 0) (OpL.mk 2 (As 8 2 [.i 4,.s (⟨#[]⟩),.i (W64 (1+(AA (AA (AA d 9).2 2).2 4).1)),.i 0,.i 0,.i 0,.i 0,vN,.i 2,.s ({ data := #[71,78,68] }:ByteArray),.i 0,.i 0,.i 0,.i 0,.i 0,vN])),Z3a d) else (Bg.mk 1 (⟨#[]⟩) 0 (Ai.mk 0 0 0 0) (OpL.mk 0 (fun _ _=>default)),(AA d 9).2))))))))
abbrev K7:List (Nat×Blk):=[(2,Z32),(1000,.cells (AD.c (AA d 9).2) 146)]
abbrev SU:List Cl:=[.i 5,.s (⟨#[]⟩),.i (W64 (1+(KL d).1)),.i 0,.i 0,.i 0,.i 0,vN]
abbrev aJ:List Cl:=[.i 7,.s (⟨#[]⟩),.i 0,.i 0,.i 0,.i (W64 (100+(W64 (50*(AA (AA d 9).2 6).1)))),.i 400,vN]
abbrev mL:Nat×Tv:=(4,tI (AA d 9).1)
abbrev Z6:List Cl:=[.i 4,.s (⟨#[]⟩),.i (W64 (1+(AA (AA d 9).2 5).1)),.i 0,.i 0,.i 0,.i 0,vN]
abbrev Z5:List Cl:=[.i 6,.s (⟨#[]⟩),.i (W64 (1+(AA (AA d 9).2 3).1)),.i 0,.i 0,.i 0,.i 0,vN]
abbrev Z4:List Cl:=[.i 8,.s (⟨#[]⟩),.i 0,.i 0,.i 0,.i 0,.i 0,.list true 8 1 (As 8 1 (SU d))]
abbrev Ip (t_:List (Nat×Tv)):List (Nat×Tv):=(0,tP 1000 0)::(2,tP 2 0)::(mL d)::t_
theorem Xy  (d:AD) (hd:Br d):Wr Try.prog 85 1000 [.one (.ptr 1000 0)] (.cells (AD.c d) 146) (.av (.agg (Bg.c (BW d).1))) (.cells (AD.c (BW d).2) 146):=by
 refine Hg Try.func85 rfl kr kr kr kr fun W0 M0 X hX => ?_
 refine AB<|on ?_
 refine AB<|AB ?_
 refine rb 4 (Z33 d) (HV d) ⟨(Ip d []),(K7 d)⟩ (cWr (Bj d 9 au6 au11))<|AF ?_
 refine AX<|AB ?_
 refine rn ⟨(Ip d [(5,tB (decide (((AA d 9).1:Int)=0)))]),(K7 d)⟩ ?_
 refine AL _ rfl (fun h1 => ?_) (fun h1 => ?_)
 ·have g1:=oT h1
  refine AB<|oc [(9,(Z34 d))] [A0 (Z34 d).2.1,CB (GK d),0<=((AA (AA d 9).2 2).1:Int)/\((AA (AA d 9).2 2).1:Int)<((2:Nat):Int)] (.cons (cWr (Bj (AA d 9).2 2 au6 au11)) .nil) (.cons rfl (.cons rfl (.cons (by first | exact Je _ _ _ (by decide) (by decide) (by decide) | decide | omega) .nil)))<|AF ?_
  refine Ac<|Cb<|Bf ?_
  exact xl (.av (.agg [.i 2,.s (([({ data := #[78,49] }:ByteArray),({ data := #[71,78,68] }:ByteArray)]:List ByteArray).getD (AA (AA d 9).2 2).1.toNat ⟨#[]⟩),.i 0,.i 0,.i 0,.i 0,.i 0,vN])) ⟨DB (y:=.av (.agg [.i 2,.s (([({ data := #[78,49] }:ByteArray),({ data := #[71,78,68] }:ByteArray)]:List ByteArray).getD (AA (AA d 9).2 2).1.toNat ⟨#[]⟩),.i 0,.i 0,.i 0,.i 0,.i 0,opL (OpL.mk 0 (fun _ _=>default))])) (.av (.agg (rr5 (rr2 (.cons (.nil _ _) .nil))))) (by unfold BW;rw [h1];rfl),.cells (AD.c (AA (AA d 9).2 2).2) 146,by kernel_rfl,Dx (by unfold BW;rw [h1];kernel_rfl)⟩
 have g1:=oF h1
 refine AB<|rn ⟨(Ip d [(13,tB (decide (((AA d 9).1:Int)=1)))]),(K7 d)⟩ ?_
 refine AL _ rfl (fun h2 => ?_) (fun h2 => ?_)
 ·refine AB<|on ?_
  refine Ac<|Cb<|Bf ?_
  exact xl (.av (.agg [.i 3,.s ({ data := #[112,111,119,101,114] }:ByteArray),.i 0,.i 0,.i 0,.i 0,.i 0,vN])) ⟨DB (y:=.av (.agg [.i 3,.s ({ data := #[112,111,119,101,114] }:ByteArray),.i 0,.i 0,.i 0,.i 0,.i 0,opL (OpL.mk 0 (fun _ _=>default))])) (.av (.agg (rr5 (rr2 (.cons (.nil _ _) .nil))))) (by unfold BW;rw [h1,h2];rfl),.cells (AD.c (AA d 9).2) 146,by kernel_rfl,Dx (by unfold BW;rw [h1,h2];kernel_rfl)⟩
 have g2:=oF h2
 refine AB<|rn ⟨(Ip d [(16,tB (decide (((AA d 9).1:Int)=2)))]),(K7 d)⟩ ?_
 refine AL _ rfl (fun h3 => ?_) (fun h3 => ?_)
 ·have g3:=oT h3
  refine AB<|rb 19 (Z36 d) (GK d) ⟨[(2,tP 2 0)],[(2,.cells (Z6 d) 105),(1000,.cells (AD.c (AA (AA d 9).2 5).2) 146)]⟩ (cWr (Bj (AA d 9).2 5 au6 au11))<|AF ?_
  refine Ac<|Cb<|Bf ?_
  exact xl (.av (.agg (Z6 d))) ⟨DB (y:=.av (.agg [.i 4,.s (⟨#[]⟩),.i (W64 (1+(AA (AA d 9).2 5).1)),.i 0,.i 0,.i 0,.i 0,opL (OpL.mk 0 (fun _ _=>default))])) (.av (.agg (rr5 (rr2 (.cons (.nil _ _) .nil))))) (by unfold BW;rw [h1,h2,h3];rfl),.cells (AD.c (AA (AA d 9).2 5).2) 146,by kernel_rfl,Dx (by unfold BW;rw [h1,h2,h3];kernel_rfl)⟩
 have g3:=oF h3
 refine AB<|rn ⟨(Ip d [(22,tB (decide (((AA d 9).1:Int)=3)))]),(K7 d)⟩ ?_
 refine AL _ rfl (fun h4 => ?_) (fun h4 => ?_)
 ·have g4:=oT h4
  refine AB<|rb 25 (Z34 d) (GK d) ⟨[(2,tP 2 0)],[(2,.cells (SU d) 105),(1000,Z35 d)]⟩ (cWr (Bj (AA d 9).2 2 au6 au11))<|AF ?_
  refine Ac<|Cb<|Bf ?_
  exact xl (.av (.agg (SU d))) ⟨DB (y:=.av (.agg [.i 5,.s (⟨#[]⟩),.i (W64 (1+(AA (AA d 9).2 2).1)),.i 0,.i 0,.i 0,.i 0,opL (OpL.mk 0 (fun _ _=>default))])) (.av (.agg (rr5 (rr2 (.cons (.nil _ _) .nil))))) (by unfold BW;rw [h1,h2,h3,h4];rfl),.cells (AD.c (AA (AA d 9).2 2).2) 146,by kernel_rfl,Dx (by unfold BW;rw [h1,h2,h3,h4];kernel_rfl)⟩
 have g4:=oF h4
 refine AB<|rn ⟨(Ip d [(28,tB (decide (((AA d 9).1:Int)=4)))]),(K7 d)⟩ ?_
 refine AL _ rfl (fun h5 => ?_) (fun h5 => ?_)
 ·have g5:=oT h5
  refine AB<|rb 31 (Z37 d) (GK d) ⟨[(2,tP 2 0)],[(2,.cells (Z5 d) 105),(1000,.cells (AD.c (AA (AA d 9).2 3).2) 146)]⟩ (cWr (Bj (AA d 9).2 3 au6 au11))<|AF ?_
  refine Ac<|Cb<|Bf ?_
  exact xl (.av (.agg (Z5 d))) ⟨DB (y:=.av (.agg [.i 6,.s (⟨#[]⟩),.i (W64 (1+(AA (AA d 9).2 3).1)),.i 0,.i 0,.i 0,.i 0,opL (OpL.mk 0 (fun _ _=>default))])) (.av (.agg (rr5 (rr2 (.cons (.nil _ _) .nil))))) (by unfold BW;rw [h1,h2,h3,h4,h5];rfl),.cells (AD.c (AA (AA d 9).2 3).2) 146,by kernel_rfl,Dx (by unfold BW;rw [h1,h2,h3,h4,h5];kernel_rfl)⟩
 have g5:=oF h5
 refine AB<|rn ⟨(Ip d [(34,tB (decide (((AA d 9).1:Int)=5)))]),(K7 d)⟩ ?_
 refine AL _ rfl (fun h6 => ?_) (fun h6 => ?_)
 ·have g6:=oT h6
  refine AB<|rb 37 (Z38 d) (GK d) ⟨[(2,tP 2 0)],[(2,.cells (aJ d) 105),(1000,.cells (AD.c (AA (AA d 9).2 6).2) 146)]⟩ (cWr (Bj (AA d 9).2 6 au6 au11))<|AF ?_
  refine Ac<|Cb<|Bf ?_
  exact xl (.av (.agg (aJ d))) ⟨DB (y:=.av (.agg [.i 7,.s (⟨#[]⟩),.i 0,.i 0,.i 0,.i (W64 (100+(W64 (50*(AA (AA d 9).2 6).1)))),.i 400,opL (OpL.mk 0 (fun _ _=>default))])) (.av (.agg (rr5 (rr2 (.cons (.nil _ _) .nil))))) (by unfold BW;rw [h1,h2,h3,h4,h5,h6];rfl),.cells (AD.c (AA (AA d 9).2 6).2) 146,by kernel_rfl,Dx (by unfold BW;rw [h1,h2,h3,h4,h5,h6];kernel_rfl)⟩
 have g6:=oF h6
 refine AB<|rn ⟨(Ip d [(42,tB (decide (((AA d 9).1:Int)=6)))]),(K7 d)⟩ ?_
 refine AL _ rfl (fun h7 => ?_) (fun h7 => ?_)
 ·have g7:=oT h7
  refine AB<|rb 45 (Z34 d) (GK d) ⟨[(2,tP 2 0)],[(2,.cells (Z4 d) 105),(1000,Z35 d)]⟩ (cWr (Bj (AA d 9).2 2 au6 au11))<|AF ?_
  refine Ac<|Cb<|Bf ?_
  exact xl (.av (.agg (Z4 d))) ⟨DB (y:=.av (.agg [.i 8,.s (⟨#[]⟩),.i 0,.i 0,.i 0,.i 0,.i 0,opL (OpL.mk 1 (As 8 1 (SU d)))])) (.av (.agg (rr5 (rr2 (.cons (.list true false _ _ _ _ (fun _ _ _ _=>.refl _) (fun h=>by cases h)) .nil))))) (by unfold BW;rw [h1,h2,h3,h4,h5,h6,h7];rfl),.cells (AD.c (AA (AA d 9).2 2).2) 146,by kernel_rfl,Dx (by unfold BW;rw [h1,h2,h3,h4,h5,h6,h7];kernel_rfl)⟩
 have g7:=oF h7
 refine AB<|rn ⟨[(0,tP 1000 0),(2,tP 2 0),(50,tB (decide (((AA d 9).1:Int)=7)))],(K7 d)⟩ ?_
 refine AL _ rfl (fun h8 => ?_) (fun h8 => ?_)
 ·have g8:=oT h8
  refine AB<|oc [(53,(Z34 d)),(56,(Z39 d))] [A0 (Z34 d).2.1,CB (GK d),A0 (Z39 d).2.1,CB (.cells (AD.c (AA (AA d 9).2 2).2) 146)] (.cons (cWr (Bj (AA d 9).2 2 au6 au11)) (.cons (cWr (Bj (AA (AA d 9).2 2).2 4 au6 au11)) .nil)) (.cons rfl (.cons rfl (.cons rfl (.cons rfl .nil))))<|AF ?_
  refine Ac<|Cb<|Bf ?_
  exact xl (.av (.agg [.i (W64 (9+(AA (AA d 9).2 2).1)),.s (⟨#[]⟩),.i 0,.i 0,.i 0,.i 0,.i 0,.list true 8 2 (As 8 2 [.i 4,.s (⟨#[]⟩),.i (W64 (1+(AA (AA (AA d 9).2 2).2 4).1)),.i 0,.i 0,.i 0,.i 0,vN,.i 2,.s ({ data := #[71,78,68] }:ByteArray),.i 0,.i 0,.i 0,.i 0,.i 0,vN])])) ⟨DB (y:=.av (.agg [.i (W64 (9+(AA (AA d 9).2 2).1)),.s (⟨#[]⟩),.i 0,.i 0,.i 0,.i 0,.i 0,opL (OpL.mk 2 (As 8 2 [.i 4,.s (⟨#[]⟩),.i (W64 (1+(AA (AA (AA d 9).2 2).2 4).1)),.i 0,.i 0,.i 0,.i 0,vN,.i 2,.s ({ data := #[71,78,68] }:ByteArray),.i 0,.i 0,.i 0,.i 0,.i 0,vN]))])) (.av (.agg (rr5 (rr2 (.cons (.list true false _ _ _ _ (fun _ _ _ _=>.refl _) (fun h=>by cases h)) .nil))))) (by unfold BW;rw [h1,h2,h3,h4,h5,h6,h7,h8];rfl),.cells (AD.c (Z3a d)) 146,by kernel_rfl,Dx (by unfold BW;rw [h1,h2,h3,h4,h5,h6,h7,h8];kernel_rfl)⟩
 refine Af<|A8 ?_
 refine AF<|AB ?_
 refine on<|Ac ?_
 exact xl aE ⟨DB (y:=.av (.agg [.i 1,.s (⟨#[]⟩),.i 0,.i 0,.i 0,.i 0,.i 0,opL (OpL.mk 0 (fun _ _=>default))])) (.av (.agg (rr5 (rr2 (.cons (.nil _ _) .nil))))) (by unfold BW;rw [h1,h2,h3,h4,h5,h6,h7,h8];rfl),.cells (AD.c (AA d 9).2) 146,by kernel_rfl,Dx (by unfold BW;rw [h1,h2,h3,h4,h5,h6,h7,h8];kernel_rfl)⟩
theorem Zk {d:AD} (h:Br d):Br (BW d).2:=by
 unfold BW
 exact Dw (Be (Be h)) (Dw (Be h) (Dw (Be (Be h)) (Dw (Be (Be h)) (Dw (Be (Be h)) (Dw (Be (Be h)) (Dw (Be (Be h)) (Dw (Be (Be (Be h))) (Be h))))))))
abbrev bL:List Cl:=[.i b.Layers,.any,.any,.any,lst 7 AG.c b.Parts,.any,lst 6 Ap.c b.Tracks,lst 8 Bo.c b.Vias,lst 8 A4.c b.Pours,lst 5 BT.c b.Keeps,lst 4 Bi.c b.Slots,.any,.any,.any,.any]
def Z3b:Blk:=.cells (bL b) 42
def Z3c:Blk:=.row 1 ([]:List Int).length (AP eIn ([]:List Int)) 3
def Z3d:Tv:=.av (.one (.own 100000 1 ([]:List Int).length))
abbrev Nt:=b.Parts.getD v4.toNat default
def Z3e (v3:List Int) (b:AC) (v4:Int):Blk:=.row 1 (v3++[(Nt b v4).Id]).length (AP eIn (v3++[(Nt b v4).Id])) 3
abbrev I8:=b.Tracks.getD v5.toNat default
def Z3f (v3':List Int) (b:AC) (v5:Int):Blk:=.row 1 (v3'++[(I8 b v5).Id]).length (AP eIn (v3'++[(I8 b v5).Id])) 3
abbrev Np:=b.Vias.getD v6.toNat default
def Z3g (v3'':List Int) (b:AC) (v6:Int):Blk:=.row 1 (v3''++[(Np b v6).Id]).length (AP eIn (v3''++[(Np b v6).Id])) 3
abbrev Ns:=b.Pours.getD v7.toNat default
def Z3h (v3''':List Int) (b:AC) (v7:Int):Blk:=.row 1 (v3'''++[(Ns b v7).Id]).length (AP eIn (v3'''++[(Ns b v7).Id])) 3
abbrev Nu:=b.Keeps.getD v8.toNat default
def Z3i (v3'''':List Int) (b:AC) (v8:Int):Blk:=.row 1 (v3''''++[(Nu b v8).Id]).length (AP eIn (v3''''++[(Nu b v8).Id])) 3
abbrev Nr:=b.Slots.getD v9.toNat default
def Z3j (v3''''':List Int) (b:AC) (v9:Int):Blk:=.row 1 (v3'''''++[(Nr b v9).Id]).length (AP eIn (v3'''''++[(Nr b v9).Id])) 3
def Fs (b:AC) (v3:List Int) (v4:Int) (v3':List Int) (v5:Int) (v3'':List Int) (v6:Int) (v3''':List Int) (v7:Int) (v3'''':List Int) (v8:Int) (K0:List Int->Int->(List Int)) (K1:List Int->Int->(List Int)) (K2:List Int->Int->(List Int)) (K3:List Int->Int->(List Int)) (K4:List Int->Int->(List Int)):Nat->List Int->Int->(List Int)
 | 0,_,_=>default
 | n5+1,v3''''',v9=>bif decide ((v9:Int)<(b.Slots.length:Int)) then ((Fs b v3 v4 v3' v5 v3'' v6 v3''' v7 v3'''' v8 K0 K1 K2 K3 K4 n5) (v3'''''++[(b.Slots.getD v9.toNat default).Id]) (v9+1)) else v3'''''
def Ek (b:AC) (v3:List Int) (v4:Int) (v3':List Int) (v5:Int) (v3'':List Int) (v6:Int) (v3''':List Int) (v7:Int) (K0:List Int->Int->(List Int)) (K1:List Int->Int->(List Int)) (K2:List Int->Int->(List Int)) (K3:List Int->Int->(List Int)):Nat->List Int->Int->(List Int)
 | 0,_,_=>default
 | n4+1,v3'''',v8=>bif decide ((v8:Int)<(b.Keeps.length:Int)) then ((Ek b v3 v4 v3' v5 v3'' v6 v3''' v7 K0 K1 K2 K3 n4) (v3''''++[(b.Keeps.getD v8.toNat default).Id]) (v8+1)) else (Fs b v3 v4 v3' v5 v3'' v6 v3''' v7 v3'''' v8 K0 K1 K2 K3 (Ek b v3 v4 v3' v5 v3'' v6 v3''' v7 K0 K1 K2 K3 n4) (((b.Slots.length:Int)-0).toNat+1) v3'''' 0)
def D0 (b:AC) (v3:List Int) (v4:Int) (v3':List Int) (v5:Int) (v3'':List Int) (v6:Int) (K0:List Int->Int->(List Int)) (K1:List Int->Int->(List Int)) (K2:List Int->Int->(List Int)):Nat->List Int->Int->(List Int)
 | 0,_,_=>default
 | n3+1,v3''',v7=>bif decide ((v7:Int)<(b.Pours.length:Int)) then ((D0 b v3 v4 v3' v5 v3'' v6 K0 K1 K2 n3) (v3'''++[(b.Pours.getD v7.toNat default).Id]) (v7+1)) else (Ek b v3 v4 v3' v5 v3'' v6 v3''' v7 K0 K1 K2 (D0 b v3 v4 v3' v5 v3'' v6 K0 K1 K2 n3) (((b.Keeps.length:Int)-0).toNat+1) v3''' 0)
def C6 (b:AC) (v3:List Int) (v4:Int) (v3':List Int) (v5:Int) (K0:List Int->Int->(List Int)) (K1:List Int->Int->(List Int)):Nat->List Int->Int->(List Int)
 | 0,_,_=>default
 | n2+1,v3'',v6=>bif decide ((v6:Int)<(b.Vias.length:Int)) then ((C6 b v3 v4 v3' v5 K0 K1 n2) (v3''++[(b.Vias.getD v6.toNat default).Id]) (v6+1)) else (D0 b v3 v4 v3' v5 v3'' v6 K0 K1 (C6 b v3 v4 v3' v5 K0 K1 n2) (((b.Pours.length:Int)-0).toNat+1) v3'' 0)
def B2 (b:AC) (v3:List Int) (v4:Int) (K0:List Int->Int->(List Int)):Nat->List Int->Int->(List Int)
 | 0,_,_=>default
 | n1+1,v3',v5=>bif decide ((v5:Int)<(b.Tracks.length:Int)) then ((B2 b v3 v4 K0 n1) (v3'++[(b.Tracks.getD v5.toNat default).Id]) (v5+1)) else (C6 b v3 v4 v3' v5 K0 (B2 b v3 v4 K0 n1) (((b.Vias.length:Int)-0).toNat+1) v3' 0)
def BR (b:AC):Nat->List Int->Int->(List Int)
 | 0,_,_=>default
 | n0+1,v3,v4=>bif decide ((v4:Int)<(b.Parts.length:Int)) then ((BR b n0) (v3++[(b.Parts.getD v4.toNat default).Id]) (v4+1)) else (B2 b v3 v4 (BR b n0) (((b.Tracks.length:Int)-0).toNat+1) v3 0)
def Eu (b:AC):(List Int):=BR b (((b.Parts.length:Int)-0).toNat+1) ([]:List Int) 0
def XM:CT:=(86,[.agg (bL b)],.val [] (.av (.one (lst 1 eIn (Eu b)))))
theorem nM (b:AC) (h0:(b.Parts.length:Int)<=1000000) (h1:(b.Tracks.length:Int)<=1000000) (h2:(b.Vias.length:Int)<=1000000) (h3:(b.Pours.length:Int)<=1000000) (h4:(b.Keeps.length:Int)<=1000000) (h5:(b.Slots.length:Int)<=1000000):PuP 86 (XM b).2.1 (tO (lst 1 eIn (Eu b))):=by
 refine pwf Try.func86 fun W0 M0 => ?_
 refine AB<|on<|AB ?_
 refine on ?_
 refine AB<|AB ?_
 refine rn ⟨[(1,tP 1 0),(3,.av (.one vN)),(4,tI 0)],[(1,Z3b b)]⟩<|AX ?_
 refine Aq (Cv.trans (vg 100000 1 (fun _ _=>default) 3 [(3,[0])] [] hk0) (Cv.trans (Cr 100000 (CL 1 (fun _ _=>default) eIn)) (Cv.trans (ck (⟨[(1,tP 1 0),(3,Z3d),(4,tI 0)],[(1,Z3b b),(100000,Z3c)]⟩)) (Cv.refl _)))) ?_
 refine Bc (ι:=Nat×List Int×Int) (fun x=>⟨[(1,tP 1 0),(3,tO (.own 100000 1 x.2.1.length)),(4,tI x.2.2)],[(1,Z3b b),(100000,.row 1 x.2.1.length (AP eIn x.2.1) 3)]⟩) (fun x=>((b.Parts.length:Int)-x.2.2).toNat<x.1/\(0<=x.2.2/\(x.2.2<=(b.Parts.length:Int)\/x.2.2=0)/\(x.2.1.length:Int)<=0+1*(x.2.2-0))/\BR b x.1 x.2.1 x.2.2=Eu b) (fun x=>x.1) ?_ (((b.Parts.length:Int)-0).toNat+1,([]:List Int),0) ⟨Nat.lt_succ_self _,⟨ax0,ax0,ax0⟩,(by simp only [Eu,cond_true,cond_false])⟩
 rintro ⟨n0,v3,v4⟩ ⟨hm0,hinv0,hF0⟩
 try dsimp only at hm0 hinv0 hF0
 cases n0 with | zero=>exact nz hm0 | succ n0 => ?_
 refine AB<|AB ?_
 refine rn ⟨[(1,tP 1 0),(3,tO (.own 100000 1 v3.length)),(4,tI v4),(14,tB (decide ((v4:Int)<(b.Parts.length:Int))))],[(1,Z3b b),(100000,.row 1 v3.length (AP eIn v3) 3)]⟩ ?_
 refine AL _ rfl (fun h1 => ?_) (fun h1 => ?_)
 ·have g1:=oT h1
  refine Af<|AF ?_
  refine AB<|AX ?_
  refine rc [] [0<=(v4:Int)/\(v4:Int)<((b.Parts.length:Nat):Int),v3.length=v3.length,v3.length+1<=maxLen,(v3.length+1)*8<=140737488355328] ⟨[(1,tP 1 0),(3,tO (.own 25 1 (v3.length+1))),(4,tI v4)],[(1,Z3b b),(25,.row 1 (v3.length+1) (fun i_ j_=>if i_<v3.length then (AP eIn v3) i_ j_ else (As 1 1 [.i (Nt b v4).Id]) (i_-v3.length) j_) 3)]⟩ .nil (.cons au1 (.cons rfl (.cons au3 (.cons au3 .nil))))<|A8<|AF ?_
  refine Aq (Cv.trans (BS (⟨[(1,tP 1 0),(3,tO (.own 25 1 (v3++[(Nt b v4).Id]).length)),(4,tI v4)],[(1,Z3b b),(25,Z3e v3 b v4)]⟩) (.cons ⟨rfl,.refl _⟩ (.cons ⟨rfl,.av (.one (.own _ _ au0))⟩ lr)) (.cons ⟨rfl,.refl _⟩ (.cons ⟨rfl,Ao 3 (Au (An 1 eIn v3) (Ae (c:=eIn) (xs:=([(b.Parts.getD v4.toNat default).Id]:List Int)) rfl kr))⟩ .nil))) (Cv.refl _)) ?_
  refine rg ⟨[(1,tP 1 0),(3,tO (.own 25 1 (v3++[(Nt b v4).Id]).length)),(4,tI (W64 (v4+1)))],[(1,Z3b b),(25,Z3e v3 b v4)]⟩ ?_
  (try rw [(show W64 (v4+1)=v4+1 from A1 oM au9)])
  refine AF ?_
  refine ⟨(n0,v3++[(b.Parts.getD v4.toNat default).Id],v4+1),⟨?_,?_,(by rw [<- hF0];simp only [BR,h1,cond_true,cond_false])⟩,Nat.lt_succ_self _,Cv.trans (vr 25 100000 hk0) (BM kr)⟩
  ·show ((b.Parts.length:Int)-(v4+1)).toNat<n0;omega
  exact ⟨ax0,ax0,ax0⟩
 have g1:=oF h1
 refine BU<|BE ?_
 refine BE<|BV ?_
 refine AF<|AB<|AB ?_
 refine rn ⟨[(1,tP 1 0),(3,tO (.own 100000 1 v3.length)),(5,tI 0)],[(1,Z3b b),(100000,.row 1 v3.length (AP eIn v3) 3)]⟩<|AX ?_
 refine Bc (ι:=Nat×List Int×Int) (fun x=>⟨[(1,tP 1 0),(3,tO (.own 100000 1 x.2.1.length)),(5,tI x.2.2)],[(1,Z3b b),(100000,.row 1 x.2.1.length (AP eIn x.2.1) 3)]⟩) (fun x=>((b.Tracks.length:Int)-x.2.2).toNat<x.1/\(0<=x.2.2/\(x.2.2<=(b.Tracks.length:Int)\/x.2.2=0)/\(x.2.1.length:Int)<=(v3.length:Int)+1*(x.2.2-0))/\B2 b v3 v4 (BR b n0) x.1 x.2.1 x.2.2=Eu b) (fun x=>x.1) ?_ (((b.Tracks.length:Int)-0).toNat+1,v3,0) ⟨Nat.lt_succ_self _,⟨ax0,ax0,ax0⟩,(by rw [<- hF0];simp only [BR,h1,cond_true,cond_false])⟩
 rintro ⟨n1,v3',v5⟩ ⟨hm1,hinv1,hF1⟩
 try dsimp only at hm1 hinv1 hF1
 cases n1 with | zero=>exact nz hm1 | succ n1 => ?_
 refine AB<|AB ?_
 refine rn ⟨[(1,tP 1 0),(3,tO (.own 100000 1 v3'.length)),(5,tI v5),(30,tB (decide ((v5:Int)<(b.Tracks.length:Int))))],[(1,Z3b b),(100000,.row 1 v3'.length (AP eIn v3') 3)]⟩ ?_
 refine AL _ rfl (fun h2 => ?_) (fun h2 => ?_)
 ·have g2:=oT h2
  refine Af<|AF ?_
  refine AB<|AX ?_
  refine rc [] [0<=(v5:Int)/\(v5:Int)<((b.Tracks.length:Nat):Int),v3'.length=v3'.length,v3'.length+1<=maxLen,(v3'.length+1)*8<=140737488355328] ⟨[(1,tP 1 0),(3,tO (.own 41 1 (v3'.length+1))),(5,tI v5)],[(1,Z3b b),(41,.row 1 (v3'.length+1) (fun i_ j_=>if i_<v3'.length then (AP eIn v3') i_ j_ else (As 1 1 [.i (I8 b v5).Id]) (i_-v3'.length) j_) 3)]⟩ .nil (.cons au1 (.cons rfl (.cons au3 (.cons au3 .nil))))<|A8<|AF ?_
  refine Aq (Cv.trans (BS (⟨[(1,tP 1 0),(3,tO (.own 41 1 (v3'++[(I8 b v5).Id]).length)),(5,tI v5)],[(1,Z3b b),(41,Z3f v3' b v5)]⟩) (.cons ⟨rfl,.refl _⟩ (.cons ⟨rfl,.av (.one (.own _ _ au0))⟩ lr)) (.cons ⟨rfl,.refl _⟩ (.cons ⟨rfl,Ao 3 (Au (An 1 eIn v3') (Ae (c:=eIn) (xs:=([(b.Tracks.getD v5.toNat default).Id]:List Int)) rfl kr))⟩ .nil))) (Cv.refl _)) ?_
  refine rg ⟨[(1,tP 1 0),(3,tO (.own 41 1 (v3'++[(I8 b v5).Id]).length)),(5,tI (W64 (v5+1)))],[(1,Z3b b),(41,Z3f v3' b v5)]⟩ ?_
  (try rw [(show W64 (v5+1)=v5+1 from A1 oM au9)])
  refine AF ?_
  refine ⟨(n1,v3'++[(b.Tracks.getD v5.toNat default).Id],v5+1),⟨?_,?_,(by rw [<- hF1];simp only [B2,h2,cond_true,cond_false])⟩,Nat.lt_succ_self _,Cv.trans (vr 41 100000 hk0) (BM kr)⟩
  ·show ((b.Tracks.length:Int)-(v5+1)).toNat<n1;omega
  exact ⟨ax0,ax0,ax0⟩
 have g2:=oF h2
 refine BU<|BE ?_
 refine BE<|BV ?_
 refine AF<|AB<|AB ?_
 refine rn ⟨[(1,tP 1 0),(3,tO (.own 100000 1 v3'.length)),(6,tI 0)],[(1,Z3b b),(100000,.row 1 v3'.length (AP eIn v3') 3)]⟩<|AX ?_
 refine Bc (ι:=Nat×List Int×Int) (fun x=>⟨[(1,tP 1 0),(3,tO (.own 100000 1 x.2.1.length)),(6,tI x.2.2)],[(1,Z3b b),(100000,.row 1 x.2.1.length (AP eIn x.2.1) 3)]⟩) (fun x=>((b.Vias.length:Int)-x.2.2).toNat<x.1/\(0<=x.2.2/\(x.2.2<=(b.Vias.length:Int)\/x.2.2=0)/\(x.2.1.length:Int)<=(v3'.length:Int)+1*(x.2.2-0))/\C6 b v3 v4 v3' v5 (BR b n0) (B2 b v3 v4 (BR b n0) n1) x.1 x.2.1 x.2.2=Eu b) (fun x=>x.1) ?_ (((b.Vias.length:Int)-0).toNat+1,v3',0) ⟨Nat.lt_succ_self _,⟨ax0,ax0,ax0⟩,(by rw [<- hF1];simp only [B2,h2,cond_true,cond_false])⟩
 rintro ⟨n2,v3'',v6⟩ ⟨hm2,hinv2,hF2⟩
 try dsimp only at hm2 hinv2 hF2
 cases n2 with | zero=>exact nz hm2 | succ n2 => ?_
 refine AB<|AB ?_
 refine rn ⟨[(1,tP 1 0),(3,tO (.own 100000 1 v3''.length)),(6,tI v6),(46,tB (decide ((v6:Int)<(b.Vias.length:Int))))],[(1,Z3b b),(100000,.row 1 v3''.length (AP eIn v3'') 3)]⟩ ?_
 refine AL _ rfl (fun h3 => ?_) (fun h3 => ?_)
 ·have g3:=oT h3
  refine Af<|AF ?_
  refine AB<|AX ?_
  refine rc [] [0<=(v6:Int)/\(v6:Int)<((b.Vias.length:Nat):Int),v3''.length=v3''.length,v3''.length+1<=maxLen,(v3''.length+1)*8<=140737488355328] ⟨[(1,tP 1 0),(3,tO (.own 57 1 (v3''.length+1))),(6,tI v6)],[(1,Z3b b),(57,.row 1 (v3''.length+1) (fun i_ j_=>if i_<v3''.length then (AP eIn v3'') i_ j_ else (As 1 1 [.i (Np b v6).Id]) (i_-v3''.length) j_) 3)]⟩ .nil (.cons au1 (.cons rfl (.cons au3 (.cons au3 .nil))))<|A8<|AF ?_
  refine Aq (Cv.trans (BS (⟨[(1,tP 1 0),(3,tO (.own 57 1 (v3''++[(Np b v6).Id]).length)),(6,tI v6)],[(1,Z3b b),(57,Z3g v3'' b v6)]⟩) (.cons ⟨rfl,.refl _⟩ (.cons ⟨rfl,.av (.one (.own _ _ au0))⟩ lr)) (.cons ⟨rfl,.refl _⟩ (.cons ⟨rfl,Ao 3 (Au (An 1 eIn v3'') (Ae (c:=eIn) (xs:=([(b.Vias.getD v6.toNat default).Id]:List Int)) rfl kr))⟩ .nil))) (Cv.refl _)) ?_
  refine rg ⟨[(1,tP 1 0),(3,tO (.own 57 1 (v3''++[(Np b v6).Id]).length)),(6,tI (W64 (v6+1)))],[(1,Z3b b),(57,Z3g v3'' b v6)]⟩ ?_
  (try rw [(show W64 (v6+1)=v6+1 from A1 oM au9)])
  refine AF ?_
  refine ⟨(n2,v3''++[(b.Vias.getD v6.toNat default).Id],v6+1),⟨?_,?_,(by rw [<- hF2];simp only [C6,h3,cond_true,cond_false])⟩,Nat.lt_succ_self _,Cv.trans (vr 57 100000 hk0) (BM kr)⟩
  ·show ((b.Vias.length:Int)-(v6+1)).toNat<n2;omega
  exact ⟨ax0,ax0,ax0⟩
 have g3:=oF h3
 refine BU<|BE ?_
 refine BE<|BV ?_
 refine AF<|AB<|AB ?_
 refine rn ⟨[(1,tP 1 0),(3,tO (.own 100000 1 v3''.length)),(7,tI 0)],[(1,Z3b b),(100000,.row 1 v3''.length (AP eIn v3'') 3)]⟩<|AX ?_
 refine Bc (ι:=Nat×List Int×Int) (fun x=>⟨[(1,tP 1 0),(3,tO (.own 100000 1 x.2.1.length)),(7,tI x.2.2)],[(1,Z3b b),(100000,.row 1 x.2.1.length (AP eIn x.2.1) 3)]⟩) (fun x=>((b.Pours.length:Int)-x.2.2).toNat<x.1/\(0<=x.2.2/\(x.2.2<=(b.Pours.length:Int)\/x.2.2=0)/\(x.2.1.length:Int)<=(v3''.length:Int)+1*(x.2.2-0))/\D0 b v3 v4 v3' v5 v3'' v6 (BR b n0) (B2 b v3 v4 (BR b n0) n1) (C6 b v3 v4 v3' v5 (BR b n0) (B2 b v3 v4 (BR b n0) n1) n2) x.1 x.2.1 x.2.2=Eu b) (fun x=>x.1) ?_ (((b.Pours.length:Int)-0).toNat+1,v3'',0) ⟨Nat.lt_succ_self _,⟨ax0,ax0,ax0⟩,(by rw [<- hF2];simp only [C6,h3,cond_true,cond_false])⟩
 rintro ⟨n3,v3''',v7⟩ ⟨hm3,hinv3,hF3⟩
 try dsimp only at hm3 hinv3 hF3
 cases n3 with | zero=>exact nz hm3 | succ n3 => ?_
 refine AB<|AB ?_
 refine rn ⟨[(1,tP 1 0),(3,tO (.own 100000 1 v3'''.length)),(7,tI v7),(62,tB (decide ((v7:Int)<(b.Pours.length:Int))))],[(1,Z3b b),(100000,.row 1 v3'''.length (AP eIn v3''') 3)]⟩ ?_
 refine AL _ rfl (fun h4 => ?_) (fun h4 => ?_)
 ·have g4:=oT h4
  refine Af<|AF ?_
  refine AB<|AX ?_
  refine rc [] [0<=(v7:Int)/\(v7:Int)<((b.Pours.length:Nat):Int),v3'''.length=v3'''.length,v3'''.length+1<=maxLen,(v3'''.length+1)*8<=140737488355328] ⟨[(1,tP 1 0),(3,tO (.own 73 1 (v3'''.length+1))),(7,tI v7)],[(1,Z3b b),(73,.row 1 (v3'''.length+1) (fun i_ j_=>if i_<v3'''.length then (AP eIn v3''') i_ j_ else (As 1 1 [.i (Ns b v7).Id]) (i_-v3'''.length) j_) 3)]⟩ .nil (.cons au1 (.cons rfl (.cons au3 (.cons au3 .nil))))<|A8<|AF ?_
  refine Aq (Cv.trans (BS (⟨[(1,tP 1 0),(3,tO (.own 73 1 (v3'''++[(Ns b v7).Id]).length)),(7,tI v7)],[(1,Z3b b),(73,Z3h v3''' b v7)]⟩) (.cons ⟨rfl,.refl _⟩ (.cons ⟨rfl,.av (.one (.own _ _ au0))⟩ lr)) (.cons ⟨rfl,.refl _⟩ (.cons ⟨rfl,Ao 3 (Au (An 1 eIn v3''') (Ae (c:=eIn) (xs:=([(b.Pours.getD v7.toNat default).Id]:List Int)) rfl kr))⟩ .nil))) (Cv.refl _)) ?_
  refine rg ⟨[(1,tP 1 0),(3,tO (.own 73 1 (v3'''++[(Ns b v7).Id]).length)),(7,tI (W64 (v7+1)))],[(1,Z3b b),(73,Z3h v3''' b v7)]⟩ ?_
  (try rw [(show W64 (v7+1)=v7+1 from A1 oM au9)])
  refine AF ?_
  refine ⟨(n3,v3'''++[(b.Pours.getD v7.toNat default).Id],v7+1),⟨?_,?_,(by rw [<- hF3];simp only [D0,h4,cond_true,cond_false])⟩,Nat.lt_succ_self _,Cv.trans (vr 73 100000 hk0) (BM kr)⟩
  ·show ((b.Pours.length:Int)-(v7+1)).toNat<n3;omega
  exact ⟨ax0,ax0,ax0⟩
 have g4:=oF h4
 refine BU<|BE ?_
 refine BE<|BV ?_
 refine AF<|AB<|AB ?_
 refine rn ⟨[(1,tP 1 0),(3,tO (.own 100000 1 v3'''.length)),(8,tI 0)],[(1,Z3b b),(100000,.row 1 v3'''.length (AP eIn v3''') 3)]⟩<|AX ?_
 refine Bc (ι:=Nat×List Int×Int) (fun x=>⟨[(1,tP 1 0),(3,tO (.own 100000 1 x.2.1.length)),(8,tI x.2.2)],[(1,Z3b b),(100000,.row 1 x.2.1.length (AP eIn x.2.1) 3)]⟩) (fun x=>((b.Keeps.length:Int)-x.2.2).toNat<x.1/\(0<=x.2.2/\(x.2.2<=(b.Keeps.length:Int)\/x.2.2=0)/\(x.2.1.length:Int)<=(v3'''.length:Int)+1*(x.2.2-0))/\Ek b v3 v4 v3' v5 v3'' v6 v3''' v7 (BR b n0) (B2 b v3 v4 (BR b n0) n1) (C6 b v3 v4 v3' v5 (BR b n0) (B2 b v3 v4 (BR b n0) n1) n2) (D0 b v3 v4 v3' v5 v3'' v6 (BR b n0) (B2 b v3 v4 (BR b n0) n1) (C6 b v3 v4 v3' v5 (BR b n0) (B2 b v3 v4 (BR b n0) n1) n2) n3) x.1 x.2.1 x.2.2=Eu b) (fun x=>x.1) ?_ (((b.Keeps.length:Int)-0).toNat+1,v3''',0) ⟨Nat.lt_succ_self _,⟨ax0,ax0,ax0⟩,(by rw [<- hF3];simp only [D0,h4,cond_true,cond_false])⟩
 rintro ⟨n4,v3'''',v8⟩ ⟨hm4,hinv4,hF4⟩
 try dsimp only at hm4 hinv4 hF4
 cases n4 with | zero=>exact nz hm4 | succ n4 => ?_
 refine AB<|AB ?_
 refine rn ⟨[(1,tP 1 0),(3,tO (.own 100000 1 v3''''.length)),(8,tI v8),(78,tB (decide ((v8:Int)<(b.Keeps.length:Int))))],[(1,Z3b b),(100000,.row 1 v3''''.length (AP eIn v3'''') 3)]⟩ ?_
 refine AL _ rfl (fun h5 => ?_) (fun h5 => ?_)
 ·have g5:=oT h5
  refine Af<|AF ?_
  refine AB<|AX ?_
  refine rc [] [0<=(v8:Int)/\(v8:Int)<((b.Keeps.length:Nat):Int),v3''''.length=v3''''.length,v3''''.length+1<=maxLen,(v3''''.length+1)*8<=140737488355328] ⟨[(1,tP 1 0),(3,tO (.own 89 1 (v3''''.length+1))),(8,tI v8)],[(1,Z3b b),(89,.row 1 (v3''''.length+1) (fun i_ j_=>if i_<v3''''.length then (AP eIn v3'''') i_ j_ else (As 1 1 [.i (Nu b v8).Id]) (i_-v3''''.length) j_) 3)]⟩ .nil (.cons au1 (.cons rfl (.cons au3 (.cons au3 .nil))))<|A8<|AF ?_
  refine Aq (Cv.trans (BS (⟨[(1,tP 1 0),(3,tO (.own 89 1 (v3''''++[(Nu b v8).Id]).length)),(8,tI v8)],[(1,Z3b b),(89,Z3i v3'''' b v8)]⟩) (.cons ⟨rfl,.refl _⟩ (.cons ⟨rfl,.av (.one (.own _ _ au0))⟩ lr)) (.cons ⟨rfl,.refl _⟩ (.cons ⟨rfl,Ao 3 (Au (An 1 eIn v3'''') (Ae (c:=eIn) (xs:=([(b.Keeps.getD v8.toNat default).Id]:List Int)) rfl kr))⟩ .nil))) (Cv.refl _)) ?_
  refine rg ⟨[(1,tP 1 0),(3,tO (.own 89 1 (v3''''++[(Nu b v8).Id]).length)),(8,tI (W64 (v8+1)))],[(1,Z3b b),(89,Z3i v3'''' b v8)]⟩ ?_
  (try rw [(show W64 (v8+1)=v8+1 from A1 oM au9)])
  refine AF ?_
  refine ⟨(n4,v3''''++[(b.Keeps.getD v8.toNat default).Id],v8+1),⟨?_,?_,(by rw [<- hF4];simp only [Ek,h5,cond_true,cond_false])⟩,Nat.lt_succ_self _,Cv.trans (vr 89 100000 hk0) (BM kr)⟩
  ·show ((b.Keeps.length:Int)-(v8+1)).toNat<n4;omega
  exact ⟨ax0,ax0,ax0⟩
 have g5:=oF h5
 refine BU<|BE ?_
 refine BE<|BV ?_
 refine AF<|AB<|AB ?_
 refine rn ⟨[(1,tP 1 0),(3,tO (.own 100000 1 v3''''.length)),(9,tI 0)],[(1,Z3b b),(100000,.row 1 v3''''.length (AP eIn v3'''') 3)]⟩<|AX ?_
 refine Bc (ι:=Nat×List Int×Int) (fun x=>⟨[(1,tP 1 0),(3,tO (.own 100000 1 x.2.1.length)),(9,tI x.2.2)],[(1,Z3b b),(100000,.row 1 x.2.1.length (AP eIn x.2.1) 3)]⟩) (fun x=>((b.Slots.length:Int)-x.2.2).toNat<x.1/\(0<=x.2.2/\(x.2.2<=(b.Slots.length:Int)\/x.2.2=0)/\(x.2.1.length:Int)<=(v3''''.length:Int)+1*(x.2.2-0))/\Fs b v3 v4 v3' v5 v3'' v6 v3''' v7 v3'''' v8 (BR b n0) (B2 b v3 v4 (BR b n0) n1) (C6 b v3 v4 v3' v5 (BR b n0) (B2 b v3 v4 (BR b n0) n1) n2) (D0 b v3 v4 v3' v5 v3'' v6 (BR b n0) (B2 b v3 v4 (BR b n0) n1) (C6 b v3 v4 v3' v5 (BR b n0) (B2 b v3 v4 (BR b n0) n1) n2) n3) (Ek b v3 v4 v3' v5 v3'' v6 v3''' v7 (BR b n0) (B2 b v3 v4 (BR b n0) n1) (C6 b v3 v4 v3' v5 (BR b n0) (B2 b v3 v4 (BR b n0) n1) n2) (D0 b v3 v4 v3' v5 v3'' v6 (BR b n0) (B2 b v3 v4 (BR b n0) n1) (C6 b v3 v4 v3' v5 (BR b n0) (B2 b v3 v4 (BR b n0) n1) n2) n3) n4) x.1 x.2.1 x.2.2=Eu b) (fun x=>x.1) ?_ (((b.Slots.length:Int)-0).toNat+1,v3'''',0) ⟨Nat.lt_succ_self _,⟨ax0,ax0,ax0⟩,(by rw [<- hF4];simp only [Ek,h5,cond_true,cond_false])⟩
 rintro ⟨n5,v3''''',v9⟩ ⟨hm5,hinv5,hF5⟩
 try dsimp only at hm5 hinv5 hF5
 cases n5 with | zero=>exact nz hm5 | succ n5 => ?_
 refine AB<|AB ?_
 refine rn ⟨[(1,tP 1 0),(3,tO (.own 100000 1 v3'''''.length)),(9,tI v9),(94,tB (decide ((v9:Int)<(b.Slots.length:Int))))],[(1,Z3b b),(100000,.row 1 v3'''''.length (AP eIn v3''''') 3)]⟩ ?_
 refine AL _ rfl (fun h6 => ?_) (fun h6 => ?_)
 ·have g6:=oT h6
  refine Af<|AF ?_
  refine AB<|AX ?_
  refine rc [] [0<=(v9:Int)/\(v9:Int)<((b.Slots.length:Nat):Int),v3'''''.length=v3'''''.length,v3'''''.length+1<=maxLen,(v3'''''.length+1)*8<=140737488355328] ⟨[(1,tP 1 0),(3,tO (.own 105 1 (v3'''''.length+1))),(9,tI v9)],[(1,Z3b b),(105,.row 1 (v3'''''.length+1) (fun i_ j_=>if i_<v3'''''.length then (AP eIn v3''''') i_ j_ else (As 1 1 [.i (Nr b v9).Id]) (i_-v3'''''.length) j_) 3)]⟩ .nil (.cons au1 (.cons rfl (.cons au3 (.cons au3 .nil))))<|A8<|AF ?_
  refine Aq (Cv.trans (BS (⟨[(1,tP 1 0),(3,tO (.own 105 1 (v3'''''++[(Nr b v9).Id]).length)),(9,tI v9)],[(1,Z3b b),(105,Z3j v3''''' b v9)]⟩) (.cons ⟨rfl,.refl _⟩ (.cons ⟨rfl,.av (.one (.own _ _ au0))⟩ lr)) (.cons ⟨rfl,.refl _⟩ (.cons ⟨rfl,Ao 3 (Au (An 1 eIn v3''''') (Ae (c:=eIn) (xs:=([(b.Slots.getD v9.toNat default).Id]:List Int)) rfl kr))⟩ .nil))) (Cv.refl _)) ?_
  refine rg ⟨[(1,tP 1 0),(3,tO (.own 105 1 (v3'''''++[(Nr b v9).Id]).length)),(9,tI (W64 (v9+1)))],[(1,Z3b b),(105,Z3j v3''''' b v9)]⟩ ?_
  (try rw [(show W64 (v9+1)=v9+1 from A1 oM au9)])
  refine AF ?_
  refine ⟨(n5,v3'''''++[(b.Slots.getD v9.toNat default).Id],v9+1),⟨?_,?_,(by rw [<- hF5];simp only [Fs,h6,cond_true,cond_false])⟩,Nat.lt_succ_self _,Cv.trans (vr 105 100000 hk0) (BM kr)⟩
  ·show ((b.Slots.length:Int)-(v9+1)).toNat<n5;omega
  exact ⟨ax0,ax0,ax0⟩
 refine BU<|BE ?_
 refine BE<|BV ?_
 refine AF<|AB ?_
 refine on<|Ac ?_
 exact zy (Cv.trans (vf 100000 hk0) (Cv.refl _)) (by rw [<- hF5];simp only [Fs,h6,cond_true,cond_false] <;> kernel_rfl)
theorem jZ (b:AC) (h0:(b.Parts.length:Int)<=1000000) (h1:(b.Tracks.length:Int)<=1000000) (h2:(b.Vias.length:Int)<=1000000) (h3:(b.Pours.length:Int)<=1000000) (h4:(b.Keeps.length:Int)<=1000000) (h5:(b.Slots.length:Int)<=1000000):OKc (XM b):=cPu<|nM b h0 h1 h2 h3 h4 h5
theorem fH (b:AC) (v3:List Int) (v4:Int) (v3':List Int) (v5:Int) (v3'':List Int) (v6:Int) (v3''':List Int) (v7:Int) (v3'''':List Int) (v8:Int) (K0:List Int->Int->List Int) (K1:List Int->Int->List Int) (K2:List Int->Int->List Int) (K3:List Int->Int->List Int) (K4:List Int->Int->List Int):∀ (n:Nat) (v:List Int) (i:Int),0<=i->i<=b.Slots.length->((b.Slots.length:Int)-i).toNat<n->((Fs b v3 v4 v3' v5 v3'' v6 v3''' v7 v3'''' v8 K0 K1 K2 K3 K4 n v i).length:Int)=v.length+((b.Slots.length:Int)-i)
 | 0,v,i,h0,h1,h2=>absurd h2 (Nat.not_lt_zero _)
 | n+1,v,i,h0,h1,h2=>by
  unfold Fs
  by_cases h:i<(b.Slots.length:Int)
  ·simp only [h,decide_true,cond_true]
   have:=fH b v3 v4 v3' v5 v3'' v6 v3''' v7 v3'''' v8 K0 K1 K2 K3 K4 n (v++[(b.Slots.getD i.toNat default).Id]) (i+1) (by omega) (by omega) (by omega)
   rw [this]
   simp only [List.length_append,List.length_cons,List.length_nil]
   omega
  simp only [h,decide_false,cond_false]
  omega
theorem fI (b:AC) (v3:List Int) (v4:Int) (v3':List Int) (v5:Int) (v3'':List Int) (v6:Int) (v3''':List Int) (v7:Int) (K0:List Int->Int->List Int) (K1:List Int->Int->List Int) (K2:List Int->Int->List Int) (K3:List Int->Int->List Int):∀ (n:Nat) (v:List Int) (i:Int),0<=i->i<=b.Keeps.length->((b.Keeps.length:Int)-i).toNat<n->((Ek b v3 v4 v3' v5 v3'' v6 v3''' v7 K0 K1 K2 K3 n v i).length:Int)=v.length+((b.Keeps.length:Int)-i)+(b.Slots.length:Int)
 | 0,v,i,h0,h1,h2=>absurd h2 (Nat.not_lt_zero _)
 | n+1,v,i,h0,h1,h2=>by
  unfold Ek
  by_cases h:i<(b.Keeps.length:Int)
  ·simp only [h,decide_true,cond_true]
   have:=fI b v3 v4 v3' v5 v3'' v6 v3''' v7 K0 K1 K2 K3 n (v++[(b.Keeps.getD i.toNat default).Id]) (i+1) (by omega) (by omega) (by omega)
   rw [this]
   simp only [List.length_append,List.length_cons,List.length_nil]
   omega
  simp only [h,decide_false,cond_false]
  rw [fH _ _ _ _ _ _ _ _ _ _ _ _ _ _ _ _ _ v 0 (by omega) (by omega) (by omega)]
  omega
theorem fJ (b:AC) (v3:List Int) (v4:Int) (v3':List Int) (v5:Int) (v3'':List Int) (v6:Int) (K0:List Int->Int->List Int) (K1:List Int->Int->List Int) (K2:List Int->Int->List Int):∀ (n:Nat) (v:List Int) (i:Int),0<=i->i<=b.Pours.length->((b.Pours.length:Int)-i).toNat<n->((D0 b v3 v4 v3' v5 v3'' v6 K0 K1 K2 n v i).length:Int)=v.length+((b.Pours.length:Int)-i)+(b.Keeps.length:Int)+(b.Slots.length:Int)
 | 0,v,i,h0,h1,h2=>absurd h2 (Nat.not_lt_zero _)
 | n+1,v,i,h0,h1,h2=>by
  unfold D0
  by_cases h:i<(b.Pours.length:Int)
  ·simp only [h,decide_true,cond_true]
   have:=fJ b v3 v4 v3' v5 v3'' v6 K0 K1 K2 n (v++[(b.Pours.getD i.toNat default).Id]) (i+1) (by omega) (by omega) (by omega)
   rw [this]
   simp only [List.length_append,List.length_cons,List.length_nil]
   omega
  simp only [h,decide_false,cond_false]
  rw [fI _ _ _ _ _ _ _ _ _ _ _ _ _ _ v 0 (by omega) (by omega) (by omega)]
  omega
theorem fK (b:AC) (v3:List Int) (v4:Int) (v3':List Int) (v5:Int) (K0:List Int->Int->List Int) (K1:List Int->Int->List Int):∀ (n:Nat) (v:List Int) (i:Int),0<=i->i<=b.Vias.length->((b.Vias.length:Int)-i).toNat<n->((C6 b v3 v4 v3' v5 K0 K1 n v i).length:Int)=v.length+((b.Vias.length:Int)-i)+(b.Pours.length:Int)+(b.Keeps.length:Int)+(b.Slots.length:Int)
 | 0,v,i,h0,h1,h2=>absurd h2 (Nat.not_lt_zero _)
 | n+1,v,i,h0,h1,h2=>by
  unfold C6
  by_cases h:i<(b.Vias.length:Int)
  ·simp only [h,decide_true,cond_true]
   have:=fK b v3 v4 v3' v5 K0 K1 n (v++[(b.Vias.getD i.toNat default).Id]) (i+1) (by omega) (by omega) (by omega)
   rw [this]
   simp only [List.length_append,List.length_cons,List.length_nil]
   omega
  simp only [h,decide_false,cond_false]
  rw [fJ _ _ _ _ _ _ _ _ _ _ _ v 0 (by omega) (by omega) (by omega)]
  omega
theorem fL (b:AC) (v3:List Int) (v4:Int) (K0:List Int->Int->List Int):∀ (n:Nat) (v:List Int) (i:Int),0<=i->i<=b.Tracks.length->((b.Tracks.length:Int)-i).toNat<n->((B2 b v3 v4 K0 n v i).length:Int)=v.length+((b.Tracks.length:Int)-i)+(b.Vias.length:Int)+(b.Pours.length:Int)+(b.Keeps.length:Int)+(b.Slots.length:Int)
 | 0,v,i,h0,h1,h2=>absurd h2 (Nat.not_lt_zero _)
 | n+1,v,i,h0,h1,h2=>by
  unfold B2
  by_cases h:i<(b.Tracks.length:Int)
  ·simp only [h,decide_true,cond_true]
   have:=fL b v3 v4 K0 n (v++[(b.Tracks.getD i.toNat default).Id]) (i+1) (by omega) (by omega) (by omega)
   rw [this]
   simp only [List.length_append,List.length_cons,List.length_nil]
   omega
  simp only [h,decide_false,cond_false]
  rw [fK _ _ _ _ _ _ _ _ v 0 (by omega) (by omega) (by omega)]
  omega
theorem fM (b:AC)   : ∀ (n:Nat) (v:List Int) (i:Int),0<=i->i<=b.Parts.length->((b.Parts.length:Int)-i).toNat<n->((BR b n v i).length:Int)=v.length+((b.Parts.length:Int)-i)+(b.Tracks.length:Int)+(b.Vias.length:Int)+(b.Pours.length:Int)+(b.Keeps.length:Int)+(b.Slots.length:Int)
 | 0,v,i,h0,h1,h2=>absurd h2 (Nat.not_lt_zero _)
 | n+1,v,i,h0,h1,h2=>by
  unfold BR
  by_cases h:i<(b.Parts.length:Int)
  ·simp only [h,decide_true,cond_true]
   have:=fM b n (v++[(b.Parts.getD i.toNat default).Id]) (i+1) (by omega) (by omega) (by omega)
   rw [this]
   simp only [List.length_append,List.length_cons,List.length_nil]
   omega
  simp only [h,decide_false,cond_false]
  rw [fL _ _ _ _ _ v 0 (by omega) (by omega) (by omega)]
  omega
theorem YP (b:AC):((Eu b).length:Int)=(b.Parts.length:Int)+(b.Tracks.length:Int)+(b.Vias.length:Int)+(b.Pours.length:Int)+(b.Keeps.length:Int)+(b.Slots.length:Int):=by
 unfold Eu
 rw [fM b _ _ 0 (by omega) (by omega) (by omega)]
 simp only [List.length_nil]
 omega
end
section
open Go.RowKit
theorem Uu {b:AC} (d:AD) (hp:1<=(b.Parts.length:Int)) (h0:(b.Parts.length:Int)<=1000000) (h1:(b.Tracks.length:Int)<=1000000) (h2:(b.Vias.length:Int)<=1000000) (h3:(b.Pours.length:Int)<=1000000) (h4:(b.Keeps.length:Int)<=1000000) (h5:(b.Slots.length:Int)<=1000000):0<=(AA d ((Eu b).length:Int)).1/\(AA d ((Eu b).length:Int)).1<((Eu b).length:Int):=by
 have hq:=YP b
 exact Je _ _ _ (by omega) (by omega) (by omega)
theorem oZ {b:AC} (hp:1<=(b.Parts.length:Int)):((Eu b).length:Int)≠0:=by
 have hq:=YP b
 omega
theorem kJ {α:Type} {c:Bool} {a b:List α} {k n:Nat} (ha:a.length+k<=n) (hb:b.length+k<=n):(bif c then a else b).length+k<=n:=by cases c <;> assumption
theorem eY {α:Type} {c:Bool} {a b:List α} {k n m:Nat} (ha:(a.length+k)*m<=n) (hb:(b.length+k)*m<=n):((bif c then a else b).length+k)*m<=n:=by cases c <;> assumption
variable (b:AC) (d:AD)
def Z3k:CT:=(54,([.one (.ptr 1000 0),.one (.i 10)]:List Av).map (B3 1000 1001),wrI 1001 (HV d) (tI (AA d 10).1) (.cells (AD.c (AA d 10).2) 146))
abbrev E8:=AA (AA d 10).2 8
def Z3l:CT:=(54,([.one (.ptr 1000 0),.one (.i 8)]:List Av).map (B3 1000 1001),wrI 1001 (.cells (AD.c (AA d 10).2) 146) (tI (E8 d).1) (.cells (AD.c (E8 d).2) 146))
def Z3m:Blk:=.cells (AD.c (E8 d).2) 146
def Z3n:Blk:=.row 20 ([Az.mk ({ data := #[99,49] }:ByteArray) 1 1 AJ AJ (W64 (3+(AA d 10).1)),Az.mk ({ data := #[101,49] }:ByteArray) 1 3 AJ AJ (W64 (2+(E8 d).1))].length) (AP Az.c [Az.mk ({ data := #[99,49] }:ByteArray) 1 1 AJ AJ (W64 (3+(AA d 10).1)),Az.mk ({ data := #[101,49] }:ByteArray) 1 3 AJ AJ (W64 (2+(E8 d).1))]) 107
def Z3o:Blk:=.cells (BZ b (Cn b [vN,.own 18 20 ([Az.mk ({ data := #[99,49] }:ByteArray) 1 1 AJ AJ (W64 (3+(AA d 10).1)),Az.mk ({ data := #[101,49] }:ByteArray) 1 3 AJ AJ (W64 (2+(E8 d).1))].length),vN,vN])) 42
def Z3p:CT:=(54,(Hc:List Av).map (B3 1000 1001),wrI 1001 (.cells (AD.c (E8 d).2) 146) (tI (AA (E8 d).2 2).1) (.cells (AD.c (AA (E8 d).2 2).2) 146))
abbrev Z3q:AD:=(AA (AA (AA d 10).2 8).2 2).2
def Z3r:CT:=(54,KM.map (B3 1000 1001),wrI 1001 (.cells (AD.c (Z3q d)) 146) (tI (AA (Z3q d) 5).1) (.cells (AD.c (AA (Z3q d) 5).2) 146))
abbrev KS:=AA (AA (Z3q d) 5).2 4
def Z3s:CT:=(54,HU.map (B3 1000 1001),wrI 1001 (.cells (AD.c (AA (Z3q d) 5).2) 146) (tI (KS d).1) (.cells (AD.c (KS d).2) 146))
def Z3t:Blk:=.cells (AD.c (KS d).2) 146
def Z3u:Blk:=.row 20 ([Az.mk ({ data := #[99,49] }:ByteArray) 1 1 AJ AJ (W64 (3+(AA d 10).1)),Az.mk ({ data := #[101,49] }:ByteArray) 1 3 AJ AJ (W64 (2+(E8 d).1))]++[Az.mk ({ data := #[119,49] }:ByteArray) 1 2 AJ AJ (W64 (6+(AA (Z3q d) 5).1)),Az.mk ({ data := #[114,49] }:ByteArray) 1 4 AJ AJ (W64 (2+(KS d).1))]).length (AP Az.c ([Az.mk ({ data := #[99,49] }:ByteArray) 1 1 AJ AJ (W64 (3+(AA d 10).1)),Az.mk ({ data := #[101,49] }:ByteArray) 1 3 AJ AJ (W64 (2+(E8 d).1))]++[Az.mk ({ data := #[119,49] }:ByteArray) 1 2 AJ AJ (W64 (6+(AA (Z3q d) 5).1)),Az.mk ({ data := #[114,49] }:ByteArray) 1 4 AJ AJ (W64 (2+(KS d).1))])) 107
def Z3v:Blk:=.cells (BZ b (Cn b [vN,.own 100000 20 ([Az.mk ({ data := #[99,49] }:ByteArray) 1 1 AJ AJ (W64 (3+(AA d 10).1)),Az.mk ({ data := #[101,49] }:ByteArray) 1 3 AJ AJ (W64 (2+(E8 d).1))]++[Az.mk ({ data := #[119,49] }:ByteArray) 1 2 AJ AJ (W64 (6+(AA (Z3q d) 5).1)),Az.mk ({ data := #[114,49] }:ByteArray) 1 4 AJ AJ (W64 (2+(KS d).1))]).length,vN,vN])) 42
def Z3w:Blk:=.cells (BZ b (Cn b [vN,.own 100000 20 ([Az.mk ({ data := #[99,49] }:ByteArray) 1 1 AJ AJ (W64 (3+(AA d 10).1)),Az.mk ({ data := #[101,49] }:ByteArray) 1 3 AJ AJ (W64 (2+(E8 d).1))].length),vN,vN])) 42
abbrev Z3x:AD:=bif decide (((AA (AA (AA d 10).2 8).2 2).1:Int)=1) then (AA (AA (Z3q d) 5).2 4).2 else (Z3q d)
def Z3y:(List Az):=bif decide (((AA (AA (AA d 10).2 8).2 2).1:Int)=1) then ([Az.mk ({ data := #[99,49] }:ByteArray) 1 1 AJ AJ (W64 (3+(AA d 10).1)),Az.mk ({ data := #[101,49] }:ByteArray) 1 3 AJ AJ (W64 (2+(AA (AA d 10).2 8).1))]++[Az.mk ({ data := #[119,49] }:ByteArray) 1 2 AJ AJ (W64 (6+(AA (Z3q d) 5).1)),Az.mk ({ data := #[114,49] }:ByteArray) 1 4 AJ AJ (W64 (2+(AA (AA (Z3q d) 5).2 4).1))]) else [Az.mk ({ data := #[99,49] }:ByteArray) 1 1 AJ AJ (W64 (3+(AA d 10).1)),Az.mk ({ data := #[101,49] }:ByteArray) 1 3 AJ AJ (W64 (2+(AA (AA d 10).2 8).1))]
def Z3z:CT:=(54,(Hc:List Av).map (B3 1000 1001),wrI 1001 (.cells (AD.c (Z3x d)) 146) (tI (AA (Z3x d) 2).1) (.cells (AD.c (AA (Z3x d) 2).2) 146))
def Z3A:Blk:=.cells (BZ b (Cn b [vN,.own 100000 20 (Z3y d).length,vN,vN])) 42
def Z3B:Blk:=.cells (AD.c (AA (Z3x d) 2).2) 146
def Z3C:Blk:=.row 20 (Z3y d).length (AP Az.c (Z3y d)) 107
abbrev I2:=AA (AA (Z3x d) 2).2 2
def Z3D:CT:=(54,(Hc:List Av).map (B3 1000 1001),wrI 1001 (.cells (AD.c (AA (Z3x d) 2).2) 146) (tI (I2 d).1) (.cells (AD.c (I2 d).2) 146))
def Z3E:CT:=(85,([.one (.ptr 1000 0)]:List Av).map (B3 1000 1001),wrI 1001 (.cells (AD.c (I2 d).2) 146) (.av (.agg (Bg.c (BW (I2 d).2).1))) (.cells (AD.c (BW (I2 d).2).2) 146))
abbrev Z3F:AD:=(BW (AA (AA (Z3x d) 2).2 2).2).2
def Z3G:Bg:=(BW (AA (AA (Z3x d) 2).2 2).2).1
def Z3H:CT:=(85,([.one (.ptr 1000 0)]:List Av).map (B3 1000 1001),wrI 1001 (.cells (AD.c (Z3F d)) 146) (.av (.agg (Bg.c (BW (Z3F d)).1))) (.cells (AD.c (BW (Z3F d)).2) 146))
abbrev L3:=AA (BW (Z3F d)).2 14
def Z3I:CT:=(54,([.one (.ptr 1000 0),.one (.i 14)]:List Av).map (B3 1000 1001),wrI 1001 (.cells (AD.c (BW (Z3F d)).2) 146) (tI (L3 d).1) (.cells (AD.c (L3 d).2) 146))
abbrev Z3J:AD:=(AA (BW (Z3F d)).2 14).2
def Z3K:Blk:=.row 20 ((Z3y d)++[Az.mk ({ data := #[99,50] }:ByteArray) (W64 (1+(I2 d).1)) 1 (Z3G d) (BW (Z3F d)).1 (W64 (1+(L3 d).1))]).length (AP Az.c ((Z3y d)++[Az.mk ({ data := #[99,50] }:ByteArray) (W64 (1+(I2 d).1)) 1 (Z3G d) (BW (Z3F d)).1 (W64 (1+(L3 d).1))])) 107
def Z3L:Blk:=.cells (BZ b (Cn b [vN,.own 100001 20 ((Z3y d)++[Az.mk ({ data := #[99,50] }:ByteArray) (W64 (1+(I2 d).1)) 1 (Z3G d) (BW (Z3F d)).1 (W64 (1+(L3 d).1))]).length,vN,vN])) 42
abbrev Z3M:AD:=bif decide (((AA (Z3x d) 2).1:Int)=1) then (Z3J d) else (AA (Z3x d) 2).2
def Z3N:(List Az):=bif decide (((AA (Z3x d) 2).1:Int)=1) then ((Z3y d)++[Az.mk ({ data := #[99,50] }:ByteArray) (W64 (1+(AA (AA (Z3x d) 2).2 2).1)) 1 (Z3G d) (BW (Z3F d)).1 (W64 (1+(AA (BW (Z3F d)).2 14).1))]) else (Z3y d)
def Z3O:CT:=(54,(FB:List Av).map (B3 1000 1001),wrI 1001 (.cells (AD.c (Z3M d)) 146) (tI (AA (Z3M d) 3).1) (.cells (AD.c (AA (Z3M d) 3).2) 146))
def Z3P:Blk:=.cells (BZ b (Cn b [vN,.own 100001 20 (Z3N d).length,vN,vN])) 42
def Z3Q:Blk:=.cells (AD.c (AA (Z3M d) 3).2) 146
def Z3R:Blk:=.row 20 (Z3N d).length (AP Az.c (Z3N d)) 107
def Z3S:(List BQ):=bif decide (((AA (Z3M d) 3).1:Int)=0) then [BQ.mk ({ data := #[112,111,119,101,114] }:ByteArray) [({ data := #[71,78,68] }:ByteArray)]] else []
def Z3T:CT:=(54,HU.map (B3 1000 1001),wrI 1001 (.cells (AD.c (AA (Z3M d) 3).2) 146) (tI (AA (AA (Z3M d) 3).2 4).1) (.cells (AD.c (AA (AA (Z3M d) 3).2 4).2) 146))
abbrev Z3U:AD:=(AA (AA (Z3M d) 3).2 4).2
abbrev RF (t_:List Cl):List Cl:=(lst 2 BQ.c (Z3S d))::(.own 100001 20 (Z3N d).length)::t_
abbrev cA:List Cl:=(BZ b (Cn b (RF d [vN,vN])))
def Z3V:Blk:=.cells (cA b d) 42
def Z3W:(List Int):=Eu (AC.mk b.Layers (A2.mk 0 [] 0) b.Parts [] b.Tracks b.Vias b.Pours b.Keeps b.Slots [] [] [] [])
def Z3X:CT:=(54,([.one (.ptr 1000 0),.one (.i ((Z3W b).length:Int))]:List Av).map (B3 1000 1001),wrI 1001 (.cells (AD.c (Z3U d)) 146) (tI (AA (Z3U d) ((Z3W b).length:Int)).1) (.cells (AD.c (AA (Z3U d) ((Z3W b).length:Int)).2) 146))
abbrev Z3Y (d:AD) (b:AC):AD:=(AA (Z3U d) ((Z3W b).length:Int)).2
def Z3Z:CT:=(54,([.one (.ptr 1000 0),.one (.i ((Z3W b).length:Int))]:List Av).map (B3 1000 1001),wrI 1001 (.cells (AD.c (Z3Y d b)) 146) (tI (AA (Z3Y d b) ((Z3W b).length:Int)).1) (.cells (AD.c (AA (Z3Y d b) ((Z3W b).length:Int)).2) 146))
abbrev Z40 (d:AD) (b:AC):AD:=(AA (Z3Y d b) ((Z3W b).length:Int)).2
abbrev Z41 (d:AD) (b:AC):AD:=bif decide (((AA (AA (Z3M d) 3).2 4).1:Int)=0) then (Z40 d b) else (Z3U d)
def Z42 (d:AD) (b:AC):(List BF):=bif decide (((AA (AA (Z3M d) 3).2 4).1:Int)=0) then [BF.mk ((Z3W b).getD (AA (Z3U d) ((Z3W b).length:Int)).1.toNat default) ((Z3W b).getD (AA (Z3Y d b) ((Z3W b).length:Int)).1.toNat default) ({ data := #[99,49] }:ByteArray)] else []
def Z43 (d:AD) (b:AC):CT:=(54,HU.map (B3 1000 1001),wrI 1001 (.cells (AD.c (Z41 d b)) 146) (tI (AA (Z41 d b) 4).1) (.cells (AD.c (AA (Z41 d b) 4).2) 146))
def Z44 (d:AD) (b:AC):CT:=(54,([.one (.ptr 1000 0),.one (.i 8)]:List Av).map (B3 1000 1001),wrI 1001 (.cells (AD.c (AA (Z41 d b) 4).2) 146) (tI (AA (AA (Z41 d b) 4).2 8).1) (.cells (AD.c (AA (AA (Z41 d b) 4).2 8).2) 146))
abbrev Z45 (d:AD) (b:AC):AD:=(AA (AA (Z41 d b) 4).2 8).2
def C1 (b:AC) (d:AD):(AC×AD):=bif decide (((AA (Z41 d b) 4).1:Int)=0) then (AC.mk b.Layers b.Outline b.Parts b.Nets b.Tracks b.Vias b.Pours b.Keeps b.Slots (Z3S d) (Z3N d) (Z42 d b) [Ba.mk ({ data := #[109,49] }:ByteArray) [({ data := #[78,49] }:ByteArray),({ data := #[78,50] }:ByteArray)] (W64 (10*(AA (AA (Z41 d b) 4).2 8).1))],Z45 d b) else (AC.mk b.Layers b.Outline b.Parts b.Nets b.Tracks b.Vias b.Pours b.Keeps b.Slots (Z3S d) (Z3N d) (Z42 d b) [],(AA (Z41 d b) 4).2)
abbrev En:List (Nat×Tv):=[(0,tP 1000 0),(1,tP 1001 0)]
abbrev RG (d:AD) (b:AC) (t_:List Cl):List Cl:=(lst 2 BQ.c (Z3S d))::(lst 20 Az.c (Z3N d))::(lst 3 BF.c (Z42 d b))::t_
theorem au7 {p:Prop} (h:p:=by repeat (first | with_reducible assumption | exact C0 (Dh hll _) | with_reducible refine Be ?_ | with_reducible refine Es ?_ | with_reducible refine Dr ?_ | with_reducible refine Zk ?_  | with_reducible refine DD ?_ ?_)):p:=h
theorem au10 {p:Prop} (h:p:=by first | decide | omega | exact oZ (b:=AC.mk b.Layers (A2.mk 0 [] 0) b.Parts [] b.Tracks b.Vias b.Pours b.Keeps b.Slots [] [] [] []) hi | (simp only [EA];omega)):p:=h
theorem au28 {p:Prop} (h:p:=by first | (simp only [List.length_append,List.length_cons,List.length_nil];decide) | exact kJ (by simp only [List.length_append,List.length_cons,List.length_nil];decide) (by simp only [List.length_append,List.length_cons,List.length_nil];decide) | exact eY (by simp only [List.length_append,List.length_cons,List.length_nil];decide) (by simp only [List.length_append,List.length_cons,List.length_nil];decide) | (unfold maxLen;omega) | (simp only [ZM,ZL,ZK];omega)):p:=h
set_option maxHeartbeats 2000000 in
theorem dI  (b:AC) (d:AD) (hd:Br d) (h0:(b.Parts.length:Int)<=1000000) (h1:(b.Tracks.length:Int)<=1000000) (h2:(b.Vias.length:Int)<=1000000) (h3:(b.Pours.length:Int)<=1000000) (h4:(b.Keeps.length:Int)<=1000000) (h5:(b.Slots.length:Int)<=1000000) (hi:1<=(b.Parts.length:Int)):Wr2 Try.prog 57 1000 1001 [.one (.ptr 1000 0),.one (.ptr 1001 0)] (.cells [.i b.Layers,.i b.Outline.Kind,lst 7 AQ.c b.Outline.Edges,.i b.Outline.R,lst 7 AG.c b.Parts,lst 2 A7.c b.Nets,lst 6 Ap.c b.Tracks,lst 8 Bo.c b.Vias,lst 8 A4.c b.Pours,lst 5 BT.c b.Keeps,lst 4 Bi.c b.Slots,vN,vN,vN,vN] 42) (.cells (AD.c d) 146) (.tup []) (.cells (AC.c (C1 b d).1) 42) (.cells (AD.c (C1 b d).2) 146):=by
 refine OR Try.func57 rfl kr kr kr rfl kr kr kr fun W0 M0 X hX => ?_
 refine AB ?_
 refine C4 DV [18] [] [(6,CZ),(7,CZ),(9,(Z3k d)),(12,CZ),(13,CZ),(15,(Z3l d))] [0,1] [18,1000,1001] [A0 CZ.2.1,A0 CZ.2.1,A0 (Z3k d).2.1,CB (HV d),A0 CZ.2.1,A0 CZ.2.1,A0 (Z3l d).2.1,CB (.cells (AD.c (AA d 10).2) 146)] ⟨En,[(18,.row 20 2 (As 20 2 [.s ({ data := #[99,49] }:ByteArray),.i 1,.i 1,.i AJ.Op,.s AJ.Text,.i AJ.N,.i AJ.Box.X0,.i AJ.Box.Y0,.i AJ.Box.X1,.i AJ.Box.Y1,opL AJ.L,.i AJ.Op,.s AJ.Text,.i AJ.N,.i AJ.Box.X0,.i AJ.Box.Y0,.i AJ.Box.X1,.i AJ.Box.Y1,opL AJ.L,.i (W64 (3+(AA d 10).1)),.s ({ data := #[101,49] }:ByteArray),.i 1,.i 3,.i AJ.Op,.s AJ.Text,.i AJ.N,.i AJ.Box.X0,.i AJ.Box.Y0,.i AJ.Box.X1,.i AJ.Box.Y1,opL AJ.L,.i AJ.Op,.s AJ.Text,.i AJ.N,.i AJ.Box.X0,.i AJ.Box.Y0,.i AJ.Box.X1,.i AJ.Box.Y1,opL AJ.L,.i (W64 (2+(AA (AA d 10).2 8).1))]) 107),(1000,.cells (BZ b (Cn b [vN,.own 18 20 2,vN,vN])) 42),(1001,Z3m d)]⟩ (.cons EX (.cons EX (.cons (cWr (Bj d 10 au7 au10)) (.cons EX (.cons EX (.cons (cWr (Bj (AA d 10).2 8 au7 au10)) .nil)))))) kr (.cons rfl (.cons rfl (.cons rfl (.cons rfl (.cons rfl (.cons rfl (.cons rfl (.cons rfl .nil))))))))<|AF ?_
 refine Aq (Cv.trans (BS (⟨En,[(18,Z3n d),(1000,Z3o b d),(1001,Z3m d)]⟩) lr (.cons ⟨rfl,Ao 107 (Ae (c:=Az.c) (xs:=([Az.mk ({ data := #[99,49] }:ByteArray) 1 1 AJ AJ (W64 (3+(AA d 10).1)),Az.mk ({ data := #[101,49] }:ByteArray) 1 3 AJ AJ (W64 (2+(AA (AA d 10).2 8).1))]:List Az)) rfl kr)⟩ (.cons ⟨rfl,.cells _ (rr9 (rr3 (.cons (.own _ _ au0) (rr (rr .nil)))))⟩ lr))) (Cv.refl _))<|AB<|AB ?_
 refine rb 22 (Z3p d) (.cells (AD.c (AA (AA d 10).2 8).2) 146) ⟨[(0,tP 1000 0),(1,tP 1001 0),(23,tB (decide (((AA (E8 d).2 2).1:Int)=1)))],[(18,Z3n d),(1000,Z3o b d),(1001,.cells (AD.c (Z3q d)) 146)]⟩ (cWr (Bj (AA (AA d 10).2 8).2 2 au7 au10))<|AF ?_
 refine CD (⟨En,[(1000,.cells (BZ b (Cn b [vN,.own 100000 20 (Z3y d).length,vN,vN])) 42),(1001,.cells (AD.c (Z3x d)) 146),(100000,.row 20 (Z3y d).length (AP Az.c (Z3y d)) 107)]⟩) ?_ ?_
 ·refine AL _ rfl (fun h1 => ?_) (fun h1 => ?_)
  ·have g1:=oT h1
   refine dw [] [(29,CZ),(30,CZ),(32,(Z3r d)),(35,CZ),(36,CZ),(38,(Z3s d))] [A0 CZ.2.1,A0 CZ.2.1,A0 (Z3r d).2.1,CB (.cells (AD.c (Z3q d)) 146),A0 CZ.2.1,A0 CZ.2.1,A0 (Z3s d).2.1,CB (.cells (AD.c (AA (Z3q d) 5).2) 146),[Az.mk ({ data := #[99,49] }:ByteArray) 1 1 AJ AJ (W64 (3+(AA d 10).1)),Az.mk ({ data := #[101,49] }:ByteArray) 1 3 AJ AJ (W64 (2+(AA (AA d 10).2 8).1))].length=[Az.mk ({ data := #[99,49] }:ByteArray) 1 1 AJ AJ (W64 (3+(AA d 10).1)),Az.mk ({ data := #[101,49] }:ByteArray) 1 3 AJ AJ (W64 (2+(AA (AA d 10).2 8).1))].length,([Az.mk ({ data := #[99,49] }:ByteArray) 1 1 AJ AJ (W64 (3+(AA d 10).1)),Az.mk ({ data := #[101,49] }:ByteArray) 1 3 AJ AJ (W64 (2+(AA (AA d 10).2 8).1))].length)+2<=maxLen,(([Az.mk ({ data := #[99,49] }:ByteArray) 1 1 AJ AJ (W64 (3+(AA d 10).1)),Az.mk ({ data := #[101,49] }:ByteArray) 1 3 AJ AJ (W64 (2+(AA (AA d 10).2 8).1))].length)+2)*216<=140737488355328] ⟨En,[(42,.row 20 (([Az.mk ({ data := #[99,49] }:ByteArray) 1 1 AJ AJ (W64 (3+(AA d 10).1)),Az.mk ({ data := #[101,49] }:ByteArray) 1 3 AJ AJ (W64 (2+(AA (AA d 10).2 8).1))].length)+2) (fun i_ j_=>if i_<([Az.mk ({ data := #[99,49] }:ByteArray) 1 1 AJ AJ (W64 (3+(AA d 10).1)),Az.mk ({ data := #[101,49] }:ByteArray) 1 3 AJ AJ (W64 (2+(AA (AA d 10).2 8).1))].length) then (AP Az.c [Az.mk ({ data := #[99,49] }:ByteArray) 1 1 AJ AJ (W64 (3+(AA d 10).1)),Az.mk ({ data := #[101,49] }:ByteArray) 1 3 AJ AJ (W64 (2+(AA (AA d 10).2 8).1))]) i_ j_ else (As 20 2 [.s ({ data := #[119,49] }:ByteArray),.i 1,.i 2,.i AJ.Op,.s AJ.Text,.i AJ.N,.i AJ.Box.X0,.i AJ.Box.Y0,.i AJ.Box.X1,.i AJ.Box.Y1,opL AJ.L,.i AJ.Op,.s AJ.Text,.i AJ.N,.i AJ.Box.X0,.i AJ.Box.Y0,.i AJ.Box.X1,.i AJ.Box.Y1,opL AJ.L,.i (W64 (6+(AA (Z3q d) 5).1)),.s ({ data := #[114,49] }:ByteArray),.i 1,.i 4,.i AJ.Op,.s AJ.Text,.i AJ.N,.i AJ.Box.X0,.i AJ.Box.Y0,.i AJ.Box.X1,.i AJ.Box.Y1,opL AJ.L,.i AJ.Op,.s AJ.Text,.i AJ.N,.i AJ.Box.X0,.i AJ.Box.Y0,.i AJ.Box.X1,.i AJ.Box.Y1,opL AJ.L,.i (W64 (2+(AA (AA (Z3q d) 5).2 4).1))]) (i_-([Az.mk ({ data := #[99,49] }:ByteArray) 1 1 AJ AJ (W64 (3+(AA d 10).1)),Az.mk ({ data := #[101,49] }:ByteArray) 1 3 AJ AJ (W64 (2+(AA (AA d 10).2 8).1))].length)) j_) 107),(1000,.cells (BZ b (Cn b [vN,.own 42 20 (([Az.mk ({ data := #[99,49] }:ByteArray) 1 1 AJ AJ (W64 (3+(AA d 10).1)),Az.mk ({ data := #[101,49] }:ByteArray) 1 3 AJ AJ (W64 (2+(AA (AA d 10).2 8).1))].length)+2),vN,vN])) 42),(1001,Z3t d)]⟩ (.cons EX (.cons EX (.cons (cWr (Bj (Z3q d) 5 au7 au10)) (.cons EX (.cons EX (.cons (cWr (Bj (AA (Z3q d) 5).2 4 au7 au10)) .nil)))))) (.cons rfl (.cons rfl (.cons rfl (.cons rfl (.cons rfl (.cons rfl (.cons rfl (.cons rfl (.cons rfl (.cons au28 (.cons au28 .nil)))))))))))<|AF ?_
   refine Cv.trans (BS (⟨En,[(42,Z3u d),(1000,.cells (BZ b (Cn b [vN,.own 42 20 ([Az.mk ({ data := #[99,49] }:ByteArray) 1 1 AJ AJ (W64 (3+(AA d 10).1)),Az.mk ({ data := #[101,49] }:ByteArray) 1 3 AJ AJ (W64 (2+(E8 d).1))]++[Az.mk ({ data := #[119,49] }:ByteArray) 1 2 AJ AJ (W64 (6+(AA (Z3q d) 5).1)),Az.mk ({ data := #[114,49] }:ByteArray) 1 4 AJ AJ (W64 (2+(KS d).1))]).length,vN,vN])) 42),(1001,Z3t d)]⟩) lr (.cons ⟨rfl,Ao 107 (Au (An 20 Az.c [Az.mk ({ data := #[99,49] }:ByteArray) 1 1 AJ AJ (W64 (3+(AA d 10).1)),Az.mk ({ data := #[101,49] }:ByteArray) 1 3 AJ AJ (W64 (2+(AA (AA d 10).2 8).1))]) (Ae (c:=Az.c) (xs:=([Az.mk ({ data := #[119,49] }:ByteArray) 1 2 AJ AJ (W64 (6+(AA (Z3q d) 5).1)),Az.mk ({ data := #[114,49] }:ByteArray) 1 4 AJ AJ (W64 (2+(AA (AA (Z3q d) 5).2 4).1))]:List Az)) rfl kr))⟩ (.cons ⟨rfl,.cells _ (rr9 (rr3 (.cons (.own _ _ au0) (rr (rr .nil)))))⟩ lr))) (Cv.trans (vr 42 100000 (K:=[1000,1001]) hX) (Cv.trans (ck (⟨En,[(1000,Z3v b d),(1001,Z3t d),(100000,Z3u d)]⟩)) (BM ?_)))
   first | rfl | (simp only [h1,Z3x,Z3y,cond_true,cond_false] <;> rfl)
  refine Af<|AF ?_
  refine Cv.trans (vk [0,1] [18,1000,1001]) (Cv.trans (vr 18 100000 (K:=[1000,1001]) hX) (Cv.trans (ck (⟨En,[(1000,Z3w b d),(1001,.cells (AD.c (Z3q d)) 146),(100000,Z3n d)]⟩)) (BM ?_)))
  first | rfl | (simp only [h1,Z3x,Z3y,cond_true,cond_false] <;> rfl)
 refine AB<|AB ?_
 refine rb 46 (Z3z d) (.cells (AD.c (Z3x d)) 146) ⟨[(0,tP 1000 0),(1,tP 1001 0),(47,tB (decide (((AA (Z3x d) 2).1:Int)=1)))],[(1000,Z3A b d),(1001,Z3B d),(100000,Z3C d)]⟩ (cWr (Bj (Z3x d) 2 au7 au10))<|AF ?_
 refine CD (⟨En,[(1000,.cells (BZ b (Cn b [vN,.own 100001 20 (Z3N d).length,vN,vN])) 42),(1001,.cells (AD.c (Z3M d)) 146),(100001,.row 20 (Z3N d).length (AP Az.c (Z3N d)) 107)]⟩) ?_ ?_
 ·refine AL _ rfl (fun h1 => ?_) (fun h1 => ?_)
  ·have g1:=oT h1
   refine dw [] [(54,(Z3D d)),(57,(Z3E d)),(59,(Z3H d)),(61,(Z3I d))] [A0 (Z3D d).2.1,CB (.cells (AD.c (AA (Z3x d) 2).2) 146),A0 (Z3E d).2.1,CB (.cells (AD.c (AA (AA (Z3x d) 2).2 2).2) 146),A0 (Z3H d).2.1,CB (.cells (AD.c (Z3F d)) 146),A0 (Z3I d).2.1,CB (.cells (AD.c (BW (Z3F d)).2) 146),(Z3y d).length=(Z3y d).length,(Z3y d).length+1<=maxLen,((Z3y d).length+1)*216<=140737488355328] ⟨En,[(65,.row 20 ((Z3y d).length+1) (fun i_ j_=>if i_<(Z3y d).length then (AP Az.c (Z3y d)) i_ j_ else (As 20 1 [.s ({ data := #[99,50] }:ByteArray),.i (W64 (1+(AA (AA (Z3x d) 2).2 2).1)),.i 1,.i (Z3G d).Op,.s (Z3G d).Text,.i (Z3G d).N,.i (Z3G d).Box.X0,.i (Z3G d).Box.Y0,.i (Z3G d).Box.X1,.i (Z3G d).Box.Y1,opL (Z3G d).L,.i (BW (Z3F d)).1.Op,.s (BW (Z3F d)).1.Text,.i (BW (Z3F d)).1.N,.i (BW (Z3F d)).1.Box.X0,.i (BW (Z3F d)).1.Box.Y0,.i (BW (Z3F d)).1.Box.X1,.i (BW (Z3F d)).1.Box.Y1,opL (BW (Z3F d)).1.L,.i (W64 (1+(AA (BW (Z3F d)).2 14).1))]) (i_-(Z3y d).length) j_) 107),(1000,.cells (BZ b (Cn b [vN,.own 65 20 ((Z3y d).length+1),vN,vN])) 42),(1001,.cells (AD.c (Z3J d)) 146)]⟩ (.cons (cWr (Bj (AA (Z3x d) 2).2 2 au7 au10)) (.cons (cWr (Xy (AA (AA (Z3x d) 2).2 2).2 au7)) (.cons (cWr (Xy (Z3F d) au7)) (.cons (cWr (Bj (BW (Z3F d)).2 14 au7 au10)) .nil)))) (.cons rfl (.cons rfl (.cons rfl (.cons rfl (.cons rfl (.cons rfl (.cons rfl (.cons rfl (.cons rfl (.cons au28 (.cons au28 .nil)))))))))))<|AF ?_
   refine Cv.trans (BS (⟨En,[(65,Z3K d),(1000,.cells (BZ b (Cn b [vN,.own 65 20 ((Z3y d)++[Az.mk ({ data := #[99,50] }:ByteArray) (W64 (1+(AA (AA (Z3x d) 2).2 2).1)) 1 (Z3G d) (BW (Z3F d)).1 (W64 (1+(L3 d).1))]).length,vN,vN])) 42),(1001,.cells (AD.c (Z3J d)) 146)]⟩) lr (.cons ⟨rfl,Ao 107 (Au (An 20 Az.c (Z3y d)) (Ae (c:=Az.c) (xs:=([Az.mk ({ data := #[99,50] }:ByteArray) (W64 (1+(AA (AA (Z3x d) 2).2 2).1)) 1 (Z3G d) (BW (Z3F d)).1 (W64 (1+(AA (BW (Z3F d)).2 14).1))]:List Az)) rfl kr))⟩ (.cons ⟨rfl,.cells _ (rr9 (rr3 (.cons (.own _ _ au0) (rr (rr .nil)))))⟩ lr))) (Cv.trans (vr 65 100001 (K:=[1000,1001]) hX) (Cv.trans (ck (⟨En,[(1000,Z3L b d),(1001,.cells (AD.c (Z3J d)) 146),(100001,Z3K d)]⟩)) (BM ?_)))
   first | rfl | (simp only [h1,Z3M,Z3N,cond_true,cond_false] <;> rfl)
  refine Af<|AF ?_
  refine Cv.trans (vk [0,1] [1000,1001,100000]) (Cv.trans (wr (⟨En,[(1000,.cells (BZ b (Cn b [vN,.own 100001 20 (Z3y d).length,vN,vN])) 42),(1001,Z3B d),(100001,Z3C d)]⟩) 100000 100001 (K:=[1000,1001]) hX) (BM ?_))
  first | rfl | (simp only [h1,Z3M,Z3N,cond_true,cond_false] <;> rfl)
 refine AB<|AB ?_
 refine rb 69 (Z3O d) (.cells (AD.c (Z3M d)) 146) ⟨[(0,tP 1000 0),(1,tP 1001 0),(70,tB (decide (((AA (Z3M d) 3).1:Int)=0)))],[(1000,Z3P b d),(1001,Z3Q d),(100001,Z3R d)]⟩ (cWr (Bj (Z3M d) 3 au7 au10))<|AF ?_
 refine CD (⟨En,[(1000,.cells (BZ b (Cn b [lst 2 BQ.c (Z3S d),.own 100001 20 (Z3N d).length,vN,vN])) 42),(1001,.cells (AD.c (AA (Z3M d) 3).2) 146),(100001,.row 20 (Z3N d).length (AP Az.c (Z3N d)) 107)]⟩) ?_ ?_
 ·refine AL _ rfl (fun h1 => ?_) (fun h1 => ?_)
  ·refine rn ⟨En,[(1000,.cells (BZ b (Cn b [.list true 2 1 (As 2 1 [.s ({ data := #[112,111,119,101,114] }:ByteArray),.list true 1 1 (As 1 1 [.s ({ data := #[71,78,68] }:ByteArray)])]),.own 100001 20 (Z3N d).length,vN,vN])) 42),(1001,Z3Q d),(100001,Z3R d)]⟩ ?_
   refine Cv.trans (BS (⟨En,[(1000,.cells (BZ b (Cn b [lst 2 BQ.c [BQ.mk ({ data := #[112,111,119,101,114] }:ByteArray) [({ data := #[71,78,68] }:ByteArray)]],.own 100001 20 (Z3N d).length,vN,vN])) 42),(1001,Z3Q d),(100001,Z3R d)]⟩) lr (.cons ⟨rfl,.cells _ (rr9 (rr2 (.cons (Bm true (Dg (c:=BQ.c) (xs:=([BQ.mk ({ data := #[112,111,119,101,114] }:ByteArray) [({ data := #[71,78,68] }:ByteArray)]]:List BQ)) (y:=[[.s ({ data := #[112,111,119,101,114] }:ByteArray),.list true 1 1 (As 1 1 [.s ({ data := #[71,78,68] }:ByteArray)])]]) (z:=[[.s ({ data := #[112,111,119,101,114] }:ByteArray),lst 1 (fun x=>[.s x]) [({ data := #[71,78,68] }:ByteArray)]]]) rfl kr kr (.cons (rr (.cons (Bm true (Ae (c:=(fun x=>[.s x])) (xs:=([({ data := #[71,78,68] }:ByteArray)]:List ByteArray)) rfl kr)) .nil)) .nil))) (rr (rr (rr .nil))))))⟩ lr)) (BM ?_)
   first | rfl | (simp only [h1,Z3S,cond_true,cond_false] <;> rfl)
  refine Af<|AF ?_
  refine Cv.trans (ck (⟨En,[(1000,Z3P b d),(1001,Z3Q d),(100001,Z3R d)]⟩)) (Cv.trans (BS (⟨En,[(1000,.cells (BZ b (Cn b [lst 2 BQ.c [],.own 100001 20 (Z3N d).length,vN,vN])) 42),(1001,Z3Q d),(100001,Z3R d)]⟩) lr (.cons ⟨rfl,.cells _ (rr9 (rr2 (.cons (Cm 2 BQ.c) (rr (rr (rr .nil))))))⟩ lr)) (BM ?_))
  first | rfl | (simp only [h1,Z3S,cond_true,cond_false] <;> rfl)
 refine AB<|AB ?_
 refine rb 78 (Z3T d) (.cells (AD.c (AA (Z3M d) 3).2) 146) ⟨[(0,tP 1000 0),(1,tP 1001 0),(79,tB (decide (((AA (AA (Z3M d) 3).2 4).1:Int)=0)))],[(1000,Z3V b d),(1001,.cells (AD.c (Z3U d)) 146),(100001,Z3R d)]⟩ (cWr (Bj (AA (Z3M d) 3).2 4 au7 au10))<|AF ?_
 refine CD (⟨En,[(1000,.cells (BZ b (Cn b [lst 2 BQ.c (Z3S d),.own 100001 20 (Z3N d).length,lst 3 BF.c (Z42 d b),vN])) 42),(1001,.cells (AD.c (Z41 d b)) 146),(100001,.row 20 (Z3N d).length (AP Az.c (Z3N d)) 107)]⟩) ?_ ?_
 ·refine AL _ rfl (fun h1 => ?_) (fun h1 => ?_)
  ·have g1:=oT h1
   refine AB<|oq 83 (ceI [.agg (cA b d)] (XM (AC.mk b.Layers (A2.mk 0 [] 0) b.Parts [] b.Tracks b.Vias b.Pours b.Keeps b.Slots [] [] [] []))) (DI (jZ (AC.mk b.Layers (A2.mk 0 [] 0) b.Parts [] b.Tracks b.Vias b.Pours b.Keeps b.Slots [] [] [] []) au13 au13 au13 au13 au13 au13) (.cons (.agg (rr (.cons (.any _) (.cons (.any _) (.cons (.any _) (rr (.cons (.any _) (rr5 (.cons (.any _) (.cons (.any _) (.cons (.any _) (.cons (.any _) .nil)))))))))))) .nil))<|AF ?_
   refine dw [] [(89,(Z3X b d)),(96,(Z3Z b d))] [A0 (Z3X b d).2.1,CB (.cells (AD.c (Z3U d)) 146),0<=((AA (Z3U d) ((Z3W b).length:Int)).1:Int)/\((AA (Z3U d) ((Z3W b).length:Int)).1:Int)<(((Z3W b).length:Nat):Int),A0 (Z3Z b d).2.1,CB (.cells (AD.c (Z3Y d b)) 146),0<=((AA (Z3Y d b) ((Z3W b).length:Int)).1:Int)/\((AA (Z3Y d b) ((Z3W b).length:Int)).1:Int)<(((Z3W b).length:Nat):Int)] ⟨En,[(1000,.cells (BZ b (Cn b (RF d [.list true 3 1 (As 3 1 [.i ((Z3W b).getD (AA (Z3U d) ((Z3W b).length:Int)).1.toNat default),.i ((Z3W b).getD (AA (Z3Y d b) ((Z3W b).length:Int)).1.toNat default),.s ({ data := #[99,49] }:ByteArray)]),vN]))) 42),(1001,.cells (AD.c (Z40 d b)) 146),(100001,Z3R d)]⟩ (.cons (cWr (Bj (Z3U d) ((Z3W b).length:Int) au7 au10)) (.cons (cWr (Bj (Z3Y d b) ((Z3W b).length:Int) au7 au10)) .nil)) (.cons rfl (.cons rfl (.cons (by first | exact Je _ _ _ (by decide) (by decide) (by decide) | exact Uu (b:=AC.mk b.Layers (A2.mk 0 [] 0) b.Parts [] b.Tracks b.Vias b.Pours b.Keeps b.Slots [] [] [] []) _ hi (by assumption) (by assumption) (by assumption) (by assumption) (by assumption) (by assumption) | decide | omega) (.cons rfl (.cons rfl (.cons (by first | exact Je _ _ _ (by decide) (by decide) (by decide) | exact Uu (b:=AC.mk b.Layers (A2.mk 0 [] 0) b.Parts [] b.Tracks b.Vias b.Pours b.Keeps b.Slots [] [] [] []) _ hi (by assumption) (by assumption) (by assumption) (by assumption) (by assumption) (by assumption) | decide | omega) .nil))))))<|AF ?_
   refine Cv.trans (BS (⟨En,[(1000,.cells (BZ b (Cn b [lst 2 BQ.c (Z3S d),.own 100001 20 (Z3N d).length,lst 3 BF.c [BF.mk ((Z3W b).getD (AA (Z3U d) ((Z3W b).length:Int)).1.toNat default) ((Z3W b).getD (AA (Z3Y d b) ((Z3W b).length:Int)).1.toNat default) ({ data := #[99,49] }:ByteArray)],vN])) 42),(1001,.cells (AD.c (Z40 d b)) 146),(100001,Z3R d)]⟩) lr (.cons ⟨rfl,.cells _ (rr9 (rr4 (.cons (Bm true (Ae (c:=BF.c) (xs:=([BF.mk ((Z3W b).getD (AA (Z3U d) ((Z3W b).length:Int)).1.toNat default) ((Z3W b).getD (AA (Z3Y d b) ((Z3W b).length:Int)).1.toNat default) ({ data := #[99,49] }:ByteArray)]:List BF)) rfl kr)) (rr .nil))))⟩ lr)) (BM ?_)
   first | rfl | (simp only [h1,Z41,Z42,cond_true,cond_false] <;> rfl)
  refine Af<|AF ?_
  refine Cv.trans (ck (⟨En,[(1000,Z3V b d),(1001,.cells (AD.c (Z3U d)) 146),(100001,Z3R d)]⟩)) (Cv.trans (BS (⟨En,[(1000,.cells (BZ b (Cn b [lst 2 BQ.c (Z3S d),.own 100001 20 (Z3N d).length,lst 3 BF.c [],vN])) 42),(1001,.cells (AD.c (Z3U d)) 146),(100001,Z3R d)]⟩) lr (.cons ⟨rfl,.cells _ (rr9 (rr4 (.cons (Cm 3 BF.c) (rr .nil))))⟩ lr)) (BM ?_))
  first | rfl | (simp only [h1,Z41,Z42,cond_true,cond_false] <;> rfl)
 refine AB<|rb 104 (Z43 d b) (.cells (AD.c (Z41 d b)) 146) ⟨[(0,tP 1000 0),(1,tP 1001 0),(105,tB (decide (((AA (Z41 d b) 4).1:Int)=0)))],[(1000,.cells (BZ b (Cn b (RF d [lst 3 BF.c (Z42 d b),vN]))) 42),(1001,.cells (AD.c (AA (Z41 d b) 4).2) 146),(100001,Z3R d)]⟩ (cWr (Bj (Z41 d b) 4 au7 au10))<|AF ?_
 refine AL _ rfl (fun h1 => ?_) (fun h1 => ?_)
 ·have g1:=oT h1
  refine rb 109 (Z44 d b) (.cells (AD.c (AA (Z41 d b) 4).2) 146) ⟨[],[(1000,.cells (BZ b (Cn b (RF d [lst 3 BF.c (Z42 d b),.list true 3 1 (As 3 1 [.s ({ data := #[109,49] }:ByteArray),.list true 1 2 (As 1 2 [.s ({ data := #[78,49] }:ByteArray),.s ({ data := #[78,50] }:ByteArray)]),.i (W64 (10*(AA (AA (Z41 d b) 4).2 8).1))])]))) 42),(1001,.cells (AD.c (Z45 d b)) 146),(100001,Z3R d)]⟩ (cWr (Bj (AA (Z41 d b) 4).2 8 au7 au10)) ?_
  exact yn (Cv.trans (vf 100001 (K:=[1000,1001]) hX) (Cv.refl _)) (.tup []) ⟨Bz rfl,⟨.cells (BZ b (Cn b (RG d b [.list true 3 1 (As 3 1 [.s ({ data := #[109,49] }:ByteArray),.list true 1 2 (As 1 2 [.s ({ data := #[78,49] }:ByteArray),.s ({ data := #[78,50] }:ByteArray)]),.i (W64 (10*(AA (AA (Z41 d b) 4).2 8).1))])]))) 42,by kernel_rfl,TY (y:=.cells (BZ b (Cn b (RG d b [lst 3 Ba.c [Ba.mk ({ data := #[109,49] }:ByteArray) [({ data := #[78,49] }:ByteArray),({ data := #[78,50] }:ByteArray)] (W64 (10*(AA (AA (Z41 d b) 4).2 8).1))]]))) 42) (.cells _ (rr9 (rr5 (.cons (Bm true (Dg (c:=Ba.c) (xs:=([Ba.mk ({ data := #[109,49] }:ByteArray) [({ data := #[78,49] }:ByteArray),({ data := #[78,50] }:ByteArray)] (W64 (10*(AA (AA (Z41 d b) 4).2 8).1))]:List Ba)) (y:=[[.s ({ data := #[109,49] }:ByteArray),.list true 1 2 (As 1 2 [.s ({ data := #[78,49] }:ByteArray),.s ({ data := #[78,50] }:ByteArray)]),.i (W64 (10*(AA (AA (Z41 d b) 4).2 8).1))]]) (z:=[[.s ({ data := #[109,49] }:ByteArray),lst 1 (fun x=>[.s x]) [({ data := #[78,49] }:ByteArray),({ data := #[78,50] }:ByteArray)],.i (W64 (10*(AA (AA (Z41 d b) 4).2 8).1))]]) rfl kr kr (.cons (rr (.cons (Bm true (Ae (c:=(fun x=>[.s x])) (xs:=([({ data := #[78,49] }:ByteArray),({ data := #[78,50] }:ByteArray)]:List ByteArray)) rfl kr)) (rr .nil))) .nil))) .nil)))) (by first | (simp only [C1,h1,cond_true,cond_false];done) | (simp only [C1,h1,cond_true,cond_false];kernel_rfl))⟩,.cells (AD.c (Z45 d b)) 146,by kernel_rfl,Dx (by first | (simp only [C1,h1,cond_true,cond_false];done) | (simp only [C1,h1,cond_true,cond_false];kernel_rfl))⟩
 have g1:=oF h1
 refine Af ?_
 exact yn (Cv.trans (vf 100001 (K:=[1000,1001]) hX) (Cv.refl _)) (.tup []) ⟨Bz rfl,⟨.cells (BZ b (Cn b (RG d b [vN]))) 42,by kernel_rfl,TY (y:=.cells (BZ b (Cn b (RG d b [lst 3 Ba.c []]))) 42) (.cells _ (rr9 (rr5 (.cons (Cm 3 Ba.c) .nil)))) (by first | (simp only [C1,h1,cond_true,cond_false];done) | (simp only [C1,h1,cond_true,cond_false];kernel_rfl))⟩,.cells (AD.c (AA (Z41 d b) 4).2) 146,by kernel_rfl,Dx (by first | (simp only [C1,h1,cond_true,cond_false];done) | (simp only [C1,h1,cond_true,cond_false];kernel_rfl))⟩
end
section
open Go.RowKit
theorem PB {v a:Int} {d:AD} {n:Int} (h:v<W64 (a+(AA d n).1)) (h0:0<n) (h1:n<=1000000) (ha:0<=a) (hb:a<=1000000):v<a+n-1:=by
 have:=DU d n h0 (by omega)
 rw [A1 (by omega) (by omega)] at h
 omega
theorem Ht {p q:Prop} [Decidable p] [Decidable q] {r:Bool} (h:(bif bif decide p then decide q else false then r else (bif bif decide p then decide q else false then false else false))=true):q:=by
 by_cases hp:p
 ·rw [decide_eq_true hp] at h
  by_cases hq:q
  ·exact hq
  rw [decide_eq_false hq] at h;cases h
 rw [decide_eq_false hp] at h;cases h
theorem YC {n:Nat} (h:(0:Int)<(n:Int)):0<n:=by omega
theorem Qa {c2 c1:Bool} {a b c:BL} {L:List BL} (hL:L=bif c2 then [a,b] else bif c1 then [c] else []):L.length<=2:=by
 subst hL;cases c2 <;> cases c1 <;> simp
theorem YR {c2 c1:Bool} {a b c:BL} {L:List BL} {k:Int} (hk:0<=k/\k<2) (ha:a.Legs.length=2) (hc:c.Legs.length=2) (hL:L=bif c2 then [a,b] else bif c1 then [c] else []) (h:(0:Int)<(L.length:Int)):0<=k/\k<(((L.getD 0 default).Legs.length:Nat):Int):=by
 subst hL
 cases c2 with
 | true=>show 0<=k/\k<((a.Legs.length:Nat):Int);rw [ha];exact hk
 | false =>
  cases c1 with
  | true=>show 0<=k/\k<((c.Legs.length:Nat):Int);rw [hc];exact hk
  | false=>exact absurd h (by simp)
theorem fQ {α:Type} {L:List α} (h:L.length<=2):L.length+1<=maxLen:=by unfold maxLen;omega
theorem fR {α:Type} {L:List α} (h:L.length<=2):(L.length+1)*32<=140737488355328:=by omega
def Z46:Blk:=.cells Nv 114
variable (name:ByteArray) (l:List Int) (r:Ai) (v6_1:List BJ) (v8:Int) (x0:AE) (radius:Int) (v5:AD) (x1:AE)
abbrev In:=AA (AD.mk l 0) 5
def Z47:CT:=(54,KM.map (B3 1000 14),wrI 14 (.cells [lst 1 eIn l,.i 0] 146) (tI (In l).1) (.cells (AD.c (In l).2) 146))
def Z48:Tv:=tI (W64 (2+(In l).1))
def Z49:Blk:=.cells (AD.c (In l).2) 146
abbrev Hd:Bool:=(decide (((W64 (2+(In l).1)):Int)<4))
def Z4a:Tv:=tB (Hd l)
abbrev L4:Av:=.one (.ptr 14 0)
def Z4b:Tv:=.grd ((Hd l)=true) L4
def Z4c:Blk:=.row 2 ([]:List BL).length (AP BL.c ([]:List BL)) 157
abbrev He:Bool:=(decide ((4:Int)<=(W64 (2+(In l).1))))
def Z4d:Tv:=tB (He l)
def Z4e:Tv:=.grd ((He l)=true) L4
def Z4f:Blk:=.row 7 ([]:List BJ).length (AP BJ.c ([]:List BJ)) 118
def Z4g:Blk:=.cells [.s name,.own 100000 7 ([]:List BJ).length,vN] 114
def Z4h:Blk:=.cells [.s name,.own 100000 7 v6_1.length,vN] 114
def Z4i:Blk:=.row 7 v6_1.length (AP BJ.c v6_1) 118
abbrev L5:Blk:=.cells (AD.c (AA v5 2).2) 146
abbrev L0:Blk:=.cells (AD.c v5) 146
def Z4j:CT:=(54,(Hc:List Av).map (B3 1000 14),wrI 14 (L0 v5) (tI (AA v5 2).1) (L5 v5))
def Z4k:Blk:=.cells [.s (Ar v8),.i 0,vN,.i 0,.i (W64 (30*v8)),.i (W64 (10*(AA v5 2).1)),.i 0] 118
def Z4l:Blk:=.cells [.i (W64 (30*v8)),.i (W64 (10*(AA v5 2).1))] 52
abbrev F2:=AA (AA v5 2).2 3
def Z4m:CT:=(54,(FB:List Av).map (B3 1000 14),wrI 14 (L5 v5) (tI (F2 v5).1) (.cells (AD.c (F2 v5).2) 146))
def Z4n:Blk:=.cells (AD.c (F2 v5).2) 146
def Z4o:A2:=DM (Ai.mk (W64 ((W64 (30*v8))-6)) (W64 ((W64 (10*(AA v5 2).1))-6)) (W64 ((W64 (30*v8))+6)) (W64 ((W64 (10*(AA v5 2).1))+6)))
def Z4p:CT:=(54,(FB:List Av).map (B3 1000 14),wrI 14 (.cells (AD.c (F2 v5).2) 146) (tI (AA (F2 v5).2 3).1) (.cells (AD.c (AA (F2 v5).2 3).2) 146))
abbrev Z4q:AD:=(AA (AA (AA v5 2).2 3).2 3).2
def Z4r:A2:=C7 (AE.mk (W64 (30*v8)) (W64 (10*(AA v5 2).1))) (W64 (4+(AA (AA (AA v5 2).2 3).2 3).1))
abbrev Z4s:AD:=bif decide (((AA (AA v5 2).2 3).1:Int)=0) then (AA (AA v5 2).2 3).2 else (bif decide (((AA (AA v5 2).2 3).1:Int)=1) then (Z4q v5) else (AA (AA v5 2).2 3).2)
def Z4t (v5:AD) (v8:Int):(List AQ):=bif decide (((AA (AA v5 2).2 3).1:Int)=0) then (Z4o v8 v5).Edges else (bif decide (((AA (AA v5 2).2 3).1:Int)=1) then (Z4r v8 v5).Edges else [AQ.mk 1 (AE.mk (W64 ((W64 (30*v8))-2)) (W64 (10*(AA v5 2).1))) (AE.mk (W64 ((W64 (30*v8))+2)) (W64 (10*(AA v5 2).1))) (AE.mk 0 0)])
def Z4u:CT:=(54,HU.map (B3 1000 14),wrI 14 (.cells (AD.c (Z4s v5)) 146) (tI (AA (Z4s v5) 4).1) (.cells (AD.c (AA (Z4s v5) 4).2) 146))
def Z4v:CT:=(54,(Hc:List Av).map (B3 1000 14),wrI 14 (.cells (AD.c (AA (Z4s v5) 4).2) 146) (tI (AA (AA (Z4s v5) 4).2 2).1) (.cells (AD.c (AA (AA (Z4s v5) 4).2 2).2) 146))
abbrev Z4w:AD:=(AA (AA (Z4s v5) 4).2 2).2
def Z4x:CT:=(54,(FB:List Av).map (B3 1000 14),wrI 14 (L0 v5) (tI (AA v5 3).1) (.cells (AD.c (AA v5 3).2) 146))
abbrev Z4y:AD:=bif decide (((W64 (2+(AA (AD.mk l 0) 5).1)):Int)<4) then (AA v5 3).2 else v5
def Z4z:CT:=(54,(Hc:List Av).map (B3 1000 14),wrI 14 (.cells (AD.c (Z4y l v5)) 146) (tI (AA (Z4y l v5) 2).1) (.cells (AD.c (AA (Z4y l v5) 2).2) 146))
def Z4A:Blk:=.cells (AD.c (AA (Z4y l v5) 2).2) 146
abbrev VX:=[BL.mk 0 [Bw.mk (Ar 0) 1,Bw.mk (Ar 1) (AA (Z4y l v5) 2).1]]
def Z4B:Blk:=.row 2 ((VX l v5).length) (AP BL.c (VX l v5)) 157
abbrev Z4C:AD:=bif bif decide (((W64 (2+(AA (AD.mk l 0) 5).1)):Int)<4) then (bif decide (((W64 (2+(AA (AD.mk l 0) 5).1)):Int)<4) then decide ((0:Int)<(AA v5 3).1) else false) else (bif decide (((W64 (2+(AA (AD.mk l 0) 5).1)):Int)<4) then false else false) then (AA (Z4y l v5) 2).2 else (Z4y l v5)
def Z4D:(List BL):=bif bif decide (((W64 (2+(AA (AD.mk l 0) 5).1)):Int)<4) then (bif decide (((W64 (2+(AA (AD.mk l 0) 5).1)):Int)<4) then decide ((0:Int)<(AA v5 3).1) else false) else (bif decide (((W64 (2+(AA (AD.mk l 0) 5).1)):Int)<4) then false else false) then [BL.mk 0 [Bw.mk (Ar 0) 1,Bw.mk (Ar 1) (AA (Z4y l v5) 2).1]] else ([]:List BL)
def Z4E:CT:=(54,(FB:List Av).map (B3 1000 14),wrI 14 (.cells (AD.c (Z4C l v5)) 146) (tI (AA (Z4C l v5) 3).1) (.cells (AD.c (AA (Z4C l v5) 3).2) 146))
def Z4F:Blk:=.row 2 (Z4D l v5).length (AP BL.c (Z4D l v5)) 157
abbrev Z4G:AD:=bif decide ((4:Int)<=(W64 (2+(AA (AD.mk l 0) 5).1))) then (AA (Z4C l v5) 3).2 else (Z4C l v5)
abbrev GH:=AA (Z4G l v5) 2
def Z4H:CT:=(54,(Hc:List Av).map (B3 1000 14),wrI 14 (.cells (AD.c (Z4G l v5)) 146) (tI (GH l v5).1) (.cells (AD.c (GH l v5).2) 146))
def Z4I:Blk:=.cells (AD.c (GH l v5).2) 146
abbrev Vw:=[BL.mk 1 [Bw.mk (Ar 0) (GH l v5).1,Bw.mk (Ar 1) (GH l v5).1],BL.mk 1 [Bw.mk (Ar 2) (GH l v5).1,Bw.mk (Ar 3) (GH l v5).1]]
def Z4J:Blk:=.row 2 ((Vw l v5).length) (AP BL.c (Vw l v5)) 157
abbrev Z4K:AD:=bif bif decide ((4:Int)<=(W64 (2+(AA (AD.mk l 0) 5).1))) then (bif decide ((4:Int)<=(W64 (2+(AA (AD.mk l 0) 5).1))) then decide ((0:Int)<(AA (Z4C l v5) 3).1) else false) else (bif decide ((4:Int)<=(W64 (2+(AA (AD.mk l 0) 5).1))) then false else false) then (AA (Z4G l v5) 2).2 else (Z4G l v5)
def Z4L:(List BL):=bif bif decide ((4:Int)<=(W64 (2+(AA (AD.mk l 0) 5).1))) then (bif decide ((4:Int)<=(W64 (2+(AA (AD.mk l 0) 5).1))) then decide ((0:Int)<(AA (Z4C l v5) 3).1) else false) else (bif decide ((4:Int)<=(W64 (2+(AA (AD.mk l 0) 5).1))) then false else false) then [BL.mk 1 [Bw.mk (Ar 0) (AA (Z4G l v5) 2).1,Bw.mk (Ar 1) (AA (Z4G l v5) 2).1],BL.mk 1 [Bw.mk (Ar 2) (AA (Z4G l v5) 2).1,Bw.mk (Ar 3) (AA (Z4G l v5) 2).1]] else (Z4D l v5)
def Z4M:CT:=(54,(Hc:List Av).map (B3 1000 14),wrI 14 (.cells (AD.c (Z4K l v5)) 146) (tI (AA (Z4K l v5) 2).1) (.cells (AD.c (AA (Z4K l v5) 2).2) 146))
def Z4N:Blk:=.row 2 (Z4L l v5).length (AP BL.c (Z4L l v5)) 157
abbrev Z4O:AD:=bif bif decide (((W64 (2+(AA (AD.mk l 0) 5).1)):Int)=6) then decide ((0:Int)<(((Z4L l v5).length:Nat):Int)) else false then (AA (Z4K l v5) 2).2 else (Z4K l v5)
def Z4P:CT:=(54,(FB:List Av).map (B3 1000 14),wrI 14 (.cells (AD.c (Z4O l v5)) 146) (tI (AA (Z4O l v5) 3).1) (.cells (AD.c (AA (Z4O l v5) 3).2) 146))
abbrev Vz:=[BL.mk (AA (Z4O l v5) 3).1 [Bw.mk (Ar 5) (((Z4L l v5).getD 0 default).Legs.getD 0 default).Group,Bw.mk (Ar 4) (((Z4L l v5).getD 0 default).Legs.getD 1 default).Group]]
def Z4Q:Blk:=.row 2 ((Z4L l v5)++(Vz l v5)).length (AP BL.c ((Z4L l v5)++(Vz l v5))) 157
def Z4R:(List BL):=bif bif bif decide (((W64 (2+(AA (AD.mk l 0) 5).1)):Int)=6) then decide ((0:Int)<(((Z4L l v5).length:Nat):Int)) else false then (bif bif decide (((W64 (2+(AA (AD.mk l 0) 5).1)):Int)=6) then decide ((0:Int)<(((Z4L l v5).length:Nat):Int)) else false then decide (((AA (Z4K l v5) 2).1:Int)=1) else false) else (bif bif decide (((W64 (2+(AA (AD.mk l 0) 5).1)):Int)=6) then decide ((0:Int)<(((Z4L l v5).length:Nat):Int)) else false then false else false) then ((Z4L l v5)++[BL.mk (AA (Z4O l v5) 3).1 [Bw.mk (Ar 5) (((Z4L l v5).getD 0 default).Legs.getD 0 default).Group,Bw.mk (Ar 4) (((Z4L l v5).getD 0 default).Legs.getD 1 default).Group]]) else (Z4L l v5)
def Z4S:Blk:=.row 2 (Z4R l v5).length (AP BL.c (Z4R l v5)) 157
def Z4T (name:ByteArray) (v6_1:List BJ) (l:(List Int)) (v5:AD):Blk:=.cells [.s name,.own 100000 7 v6_1.length,.own 100001 2 ((VX l v5).length)] 114
def Z4U:Blk:=.cells [.s name,.own 100000 7 v6_1.length,.own 100001 2 ([]:List BL).length] 114
def Z4V (name:ByteArray) (v6_1:List BJ) (l:(List Int)) (v5:AD):Blk:=.cells [.s name,.own 100000 7 v6_1.length,.own 100001 2 (Z4D l v5).length] 114
def Z4W (name:ByteArray) (v6_1:List BJ) (l:(List Int)) (v5:AD):Blk:=.cells [.s name,.own 100000 7 v6_1.length,.own 100002 2 ((Vw l v5).length)] 114
def Z4X (name:ByteArray) (v6_1:List BJ) (l:(List Int)) (v5:AD):Blk:=.cells [.s name,.own 100000 7 v6_1.length,.own 100002 2 (Z4L l v5).length] 114
def Z4Y (name:ByteArray) (v6_1:List BJ) (l:(List Int)) (v5:AD):Blk:=.cells [.s name,.own 100000 7 v6_1.length,.own 100003 2 ((Z4L l v5)++(Vz l v5)).length] 114
def DO (l:(List Int)) (name:ByteArray):Nat->List BJ->AD->Int->AV
 | 0,_,_,_=>default
 | n0+1,v6_1,v5,v8=>bif decide ((v8:Int)<(W64 (2+(AA (AD.mk l 0) 5).1))) then ((DO l name n0) (v6_1++[BJ.mk (Ar v8) (A2.mk (bif decide (((AA (AA v5 2).2 3).1:Int)=0) then (Z4o v8 v5).Kind else (bif decide (((AA (AA v5 2).2 3).1:Int)=1) then (Z4r v8 v5).Kind else 1)) (Z4t v5 v8) (bif decide (((AA (AA v5 2).2 3).1:Int)=0) then (Z4o v8 v5).R else (bif decide (((AA (AA v5 2).2 3).1:Int)=1) then (Z4r v8 v5).R else 4))) (AE.mk (W64 (30*v8)) (W64 (10*(AA v5 2).1))) (W64 ((W64 (2*(AA (Z4s v5) 4).1))*(AA (AA (Z4s v5) 4).2 2).1))]) (Z4w v5) (v8+1)) else (AV.mk name v6_1 (Z4R l v5))
def BG (l:(List Int)) (name:ByteArray):AV:=DO l name (((W64 (2+(AA (AD.mk l 0) 5).1))-0).toNat+1) ([]:List BJ) (AA (AD.mk l 0) 5).2 0
def Jo (l:(List Int)) (name:ByteArray):CT:=(52,[.one (lst 1 eIn l),.one (.s name)],.val [] (.av (.agg (AV.c (BG l name)))))
abbrev cC:=(v6_1++[BJ.mk (Ar v8) (A2.mk (bif decide (((F2 v5).1:Int)=0) then (Z4o v8 v5).Kind else (bif decide (((F2 v5).1:Int)=1) then (Z4r v8 v5).Kind else 1)) (Z4t v5 v8) (bif decide (((F2 v5).1:Int)=0) then (Z4o v8 v5).R else (bif decide (((F2 v5).1:Int)=1) then (Z4r v8 v5).R else 4))) (AE.mk (W64 (30*v8)) (W64 (10*(AA v5 2).1))) (W64 ((W64 (2*(AA (Z4s v5) 4).1))*(AA (AA (Z4s v5) 4).2 2).1))])
abbrev K9:=(bif decide (((W64 (2+(In l).1)):Int)=6) then decide ((0:Int)<(((Z4L l v5).length:Nat):Int)) else false)
abbrev GP:Bool:=(decide (((W64 (2+(In l).1)):Int)=6))
abbrev CH (t_:List (Nat×Tv)):List (Nat×Tv):=(4,tP 4 0)::(5,tP 14 0)::(6,tP 6 0)::t_
abbrev K8:List (Nat×Tv):=(CH [(7,Z48 l)])
abbrev Cp:Nat×Blk:=(100000,Z4i v6_1)
abbrev KV:Nat×Blk:=(100000,.row 7 v6_1.length (AP BJ.c v6_1) 118)
abbrev R0:List (Nat×Tv):=(CH [(7,Z48 l),(8,tI v8),(9,tP 9 0)])
abbrev Rp (name:ByteArray) (v6_1:List BJ) (l:List Int) (v5:AD):List (Nat×Blk):=[(4,Z46),(6,Z4V name v6_1 l v5),(14,.cells (AD.c (Z4C l v5)) 146),(Cp v6_1),(100001,Z4F l v5)]
abbrev Ro (name:ByteArray) (v6_1:List BJ) (l:List Int) (v5:AD):List (Nat×Blk):=[(4,Z46),(6,Z4X name v6_1 l v5),(14,.cells (AD.c (Z4K l v5)) 146),(Cp v6_1),(100002,Z4N l v5)]
abbrev N2:List (Nat×Blk):=[(4,Z46),(6,Z4h name v6_1),(14,.cells (AD.c v5) 146),(Cp v6_1)]
abbrev Ny:List (Nat×Tv):=[(4,tP 4 0),(6,tP 6 0)]
abbrev aG:List (Nat×Blk):=[(4,Z46),(6,.cells [.s name,.own 90 7 (cC v6_1 v8 v5).length,vN] 114),(14,.cells (AD.c (Z4w v5)) 146),(90,.row 7 (cC v6_1 v8 v5).length (AP BJ.c (cC v6_1 v8 v5)) 118)]
abbrev Nq:Nat×Tv:=(7,tI (W64 (2+(In l).1)))
set_option maxHeartbeats 2000000 in
theorem jT (l:(List Int)) (name:ByteArray) (hl:(l.length:Int)<=9223372036854775807):PuP 52 (Jo l name).2.1 (.av (.agg (AV.c (BG l name)))):=by
 refine pwf Try.func52 fun W0 M0 => ?_
 have hd0:=C0 hl
 refine AB<|on<|AB ?_
 refine on<|AB ?_
 refine on<|AB ?_
 refine rb 18 (Z47 l) (.cells [lst 1 eIn l,.i 0] 146) ⟨(K8 l),[(4,Z46),(6,.cells [.s name,vN,vN] 114),(14,Z49 l)]⟩ (cWr (Bj (AD.mk l 0) 5 au7 au10))<|AF ?_
 refine AB<|AB ?_
 refine rn ⟨(CH [(7,Z48 l),(8,tI 0)]),[(4,Z46),(6,.cells [.s name,vN,vN] 114),(14,Z49 l)]⟩<|AX ?_
 refine Aq (Cv.trans (vg 100000 7 (fun _ _=>default) 118 [] [(6,[1])] hk0) (Cv.trans (Cr 100000 (CL 7 (fun _ _=>default) BJ.c)) (Cv.trans (ck (⟨(CH [(7,Z48 l),(8,tI 0)]),[(4,Z46),(6,Z4g name),(14,Z49 l),(100000,Z4f)]⟩)) (Cv.refl _)))) ?_
 refine Bc (ι:=Nat×List BJ×AD×Int) (fun x=>⟨(CH [(7,Z48 l),(8,tI x.2.2.2)]),[(4,Z46),(6,.cells [.s name,.own 100000 7 x.2.1.length,vN] 114),(14,.cells (AD.c x.2.2.1) 146),(100000,.row 7 x.2.1.length (AP BJ.c x.2.1) 118)]⟩) (fun x=>((W64 (2+(AA (AD.mk l 0) 5).1))-x.2.2.2).toNat<x.1/\(Br x.2.2.1/\0<=x.2.2.2/\(x.2.2.2<=(W64 (2+(AA (AD.mk l 0) 5).1))\/x.2.2.2=0)/\(x.2.1.length:Int)<=0+1*(x.2.2.2-0))/\DO l name x.1 x.2.1 x.2.2.1 x.2.2.2=BG l name) (fun x=>x.1) ?_ (((W64 (2+(AA (AD.mk l 0) 5).1))-0).toNat+1,([]:List BJ),(AA (AD.mk l 0) 5).2,0) ⟨Nat.lt_succ_self _,⟨(by show Br ((AA (AD.mk l 0) 5).2);repeat (first | with_reducible assumption | exact C0 (Dh hll _) | with_reducible refine Be ?_ | with_reducible refine Es ?_ | with_reducible refine Dr ?_ | with_reducible refine Db ?_  | with_reducible refine DD ?_ ?_)),ax0,ax0,ax0⟩,(by simp only [BG,cond_true,cond_false])⟩
 rintro ⟨n0,v6_1,v5,v8⟩ ⟨hm0,hinv0,hF0⟩
 try dsimp only at hm0 hinv0 hF0
 cases n0 with | zero=>exact nz hm0 | succ n0 => ?_
 have hi0_0:=hinv0.1
 refine AB<|AB ?_
 refine rn ⟨(CH [(7,Z48 l),(8,tI v8),(22,tB (decide ((v8:Int)<(W64 (2+(AA (AD.mk l 0) 5).1)))))]),(N2 name v6_1 v5)⟩ ?_
 refine AL _ rfl (fun h1 => ?_) (fun h1 => ?_)
 ·have g1:=oT h1
  have k1:=S6 g1 (by decide) (by decide) (by decide) (by decide)
  have kk1:=PB g1 (by decide) (by decide) (by decide) (by decide)
  refine Af<|AF ?_
  refine AB<|AX<|AB ?_
  refine oc [(26,Cj v8),(30,(Z4j v5))] [A0 (Cj v8).2.1,A0 (Z4j v5).2.1,CB (L0 v5)] (.cons (Ee v8 au13) (.cons (cWr (Bj v5 2 au7 au10)) .nil)) (.cons rfl (.cons rfl (.cons rfl .nil)))<|AF<|AB ?_
  refine on ?_
  refine AB<|AB ?_
  refine rb 37 (Z4m v5) (L5 v5) ⟨(CH [(7,Z48 l),(8,tI v8),(9,tP 9 0),(10,tP 10 0),(37,tI (F2 v5).1)]),[(4,Z46),(6,Z4h name v6_1),(9,Z4k v8 v5),(10,Z4l v8 v5),(14,Z4n v5),(Cp v6_1)]⟩ (cWr (Bj (AA v5 2).2 3 au7 au10))<|AF ?_
  refine CD (⟨(CH [(Nq l),(8,tI v8),(9,tP 9 0)]),[EP,(6,.cells [.s name,.own 100000 7 v6_1.length,vN] 114),(9,.cells [.s (Ar v8),.i (bif decide (((F2 v5).1:Int)=0) then (Z4o v8 v5).Kind else (bif decide (((F2 v5).1:Int)=1) then (Z4r v8 v5).Kind else 1)),lst 7 AQ.c (Z4t v5 v8),.i (bif decide (((F2 v5).1:Int)=0) then (Z4o v8 v5).R else (bif decide (((F2 v5).1:Int)=1) then (Z4r v8 v5).R else 4)),.i (W64 (30*v8)),.i (W64 (10*(AA v5 2).1)),.i 0] 118),(14,.cells (AD.c (Z4s v5)) 146),(KV v6_1)]⟩) ?_ ?_
  ·refine AX<|AB ?_
   refine rn ⟨(CH [(7,Z48 l),(8,tI v8),(9,tP 9 0),(10,tP 10 0),(37,tI (F2 v5).1),(54,tB (decide (((AA (AA v5 2).2 3).1:Int)=0)))]),[(4,Z46),(6,Z4h name v6_1),(9,Z4k v8 v5),(10,Z4l v8 v5),(14,Z4n v5),(Cp v6_1)]⟩ ?_
   refine AL _ rfl (fun h2 => ?_) (fun h2 => ?_)
   ·refine rs 69 (Hb (Ai.mk (W64 ((W64 (30*v8))-6)) (W64 ((W64 (10*(AA v5 2).1))-6)) (W64 ((W64 (30*v8))+6)) (W64 ((W64 (10*(AA v5 2).1))+6)))) ⟨(R0 l v8),[(4,Z46),(6,Z4h name v6_1),(9,.cells [.s (Ar v8),.i (Z4o v8 v5).Kind,lst 7 AQ.c (Z4o v8 v5).Edges,.i (Z4o v8 v5).R,.i (W64 (30*v8)),.i (W64 (10*(AA v5 2).1)),.i 0] 118),(14,Z4n v5),(Cp v6_1)]⟩ (LH (Ai.mk (W64 ((W64 (30*v8))-6)) (W64 ((W64 (10*(AA v5 2).1))-6)) (W64 ((W64 (30*v8))+6)) (W64 ((W64 (10*(AA v5 2).1))+6))))<|A8<|AF ?_
    refine BM ?_
    first | rfl | (simp only [h2,Z4s,Z4t,cond_true,cond_false] <;> rfl)
   have g2:=oF h2
   refine AB<|rn ⟨(CH [(7,Z48 l),(8,tI v8),(9,tP 9 0),(10,tP 10 0),(71,tB (decide (((AA (AA v5 2).2 3).1:Int)=1)))]),[(4,Z46),(6,Z4h name v6_1),(9,Z4k v8 v5),(10,Z4l v8 v5),(14,Z4n v5),(Cp v6_1)]⟩ ?_
   refine AL _ rfl (fun h3 => ?_) (fun h3 => ?_)
   ·have g3:=oT h3
    refine dw [] [(75,(Z4p v5)),(77,Ia (AE.mk (W64 (30*v8)) (W64 (10*(AA v5 2).1))) (W64 (4+(AA (F2 v5).2 3).1)))] [A0 (Z4p v5).2.1,CB (.cells (AD.c (AA (AA v5 2).2 3).2) 146),A0 (Ia (AE.mk (W64 (30*v8)) (W64 (10*(AA v5 2).1))) (W64 (4+(AA (AA (AA v5 2).2 3).2 3).1))).2.1] ⟨(R0 l v8),[(4,Z46),(6,Z4h name v6_1),(9,.cells [.s (Ar v8),.i (Z4r v8 v5).Kind,lst 7 AQ.c (Z4r v8 v5).Edges,.i (Z4r v8 v5).R,.i (W64 (30*v8)),.i (W64 (10*(AA v5 2).1)),.i 0] 118),(14,.cells (AD.c (Z4q v5)) 146),(Cp v6_1)]⟩ (.cons (cWr (Bj (AA (AA v5 2).2 3).2 3 au7 au10)) (.cons (NQ (AE.mk (W64 (30*v8)) (W64 (10*(AA v5 2).1))) (W64 (4+(AA (AA (AA v5 2).2 3).2 3).1))) .nil)) (.cons rfl (.cons rfl (.cons rfl .nil)))<|A8<|AF ?_
    refine BM ?_
    first | rfl | (simp only [h2,h3,Z4s,Z4t,cond_true,cond_false] <;> rfl)
   refine rg ⟨(R0 l v8),[(4,Z46),(6,Z4h name v6_1),(9,.cells [.s (Ar v8),.i 1,.list true 7 1 (As 7 1 [.i 1,.i (W64 ((W64 (30*v8))-2)),.i (W64 (10*(AA v5 2).1)),.i (W64 ((W64 (30*v8))+2)),.i (W64 (10*(AA v5 2).1)),.i 0,.i 0]),.i 4,.i (W64 (30*v8)),.i (W64 (10*(AA v5 2).1)),.i 0] 118),(14,Z4n v5),(Cp v6_1)]⟩<|A8<|AF ?_
   refine Cv.trans (BS (⟨(R0 l v8),[(4,Z46),(6,Z4h name v6_1),(9,.cells [.s (Ar v8),.i 1,lst 7 AQ.c [AQ.mk 1 (AE.mk (W64 ((W64 (30*v8))-2)) (W64 (10*(AA v5 2).1))) (AE.mk (W64 ((W64 (30*v8))+2)) (W64 (10*(AA v5 2).1))) (AE.mk 0 0)],.i 4,.i (W64 (30*v8)),.i (W64 (10*(AA v5 2).1)),.i 0] 118),(14,Z4n v5),(Cp v6_1)]⟩) lr (.cons ⟨rfl,.refl _⟩ (.cons ⟨rfl,.refl _⟩ (.cons ⟨rfl,.cells _ (rr2 (.cons (Bm true (Ae (c:=AQ.c) (xs:=([AQ.mk 1 (AE.mk (W64 ((W64 (30*v8))-2)) (W64 (10*(AA v5 2).1))) (AE.mk (W64 ((W64 (30*v8))+2)) (W64 (10*(AA v5 2).1))) (AE.mk 0 0)]:List AQ)) rfl kr)) (rr (rr (rr (rr .nil))))))⟩ lr)))) (BM ?_)
   first | rfl | (simp only [h2,h3,Z4s,Z4t,cond_true,cond_false] <;> rfl)
  refine AB<|oc [(80,(Z4u v5)),(83,(Z4v v5))] [A0 (Z4u v5).2.1,CB (.cells (AD.c (Z4s v5)) 146),A0 (Z4v v5).2.1,CB (.cells (AD.c (AA (Z4s v5) 4).2) 146)] (.cons (cWr (Bj (Z4s v5) 4 au7 au10)) (.cons (cWr (Bj (AA (Z4s v5) 4).2 2 au7 au10)) .nil)) (.cons rfl (.cons rfl (.cons rfl (.cons rfl .nil))))<|AF ?_
  refine rc [] [v6_1.length=v6_1.length,v6_1.length+1<=maxLen,(v6_1.length+1)*80<=140737488355328] ⟨(CH [(7,Z48 l),(8,tI v8)]),[(4,Z46),(6,.cells [.s name,.own 90 7 (v6_1.length+1),vN] 114),(14,.cells (AD.c (Z4w v5)) 146),(90,.row 7 (v6_1.length+1) (fun i_ j_=>if i_<v6_1.length then (AP BJ.c v6_1) i_ j_ else (As 7 1 [.s (Ar v8),.i (bif decide (((F2 v5).1:Int)=0) then (Z4o v8 v5).Kind else (bif decide (((F2 v5).1:Int)=1) then (Z4r v8 v5).Kind else 1)),lst 7 AQ.c (Z4t v5 v8),.i (bif decide (((F2 v5).1:Int)=0) then (Z4o v8 v5).R else (bif decide (((F2 v5).1:Int)=1) then (Z4r v8 v5).R else 4)),.i (W64 (30*v8)),.i (W64 (10*(AA v5 2).1)),.i (W64 ((W64 (2*(AA (Z4s v5) 4).1))*(AA (AA (Z4s v5) 4).2 2).1))]) (i_-v6_1.length) j_) 118)]⟩ .nil (.cons rfl (.cons au3 (.cons au3 .nil)))<|A8<|AF ?_
  refine Aq (Cv.trans (BS (⟨(CH [(7,Z48 l),(8,tI v8)]),(aG name v6_1 v8 v5)⟩) lr (.cons ⟨rfl,.refl _⟩ (.cons ⟨rfl,.cells _ (rr (.cons (.own _ _ au0) (rr .nil)))⟩ (.cons ⟨rfl,.refl _⟩ (.cons ⟨rfl,Ao 118 (Au (An 7 BJ.c v6_1) (Ae (c:=BJ.c) (xs:=([BJ.mk (Ar v8) (A2.mk (bif decide (((AA (AA v5 2).2 3).1:Int)=0) then (Z4o v8 v5).Kind else (bif decide (((AA (AA v5 2).2 3).1:Int)=1) then (Z4r v8 v5).Kind else 1)) (Z4t v5 v8) (bif decide (((AA (AA v5 2).2 3).1:Int)=0) then (Z4o v8 v5).R else (bif decide (((AA (AA v5 2).2 3).1:Int)=1) then (Z4r v8 v5).R else 4))) (AE.mk (W64 (30*v8)) (W64 (10*(AA v5 2).1))) (W64 ((W64 (2*(AA (Z4s v5) 4).1))*(AA (AA (Z4s v5) 4).2 2).1))]:List BJ)) rfl kr))⟩ .nil))))) (Cv.refl _)) ?_
  refine rg ⟨(CH [(7,Z48 l),(8,tI (W64 (v8+1)))]),(aG name v6_1 v8 v5)⟩ ?_
  (try rw [(show W64 (v8+1)=v8+1 from A1 oM au9)])
  refine AF ?_
  refine ⟨(n0,v6_1++[BJ.mk (Ar v8) (A2.mk (bif decide (((AA (AA v5 2).2 3).1:Int)=0) then (Z4o v8 v5).Kind else (bif decide (((AA (AA v5 2).2 3).1:Int)=1) then (Z4r v8 v5).Kind else 1)) (Z4t v5 v8) (bif decide (((AA (AA v5 2).2 3).1:Int)=0) then (Z4o v8 v5).R else (bif decide (((AA (AA v5 2).2 3).1:Int)=1) then (Z4r v8 v5).R else 4))) (AE.mk (W64 (30*v8)) (W64 (10*(AA v5 2).1))) (W64 ((W64 (2*(AA (Z4s v5) 4).1))*(AA (AA (Z4s v5) 4).2 2).1))],Z4w v5,v8+1),⟨?_,?_,(by rw [<- hF0];simp only [DO,h1,cond_true,cond_false])⟩,Nat.lt_succ_self _,Cv.trans (vr 90 100000 hk0) (BM kr)⟩
  ·show ((W64 (2+(AA (AD.mk l 0) 5).1))-(v8+1)).toNat<n0;omega
  exact ⟨(by show Br (Z4w v5);repeat (first | with_reducible assumption | exact C0 (Dh hll _) | with_reducible refine Be ?_ | with_reducible refine Es ?_ | with_reducible refine Dr ?_ | with_reducible refine Db ?_  | with_reducible refine DD ?_ ?_)),ax0,ax0,ax0⟩
 have g1:=oF h1
 have k1:=TK g1 (by decide) (by decide) (by decide) (by decide)
 refine BU<|BE ?_
 refine BE<|BV ?_
 refine AF<|AB<|AB ?_
 refine CD (⟨(CH [(Nq l),(98,tB (bif decide (((W64 (2+(AA (AD.mk l 0) 5).1)):Int)<4) then (bif decide (((W64 (2+(AA (AD.mk l 0) 5).1)):Int)<4) then decide ((0:Int)<(AA v5 3).1) else false) else (bif decide (((W64 (2+(AA (AD.mk l 0) 5).1)):Int)<4) then false else false)))]),[EP,(6,.cells [.s name,.own 100000 7 v6_1.length,vN] 114),(14,.cells (AD.c (Z4y l v5)) 146),(KV v6_1)]⟩) ?_ ?_
 ·refine NC (Hd l) (fun h2 => ?_) (fun h2 => ?_)
  ·have g2:=oT h2
   refine Dc ?_
   refine FS DV 4 [] [] [] [4,5,6,7,94,95] [4,6,14,100000] [] ⟨(CH [(7,Z48 l),(94,Z4a l),(95,Z4b l)]),(N2 name v6_1 v5)⟩ .nil kr .nil ?_
   refine PY DV 2 true ((Hd l)=true) [] [(96,(Z4x v5))] [((Hd l)=true)->((Hd l)=true),A0 (Z4x v5).2.1,CB (L0 v5)] ⟨(CH [(7,Z48 l),(94,Z4a l),(95,Z4b l),(96,tI (AA v5 3).1)]),[(4,Z46),(6,Z4h name v6_1),(14,.cells (AD.c (AA v5 3).2) 146),(Cp v6_1)]⟩ rfl kr h2 (.cons (cWr (Bj v5 3 au7 au10)) .nil) kr (.cons id (.cons rfl (.cons rfl .nil))) ?_
   refine Ea DV [] [] [] [4,5,6,7,98] [4,6,14,100000] [(Hd l)=true->((Hd l)=true)] ⟨(CH [(7,Z48 l),(98,tB (bif decide (((W64 (2+(In l).1)):Int)<4) then decide ((0:Int)<(AA v5 3).1) else false))]),[(4,Z46),(6,Z4h name v6_1),(14,.cells (AD.c (AA v5 3).2) 146),(Cp v6_1)]⟩ .nil kr (.cons id .nil)<|AF ?_
   refine BM ?_
   first | rfl | (simp only [h2,Z4y,cond_true,cond_false] <;> rfl)
  have g2:=oF h2
  refine Dc ?_
  refine FS DV 4 [] [] [] [4,5,6,7,94,95] [4,6,14,100000] [] ⟨(CH [(7,Z48 l),(94,Z4a l),(95,Z4b l)]),(N2 name v6_1 v5)⟩ .nil kr .nil ?_
  refine PZ 2 true ((Hd l)=true) ⟨(CH [(7,Z48 l),(94,Z4a l),(95,Z4b l),(96,.grd ((Hd l)=true) (.one (.b false)))]),(N2 name v6_1 v5)⟩ rfl kr (fun e=>by rw [h2] at e;cases e) kr kr ?_
  refine Ea DV [] [] [] [4,5,6,7,98] [4,6,14,100000] [¬ ((Hd l)=true),(Hd l)=true->((Hd l)=true)] ⟨(CH [(7,Z48 l),(98,tB (bif decide (((W64 (2+(In l).1)):Int)<4) then false else false))]),(N2 name v6_1 v5)⟩ .nil kr (.cons (fun e=>by rw [h2] at e;cases e) (.cons id .nil))<|AF ?_
  refine BM ?_
  first | rfl | (simp only [h2,Z4y,cond_true,cond_false] <;> rfl)
 refine CD (⟨(CH [(Nq l)]),[EP,(6,.cells [.s name,.own 100000 7 v6_1.length,.own 100001 2 (Z4D l v5).length] 114),(14,.cells (AD.c (Z4C l v5)) 146),(KV v6_1),(100001,.row 2 (Z4D l v5).length (AP BL.c (Z4D l v5)) 157)]⟩) ?_ ?_
 ·refine AL (bif decide (((W64 (2+(AA (AD.mk l 0) 5).1)):Int)<4) then (bif decide (((W64 (2+(AA (AD.mk l 0) 5).1)):Int)<4) then decide ((0:Int)<(AA v5 3).1) else false) else (bif decide (((W64 (2+(AA (AD.mk l 0) 5).1)):Int)<4) then false else false)) kr (fun h2 => ?_) (fun h2 => ?_)
  ·refine C4 DV [107] [] [(99,Cj 0),(101,Cj 1),(103,(Z4z l v5))] [4,5,6,7] [4,6,14,107,100000] [A0 (Cj 0).2.1,A0 (Cj 1).2.1,A0 (Z4z l v5).2.1,CB (.cells (AD.c (Z4y l v5)) 146)] ⟨(K8 l),[(4,Z46),(6,.cells [.s name,.own 100000 7 v6_1.length,.own 107 2 1] 114),(14,Z4A l v5),(107,.row 2 1 (As 2 1 [.i 0,.list true 2 2 (As 2 2 [.s (Ar 0),.i 1,.s (Ar 1),.i (AA (Z4y l v5) 2).1])]) 157),(Cp v6_1)]⟩ (.cons (Ee 0 au13) (.cons (Ee 1 au13) (.cons (cWr (Bj (Z4y l v5) 2 au7 au10)) .nil))) kr (.cons rfl (.cons rfl (.cons rfl (.cons rfl .nil))))<|AF ?_
   refine Cv.trans (BS (⟨(K8 l),[(4,Z46),(6,.cells [.s name,.own 100000 7 v6_1.length,.own 107 2 ([BL.mk 0 [Bw.mk (Ar 0) 1,Bw.mk (Ar 1) (AA (Z4y l v5) 2).1]].length)] 114),(14,Z4A l v5),(107,Z4B l v5),(Cp v6_1)]⟩) lr (.cons ⟨rfl,.refl _⟩ (.cons ⟨rfl,.cells _ (rr2 (.cons (.own _ _ au0) .nil))⟩ (.cons ⟨rfl,.refl _⟩ (.cons ⟨rfl,Ao 157 (Dg (c:=BL.c) (xs:=([BL.mk 0 [Bw.mk (Ar 0) 1,Bw.mk (Ar 1) (AA (Z4y l v5) 2).1]]:List BL)) (y:=[[.i 0,.list true 2 2 (As 2 2 [.s (Ar 0),.i 1,.s (Ar 1),.i (AA (Z4y l v5) 2).1])]]) (z:=[[.i 0,lst 2 Bw.c [Bw.mk (Ar 0) 1,Bw.mk (Ar 1) (AA (Z4y l v5) 2).1]]]) rfl kr kr (.cons (rr (.cons (Bm true (Ae (c:=Bw.c) (xs:=([Bw.mk (Ar 0) 1,Bw.mk (Ar 1) (AA (Z4y l v5) 2).1]:List Bw)) rfl kr)) .nil)) .nil))⟩ lr))))) (Cv.trans (vr 107 100001 hk0) (Cv.trans (ck (⟨(K8 l),[(4,Z46),(6,Z4T name v6_1 l v5),(14,Z4A l v5),(Cp v6_1),(100001,Z4B l v5)]⟩)) (BM ?_)))
   first | rfl | (simp only [h2,Z4C,Z4D,cond_true,cond_false] <;> rfl)
  refine Af<|AF ?_
  refine Cv.trans (vk [4,5,6,7] [4,6,14,100000]) (Cv.trans (vg 100001 2 (fun _ _=>default) 157 [] [(6,[2])] hk0) (Cv.trans (Cr 100001 (CL 2 (fun _ _=>default) BL.c)) (Cv.trans (ck (⟨(K8 l),[(4,Z46),(6,Z4U name v6_1),(14,.cells (AD.c (Z4y l v5)) 146),(Cp v6_1),(100001,Z4c)]⟩)) (BM ?_))))
  first | rfl | (simp only [h2,Z4C,Z4D,cond_true,cond_false] <;> rfl)
 refine AB<|AB ?_
 refine CD (⟨(CH [(Nq l),(115,tB (bif decide ((4:Int)<=(W64 (2+(AA (AD.mk l 0) 5).1))) then (bif decide ((4:Int)<=(W64 (2+(AA (AD.mk l 0) 5).1))) then decide ((0:Int)<(AA (Z4C l v5) 3).1) else false) else (bif decide ((4:Int)<=(W64 (2+(AA (AD.mk l 0) 5).1))) then false else false)))]),[EP,(6,.cells [.s name,.own 100000 7 v6_1.length,.own 100001 2 (Z4D l v5).length] 114),(14,.cells (AD.c (Z4G l v5)) 146),(KV v6_1),(100001,.row 2 (Z4D l v5).length (AP BL.c (Z4D l v5)) 157)]⟩) ?_ ?_
 ·refine NC (He l) (fun h2 => ?_) (fun h2 => ?_)
  ·have g2:=oT h2
   refine Dc ?_
   refine FS DV 4 [] [] [] [4,5,6,7,111,112] [4,6,14,100000,100001] [] ⟨(CH [(7,Z48 l),(111,Z4d l),(112,Z4e l)]),(Rp name v6_1 l v5)⟩ .nil kr .nil ?_
   refine PY DV 2 true ((He l)=true) [] [(113,(Z4E l v5))] [((He l)=true)->((He l)=true),A0 (Z4E l v5).2.1,CB (.cells (AD.c (Z4C l v5)) 146)] ⟨(CH [(7,Z48 l),(111,Z4d l),(112,Z4e l),(113,tI (AA (Z4C l v5) 3).1)]),[(4,Z46),(6,Z4V name v6_1 l v5),(14,.cells (AD.c (AA (Z4C l v5) 3).2) 146),(Cp v6_1),(100001,Z4F l v5)]⟩ rfl kr h2 (.cons (cWr (Bj (Z4C l v5) 3 au7 au10)) .nil) kr (.cons id (.cons rfl (.cons rfl .nil))) ?_
   refine Ea DV [] [] [] [4,5,6,7,115] [4,6,14,100000,100001] [(He l)=true->((He l)=true)] ⟨(CH [(7,Z48 l),(115,tB (bif decide ((4:Int)<=(W64 (2+(In l).1))) then decide ((0:Int)<(AA (Z4C l v5) 3).1) else false))]),[(4,Z46),(6,Z4V name v6_1 l v5),(14,.cells (AD.c (AA (Z4C l v5) 3).2) 146),(Cp v6_1),(100001,Z4F l v5)]⟩ .nil kr (.cons id .nil)<|AF ?_
   refine BM ?_
   first | rfl | (simp only [h2,Z4G,cond_true,cond_false] <;> rfl)
  have g2:=oF h2
  refine Dc ?_
  refine FS DV 4 [] [] [] [4,5,6,7,111,112] [4,6,14,100000,100001] [] ⟨(CH [(7,Z48 l),(111,Z4d l),(112,Z4e l)]),(Rp name v6_1 l v5)⟩ .nil kr .nil ?_
  refine PZ 2 true ((He l)=true) ⟨(CH [(7,Z48 l),(111,Z4d l),(112,Z4e l),(113,.grd ((He l)=true) (.one (.b false)))]),(Rp name v6_1 l v5)⟩ rfl kr (fun e=>by rw [h2] at e;cases e) kr kr ?_
  refine Ea DV [] [] [] [4,5,6,7,115] [4,6,14,100000,100001] [¬ ((He l)=true),(He l)=true->((He l)=true)] ⟨(CH [(7,Z48 l),(115,tB (bif decide ((4:Int)<=(W64 (2+(In l).1))) then false else false))]),(Rp name v6_1 l v5)⟩ .nil kr (.cons (fun e=>by rw [h2] at e;cases e) (.cons id .nil))<|AF ?_
  refine BM ?_
  first | rfl | (simp only [h2,Z4G,cond_true,cond_false] <;> rfl)
 refine CD (⟨(CH [(Nq l)]),[EP,(6,.cells [.s name,.own 100000 7 v6_1.length,.own 100002 2 (Z4L l v5).length] 114),(14,.cells (AD.c (Z4K l v5)) 146),(KV v6_1),(100002,.row 2 (Z4L l v5).length (AP BL.c (Z4L l v5)) 157)]⟩) ?_ ?_
 ·refine AL (bif decide ((4:Int)<=(W64 (2+(AA (AD.mk l 0) 5).1))) then (bif decide ((4:Int)<=(W64 (2+(AA (AD.mk l 0) 5).1))) then decide ((0:Int)<(AA (Z4C l v5) 3).1) else false) else (bif decide ((4:Int)<=(W64 (2+(AA (AD.mk l 0) 5).1))) then false else false)) kr (fun h2 => ?_) (fun h2 => ?_)
  ·refine AB<|rb 117 (Z4H l v5) (.cells (AD.c (Z4G l v5)) 146) ⟨(CH [(7,Z48 l),(11,tI (GH l v5).1)]),[(4,Z46),(6,Z4V name v6_1 l v5),(14,Z4I l v5),(Cp v6_1),(100001,Z4F l v5)]⟩ (cWr (Bj (Z4G l v5) 2 au7 au10))<|AF ?_
   refine C4 DV [134] [] [(118,Cj 0),(121,Cj 1),(126,Cj 2),(129,Cj 3)] [4,5,6,7] [4,6,14,134,100000] [A0 (Cj 0).2.1,A0 (Cj 1).2.1,A0 (Cj 2).2.1,A0 (Cj 3).2.1] ⟨(K8 l),[(4,Z46),(6,.cells [.s name,.own 100000 7 v6_1.length,.own 134 2 2] 114),(14,Z4I l v5),(134,.row 2 2 (As 2 2 [.i 1,.list true 2 2 (As 2 2 [.s (Ar 0),.i (GH l v5).1,.s (Ar 1),.i (GH l v5).1]),.i 1,.list true 2 2 (As 2 2 [.s (Ar 2),.i (GH l v5).1,.s (Ar 3),.i (GH l v5).1])]) 157),(Cp v6_1)]⟩ (.cons (Ee 0 au13) (.cons (Ee 1 au13) (.cons (Ee 2 au13) (.cons (Ee 3 au13) .nil)))) kr (.cons rfl (.cons rfl (.cons rfl (.cons rfl .nil))))<|AF ?_
   refine Cv.trans (BS (⟨(K8 l),[(4,Z46),(6,.cells [.s name,.own 100000 7 v6_1.length,.own 134 2 ([BL.mk 1 [Bw.mk (Ar 0) (AA (Z4G l v5) 2).1,Bw.mk (Ar 1) (AA (Z4G l v5) 2).1],BL.mk 1 [Bw.mk (Ar 2) (AA (Z4G l v5) 2).1,Bw.mk (Ar 3) (AA (Z4G l v5) 2).1]].length)] 114),(14,Z4I l v5),(134,Z4J l v5),(Cp v6_1)]⟩) lr (.cons ⟨rfl,.refl _⟩ (.cons ⟨rfl,.cells _ (rr2 (.cons (.own _ _ au0) .nil))⟩ (.cons ⟨rfl,.refl _⟩ (.cons ⟨rfl,Ao 157 (Dg (c:=BL.c) (xs:=([BL.mk 1 [Bw.mk (Ar 0) (AA (Z4G l v5) 2).1,Bw.mk (Ar 1) (AA (Z4G l v5) 2).1],BL.mk 1 [Bw.mk (Ar 2) (AA (Z4G l v5) 2).1,Bw.mk (Ar 3) (AA (Z4G l v5) 2).1]]:List BL)) (y:=[[.i 1,.list true 2 2 (As 2 2 [.s (Ar 0),.i (AA (Z4G l v5) 2).1,.s (Ar 1),.i (AA (Z4G l v5) 2).1])],[.i 1,.list true 2 2 (As 2 2 [.s (Ar 2),.i (AA (Z4G l v5) 2).1,.s (Ar 3),.i (AA (Z4G l v5) 2).1])]]) (z:=[[.i 1,lst 2 Bw.c [Bw.mk (Ar 0) (AA (Z4G l v5) 2).1,Bw.mk (Ar 1) (AA (Z4G l v5) 2).1]],[.i 1,lst 2 Bw.c [Bw.mk (Ar 2) (AA (Z4G l v5) 2).1,Bw.mk (Ar 3) (AA (Z4G l v5) 2).1]]]) rfl kr kr (.cons (rr (.cons (Bm true (Ae (c:=Bw.c) (xs:=([Bw.mk (Ar 0) (AA (Z4G l v5) 2).1,Bw.mk (Ar 1) (AA (Z4G l v5) 2).1]:List Bw)) rfl kr)) .nil)) (.cons (rr (.cons (Bm true (Ae (c:=Bw.c) (xs:=([Bw.mk (Ar 2) (AA (Z4G l v5) 2).1,Bw.mk (Ar 3) (AA (Z4G l v5) 2).1]:List Bw)) rfl kr)) .nil)) .nil)))⟩ lr))))) (Cv.trans (vr 134 100002 hk0) (Cv.trans (ck (⟨(K8 l),[(4,Z46),(6,Z4W name v6_1 l v5),(14,Z4I l v5),(Cp v6_1),(100002,Z4J l v5)]⟩)) (BM ?_)))
   first | rfl | (simp only [h2,Z4K,Z4L,cond_true,cond_false] <;> rfl)
  refine Af<|AF ?_
  refine Cv.trans (vk [4,5,6,7] [4,6,14,100000,100001]) (Cv.trans (wr (⟨(K8 l),[(4,Z46),(6,.cells [.s name,.own 100000 7 v6_1.length,.own 100002 2 (Z4D l v5).length] 114),(14,.cells (AD.c (Z4G l v5)) 146),(Cp v6_1),(100002,Z4F l v5)]⟩) 100001 100002 hk0) (BM ?_))
  first | rfl | (simp only [h2,Z4K,Z4L,cond_true,cond_false] <;> rfl)
 refine AB<|AB ?_
 refine CD (⟨(CH [(148,tB (bif bif decide (((W64 (2+(AA (AD.mk l 0) 5).1)):Int)=6) then decide ((0:Int)<(((Z4L l v5).length:Nat):Int)) else false then (bif bif decide (((W64 (2+(AA (AD.mk l 0) 5).1)):Int)=6) then decide ((0:Int)<(((Z4L l v5).length:Nat):Int)) else false then decide (((AA (Z4K l v5) 2).1:Int)=1) else false) else (bif bif decide (((W64 (2+(AA (AD.mk l 0) 5).1)):Int)=6) then decide ((0:Int)<(((Z4L l v5).length:Nat):Int)) else false then false else false)))]),[EP,(6,.cells [.s name,.own 100000 7 v6_1.length,.own 100002 2 (Z4L l v5).length] 114),(14,.cells (AD.c (Z4O l v5)) 146),(KV v6_1),(100002,.row 2 (Z4L l v5).length (AP BL.c (Z4L l v5)) 157)]⟩) ?_ ?_
 ·refine NC (bif decide (((W64 (2+(AA (AD.mk l 0) 5).1)):Int)=6) then decide ((0:Int)<(((Z4L l v5).length:Nat):Int)) else false) (fun h2 => ?_) (fun h2 => ?_)
  ·have g2:=Ta h2
   refine Dc ?_
   refine FS DV 10 [] [] [] [4,5,6,144,145] [4,6,14,100000,100002] [((GP l)=true)->((GP l)=true),((GP l)=true)->((GP l)=true),((GP l)=true)->((GP l)=true),(GP l)=true->((GP l)=true)] ⟨(CH [(144,tB (K9 l v5)),(145,.grd ((K9 l v5)=true) L4)]),(Ro name v6_1 l v5)⟩ .nil kr (.cons id (.cons id (.cons id (.cons id .nil)))) ?_
   refine PY DV 8 true ((bif decide (((W64 (2+(AA (AD.mk l 0) 5).1)):Int)=6) then decide ((0:Int)<(((Z4L l v5).length:Nat):Int)) else false)=true) [] [(146,(Z4M l v5))] [((bif decide (((W64 (2+(AA (AD.mk l 0) 5).1)):Int)=6) then decide ((0:Int)<(((Z4L l v5).length:Nat):Int)) else false)=true)->((bif decide (((W64 (2+(AA (AD.mk l 0) 5).1)):Int)=6) then decide ((0:Int)<(((Z4L l v5).length:Nat):Int)) else false)=true),A0 (Z4M l v5).2.1,CB (.cells (AD.c (Z4K l v5)) 146)] ⟨(CH [(144,tB (K9 l v5)),(145,.grd ((K9 l v5)=true) L4),(146,tI (AA (Z4K l v5) 2).1)]),[(4,Z46),(6,Z4X name v6_1 l v5),(14,.cells (AD.c (AA (Z4K l v5) 2).2) 146),(Cp v6_1),(100002,Z4N l v5)]⟩ rfl kr h2 (.cons (cWr (Bj (Z4K l v5) 2 au7 au10)) .nil) kr (.cons id (.cons rfl (.cons rfl .nil))) ?_
   refine Ea DV [] [] [] [4,5,6,148] [4,6,14,100000,100002] [(bif decide (((W64 (2+(AA (AD.mk l 0) 5).1)):Int)=6) then decide ((0:Int)<(((Z4L l v5).length:Nat):Int)) else false)=true->((bif decide (((W64 (2+(AA (AD.mk l 0) 5).1)):Int)=6) then decide ((0:Int)<(((Z4L l v5).length:Nat):Int)) else false)=true)] ⟨(CH [(148,tB (bif bif decide (((W64 (2+(In l).1)):Int)=6) then decide ((0:Int)<(((Z4L l v5).length:Nat):Int)) else false then decide (((AA (Z4K l v5) 2).1:Int)=1) else false))]),[(4,Z46),(6,Z4X name v6_1 l v5),(14,.cells (AD.c (AA (Z4K l v5) 2).2) 146),(Cp v6_1),(100002,Z4N l v5)]⟩ .nil kr (.cons id .nil)<|AF ?_
   refine BM ?_
   first | rfl | (simp only [h2,Z4O,cond_true,cond_false] <;> rfl)
  refine Dc ?_
  refine FS DV 10 [] [] [] [4,5,6,144,145] [4,6,14,100000,100002] [((GP l)=true)->((GP l)=true),((GP l)=true)->((GP l)=true),((GP l)=true)->((GP l)=true),(GP l)=true->((GP l)=true)] ⟨(CH [(144,tB (K9 l v5)),(145,.grd ((K9 l v5)=true) L4)]),(Ro name v6_1 l v5)⟩ .nil kr (.cons id (.cons id (.cons id (.cons id .nil)))) ?_
  refine PZ 8 true ((bif decide (((W64 (2+(AA (AD.mk l 0) 5).1)):Int)=6) then decide ((0:Int)<(((Z4L l v5).length:Nat):Int)) else false)=true) ⟨(CH [(144,tB (K9 l v5)),(145,.grd ((K9 l v5)=true) L4),(146,.grd ((K9 l v5)=true) (.one (.b false)))]),(Ro name v6_1 l v5)⟩ rfl kr (fun e=>by rw [h2] at e;cases e) kr kr ?_
  refine Ea DV [] [] [] [4,5,6,148] [4,6,14,100000,100002] [¬ ((bif decide (((W64 (2+(AA (AD.mk l 0) 5).1)):Int)=6) then decide ((0:Int)<(((Z4L l v5).length:Nat):Int)) else false)=true),(bif decide (((W64 (2+(AA (AD.mk l 0) 5).1)):Int)=6) then decide ((0:Int)<(((Z4L l v5).length:Nat):Int)) else false)=true->((bif decide (((W64 (2+(AA (AD.mk l 0) 5).1)):Int)=6) then decide ((0:Int)<(((Z4L l v5).length:Nat):Int)) else false)=true)] ⟨(CH [(148,tB (bif bif decide (((W64 (2+(In l).1)):Int)=6) then decide ((0:Int)<(((Z4L l v5).length:Nat):Int)) else false then false else false))]),(Ro name v6_1 l v5)⟩ .nil kr (.cons (fun e=>by rw [h2] at e;cases e) (.cons id .nil))<|AF ?_
  refine BM ?_
  first | rfl | (simp only [h2,Z4O,cond_true,cond_false] <;> rfl)
 refine CD (⟨Ny,[EP,(6,.cells [.s name,.own 100000 7 v6_1.length,.own 100003 2 (Z4R l v5).length] 114),(KV v6_1),(100003,.row 2 (Z4R l v5).length (AP BL.c (Z4R l v5)) 157)]⟩) ?_ ?_
 ·refine AL (bif bif decide (((W64 (2+(AA (AD.mk l 0) 5).1)):Int)=6) then decide ((0:Int)<(((Z4L l v5).length:Nat):Int)) else false then (bif bif decide (((W64 (2+(AA (AD.mk l 0) 5).1)):Int)=6) then decide ((0:Int)<(((Z4L l v5).length:Nat):Int)) else false then decide (((AA (Z4K l v5) 2).1:Int)=1) else false) else (bif bif decide (((W64 (2+(AA (AD.mk l 0) 5).1)):Int)=6) then decide ((0:Int)<(((Z4L l v5).length:Nat):Int)) else false then false else false)) kr (fun h2 => ?_) (fun h2 => ?_)
  ·refine dw [] [(152,(Z4P l v5)),(153,Cj 5),(163,Cj 4)] [A0 (Z4P l v5).2.1,CB (.cells (AD.c (Z4O l v5)) 146),A0 (Cj 5).2.1,0<=(0:Int)/\(0:Int)<(((Z4L l v5).length:Nat):Int),0<(Z4L l v5).length,0<=(0:Int)/\(0:Int)<((((Z4L l v5).getD 0 default).Legs.length:Nat):Int),A0 (Cj 4).2.1,0<=(0:Int)/\(0:Int)<(((Z4L l v5).length:Nat):Int),0<(Z4L l v5).length,0<=(1:Int)/\(1:Int)<((((Z4L l v5).getD 0 default).Legs.length:Nat):Int),(Z4L l v5).length=(Z4L l v5).length,(Z4L l v5).length+1<=maxLen,((Z4L l v5).length+1)*32<=140737488355328] ⟨Ny,[(4,Z46),(6,.cells [.s name,.own 100000 7 v6_1.length,.own 176 2 ((Z4L l v5).length+1)] 114),(176,.row 2 ((Z4L l v5).length+1) (fun i_ j_=>if i_<(Z4L l v5).length then (AP BL.c (Z4L l v5)) i_ j_ else (As 2 1 [.i (AA (Z4O l v5) 3).1,.list true 2 2 (As 2 2 [.s (Ar 5),.i (((Z4L l v5).getD 0 default).Legs.getD 0 default).Group,.s (Ar 4),.i (((Z4L l v5).getD 0 default).Legs.getD 1 default).Group])]) (i_-(Z4L l v5).length) j_) 157),(Cp v6_1)]⟩ (.cons (cWr (Bj (Z4O l v5) 3 au7 au10)) (.cons (Ee 5 au13) (.cons (Ee 4 au13) .nil))) (.cons rfl (.cons rfl (.cons rfl (.cons ⟨by decide,(Ht (by with_reducible assumption))⟩ (.cons (YC (Ht (by with_reducible assumption))) (.cons (YR (by decide) rfl rfl rfl (Ht (by with_reducible assumption))) (.cons rfl (.cons ⟨by decide,(Ht (by with_reducible assumption))⟩ (.cons (YC (Ht (by with_reducible assumption))) (.cons (YR (by decide) rfl rfl rfl (Ht (by with_reducible assumption))) (.cons rfl (.cons (fQ (Qa rfl)) (.cons (fR (Qa rfl)) .nil)))))))))))))<|AF ?_
   refine Cv.trans (BS (⟨Ny,[(4,Z46),(6,.cells [.s name,.own 100000 7 v6_1.length,.own 176 2 ((Z4L l v5)++[BL.mk (AA (Z4O l v5) 3).1 [Bw.mk (Ar 5) (((Z4L l v5).getD 0 default).Legs.getD 0 default).Group,Bw.mk (Ar 4) (((Z4L l v5).getD 0 default).Legs.getD 1 default).Group]]).length] 114),(176,Z4Q l v5),(Cp v6_1)]⟩) lr (.cons ⟨rfl,.refl _⟩ (.cons ⟨rfl,.cells _ (rr2 (.cons (.own _ _ au0) .nil))⟩ (.cons ⟨rfl,Ao 157 (Au (An 2 BL.c (Z4L l v5)) (Dg (c:=BL.c) (xs:=([BL.mk (AA (Z4O l v5) 3).1 [Bw.mk (Ar 5) (((Z4L l v5).getD 0 default).Legs.getD 0 default).Group,Bw.mk (Ar 4) (((Z4L l v5).getD 0 default).Legs.getD 1 default).Group]]:List BL)) (y:=[[.i (AA (Z4O l v5) 3).1,.list true 2 2 (As 2 2 [.s (Ar 5),.i (((Z4L l v5).getD 0 default).Legs.getD 0 default).Group,.s (Ar 4),.i (((Z4L l v5).getD 0 default).Legs.getD 1 default).Group])]]) (z:=[[.i (AA (Z4O l v5) 3).1,lst 2 Bw.c [Bw.mk (Ar 5) (((Z4L l v5).getD 0 default).Legs.getD 0 default).Group,Bw.mk (Ar 4) (((Z4L l v5).getD 0 default).Legs.getD 1 default).Group]]]) rfl kr kr (.cons (rr (.cons (Bm true (Ae (c:=Bw.c) (xs:=([Bw.mk (Ar 5) (((Z4L l v5).getD 0 default).Legs.getD 0 default).Group,Bw.mk (Ar 4) (((Z4L l v5).getD 0 default).Legs.getD 1 default).Group]:List Bw)) rfl kr)) .nil)) .nil)))⟩ lr)))) (Cv.trans (vr 176 100003 hk0) (Cv.trans (ck (⟨Ny,[(4,Z46),(6,Z4Y name v6_1 l v5),(Cp v6_1),(100003,Z4Q l v5)]⟩)) (BM ?_)))
   first | rfl | (simp only [h2,Z4R,cond_true,cond_false] <;> rfl)
  refine Af<|AF ?_
  refine Cv.trans (vk [4,6] [4,6,100000,100002]) (Cv.trans (wr (⟨Ny,[(4,Z46),(6,.cells [.s name,.own 100000 7 v6_1.length,.own 100003 2 (Z4L l v5).length] 114),(Cp v6_1),(100003,Z4N l v5)]⟩) 100002 100003 hk0) (BM ?_))
  first | rfl | (simp only [h2,Z4R,cond_true,cond_false] <;> rfl)
 refine AB<|on<|Ac ?_
 exact zy (Cv.trans (vf 100000 hk0) (Cv.trans (vf 100003 hk0) (Cv.refl _))) (by rw [<- hF0];simp only [DO,h1,cond_true,cond_false] <;> kernel_rfl)
theorem UU (l:(List Int)) (name:ByteArray) (hl:(l.length:Int)<=9223372036854775807):OKc (Jo l name):=cPu<|jT l name hl
def Jp (x0:AE) (x1:AE):AQ:=AQ.mk 1 x0 x1 (AE.mk 0 0)
def Fy:CT:=(80,[.agg (AE.c x0),.agg (AE.c x1)],.val [] (.av (.agg (AQ.c (Jp x0 x1)))))
theorem jK (x0:AE) (x1:AE):PuP 80 (Fy x0 x1).2.1 (.av (.agg (AQ.c (Jp x0 x1)))):=by
 refine pwf Try.func80 fun W0 M0 => ?_
 refine AB<|on<|AB ?_
 refine on<|Ac ?_
 exact zl
theorem LG (x0:AE) (x1:AE):OKc (Fy x0 x1):=cPu<|jK x0 x1
def Z4Z:Blk:=.cells [.i 0,vN,.i 0] 29
def Z50:Blk:=.cells [.i 2,vN,.i 0] 29
def Z51:Blk:=.cells [.i (W64 (r.X1-radius)),.i (W64 (r.Y0+radius)),.i (W64 (r.X1-radius)),.i (W64 (r.Y1-radius)),.i (W64 (r.X0+radius)),.i (W64 (r.Y1-radius)),.i (W64 (r.X0+radius)),.i (W64 (r.Y0+radius))] 179
def Z52:AQ:=FF (AE.mk (W64 (r.X1-radius)) (W64 (r.Y0+radius))) radius 3 2
def Z53:AQ:=FF (AE.mk (W64 (r.X1-radius)) (W64 (r.Y1-radius))) radius 4 2
def Z54:Blk:=.cells (AQ.c (Z53 r radius)) 133
def Z55:AQ:=Jp (Z52 r radius).B (Z53 r radius).A
def Z56:Blk:=.cells [.i 2,.own 77 7 ([Z52 r radius,Z55 r radius].length),.i 0] 29
def Z57:Blk:=.row 7 ([Z52 r radius,Z55 r radius].length) (AP AQ.c [Z52 r radius,Z55 r radius]) 133
def Z58:Blk:=.cells [.i 2,.own 100000 7 ([Z52 r radius,Z55 r radius].length),.i 0] 29
def Z59:AQ:=FF (AE.mk (W64 (r.X0+radius)) (W64 (r.Y1-radius))) radius 5 2
def Z5a:Blk:=.cells (AQ.c (Z59 r radius)) 133
def Z5b:AQ:=Jp (Z53 r radius).B (Z59 r radius).A
def Z5c:Blk:=.cells [.i 2,.own 77 7 ([Z52 r radius,Z55 r radius]++[Z53 r radius,Z5b r radius]).length,.i 0] 29
def Z5d:Blk:=.row 7 ([Z52 r radius,Z55 r radius]++[Z53 r radius,Z5b r radius]).length (AP AQ.c ([Z52 r radius,Z55 r radius]++[Z53 r radius,Z5b r radius])) 133
def Z5e:Blk:=.cells [.i 2,.own 100001 7 ([Z52 r radius,Z55 r radius]++[Z53 r radius,Z5b r radius]).length,.i 0] 29
def Z5f:AQ:=FF (AE.mk (W64 (r.X0+radius)) (W64 (r.Y0+radius))) radius 6 2
def Z5g:Blk:=.cells (AQ.c (Z5f r radius)) 133
def Z5h:AQ:=Jp (Z59 r radius).B (Z5f r radius).A
def Z5i:Blk:=.cells [.i 2,.own 77 7 (([Z52 r radius,Z55 r radius]++[Z53 r radius,Z5b r radius])++[Z59 r radius,Z5h r radius]).length,.i 0] 29
abbrev aD:=AP AQ.c (([Z52 r radius,Z55 r radius]++[Z53 r radius,Z5b r radius])++[Z59 r radius,Z5h r radius])
def Z5j:Blk:=.row 7 (([Z52 r radius,Z55 r radius]++[Z53 r radius,Z5b r radius])++[Z59 r radius,Z5h r radius]).length (aD r radius) 133
def Z5k:Blk:=.cells [.i 2,.own 100002 7 (([Z52 r radius,Z55 r radius]++[Z53 r radius,Z5b r radius])++[Z59 r radius,Z5h r radius]).length,.i 0] 29
def Z5l:AQ:=FF (AE.mk (W64 (r.X1-radius)) (W64 (r.Y0+radius))) radius 7 2
def Z5m:AQ:=Jp (Z5f r radius).B (Z5l r radius).A
def Z5n:Blk:=.cells [.i 2,.own 77 7 ((([Z52 r radius,Z55 r radius]++[Z53 r radius,Z5b r radius])++[Z59 r radius,Z5h r radius])++[Z5f r radius,Z5m r radius]).length,.i 0] 29
def Z5o:Blk:=.row 7 ((([Z52 r radius,Z55 r radius]++[Z53 r radius,Z5b r radius])++[Z59 r radius,Z5h r radius])++[Z5f r radius,Z5m r radius]).length (AP AQ.c ((([Z52 r radius,Z55 r radius]++[Z53 r radius,Z5b r radius])++[Z59 r radius,Z5h r radius])++[Z5f r radius,Z5m r radius])) 133
def Z5p:Blk:=.cells [.i 2,.own 100003 7 ((([Z52 r radius,Z55 r radius]++[Z53 r radius,Z5b r radius])++[Z59 r radius,Z5h r radius])++[Z5f r radius,Z5m r radius]).length,.i 0] 29
def Gg (r:Ai) (radius:Int):A2:=A2.mk 2 ((([Z52 r radius,Z55 r radius]++[Z53 r radius,Z5b r radius])++[Z59 r radius,Z5h r radius])++[Z5f r radius,Z5m r radius]) 0
def MZ:CT:=(55,[.agg (Ai.c r),.one (.i radius)],.val [] (.av (.agg (A2.c (Gg r radius)))))
abbrev Gj (t_:List (Nat×Tv)):List (Nat×Tv):=(1,tI radius)::(4,tP 4 0)::(5,tP 5 0)::(6,tP 6 0)::t_
abbrev Rw:List (Nat×Tv):=(Gj radius [(7,tI 1)])
abbrev Rv:List (Nat×Tv):=(Gj radius [(7,tI 2)])
abbrev Ru:List (Nat×Tv):=(Gj radius [(7,tI 3)])
abbrev VW:List (Nat×Tv):=(Gj radius [(7,tI 0)])
theorem ZD (r:Ai) (radius:Int):PuP 55 (MZ r radius).2.1 (.av (.agg (A2.c (Gg r radius)))):=by
 refine pwf Try.func55 fun W0 M0 => ?_
 refine AB<|on<|AB ?_
 refine on<|AB ?_
 refine on ?_
 refine AB<|AB ?_
 refine rn ⟨(VW radius),[(4,Z4Z),(5,Z50),(6,Z51 r radius)]⟩<|AX ?_
 refine Dy 5 ?_
 refine B7<|AB<|AB ?_
 refine rn ⟨(Gj radius [(7,tI 0),(49,tB true)]),[(4,Z4Z),(5,Z50),(6,Z51 r radius)]⟩ ?_
 refine DZ kr<|Af ?_
 refine AF<|AB ?_
 refine AX<|AB ?_
 refine oc [(58,CP (AE.mk (W64 (r.X1-radius)) (W64 (r.Y0+radius))) radius 3 2)] [0<=(0:Int)/\(0:Int)<(4:Int),A0 (CP (AE.mk (W64 (r.X1-radius)) (W64 (r.Y0+radius))) radius 3 2).2.1] (.cons (D8 (AE.mk (W64 (r.X1-radius)) (W64 (r.Y0+radius))) radius 3 2) .nil) (.cons (by decide) (.cons rfl .nil))<|AF<|AB ?_
 refine oc [(67,CP (AE.mk (W64 (r.X1-radius)) (W64 (r.Y1-radius))) radius 4 2)] [(4:Int)≠0,0<=(1:Int)/\(1:Int)<(4:Int),A0 (CP (AE.mk (W64 (r.X1-radius)) (W64 (r.Y1-radius))) radius 4 2).2.1] (.cons (D8 (AE.mk (W64 (r.X1-radius)) (W64 (r.Y1-radius))) radius 4 2) .nil) (.cons au14 (.cons (by decide) (.cons rfl .nil)))<|AF ?_
 refine dw [] [(75,Fy (Z52 r radius).B (Z53 r radius).A)] [A0 (Fy (Z52 r radius).B (Z53 r radius).A).2.1,2<=maxLen,2*56<=140737488355328] ⟨(VW radius),[(4,Z4Z),(5,.cells [.i 2,.own 77 7 2,.i 0] 29),(6,Z51 r radius),(77,.row 7 2 (As 7 2 [.i (Z52 r radius).Kind,.i (Z52 r radius).A.X,.i (Z52 r radius).A.Y,.i (Z52 r radius).B.X,.i (Z52 r radius).B.Y,.i (Z52 r radius).C.X,.i (Z52 r radius).C.Y,.i (Z55 r radius).Kind,.i (Z55 r radius).A.X,.i (Z55 r radius).A.Y,.i (Z55 r radius).B.X,.i (Z55 r radius).B.Y,.i (Z55 r radius).C.X,.i (Z55 r radius).C.Y]) 133)]⟩ (.cons (LG (Z52 r radius).B (Z53 r radius).A) .nil) (.cons rfl (.cons au3 (.cons au3 .nil)))<|A8<|AF ?_
 refine Aq (Cv.trans (BS (⟨(VW radius),[(4,Z4Z),(5,Z56 r radius),(6,Z51 r radius),(77,Z57 r radius)]⟩) lr (.cons ⟨rfl,.refl _⟩ (.cons ⟨rfl,.cells _ (rr (.cons (.own _ _ au0) (rr .nil)))⟩ (.cons ⟨rfl,.refl _⟩ (.cons ⟨rfl,Ao 133 (Ae (c:=AQ.c) (xs:=([Z52 r radius,Z55 r radius]:List AQ)) rfl kr)⟩ .nil))))) (Cv.refl _)) ?_
 refine rn ⟨(Rw radius),[(4,Z4Z),(5,Z56 r radius),(6,Z51 r radius),(77,Z57 r radius)]⟩ ?_
 refine B7 ?_
 refine Aq (Cv.trans (wr (⟨(Rw radius),[(4,Z4Z),(5,Z58 r radius),(6,Z51 r radius),(100000,Z57 r radius)]⟩) 77 100000 hk0) (Cv.refl _))<|AB<|AB ?_
 refine rn ⟨(Gj radius [(7,tI 1),(49,tB true)]),[(4,Z4Z),(5,Z58 r radius),(6,Z51 r radius),(100000,Z57 r radius)]⟩ ?_
 refine DZ kr<|Af ?_
 refine AF<|AB ?_
 refine AX<|AB ?_
 refine oc [(58,CP (AE.mk (W64 (r.X1-radius)) (W64 (r.Y1-radius))) radius 4 2)] [0<=(1:Int)/\(1:Int)<(4:Int),A0 (CP (AE.mk (W64 (r.X1-radius)) (W64 (r.Y1-radius))) radius 4 2).2.1] (.cons (D8 (AE.mk (W64 (r.X1-radius)) (W64 (r.Y1-radius))) radius 4 2) .nil) (.cons (by decide) (.cons rfl .nil))<|AF<|AB ?_
 refine oc [(67,CP (AE.mk (W64 (r.X0+radius)) (W64 (r.Y1-radius))) radius 5 2)] [(4:Int)≠0,0<=(2:Int)/\(2:Int)<(4:Int),A0 (CP (AE.mk (W64 (r.X0+radius)) (W64 (r.Y1-radius))) radius 5 2).2.1] (.cons (D8 (AE.mk (W64 (r.X0+radius)) (W64 (r.Y1-radius))) radius 5 2) .nil) (.cons au14 (.cons (by decide) (.cons rfl .nil)))<|AF ?_
 refine dw [] [(75,Fy (Z53 r radius).B (Z59 r radius).A)] [A0 (Fy (Z53 r radius).B (Z59 r radius).A).2.1,[Z52 r radius,Z55 r radius].length=[Z52 r radius,Z55 r radius].length,([Z52 r radius,Z55 r radius].length)+2<=maxLen,(([Z52 r radius,Z55 r radius].length)+2)*56<=140737488355328] ⟨(Rw radius),[(4,Z4Z),(5,.cells [.i 2,.own 77 7 (([Z52 r radius,Z55 r radius].length)+2),.i 0] 29),(6,Z51 r radius),(77,.row 7 (([Z52 r radius,Z55 r radius].length)+2) (fun i_ j_=>if i_<([Z52 r radius,Z55 r radius].length) then (AP AQ.c [Z52 r radius,Z55 r radius]) i_ j_ else (As 7 2 [.i (Z53 r radius).Kind,.i (Z53 r radius).A.X,.i (Z53 r radius).A.Y,.i (Z53 r radius).B.X,.i (Z53 r radius).B.Y,.i (Z53 r radius).C.X,.i (Z53 r radius).C.Y,.i (Z5b r radius).Kind,.i (Z5b r radius).A.X,.i (Z5b r radius).A.Y,.i (Z5b r radius).B.X,.i (Z5b r radius).B.Y,.i (Z5b r radius).C.X,.i (Z5b r radius).C.Y]) (i_-([Z52 r radius,Z55 r radius].length)) j_) 133)]⟩ (.cons (LG (Z53 r radius).B (Z59 r radius).A) .nil) (.cons rfl (.cons rfl (.cons au3 (.cons au3 .nil))))<|A8<|AF ?_
 refine Aq (Cv.trans (BS (⟨(Rw radius),[(4,Z4Z),(5,Z5c r radius),(6,Z51 r radius),(77,Z5d r radius)]⟩) lr (.cons ⟨rfl,.refl _⟩ (.cons ⟨rfl,.cells _ (rr (.cons (.own _ _ au0) (rr .nil)))⟩ (.cons ⟨rfl,.refl _⟩ (.cons ⟨rfl,Ao 133 (Au (An 7 AQ.c [Z52 r radius,Z55 r radius]) (Ae (c:=AQ.c) (xs:=([Z53 r radius,Z5b r radius]:List AQ)) rfl kr))⟩ .nil))))) (Cv.refl _)) ?_
 refine rn ⟨(Rv radius),[(4,Z4Z),(5,Z5c r radius),(6,Z51 r radius),(77,Z5d r radius)]⟩ ?_
 refine B7 ?_
 refine Aq (Cv.trans (wr (⟨(Rv radius),[(4,Z4Z),(5,Z5e r radius),(6,Z51 r radius),(100001,Z5d r radius)]⟩) 77 100001 hk0) (Cv.refl _))<|AB<|AB ?_
 refine rn ⟨(Gj radius [(7,tI 2),(49,tB true)]),[(4,Z4Z),(5,Z5e r radius),(6,Z51 r radius),(100001,Z5d r radius)]⟩ ?_
 refine DZ kr<|Af ?_
 refine AF<|AB ?_
 refine AX<|AB ?_
 refine oc [(58,CP (AE.mk (W64 (r.X0+radius)) (W64 (r.Y1-radius))) radius 5 2)] [0<=(2:Int)/\(2:Int)<(4:Int),A0 (CP (AE.mk (W64 (r.X0+radius)) (W64 (r.Y1-radius))) radius 5 2).2.1] (.cons (D8 (AE.mk (W64 (r.X0+radius)) (W64 (r.Y1-radius))) radius 5 2) .nil) (.cons (by decide) (.cons rfl .nil))<|AF<|AB ?_
 refine oc [(67,CP (AE.mk (W64 (r.X0+radius)) (W64 (r.Y0+radius))) radius 6 2)] [(4:Int)≠0,0<=(3:Int)/\(3:Int)<(4:Int),A0 (CP (AE.mk (W64 (r.X0+radius)) (W64 (r.Y0+radius))) radius 6 2).2.1] (.cons (D8 (AE.mk (W64 (r.X0+radius)) (W64 (r.Y0+radius))) radius 6 2) .nil) (.cons au14 (.cons (by decide) (.cons rfl .nil)))<|AF ?_
 refine dw [] [(75,Fy (Z59 r radius).B (Z5f r radius).A)] [A0 (Fy (Z59 r radius).B (Z5f r radius).A).2.1,([Z52 r radius,Z55 r radius]++[Z53 r radius,Z5b r radius]).length=([Z52 r radius,Z55 r radius]++[Z53 r radius,Z5b r radius]).length,([Z52 r radius,Z55 r radius]++[Z53 r radius,Z5b r radius]).length+2<=maxLen,(([Z52 r radius,Z55 r radius]++[Z53 r radius,Z5b r radius]).length+2)*56<=140737488355328] ⟨(Rv radius),[(4,Z4Z),(5,.cells [.i 2,.own 77 7 (([Z52 r radius,Z55 r radius]++[Z53 r radius,Z5b r radius]).length+2),.i 0] 29),(6,Z51 r radius),(77,.row 7 (([Z52 r radius,Z55 r radius]++[Z53 r radius,Z5b r radius]).length+2) (fun i_ j_=>if i_<([Z52 r radius,Z55 r radius]++[Z53 r radius,Z5b r radius]).length then (AP AQ.c ([Z52 r radius,Z55 r radius]++[Z53 r radius,Z5b r radius])) i_ j_ else (As 7 2 [.i (Z59 r radius).Kind,.i (Z59 r radius).A.X,.i (Z59 r radius).A.Y,.i (Z59 r radius).B.X,.i (Z59 r radius).B.Y,.i (Z59 r radius).C.X,.i (Z59 r radius).C.Y,.i (Z5h r radius).Kind,.i (Z5h r radius).A.X,.i (Z5h r radius).A.Y,.i (Z5h r radius).B.X,.i (Z5h r radius).B.Y,.i (Z5h r radius).C.X,.i (Z5h r radius).C.Y]) (i_-([Z52 r radius,Z55 r radius]++[Z53 r radius,Z5b r radius]).length) j_) 133)]⟩ (.cons (LG (Z59 r radius).B (Z5f r radius).A) .nil) (.cons rfl (.cons rfl (.cons au3 (.cons au3 .nil))))<|A8<|AF ?_
 refine Aq (Cv.trans (BS (⟨(Rv radius),[(4,Z4Z),(5,Z5i r radius),(6,Z51 r radius),(77,Z5j r radius)]⟩) lr (.cons ⟨rfl,.refl _⟩ (.cons ⟨rfl,.cells _ (rr (.cons (.own _ _ au0) (rr .nil)))⟩ (.cons ⟨rfl,.refl _⟩ (.cons ⟨rfl,Ao 133 (Au (An 7 AQ.c ([Z52 r radius,Z55 r radius]++[Z53 r radius,Z5b r radius])) (Ae (c:=AQ.c) (xs:=([Z59 r radius,Z5h r radius]:List AQ)) rfl kr))⟩ .nil))))) (Cv.refl _)) ?_
 refine rn ⟨(Ru radius),[(4,Z4Z),(5,Z5i r radius),(6,Z51 r radius),(77,Z5j r radius)]⟩ ?_
 refine B7 ?_
 refine Aq (Cv.trans (wr (⟨(Ru radius),[(4,Z4Z),(5,Z5k r radius),(6,Z51 r radius),(100002,Z5j r radius)]⟩) 77 100002 hk0) (Cv.refl _))<|AB<|AB ?_
 refine rn ⟨(Gj radius [(7,tI 3),(49,tB true)]),[(4,Z4Z),(5,Z5k r radius),(6,Z51 r radius),(100002,Z5j r radius)]⟩ ?_
 refine DZ kr<|Af ?_
 refine AF<|AB ?_
 refine AX<|AB ?_
 refine oc [(58,CP (AE.mk (W64 (r.X0+radius)) (W64 (r.Y0+radius))) radius 6 2)] [0<=(3:Int)/\(3:Int)<(4:Int),A0 (CP (AE.mk (W64 (r.X0+radius)) (W64 (r.Y0+radius))) radius 6 2).2.1] (.cons (D8 (AE.mk (W64 (r.X0+radius)) (W64 (r.Y0+radius))) radius 6 2) .nil) (.cons (by decide) (.cons rfl .nil))<|AF<|AB ?_
 refine oc [(67,CP (AE.mk (W64 (r.X1-radius)) (W64 (r.Y0+radius))) radius 7 2)] [(4:Int)≠0,0<=(0:Int)/\(0:Int)<(4:Int),A0 (CP (AE.mk (W64 (r.X1-radius)) (W64 (r.Y0+radius))) radius 7 2).2.1] (.cons (D8 (AE.mk (W64 (r.X1-radius)) (W64 (r.Y0+radius))) radius 7 2) .nil) (.cons au14 (.cons (by decide) (.cons rfl .nil)))<|AF ?_
 refine dw [] [(75,Fy (Z5f r radius).B (Z5l r radius).A)] [A0 (Fy (Z5f r radius).B (Z5l r radius).A).2.1,(([Z52 r radius,Z55 r radius]++[Z53 r radius,Z5b r radius])++[Z59 r radius,Z5h r radius]).length=(([Z52 r radius,Z55 r radius]++[Z53 r radius,Z5b r radius])++[Z59 r radius,Z5h r radius]).length,(([Z52 r radius,Z55 r radius]++[Z53 r radius,Z5b r radius])++[Z59 r radius,Z5h r radius]).length+2<=maxLen,((([Z52 r radius,Z55 r radius]++[Z53 r radius,Z5b r radius])++[Z59 r radius,Z5h r radius]).length+2)*56<=140737488355328] ⟨(Ru radius),[(4,Z4Z),(5,.cells [.i 2,.own 77 7 ((([Z52 r radius,Z55 r radius]++[Z53 r radius,Z5b r radius])++[Z59 r radius,Z5h r radius]).length+2),.i 0] 29),(6,Z51 r radius),(77,.row 7 ((([Z52 r radius,Z55 r radius]++[Z53 r radius,Z5b r radius])++[Z59 r radius,Z5h r radius]).length+2) (fun i_ j_=>if i_<(([Z52 r radius,Z55 r radius]++[Z53 r radius,Z5b r radius])++[Z59 r radius,Z5h r radius]).length then (aD r radius) i_ j_ else (As 7 2 [.i (Z5f r radius).Kind,.i (Z5f r radius).A.X,.i (Z5f r radius).A.Y,.i (Z5f r radius).B.X,.i (Z5f r radius).B.Y,.i (Z5f r radius).C.X,.i (Z5f r radius).C.Y,.i (Z5m r radius).Kind,.i (Z5m r radius).A.X,.i (Z5m r radius).A.Y,.i (Z5m r radius).B.X,.i (Z5m r radius).B.Y,.i (Z5m r radius).C.X,.i (Z5m r radius).C.Y]) (i_-(([Z52 r radius,Z55 r radius]++[Z53 r radius,Z5b r radius])++[Z59 r radius,Z5h r radius]).length) j_) 133)]⟩ (.cons (LG (Z5f r radius).B (Z5l r radius).A) .nil) (.cons rfl (.cons rfl (.cons au3 (.cons au3 .nil))))<|A8<|AF ?_
 refine Aq (Cv.trans (BS (⟨(Ru radius),[(4,Z4Z),(5,Z5n r radius),(6,Z51 r radius),(77,Z5o r radius)]⟩) lr (.cons ⟨rfl,.refl _⟩ (.cons ⟨rfl,.cells _ (rr (.cons (.own _ _ au0) (rr .nil)))⟩ (.cons ⟨rfl,.refl _⟩ (.cons ⟨rfl,Ao 133 (Au (An 7 AQ.c (([Z52 r radius,Z55 r radius]++[Z53 r radius,Z5b r radius])++[Z59 r radius,Z5h r radius])) (Ae (c:=AQ.c) (xs:=([Z5f r radius,Z5m r radius]:List AQ)) rfl kr))⟩ .nil))))) (Cv.refl _)) ?_
 refine rn ⟨(Gj radius [(7,tI 4)]),[(4,Z4Z),(5,Z5n r radius),(6,Z51 r radius),(77,Z5o r radius)]⟩ ?_
 refine B7 ?_
 refine Aq (Cv.trans (wr (⟨(Gj radius [(7,tI 4)]),[(4,Z4Z),(5,Z5p r radius),(6,Z51 r radius),(100003,Z5o r radius)]⟩) 77 100003 hk0) (Cv.refl _))<|AB<|AB ?_
 refine rn ⟨(Gj radius [(7,tI 4),(49,tB false)]),[(4,Z4Z),(5,Z5p r radius),(6,Z51 r radius),(100003,Z5o r radius)]⟩ ?_
 refine Dz kr<|BU ?_
 refine BE<|BE ?_
 refine BV<|AF<|AB ?_
 refine on<|Ac ?_
 exact zy (Cv.trans (vf 100003 hk0) (Cv.refl _))
theorem Wh (r:Ai) (radius:Int):OKc (MZ r radius):=cPu<|ZD r radius
end
section
open Go.RowKit
theorem QM (l:List Int) (name:ByteArray):∀ (n:Nat) (v:List BJ) (d:AD) (k:Int),0<=k->k<=W64 (2+(AA (AD.mk l 0) 5).1)->((W64 (2+(AA (AD.mk l 0) 5).1))-k).toNat<n ->
  (DO l name n v d k).Name=name/\((DO l name n v d k).Pads.length:Int)=v.length+(W64 (2+(AA (AD.mk l 0) 5).1)-k)
 | 0,v,d,k,_,_,h=>absurd h (Nat.not_lt_zero _)
 | n+1,v,d,k,h0,h1,h2=>by
  unfold DO
  by_cases h:k<W64 (2+(AA (AD.mk l 0) 5).1)
  ·simp only [h,decide_true,cond_true]
   obtain ⟨e1,e2⟩:=QM l name n (v++[_]) _ (k+1) (by omega) (by omega) (by omega)
   refine ⟨e1,e2.trans ?_⟩
   simp only [List.length_append,List.length_cons,List.length_nil]
   omega
  simp only [h,decide_false,cond_false]
  refine ⟨by first | trivial | rfl,?_⟩
  show (v.length:Int)=_
  omega
theorem Fj (l:List Int) (name:ByteArray):(BG l name).Name=name/\2<=((BG l name).Pads.length:Int)/\((BG l name).Pads.length:Int)<=6:=by
 have hn:=DU (AD.mk l 0) 5 (by decide) (by decide)
 have hw:W64 (2+(AA (AD.mk l 0) 5).1)=2+(AA (AD.mk l 0) 5).1:=A1 (by omega) (by omega)
 obtain ⟨e1,e2⟩:=QM l name (((W64 (2+(AA (AD.mk l 0) 5).1))-0).toNat+1) [] (AA (AD.mk l 0) 5).2 0 (by omega) (by omega) (by omega)
 refine ⟨e1,?_⟩
 unfold BG
 rw [e2,hw]
 simp only [List.length_nil]
 omega
theorem QZ {a c:AV}:Bp [a,c] a.Name=(a,true):=by
 unfold Bp D1
 simp [Z0t]
theorem QX {a c:AV} (h:¬ a.Name.toList=c.Name.toList):Bp [a,c] c.Name=(c,true):=by
 have hb:(a.Name.toList==c.Name.toList)=false:=by simp [h]
 unfold Bp D1
 simp [D1,Z0t,hb]
def Pf (types:List AV) (xs:List AG):Prop:=∀ k:Int,0<=k->k<(xs.length:Int)->1<=((Bp types (xs.getD k.toNat default).Type').1.Pads.length:Int)/\((Bp types (xs.getD k.toNat default).Type').1.Pads.length:Int)<=6
theorem Xw {types:List AV}:Pf types ([]:List AG):=fun k h0 h1=>absurd h1 (by simp only [List.length_nil];omega)
theorem Xx {types:List AV} {xs:List AG} {p:AG} (h:Pf types xs) (hp:1<=((Bp types p.Type').1.Pads.length:Int)/\((Bp types p.Type').1.Pads.length:Int)<=6):Pf types (xs++[p]):=by
 intro k h0 h1
 simp only [List.length_append,List.length_cons,List.length_nil] at h1
 by_cases hk:k.toNat<xs.length
 ·rw [List.getD_eq_getElem?_getD,List.getElem?_append_left hk,<- List.getD_eq_getElem?_getD]
  exact h k h0 oM
 rw [List.getD_eq_getElem?_getD,List.getElem?_append_right oM,show k.toNat-xs.length=0 by omega]
 exact hp
theorem Pz (a c:List Int) (i:Int) (hi:0<=i/\i<2):1<=((Bp [BG a { data := #[82] },BG c { data := #[81] }] (([BG a { data := #[82] },BG c { data := #[81] }]:List AV).getD i.toNat default).Name).1.Pads.length:Int)/\((Bp [BG a { data := #[82] },BG c { data := #[81] }] (([BG a { data := #[82] },BG c { data := #[81] }]:List AV).getD i.toNat default).Name).1.Pads.length:Int)<=6:=by
 have ha:=Fj a { data := #[82] }
 have hc:=Fj c { data := #[81] }
 have h01:i=0\/i=1:=by omega
 rcases h01 with rfl | rfl
 ·show 1<=((Bp [BG a { data := #[82] },BG c { data := #[81] }] (BG a { data := #[82] }).Name).1.Pads.length:Int)/\((Bp [BG a { data := #[82] },BG c { data := #[81] }] (BG a { data := #[82] }).Name).1.Pads.length:Int)<=6
  rw [QZ]
  exact ⟨by show 1<=((BG a { data := #[82] }).Pads.length:Int);omega,ha.2.2⟩
 show 1<=((Bp [BG a { data := #[82] },BG c { data := #[81] }] (BG c { data := #[81] }).Name).1.Pads.length:Int)/\((Bp [BG a { data := #[82] },BG c { data := #[81] }] (BG c { data := #[81] }).Name).1.Pads.length:Int)<=6
 rw [QX (by rw [ha.1,hc.1];decide +kernel)]
 exact ⟨by show 1<=((BG c { data := #[81] }).Pads.length:Int);omega,hc.2.2⟩
theorem ZQ {d:AD} (h:(AA d 5).1<3) (h0:¬ (AA d 5).1=0) (h1:¬ (AA d 5).1=1):(AA d 5).1=2:=by
 have:=DU d 5 (by decide) (by decide)
 omega
theorem dO {b:AC} {types:List AV} (h:Pf types b.Parts):NX b types:=fun k h0 h1=>(h k h0 h1).1
def DX (v:List AU) (m:Int):Prop:=(v.length:Int)<=m
theorem E3 {α:Type} {c:Bool} {a b:List α} {m:Int} (ha:(a.length:Int)<=m) (hb:(b.length:Int)<=m):((bif c then a else b).length:Int)<=m:=by cases c <;> assumption
theorem E4 {α:Type} {a:List α} {x:α} {m:Int} (h:(a.length:Int)+1<=m):((a++[x]).length:Int)<=m:=by simp only [List.length_append,List.length_cons,List.length_nil];omega
theorem mV {d:AD} {a c:AV}:0<=(AA d 2).1/\(AA d 2).1<((([a,c]:List AV).length:Nat):Int):=DU d 2 (by decide) (by decide)
theorem cI {v:Int} {a b c:ByteArray} (h0:0<=v) (h:v<3):0<=v/\v<((([a,b,c]:List ByteArray).length:Nat):Int):=⟨h0,h⟩
theorem nW {b B:AC} (h:Lb b B) (hb:(b.Parts.length:Int)<=1000000):(B.Parts.length:Int)<=1000000:=by rw [h.par];exact hb
theorem jW {b B:AC} (h:Lb b B) (hb:1<=(b.Parts.length:Int)):1<=(B.Parts.length:Int):=by rw [h.par];exact hb
theorem nT {b B:AC} (h:Lb b B):(B.Tracks.length:Int)<=1000000:=by have:=h.trk;omega
theorem nS {b B:AC} (h:Lb b B):(B.Vias.length:Int)<=1000000:=by have:=h.via;omega
theorem nV {b B:AC} (h:Lb b B):(B.Pours.length:Int)<=1000000:=by have:=h.pou;omega
theorem nX {b B:AC} (h:Lb b B):(B.Keeps.length:Int)<=1000000:=by have:=h.kee;omega
theorem nU {b B:AC} (h:Lb b B):(B.Slots.length:Int)<=1000000:=by have:=h.slo;omega
variable (v6_4:List AG) (v31_1':List AU) (v5'':AD) (v10:Int) (l:List (List Int)) (v31_1 v31_3' v31_3:List AU) (v8:Int) (v31_5':List AU) (v13:Int) (v31_5:List AU) (v5 v5':AD)
def Z5q:Tv:=.av (oL l)
def Z5r:Blk:=.cells GD 42
def Z5s:AV:=BG (AZ l 0) ({ data := #[82] }:ByteArray)
def Z5t:AV:=BG (AZ l 1) ({ data := #[81] }:ByteArray)
def Z5u:Tv:=.av (.one (lst 3 AV.c [Z5s l,Z5t l]))
def Z5v:Blk:=.cells [lst 1 eIn (AZ l 2),.i 0] 146
abbrev KT:=Ai.mk 0 0 400 400
def Z5w:Blk:=.cells [.i 2,.i (DM KT).Kind,lst 7 AQ.c (DM KT).Edges,.i (DM KT).R,vN,.own 31 2 3,vN,vN,vN,vN,vN,vN,vN,vN,vN] 42
def Z5x:Blk:=.rowx 2 3 (fun _ _=>default) 48 [(0,[.s ({ data := #[78,49] }:ByteArray),vN]),(1,[.s ({ data := #[78,50] }:ByteArray),vN]),(2,[.s ({ data := #[71,78,68] }:ByteArray),vN])]
abbrev Gp:=AA (AD.mk (AZ l 2) 0) 3
def Z5y:CT:=(54,(FB:List Av).map (B3 1000 25),wrI 25 (.cells [lst 1 eIn (AZ l 2),.i 0] 146) (tI (Gp l).1) (.cells (AD.c (Gp l).2) 146))
def Z5z:Blk:=.cells (AD.c (Gp l).2) 146
def Z5A:A2:=bif decide (((AA (AD.mk (AZ l 2) 0) 3).1:Int)=0) then (Gg (Ai.mk 0 0 400 400) 50) else (DM (Ai.mk 0 0 400 400))
def Z5B:CT:=(54,(FB:List Av).map (B3 1000 25),wrI 25 (.cells (AD.c (Gp l).2) 146) (tI (AA (Gp l).2 3).1) (.cells (AD.c (AA (Gp l).2 3).2) 146))
abbrev Z5C:AD:=(AA (AA (AD.mk (AZ l 2) 0) 3).2 3).2
def Z5D:Tv:=tI (W64 (1+(AA (Gp l).2 3).1))
abbrev Gk (t_:List Cl):List Cl:=(.i 2)::(.i (Z5A l).Kind)::(lst 7 AQ.c (Z5A l).Edges)::(.i (Z5A l).R)::t_
def Z5E:Blk:=.cells (Gk l [vN,.own 31 2 3,vN,vN,vN,vN,vN,vN,vN,vN,vN]) 42
def Z5F:Blk:=.cells [lst 1 eIn (AZ l 3),.i 0] 146
def Z5G:Blk:=.row 7 ([]:List AG).length (AP AG.c ([]:List AG)) 59
def Z5H:Blk:=.cells (Gk l [.own 100000 7 ([]:List AG).length,.own 31 2 3,vN,vN,vN,vN,vN,vN,vN,vN,vN]) 42
def Z5I (l:(List (List Int))) (v6_4:List AG):Blk:=.cells (Gk l [.own 100000 7 v6_4.length,.own 31 2 3,vN,vN,vN,vN,vN,vN,vN,vN,vN]) 42
def Z5J:Blk:=.row 7 v6_4.length (AP AG.c v6_4) 59
def Z5K:CT:=(54,(Hc:List Av).map (B3 1000 25),wrI 25 (L0 v5) (tI (AA v5 2).1) (L5 v5))
abbrev HT:=AA (AA v5 2).2 4
def Z5L:CT:=(54,HU.map (B3 1000 25),wrI 25 (L5 v5) (tI (HT v5).1) (.cells (AD.c (HT v5).2) 146))
def Z5M:CT:=(54,(FB:List Av).map (B3 1000 25),wrI 25 (.cells (AD.c (HT v5).2) 146) (tI (AA (HT v5).2 3).1) (.cells (AD.c (AA (HT v5).2 3).2) 146))
abbrev Z5N:AD:=(AA (AA (AA v5 2).2 4).2 3).2
def Z5O:CT:=(54,KM.map (B3 1000 25),wrI 25 (.cells (AD.c (Z5N v5)) 146) (tI (AA (Z5N v5) 5).1) (.cells (AD.c (AA (Z5N v5) 5).2) 146))
def Z5P:CT:=(54,(FB:List Av).map (B3 1000 25),wrI 25 (.cells (AD.c (AA (Z5N v5) 5).2) 146) (tI (AA (AA (Z5N v5) 5).2 3).1) (.cells (AD.c (AA (AA (Z5N v5) 5).2 3).2) 146))
abbrev Z5Q:AD:=(AA (AA (Z5N v5) 5).2 3).2
def Z5R:CT:=(54,(FB:List Av).map (B3 1000 25),wrI 25 (.cells (AD.c (Z5Q v5)) 146) (tI (AA (Z5Q v5) 3).1) (.cells (AD.c (AA (Z5Q v5) 3).2) 146))
def Z5S:Blk:=.cells (AD.c (AA (Z5Q v5) 3).2) 146
abbrev Zr:=AE.mk (W64 ((W64 (80+(W64 (100*v8))))+(W64 (5*(AA (Z5N v5) 5).1)))) (W64 ((W64 (100+(W64 (80*(AA (AA (Z5N v5) 5).2 3).1))))+(W64 (5*(AA (Z5Q v5) 3).1))))
abbrev KZ:Bool:=(decide (((AA (HT v5).2 3).1:Int)=0))
def Z5T (l:(List (List Int))) (v6_4:List AG) (v8:Int) (v5:AD):Blk:=.cells (Gk l [.own 86 7 (v6_4++[AG.mk (W64 (1+v8)) (([({ data := #[82,49] }:ByteArray),({ data := #[82,50] }:ByteArray),({ data := #[120,47,82,49] }:ByteArray)]:List ByteArray).getD v8.toNat ⟨#[]⟩) ([Z5s l,Z5t l].getD (AA v5 2).1.toNat default).Name (Zr v8 v5) (HT v5).1 (KZ v5)]).length,.own 31 2 3,vN,vN,vN,vN,vN,vN,vN,vN,vN]) 42
def Z5U (v6_4:List AG) (v8:Int) (l:(List (List Int))) (v5:AD):Blk:=.row 7 (v6_4++[AG.mk (W64 (1+v8)) (([({ data := #[82,49] }:ByteArray),({ data := #[82,50] }:ByteArray),({ data := #[120,47,82,49] }:ByteArray)]:List ByteArray).getD v8.toNat ⟨#[]⟩) ([Z5s l,Z5t l].getD (AA v5 2).1.toNat default).Name (Zr v8 v5) (HT v5).1 (KZ v5)]).length (AP AG.c (v6_4++[AG.mk (W64 (1+v8)) (([({ data := #[82,49] }:ByteArray),({ data := #[82,50] }:ByteArray),({ data := #[120,47,82,49] }:ByteArray)]:List ByteArray).getD v8.toNat ⟨#[]⟩) ([Z5s l,Z5t l].getD (AA v5 2).1.toNat default).Name (Zr v8 v5) (HT v5).1 (KZ v5)])) 59
def Z5V:Blk:=.row 2 ([]:List AU).length (AP AU.c ([]:List AU)) 25
def Z5W:Blk:=.row 2 v31_1.length (AP AU.c v31_1) 25
def Z5X:Blk:=.row 2 v31_3.length (AP AU.c v31_3) 25
def Z5Y:Blk:=.row 2 v31_5.length (AP AU.c v31_5) 25
def Z5Z (l:(List (List Int))) (v6_4:List AG):Blk:=.cells (Gk l [lst 7 AG.c v6_4,.own 31 2 3,vN,vN,vN,vN,vN,vN,vN,vN,vN]) 42
def Z60:Tv:=tB (decide ((v10:Int)<(W64 (1+(AA (Gp l).2 3).1))))
def Z61 (l:(List (List Int))) (v6_4:List AG) (v10:Int):AV:=(Bp [Z5s l,Z5t l] (v6_4.getD v10.toNat default).Type').1
def Z62 (l:(List (List Int))) (v6_4:List AG) (v10:Int):Blk:=.cells (AV.c (Z61 l v6_4 v10)) 114
def Z63:Blk:=.row 2 v31_1'.length (AP AU.c v31_1') 25
def Z64:Blk:=.row 2 v31_3'.length (AP AU.c v31_3') 25
def Z65:Blk:=.row 2 v31_5'.length (AP AU.c v31_5') 25
def Z66:CT:=(54,KM.map (B3 1000 91),wrI 91 (.cells (AD.c v5'') 146) (tI (AA v5'' 5).1) (.cells (AD.c (AA v5'' 5).2) 146))
abbrev Ij:=[AU.mk (v6_4.getD v10.toNat default).Ref ((Z61 l v6_4 v10).Pads.getD v13.toNat default).Name]
def Z67 (v31_1':List AU) (v6_4:List AG) (v10:Int) (l:(List (List Int))) (v13:Int):Blk:=.row 2 (v31_1'++(Ij v6_4 v10 l v13)).length (AP AU.c (v31_1'++(Ij v6_4 v10 l v13))) 25
def Z68 (v31_3':List AU) (v6_4:List AG) (v10:Int) (l:(List (List Int))) (v13:Int):Blk:=.row 2 (v31_3'++(Ij v6_4 v10 l v13)).length (AP AU.c (v31_3'++(Ij v6_4 v10 l v13))) 25
def Z69 (v31_5':List AU) (v6_4:List AG) (v10:Int) (l:(List (List Int))) (v13:Int):Blk:=.row 2 (v31_5'++(Ij v6_4 v10 l v13)).length (AP AU.c (v31_5'++(Ij v6_4 v10 l v13))) 25
def Z6a (v5'':AD) (v31_1':List AU) (v6_4:List AG) (v10:Int) (l:(List (List Int))) (v13:Int):(List AU):=bif decide (((AA v5'' 5).1:Int)<3) then (bif decide (((AA v5'' 5).1:Int)=0) then (v31_1'++[AU.mk (v6_4.getD v10.toNat default).Ref ((Z61 l v6_4 v10).Pads.getD v13.toNat default).Name]) else v31_1') else v31_1'
def Z6b (v5'':AD) (v31_3':List AU) (v6_4:List AG) (v10:Int) (l:(List (List Int))) (v13:Int):(List AU):=bif decide (((AA v5'' 5).1:Int)<3) then (bif decide (((AA v5'' 5).1:Int)=0) then v31_3' else (bif decide (((AA v5'' 5).1:Int)=1) then (v31_3'++[AU.mk (v6_4.getD v10.toNat default).Ref ((Z61 l v6_4 v10).Pads.getD v13.toNat default).Name]) else v31_3')) else v31_3'
def Z6c (v5'':AD) (v31_5':List AU) (v6_4:List AG) (v10:Int) (l:(List (List Int))) (v13:Int):(List AU):=bif decide (((AA v5'' 5).1:Int)<3) then (bif decide (((AA v5'' 5).1:Int)=0) then v31_5' else (bif decide (((AA v5'' 5).1:Int)=1) then v31_5' else (v31_5'++[AU.mk (v6_4.getD v10.toNat default).Ref ((Z61 l v6_4 v10).Pads.getD v13.toNat default).Name]))) else v31_5'
def Z6d (v5'':AD) (v31_1':List AU) (v6_4:List AG) (v10:Int) (l:(List (List Int))) (v13:Int):Blk:=.row 2 (Z6a v5'' v31_1' v6_4 v10 l v13).length (AP AU.c (Z6a v5'' v31_1' v6_4 v10 l v13)) 25
def Z6e (v5'':AD) (v31_3':List AU) (v6_4:List AG) (v10:Int) (l:(List (List Int))) (v13:Int):Blk:=.row 2 (Z6b v5'' v31_3' v6_4 v10 l v13).length (AP AU.c (Z6b v5'' v31_3' v6_4 v10 l v13)) 25
def Z6f (v5'':AD) (v31_5':List AU) (v6_4:List AG) (v10:Int) (l:(List (List Int))) (v13:Int):Blk:=.row 2 (Z6c v5'' v31_5' v6_4 v10 l v13).length (AP AU.c (Z6c v5'' v31_5' v6_4 v10 l v13)) 25
def Z6g (l:(List (List Int))) (v6_4:List AG) (v31_1:List AU) (v31_3:List AU) (v31_5:List AU):AC:=Bb (AC.mk 2 (Z5A l) v6_4 [A7.mk ({ data := #[78,49] }:ByteArray) v31_1,A7.mk ({ data := #[78,50] }:ByteArray) v31_3,A7.mk ({ data := #[71,78,68] }:ByteArray) v31_5] [] [] [] [] [] [] [] [] []) [Z5s l,Z5t l] l
abbrev Xh (l:List (List Int)) (v6_4:List AG) (v31_1:List AU) (v31_3:List AU) (v31_5:List AU):List Cl:=[.i (Z6g l v6_4 v31_1 v31_3 v31_5).Layers,.i (Z6g l v6_4 v31_1 v31_3 v31_5).Outline.Kind,lst 7 AQ.c (Z6g l v6_4 v31_1 v31_3 v31_5).Outline.Edges,.i (Z6g l v6_4 v31_1 v31_3 v31_5).Outline.R,lst 7 AG.c (Z6g l v6_4 v31_1 v31_3 v31_5).Parts,lst 2 A7.c (Z6g l v6_4 v31_1 v31_3 v31_5).Nets,lst 6 Ap.c (Z6g l v6_4 v31_1 v31_3 v31_5).Tracks,lst 8 Bo.c (Z6g l v6_4 v31_1 v31_3 v31_5).Vias,lst 8 A4.c (Z6g l v6_4 v31_1 v31_3 v31_5).Pours,lst 5 BT.c (Z6g l v6_4 v31_1 v31_3 v31_5).Keeps,lst 4 Bi.c (Z6g l v6_4 v31_1 v31_3 v31_5).Slots,vN,vN,vN,vN]
def Z6h (l:(List (List Int))) (v6_4:List AG) (v31_1:List AU) (v31_3:List AU) (v31_5:List AU):CT:=(56,([.one (.ptr 1000 0),.one (lst 3 AV.c [Z5s l,Z5t l]),.one (lst 1 (fun x=>[lst 1 eIn x]) l)]:List Av).map (B3 1000 6),wrI 6 (.cells (Gk l [lst 7 AG.c v6_4,lst 2 A7.c [A7.mk ({ data := #[78,49] }:ByteArray) v31_1,A7.mk ({ data := #[78,50] }:ByteArray) v31_3,A7.mk ({ data := #[71,78,68] }:ByteArray) v31_5],vN,vN,vN,vN,vN,vN,vN,vN,vN]) 42) (.tup []) (.cells (Xh l v6_4 v31_1 v31_3 v31_5) 42))
def Z6i (l:(List (List Int))) (v6_4:List AG) (v31_1:List AU) (v31_3:List AU) (v31_5:List AU):AC×AD:=C1 (AC.mk (Z6g l v6_4 v31_1 v31_3 v31_5).Layers (Z6g l v6_4 v31_1 v31_3 v31_5).Outline (Z6g l v6_4 v31_1 v31_3 v31_5).Parts (Z6g l v6_4 v31_1 v31_3 v31_5).Nets (Z6g l v6_4 v31_1 v31_3 v31_5).Tracks (Z6g l v6_4 v31_1 v31_3 v31_5).Vias (Z6g l v6_4 v31_1 v31_3 v31_5).Pours (Z6g l v6_4 v31_1 v31_3 v31_5).Keeps (Z6g l v6_4 v31_1 v31_3 v31_5).Slots [] [] [] []) (AD.mk (AZ l 7) 0)
def Z6j (l:(List (List Int))) (v6_4:List AG) (v31_1:List AU) (v31_3:List AU) (v31_5:List AU):CT:=(57,(N6:List Av).map (Fe 1000 6 1001 151),mT 6 151 (.cells (Xh l v6_4 v31_1 v31_3 v31_5) 42) (.cells [lst 1 eIn (AZ l 7),.i 0] 146) (.tup []) (.cells (AC.c (Z6i l v6_4 v31_1 v31_3 v31_5).1) 42) (.cells (AD.c (Z6i l v6_4 v31_1 v31_3 v31_5).2) 146))
def Z6k:Blk:=.rowx 2 3 (fun _ _=>default) 48 [(0,[.s ({ data := #[78,49] }:ByteArray),.own 100001 2 ([]:List AU).length]),(1,[.s ({ data := #[78,50] }:ByteArray),.own 100002 2 ([]:List AU).length]),(2,[.s ({ data := #[71,78,68] }:ByteArray),.own 100003 2 ([]:List AU).length])]
def Z6l:Blk:=.rowx 2 3 (fun _ _=>default) 48 [(0,[.s ({ data := #[78,49] }:ByteArray),.own 100001 2 v31_1.length]),(1,[.s ({ data := #[78,50] }:ByteArray),.own 100002 2 v31_3.length]),(2,[.s ({ data := #[71,78,68] }:ByteArray),.own 100003 2 v31_5.length])]
def Z6m:Blk:=.rowx 2 3 (fun _ _=>default) 48 [(0,[.s ({ data := #[78,49] }:ByteArray),.own 100001 2 v31_1'.length]),(1,[.s ({ data := #[78,50] }:ByteArray),.own 100002 2 v31_3'.length]),(2,[.s ({ data := #[71,78,68] }:ByteArray),.own 100003 2 v31_5'.length])]
def Z6n (v31_1':List AU) (v6_4:List AG) (v10:Int) (l:(List (List Int))) (v13:Int) (v31_3':List AU) (v31_5':List AU):Blk:=.rowx 2 3 (fun _ _=>default) 48 [(0,[.s ({ data := #[78,49] }:ByteArray),.own 100004 2 (v31_1'++(Ij v6_4 v10 l v13)).length]),(1,[.s ({ data := #[78,50] }:ByteArray),.own 100005 2 v31_3'.length]),(2,[.s ({ data := #[71,78,68] }:ByteArray),.own 100006 2 v31_5'.length])]
def Z6o (v31_1':List AU) (v31_3':List AU) (v6_4:List AG) (v10:Int) (l:(List (List Int))) (v13:Int) (v31_5':List AU):Blk:=.rowx 2 3 (fun _ _=>default) 48 [(0,[.s ({ data := #[78,49] }:ByteArray),.own 100004 2 v31_1'.length]),(1,[.s ({ data := #[78,50] }:ByteArray),.own 100005 2 (v31_3'++(Ij v6_4 v10 l v13)).length]),(2,[.s ({ data := #[71,78,68] }:ByteArray),.own 100006 2 v31_5'.length])]
def Z6p (v31_1':List AU) (v31_3':List AU) (v31_5':List AU) (v6_4:List AG) (v10:Int) (l:(List (List Int))) (v13:Int):Blk:=.rowx 2 3 (fun _ _=>default) 48 [(0,[.s ({ data := #[78,49] }:ByteArray),.own 100004 2 v31_1'.length]),(1,[.s ({ data := #[78,50] }:ByteArray),.own 100005 2 v31_3'.length]),(2,[.s ({ data := #[71,78,68] }:ByteArray),.own 100006 2 (v31_5'++(Ij v6_4 v10 l v13)).length])]
def Dd (l:(List (List Int))) (v6_4:List AG) (v5:AD) (v8:Int) (v31_1:List AU) (v31_3:List AU) (v31_5:List AU) (v5':AD) (v10:Int) (K0:List AG->AD->Int->(AC×(List AV))) (K1:List AU->List AU->List AU->AD->Int->(AC×(List AV))):Nat->List AU->List AU->List AU->AD->Int->(AC×(List AV))
 | 0,_,_,_,_,_=>default
 | n2+1,v31_1',v31_3',v31_5',v5'',v13=>bif decide ((v13:Int)<((Z61 l v6_4 v10).Pads.length:Int)) then ((Dd l v6_4 v5 v8 v31_1 v31_3 v31_5 v5' v10 K0 K1 n2) (Z6a v5'' v31_1' v6_4 v10 l v13) (Z6b v5'' v31_3' v6_4 v10 l v13) (Z6c v5'' v31_5' v6_4 v10 l v13) (AA v5'' 5).2 (v13+1)) else (K1 v31_1' v31_3' v31_5' v5'' (v10+1))
def DN (l:(List (List Int))) (v6_4:List AG) (v5:AD) (v8:Int) (K0:List AG->AD->Int->(AC×(List AV))):Nat->List AU->List AU->List AU->AD->Int->(AC×(List AV))
 | 0,_,_,_,_,_=>default
 | n1+1,v31_1,v31_3,v31_5,v5',v10=>bif decide ((v10:Int)<(W64 (1+(AA (AA (AD.mk (AZ l 2) 0) 3).2 3).1))) then (Dd l v6_4 v5 v8 v31_1 v31_3 v31_5 v5' v10 K0 (DN l v6_4 v5 v8 K0 n1) ((((Z61 l v6_4 v10).Pads.length:Int)-0).toNat+1) v31_1 v31_3 v31_5 v5' 0) else ((Z6i l v6_4 v31_1 v31_3 v31_5).1,[Z5s l,Z5t l])
def Ch (l:(List (List Int))):Nat->List AG->AD->Int->(AC×(List AV))
 | 0,_,_,_=>default
 | n0+1,v6_4,v5,v8=>bif decide ((v8:Int)<(W64 (1+(AA (AA (AD.mk (AZ l 2) 0) 3).2 3).1))) then ((Ch l n0) (v6_4++[AG.mk (W64 (1+v8)) (([({ data := #[82,49] }:ByteArray),({ data := #[82,50] }:ByteArray),({ data := #[120,47,82,49] }:ByteArray)]:List ByteArray).getD v8.toNat ⟨#[]⟩) ([Z5s l,Z5t l].getD (AA v5 2).1.toNat default).Name (AE.mk (W64 ((W64 (80+(W64 (100*v8))))+(W64 (5*(AA (Z5N v5) 5).1)))) (W64 ((W64 (100+(W64 (80*(AA (AA (Z5N v5) 5).2 3).1))))+(W64 (5*(AA (Z5Q v5) 3).1))))) (AA (AA v5 2).2 4).1 (decide (((AA (AA (AA v5 2).2 4).2 3).1:Int)=0))]) (AA (Z5Q v5) 3).2 (v8+1)) else (DN l v6_4 v5 v8 (Ch l n0) (((W64 (1+(AA (AA (AD.mk (AZ l 2) 0) 3).2 3).1))-0).toNat+1) ([]:List AU) ([]:List AU) ([]:List AU) (AD.mk (AZ l 3) 0) 0)
def DA (l:(List (List Int))):(AC×(List AV)):=Ch l (((W64 (1+(AA (AA (AD.mk (AZ l 2) 0) 3).2 3).1))-0).toNat+1) ([]:List AG) (Z5C l) 0
def NV:CT:=(24,[.one (lst 1 (fun x=>[lst 1 eIn x]) l)],.val [] (.tup [.agg (AC.c (DA l).1),.one (lst 3 AV.c (DA l).2)]))
abbrev Gl (t_:List (Nat×Tv)):List (Nat×Tv):=(0,Z5q l)::(2,tP 2 0)::(4,Z5u l)::(5,tP 91 0)::(6,tP 6 0)::(7,Z5D l)::t_
abbrev Jz (l:List (List Int)) (v10:Int) (v13:Int):List (Nat×Tv):=(Gl l [(10,tI v10),(11,tP 11 0),(13,tI v13)])
abbrev Pu (l:List (List Int)) (v10:Int):List (Nat×Tv):=(Gl l [(10,tI v10),(94,Z60 v10 l)])
abbrev HD:Nat×Blk:=(91,.cells (AD.c (AA v5'' 5).2) 146)
abbrev SJ:List (Nat×Tv):=(Gl l [(10,tI 0)])
abbrev DS:Nat×Blk:=(100000,Z5J v6_4)
abbrev HM (t_:List (Nat×Tv)):List (Nat×Tv):=(0,Z5q l)::(2,tP 2 0)::(4,Z5u l)::(5,tP 25 0)::(6,tP 6 0)::t_
abbrev Ry:List (Nat×Tv):=(HM l [])
abbrev Vb:=As 2 1 [.s (v6_4.getD v10.toNat default).Ref,.s ((Z61 l v6_4 v10).Pads.getD v13.toNat default).Name]
abbrev KQ:Nat×Blk:=(91,.cells (AD.c v5') 146)
abbrev Er (l:List (List Int)) (v6_4:List AG) (v10:Int) (t_:List (Nat×Blk)):List (Nat×Blk):=(2,Z5r)::(6,Z5I l v6_4)::(11,Z62 l v6_4 v10)::t_
theorem au17 {p:Prop} (h:p:=by first | (with_reducible exact Dh hll _) | with_reducible assumption | omega | decide | (simp only [List.length_cons,List.length_nil,List.length_append];omega) | (exact dO (by assumption)) | ((refine And.intro ?_ ?_ <;> simp;done)) | ((simp only;exact nW (GY _ _ _) (by show (v6_4.length:Int)≤_;omega))) | ((simp only;exact jW (GY _ _ _) (by show 1≤(v6_4.length:Int);omega))) | ((simp only;exact nT (GY _ _ _))) | ((simp only;exact nS (GY _ _ _))) | ((simp only;exact nV (GY _ _ _))) | ((simp only;exact nX (GY _ _ _))) | ((simp only;exact nU (GY _ _ _))) | assumption):p:=h
theorem au18 {p:Prop} (h:p:=by first | exact Je _ _ _ (by decide) (by decide) (by decide) | exact mV | exact cI (by omega) (by omega) | decide | omega):p:=h
theorem au23 {p:Prop} (h:p:=by first | (unfold DX at *;unfold maxLen;omega) | (unfold DX at *;omega) | (unfold maxLen;omega) | omega | (simp only [ZM,ZL,ZK];omega)):p:=h
set_option maxHeartbeats 4000000 in
theorem jS (l:(List (List Int))) (hl:(l.length:Int)<=9223372036854775807) (hll:∀ x∈l,(x.length:Int)<=9223372036854775807):PuP 24 (NV l).2.1 (.tup [.agg (AC.c (DA l).1),.one (lst 3 AV.c (DA l).2)]):=by
 refine pwf Try.func24 fun W0 M0 => ?_
 have hmany:1<=W64 (1+(AA (AA (AD.mk (AZ l 2) 0) 3).2 3).1):=by have:=DU (AA (AD.mk (AZ l 2) 0) 3).2 3 (by decide) (by decide);rw [A1 oM oM];omega
 refine AB<|on<|AB ?_
 refine rc [(16,Eh l 0),(17,Jo (AZ l 0) ({ data := #[82] }:ByteArray)),(19,Eh l 1),(20,Jo (AZ l 1) ({ data := #[81] }:ByteArray))] [A0 (Eh l 0).2.1,A0 (Jo (AZ l 0) ({ data := #[82] }:ByteArray)).2.1,A0 (Eh l 1).2.1,A0 (Jo (AZ l 1) ({ data := #[81] }:ByteArray)).2.1] ⟨[(0,Z5q l),(2,tP 2 0),(4,.av (.one (.list true 3 2 (As 3 2 [.s (Z5s l).Name,lst 7 BJ.c (Z5s l).Pads,lst 2 BL.c (Z5s l).Gates,.s (Z5t l).Name,lst 7 BJ.c (Z5t l).Pads,lst 2 BL.c (Z5t l).Gates]))))],[(2,Z5r)]⟩ (.cons (F6 l 0 au17) (.cons (UU (AZ l 0) ({ data := #[82] }:ByteArray) au17) (.cons (F6 l 1 au17) (.cons (UU (AZ l 1) ({ data := #[81] }:ByteArray) au17) .nil)))) (.cons rfl (.cons rfl (.cons rfl (.cons rfl .nil))))<|AF ?_
 refine Aq (Cv.trans (BS (⟨[(0,Z5q l),(2,tP 2 0),(4,Z5u l)],[(2,Z5r)]⟩) (.cons ⟨rfl,.refl _⟩ (.cons ⟨rfl,.refl _⟩ (.cons ⟨rfl,.av (.one (Bm true (Ae (c:=AV.c) (xs:=([Z5s l,Z5t l]:List AV)) rfl kr)))⟩ .nil))) lr) (Cv.refl _))<|AB ?_
 refine rs 23 (Eh l 2) ⟨[(0,Z5q l),(2,tP 2 0),(4,Z5u l),(5,tP 25 0)],[(2,Z5r),(25,Z5v l)]⟩ (F6 l 2 au17)<|AF<|AB ?_
 refine C4 DV [31] [] [(27,Hb KT)] [0,2,4,5,6] [2,6,25,31] [A0 (Hb (Ai.mk 0 0 400 400)).2.1] ⟨(Ry l),[(2,Z5r),(6,Z5w),(25,Z5v l),(31,.row 2 3 (As 2 3 [.s ({ data := #[78,49] }:ByteArray),vN,.s ({ data := #[78,50] }:ByteArray),vN,.s ({ data := #[71,78,68] }:ByteArray),vN]) 48)]⟩ (.cons (LH (Ai.mk 0 0 400 400)) .nil) kr (.cons rfl .nil)<|AF ?_
 refine Aq (Cv.trans (gF (⟨(Ry l),[(2,Z5r),(6,Z5w),(25,Z5v l),(31,Z5x)]⟩) 31 2 3 (As 2 3 [.s ({ data := #[78,49] }:ByteArray),vN,.s ({ data := #[78,50] }:ByteArray),vN,.s ({ data := #[71,78,68] }:ByteArray),vN]) 48 kr kr kr) (Cv.refl _))<|AB<|AB ?_
 refine rb 34 (Z5y l) (.cells [lst 1 eIn (AZ l 2),.i 0] 146) ⟨(HM l [(35,tB (decide (((Gp l).1:Int)=0)))]),[(2,Z5r),(6,Z5w),(25,Z5z l),(31,Z5x)]⟩ (cWr (Bj (AD.mk (AZ l 2) 0) 3 au7 au10))<|AF ?_
 refine CD (⟨[(0,.av (oL l)),(2,tP 2 0),(4,tO (lst 3 AV.c [Z5s l,Z5t l])),(5,tP 25 0),(6,tP 6 0)],[(2,.cells GD 42),(6,.cells [.i 2,.i (Z5A l).Kind,lst 7 AQ.c (Z5A l).Edges,.i (Z5A l).R,vN,.own 31 2 3,vN,vN,vN,vN,vN,vN,vN,vN,vN] 42),(25,.cells (AD.c (Gp l).2) 146),(31,.rowx 2 3 (fun _ _=>default) 48 [(0,[.s ({ data := #[78,49] }:ByteArray),vN]),(1,[.s ({ data := #[78,50] }:ByteArray),vN]),(2,[.s ({ data := #[71,78,68] }:ByteArray),vN])])]⟩) ?_ ?_
 ·refine AL _ rfl (fun h1 => ?_) (fun h1 => ?_)
  ·refine rs 37 (MZ (Ai.mk 0 0 400 400) 50) ⟨(Ry l),[(2,Z5r),(6,.cells [.i 2,.i (Gg KT 50).Kind,lst 7 AQ.c (Gg KT 50).Edges,.i (Gg KT 50).R,vN,.own 31 2 3,vN,vN,vN,vN,vN,vN,vN,vN,vN] 42),(25,Z5z l),(31,Z5x)]⟩ (Wh (Ai.mk 0 0 400 400) 50)<|AF ?_
   refine BM ?_
   first | rfl | (simp only [h1,Z5A,cond_true,cond_false] <;> rfl)
  refine Af<|AF ?_
  refine Cv.trans (ck (⟨(Ry l),[(2,Z5r),(6,Z5w),(25,Z5z l),(31,Z5x)]⟩)) (BM ?_)
  first | rfl | (simp only [h1,Z5A,cond_true,cond_false] <;> rfl)
 refine AB<|rb 40 (Z5B l) (.cells (AD.c (AA (AD.mk (AZ l 2) 0) 3).2) 146) ⟨(HM l [(7,Z5D l)]),[(2,Z5r),(6,Z5E l),(25,.cells (AD.c (Z5C l)) 146),(31,Z5x)]⟩ (cWr (Bj (AA (AD.mk (AZ l 2) 0) 3).2 3 au7 au10))<|AF ?_
 refine AB<|AB ?_
 refine rn ⟨(HM l [(7,Z5D l),(8,tI 0)]),[(2,Z5r),(6,Z5E l),(25,.cells (AD.c (Z5C l)) 146),(31,Z5x)]⟩<|AX ?_
 refine Aq (Cv.trans (vg 100000 7 (fun _ _=>default) 59 [] [(6,[4])] hk0) (Cv.trans (Cr 100000 (CL 7 (fun _ _=>default) AG.c)) (Cv.trans (ck (⟨(HM l [(7,Z5D l),(8,tI 0)]),[(2,Z5r),(6,Z5H l),(25,.cells (AD.c (Z5C l)) 146),(31,Z5x),(100000,Z5G)]⟩)) (Cv.refl _)))) ?_
 refine Bc (ι:=Nat×List AG×AD×Int) (fun x=>⟨(HM l [(7,Z5D l),(8,tI x.2.2.2)]),[(2,Z5r),(6,.cells (Gk l [.own 100000 7 x.2.1.length,.own 31 2 3,vN,vN,vN,vN,vN,vN,vN,vN,vN]) 42),(25,.cells (AD.c x.2.2.1) 146),(31,Z5x),(100000,.row 7 x.2.1.length (AP AG.c x.2.1) 59)]⟩) (fun x=>((W64 (1+(AA (AA (AD.mk (AZ l 2) 0) 3).2 3).1))-x.2.2.2).toNat<x.1/\((x.2.1.length:Int)=x.2.2.2/\Pf [BG (AZ l 0) ({ data := #[82] }:ByteArray),BG (AZ l 1) ({ data := #[81] }:ByteArray)] x.2.1/\Br x.2.2.1/\0<=x.2.2.2/\(x.2.2.2<=(W64 (1+(AA (AA (AD.mk (AZ l 2) 0) 3).2 3).1))\/x.2.2.2=0)/\(x.2.1.length:Int)<=0+1*(x.2.2.2-0))/\Ch l x.1 x.2.1 x.2.2.1 x.2.2.2=DA l) (fun x=>x.1) ?_ (((W64 (1+(AA (AA (AD.mk (AZ l 2) 0) 3).2 3).1))-0).toNat+1,([]:List AG),Z5C l,0) ⟨Nat.lt_succ_self _,⟨ax0,(by show Pf [BG (AZ l 0) ({ data := #[82] }:ByteArray),BG (AZ l 1) ({ data := #[81] }:ByteArray)] ([]:List AG);first | exact Xw | exact Xx (by assumption) (Pz _ _ _ (DU _ 2 (by decide) (by decide))) | assumption),(by show Br (Z5C l);repeat (first | with_reducible assumption | exact C0 (Dh hll _) | with_reducible refine Be ?_ | with_reducible refine Es ?_ | with_reducible refine Dr ?_ | with_reducible refine Db ?_  | with_reducible refine DD ?_ ?_)),ax0,ax0,ax0⟩,(by simp only [DA,cond_true,cond_false])⟩
 rintro ⟨n0,v6_4,v5,v8⟩ ⟨hm0,hinv0,hF0⟩
 try dsimp only at hm0 hinv0 hF0
 cases n0 with | zero=>exact nz hm0 | succ n0 => ?_
 have hi0_1:=hinv0.2.1
 have hi0_2:=hinv0.2.2.1
 refine AB<|AB ?_
 refine rn ⟨(HM l [(7,Z5D l),(8,tI v8),(44,tB (decide ((v8:Int)<(W64 (1+(AA (AA (AD.mk (AZ l 2) 0) 3).2 3).1)))))]),[(2,Z5r),(6,Z5I l v6_4),(25,.cells (AD.c v5) 146),(31,Z5x),(DS v6_4)]⟩ ?_
 refine AL (decide ((v8:Int)<(W64 (1+(AA (AA (AD.mk (AZ l 2) 0) 3).2 3).1)))) kr (fun h1 => ?_) (fun h1 => ?_)
 ·have g1:=oT h1
  have k1:=S6 g1 (by decide) (by decide) (by decide) (by decide)
  have kk1:=PB g1 (by decide) (by decide) (by decide) (by decide)
  refine Af<|AF ?_
  refine AB<|AX<|AB ?_
  refine od [] [(55,(Z5K v5)),(60,(Z5L v5)),(62,(Z5M v5))] [0<=(v8:Int)/\(v8:Int)<((3:Nat):Int),A0 (Z5K v5).2.1,CB (L0 v5),0<=((AA v5 2).1:Int)/\((AA v5 2).1:Int)<(([Z5s l,Z5t l].length:Nat):Int),A0 (Z5L v5).2.1,CB (L5 v5),A0 (Z5M v5).2.1,CB (.cells (AD.c (AA (AA v5 2).2 4).2) 146)] (.cons (cWr (Bj v5 2 au7 au10)) (.cons (cWr (Bj (AA v5 2).2 4 au7 au10)) (.cons (cWr (Bj (AA (AA v5 2).2 4).2 3 au7 au10)) .nil))) (.cons au18 (.cons rfl (.cons rfl (.cons au18 (.cons rfl (.cons rfl (.cons rfl (.cons rfl .nil))))))))<|AF<|AB ?_
  refine oc [(69,(Z5O v5)),(73,(Z5P v5)),(77,(Z5R v5))] [A0 (Z5O v5).2.1,CB (.cells (AD.c (Z5N v5)) 146),A0 (Z5P v5).2.1,CB (.cells (AD.c (AA (Z5N v5) 5).2) 146),A0 (Z5R v5).2.1,CB (.cells (AD.c (Z5Q v5)) 146)] (.cons (cWr (Bj (Z5N v5) 5 au7 au10)) (.cons (cWr (Bj (AA (Z5N v5) 5).2 3 au7 au10)) (.cons (cWr (Bj (Z5Q v5) 3 au7 au10)) .nil))) (.cons rfl (.cons rfl (.cons rfl (.cons rfl (.cons rfl (.cons rfl .nil))))))<|AF ?_
  refine rc [] [v6_4.length=v6_4.length,v6_4.length+1<=maxLen,(v6_4.length+1)*72<=140737488355328] ⟨(HM l [(7,Z5D l),(8,tI v8)]),[(2,Z5r),(6,.cells (Gk l [.own 86 7 (v6_4.length+1),.own 31 2 3,vN,vN,vN,vN,vN,vN,vN,vN,vN]) 42),(25,Z5S v5),(31,Z5x),(86,.row 7 (v6_4.length+1) (fun i_ j_=>if i_<v6_4.length then (AP AG.c v6_4) i_ j_ else (As 7 1 [.i (W64 (1+v8)),.s (([({ data := #[82,49] }:ByteArray),({ data := #[82,50] }:ByteArray),({ data := #[120,47,82,49] }:ByteArray)]:List ByteArray).getD v8.toNat ⟨#[]⟩),.s ([Z5s l,Z5t l].getD (AA v5 2).1.toNat default).Name,.i (W64 ((W64 (80+(W64 (100*v8))))+(W64 (5*(AA (Z5N v5) 5).1)))),.i (W64 ((W64 (100+(W64 (80*(AA (AA (Z5N v5) 5).2 3).1))))+(W64 (5*(AA (Z5Q v5) 3).1)))),.i (HT v5).1,.b (KZ v5)]) (i_-v6_4.length) j_) 59)]⟩ .nil (.cons rfl (.cons au23 (.cons au23 .nil)))<|A8<|AF ?_
  refine Aq (Cv.trans (BS (⟨(HM l [(7,Z5D l),(8,tI v8)]),[(2,Z5r),(6,Z5T l v6_4 v8 v5),(25,Z5S v5),(31,Z5x),(86,Z5U v6_4 v8 l v5)]⟩) lr (.cons ⟨rfl,.refl _⟩ (.cons ⟨rfl,.cells _ (rr4 (.cons (.own _ _ au0) (rr (rr (rr (rr (rr (rr (rr (rr (rr (rr .nil))))))))))))⟩ (.cons ⟨rfl,.refl _⟩ (.cons ⟨rfl,.refl _⟩ (.cons ⟨rfl,Ao 59 (Au (An 7 AG.c v6_4) (Ae (c:=AG.c) (xs:=([AG.mk (W64 (1+v8)) (([({ data := #[82,49] }:ByteArray),({ data := #[82,50] }:ByteArray),({ data := #[120,47,82,49] }:ByteArray)]:List ByteArray).getD v8.toNat ⟨#[]⟩) ([Z5s l,Z5t l].getD (AA v5 2).1.toNat default).Name (AE.mk (W64 ((W64 (80+(W64 (100*v8))))+(W64 (5*(AA (Z5N v5) 5).1)))) (W64 ((W64 (100+(W64 (80*(AA (AA (Z5N v5) 5).2 3).1))))+(W64 (5*(AA (Z5Q v5) 3).1))))) (AA (AA v5 2).2 4).1 (KZ v5)]:List AG)) rfl kr))⟩ .nil)))))) (Cv.refl _)) ?_
  refine rg ⟨(HM l [(7,Z5D l),(8,tI (W64 (v8+1)))]),[(2,Z5r),(6,Z5T l v6_4 v8 v5),(25,Z5S v5),(31,Z5x),(86,Z5U v6_4 v8 l v5)]⟩ ?_
  (try rw [(show W64 (v8+1)=v8+1 from A1 oM au9)])
  refine AF ?_
  refine ⟨(n0,v6_4++[AG.mk (W64 (1+v8)) (([({ data := #[82,49] }:ByteArray),({ data := #[82,50] }:ByteArray),({ data := #[120,47,82,49] }:ByteArray)]:List ByteArray).getD v8.toNat ⟨#[]⟩) ([Z5s l,Z5t l].getD (AA v5 2).1.toNat default).Name (AE.mk (W64 ((W64 (80+(W64 (100*v8))))+(W64 (5*(AA (Z5N v5) 5).1)))) (W64 ((W64 (100+(W64 (80*(AA (AA (Z5N v5) 5).2 3).1))))+(W64 (5*(AA (Z5Q v5) 3).1))))) (AA (AA v5 2).2 4).1 (KZ v5)],(AA (Z5Q v5) 3).2,v8+1),⟨?_,?_,(by rw [<- hF0];simp only [Ch,h1,cond_true,cond_false])⟩,Nat.lt_succ_self _,Cv.trans (vr 86 100000 hk0) (BM kr)⟩
  ·show ((W64 (1+(AA (AA (AD.mk (AZ l 2) 0) 3).2 3).1))-(v8+1)).toNat<n0;omega
  exact ⟨ax0,(by show Pf [BG (AZ l 0) ({ data := #[82] }:ByteArray),BG (AZ l 1) ({ data := #[81] }:ByteArray)] (v6_4++[AG.mk (W64 (1+v8)) (([({ data := #[82,49] }:ByteArray),({ data := #[82,50] }:ByteArray),({ data := #[120,47,82,49] }:ByteArray)]:List ByteArray).getD v8.toNat ⟨#[]⟩) ([Z5s l,Z5t l].getD (AA v5 2).1.toNat default).Name (AE.mk (W64 ((W64 (80+(W64 (100*v8))))+(W64 (5*(AA (Z5N v5) 5).1)))) (W64 ((W64 (100+(W64 (80*(AA (AA (Z5N v5) 5).2 3).1))))+(W64 (5*(AA (Z5Q v5) 3).1))))) (AA (AA v5 2).2 4).1 (KZ v5)]);first | exact Xw | exact Xx (by assumption) (Pz _ _ _ (DU _ 2 (by decide) (by decide))) | assumption),(by show Br ((AA (Z5Q v5) 3).2);repeat (first | with_reducible assumption | exact C0 (Dh hll _) | with_reducible refine Be ?_ | with_reducible refine Es ?_ | with_reducible refine Dr ?_ | with_reducible refine Db ?_  | with_reducible refine DD ?_ ?_)),ax0,ax0,ax0⟩
 have g1:=oF h1
 have k1:=TK g1 (by decide) (by decide) (by decide) (by decide)
 refine BU<|BE ?_
 refine BE<|BV ?_
 refine AF<|AB ?_
 refine oq 89 (Eh l 3) (F6 l 3 au17)<|AF ?_
 refine AB<|AB ?_
 refine rn ⟨(SJ l),[(2,Z5r),(6,Z5I l v6_4),(31,Z5x),(91,Z5F l),(DS v6_4)]⟩<|AX ?_
 refine Aq (Cv.trans (vg 100001 2 (fun _ _=>default) 25 [] [(31,[1])] hk0) (Cv.trans (vg 100002 2 (fun _ _=>default) 25 [] [(31,[3])] hk0) (Cv.trans (wg (⟨(SJ l),[(100003,.row 2 0 (fun _ _=>default) 25),(100002,.row 2 0 (fun _ _=>default) 25),(100001,.row 2 0 (fun _ _=>default) 25),(2,Z5r),(6,Z5I l v6_4),(31,.rowx 2 3 (fun _ _=>default) 48 [(0,[.s ({ data := #[78,49] }:ByteArray),.own 100001 2 0]),(1,[.s ({ data := #[78,50] }:ByteArray),.own 100002 2 0]),(2,[.s ({ data := #[71,78,68] }:ByteArray),.own 100003 2 0])]),(91,Z5F l),(DS v6_4)]⟩) 100003 2 (fun _ _=>default) 25 [] [(31,[5])] hk0) (Cv.trans (BS (⟨(SJ l),[(100003,Z5V),(100002,Z5V),(100001,Z5V),(2,Z5r),(6,Z5I l v6_4),(31,Z6k),(91,Z5F l),(DS v6_4)]⟩) lr (.cons ⟨rfl,Ao 25 (CL 2 (fun _ _=>default) AU.c)⟩ (.cons ⟨rfl,Ao 25 (CL 2 (fun _ _=>default) AU.c)⟩ (.cons ⟨rfl,Ao 25 (CL 2 (fun _ _=>default) AU.c)⟩ (.cons ⟨rfl,.refl _⟩ (.cons ⟨rfl,.refl _⟩ (.cons ⟨rfl,.rowx _ _ _ _ (.cons ⟨rfl,(rr (.cons (.own _ _ au0) .nil))⟩ (.cons ⟨rfl,(rr (.cons (.own _ _ au0) .nil))⟩ (.cons ⟨rfl,(rr (.cons (.own _ _ au0) .nil))⟩ .nil)))⟩ lr))))))) (Cv.trans (ck (⟨(SJ l),[(2,Z5r),(6,Z5I l v6_4),(31,Z6k),(91,Z5F l),(DS v6_4),(100001,Z5V),(100002,Z5V),(100003,Z5V)]⟩)) (Cv.refl _)))))) ?_
 refine Bc (ι:=Nat×List AU×List AU×List AU×AD×Int) (fun x=>⟨(Gl l [(10,tI x.2.2.2.2.2)]),[(2,Z5r),(6,Z5I l v6_4),(31,.rowx 2 3 (fun _ _=>default) 48 [(0,[.s ({ data := #[78,49] }:ByteArray),.own 100001 2 x.2.1.length]),(1,[.s ({ data := #[78,50] }:ByteArray),.own 100002 2 x.2.2.1.length]),(2,[.s ({ data := #[71,78,68] }:ByteArray),.own 100003 2 x.2.2.2.1.length])]),(91,.cells (AD.c x.2.2.2.2.1) 146),(DS v6_4),(100001,.row 2 x.2.1.length (AP AU.c x.2.1) 25),(100002,.row 2 x.2.2.1.length (AP AU.c x.2.2.1) 25),(100003,.row 2 x.2.2.2.1.length (AP AU.c x.2.2.2.1) 25)]⟩) (fun x=>((W64 (1+(AA (AA (AD.mk (AZ l 2) 0) 3).2 3).1))-x.2.2.2.2.2).toNat<x.1/\(DX x.2.1 (6*x.2.2.2.2.2)/\DX x.2.2.1 (6*x.2.2.2.2.2)/\DX x.2.2.2.1 (6*x.2.2.2.2.2)/\Br x.2.2.2.2.1/\0<=x.2.2.2.2.2/\(x.2.2.2.2.2<=(W64 (1+(AA (AA (AD.mk (AZ l 2) 0) 3).2 3).1))\/x.2.2.2.2.2=0))/\DN l v6_4 v5 v8 (Ch l n0) x.1 x.2.1 x.2.2.1 x.2.2.2.1 x.2.2.2.2.1 x.2.2.2.2.2=DA l) (fun x=>x.1) ?_ (((W64 (1+(AA (AA (AD.mk (AZ l 2) 0) 3).2 3).1))-0).toNat+1,([]:List AU),([]:List AU),([]:List AU),AD.mk (AZ l 3) 0,0) ⟨Nat.lt_succ_self _,⟨(by show DX ([]:List AU) (6*0);unfold DX at *;repeat (first | omega | exact E4 oM | refine E3 ?_ ?_ | (simp;done))),(by show DX ([]:List AU) (6*0);unfold DX at *;repeat (first | omega | exact E4 oM | refine E3 ?_ ?_ | (simp;done))),(by show DX ([]:List AU) (6*0);unfold DX at *;repeat (first | omega | exact E4 oM | refine E3 ?_ ?_ | (simp;done))),(by show Br (AD.mk (AZ l 3) 0);repeat (first | with_reducible assumption | exact C0 (Dh hll _) | with_reducible refine Be ?_ | with_reducible refine Es ?_ | with_reducible refine Dr ?_ | with_reducible refine Db ?_  | with_reducible refine DD ?_ ?_)),ax0,ax0⟩,(by rw [<- hF0];simp only [Ch,h1,cond_true,cond_false])⟩
 rintro ⟨n1,v31_1,v31_3,v31_5,v5',v10⟩ ⟨hm1,hinv1,hF1⟩
 try dsimp only at hm1 hinv1 hF1
 cases n1 with | zero=>exact nz hm1 | succ n1 => ?_
 have hi1_0:=hinv1.1
 have hi1_1:=hinv1.2.1
 have hi1_2:=hinv1.2.2.1
 have hi1_3:=hinv1.2.2.2.1
 refine AB<|AB ?_
 refine rn ⟨(Pu l v10),[(2,Z5r),(6,Z5I l v6_4),(31,Z6l v31_1 v31_3 v31_5),(KQ v5'),(DS v6_4),(100001,Z5W v31_1),(100002,Z5X v31_3),(100003,Z5Y v31_5)]⟩ ?_
 refine AL (decide ((v10:Int)<(W64 (1+(AA (AA (AD.mk (AZ l 2) 0) 3).2 3).1)))) kr (fun h2 => ?_) (fun h2 => ?_)
 ·have g2:=oT h2
  have k2:=S6 g2 (by decide) (by decide) (by decide) (by decide)
  have kk2:=PB g2 (by decide) (by decide) (by decide) (by decide)
  refine Af<|AF ?_
  refine AB<|AX<|AB ?_
  refine oc [(105,Kw [Z5s l,Z5t l] (v6_4.getD v10.toNat default).Type')] [0<=(v10:Int)/\(v10:Int)<((v6_4.length:Nat):Int),v10.toNat<v6_4.length,A0 (Kw [Z5s l,Z5t l] (v6_4.getD v10.toNat default).Type').2.1] (.cons (Sv [Z5s l,Z5t l] (v6_4.getD v10.toNat default).Type' au17) .nil) (.cons au18 (.cons au18 (.cons rfl .nil)))<|AF<|AB ?_
  refine rn ⟨(Gl l [(10,tI v10),(11,tP 11 0),(13,tI 0)]),(Er l v6_4 v10 [(31,Z6l v31_1 v31_3 v31_5),(KQ v5'),(DS v6_4),(100001,Z5W v31_1),(100002,Z5X v31_3),(100003,Z5Y v31_5)])⟩<|AX ?_
  refine Bc (ι:=Nat×List AU×List AU×List AU×AD×Int) (fun x=>⟨(Gl l [(10,tI v10),(11,tP 11 0),(13,tI x.2.2.2.2.2)]),(Er l v6_4 v10 [(31,.rowx 2 3 (fun _ _=>default) 48 [(0,[.s ({ data := #[78,49] }:ByteArray),.own 100001 2 x.2.1.length]),(1,[.s ({ data := #[78,50] }:ByteArray),.own 100002 2 x.2.2.1.length]),(2,[.s ({ data := #[71,78,68] }:ByteArray),.own 100003 2 x.2.2.2.1.length])]),(91,.cells (AD.c x.2.2.2.2.1) 146),(DS v6_4),(100001,.row 2 x.2.1.length (AP AU.c x.2.1) 25),(100002,.row 2 x.2.2.1.length (AP AU.c x.2.2.1) 25),(100003,.row 2 x.2.2.2.1.length (AP AU.c x.2.2.2.1) 25)])⟩) (fun x=>(((Z61 l v6_4 v10).Pads.length:Int)-x.2.2.2.2.2).toNat<x.1/\(DX x.2.1 (6*v10+x.2.2.2.2.2)/\DX x.2.2.1 (6*v10+x.2.2.2.2.2)/\DX x.2.2.2.1 (6*v10+x.2.2.2.2.2)/\Br x.2.2.2.2.1/\0<=x.2.2.2.2.2/\(x.2.2.2.2.2<=((Z61 l v6_4 v10).Pads.length:Int)\/x.2.2.2.2.2=0))/\Dd l v6_4 v5 v8 v31_1 v31_3 v31_5 v5' v10 (Ch l n0) (DN l v6_4 v5 v8 (Ch l n0) n1) x.1 x.2.1 x.2.2.1 x.2.2.2.1 x.2.2.2.2.1 x.2.2.2.2.2=DA l) (fun x=>x.1) ?_ ((((Z61 l v6_4 v10).Pads.length:Int)-0).toNat+1,v31_1,v31_3,v31_5,v5',0) ⟨Nat.lt_succ_self _,⟨(by show DX v31_1 (6*v10+0);unfold DX at *;repeat (first | omega | exact E4 oM | refine E3 ?_ ?_ | (simp;done))),(by show DX v31_3 (6*v10+0);unfold DX at *;repeat (first | omega | exact E4 oM | refine E3 ?_ ?_ | (simp;done))),(by show DX v31_5 (6*v10+0);unfold DX at *;repeat (first | omega | exact E4 oM | refine E3 ?_ ?_ | (simp;done))),(by show Br v5';repeat (first | with_reducible assumption | exact C0 (Dh hll _) | with_reducible refine Be ?_ | with_reducible refine Es ?_ | with_reducible refine Dr ?_ | with_reducible refine Db ?_  | with_reducible refine DD ?_ ?_)),ax0,ax0⟩,(by rw [<- hF1];simp only [DN,h2,cond_true,cond_false])⟩
  rintro ⟨n2,v31_1',v31_3',v31_5',v5'',v13⟩ ⟨hm2,hinv2,hF2⟩
  try dsimp only at hm2 hinv2 hF2
  cases n2 with | zero=>exact nz hm2 | succ n2 => ?_
  have hi2_0:=hinv2.1
  have hi2_1:=hinv2.2.1
  have hi2_2:=hinv2.2.2.1
  have hi2_3:=hinv2.2.2.2.1
  have hp6:((Z61 l v6_4 v10).Pads.length:Int)<=6:=(hi0_1 v10 oM oM).2
  refine AB<|AB ?_
  refine rn ⟨(Gl l [(10,tI v10),(11,tP 11 0),(13,tI v13),(112,tB (decide ((v13:Int)<((Z61 l v6_4 v10).Pads.length:Int))))]),(Er l v6_4 v10 [(31,Z6m v31_1' v31_3' v31_5'),(91,.cells (AD.c v5'') 146),(DS v6_4),(100001,Z63 v31_1'),(100002,Z64 v31_3'),(100003,Z65 v31_5')])⟩ ?_
  refine AL _ rfl (fun h3 => ?_) (fun h3 => ?_)
  ·have g3:=oT h3
   refine Af<|AF<|AB ?_
   refine CD (⟨[(0,.av (oL l)),(2,tP 2 0),(4,tO (lst 3 AV.c [Z5s l,Z5t l])),(5,tP 91 0),(6,tP 6 0),(7,tI (W64 (1+(AA (Gp l).2 3).1))),(10,tI v10),(11,tP 11 0),(13,tI v13)],[(2,.cells GD 42),(6,.cells [.i 2,.i (Z5A l).Kind,lst 7 AQ.c (Z5A l).Edges,.i (Z5A l).R,.own 100000 7 v6_4.length,.own 31 2 3,vN,vN,vN,vN,vN,vN,vN,vN,vN] 42),(11,.cells (AV.c (Z61 l v6_4 v10)) 114),(31,.rowx 2 3 (fun _ _=>default) 48 [(0,[.s ({ data := #[78,49] }:ByteArray),.own 100004 2 (Z6a v5'' v31_1' v6_4 v10 l v13).length]),(1,[.s ({ data := #[78,50] }:ByteArray),.own 100005 2 (Z6b v5'' v31_3' v6_4 v10 l v13).length]),(2,[.s ({ data := #[71,78,68] }:ByteArray),.own 100006 2 (Z6c v5'' v31_5' v6_4 v10 l v13).length])]),(HD v5''),(100000,.row 7 v6_4.length (AP AG.c v6_4) 59),(100004,.row 2 (Z6a v5'' v31_1' v6_4 v10 l v13).length (AP AU.c (Z6a v5'' v31_1' v6_4 v10 l v13)) 25),(100005,.row 2 (Z6b v5'' v31_3' v6_4 v10 l v13).length (AP AU.c (Z6b v5'' v31_3' v6_4 v10 l v13)) 25),(100006,.row 2 (Z6c v5'' v31_5' v6_4 v10 l v13).length (AP AU.c (Z6c v5'' v31_5' v6_4 v10 l v13)) 25)]⟩) ?_ ?_
   ·refine AX<|AB ?_
    refine rb 116 (Z66 v5'') (.cells (AD.c v5'') 146) ⟨(Gl l [(10,tI v10),(11,tP 11 0),(13,tI v13),(14,tI (AA v5'' 5).1)]),(Er l v6_4 v10 [(31,Z6m v31_1' v31_3' v31_5'),(HD v5''),(DS v6_4),(100001,Z63 v31_1'),(100002,Z64 v31_3'),(100003,Z65 v31_5')])⟩ (cWr (Bj v5'' 5 au7 au10))<|AF<|AB ?_
    refine rn ⟨(Gl l [(10,tI v10),(11,tP 11 0),(13,tI v13),(14,tI (AA v5'' 5).1),(118,tB (decide (((AA v5'' 5).1:Int)<3)))]),(Er l v6_4 v10 [(31,Z6m v31_1' v31_3' v31_5'),(HD v5''),(DS v6_4),(100001,Z63 v31_1'),(100002,Z64 v31_3'),(100003,Z65 v31_5')])⟩ ?_
    refine AL _ rfl (fun h4 => ?_) (fun h4 => ?_)
    ·have g4:=oT h4
     refine NC (decide (((AA v5'' 5).1:Int)=0)) (fun h5 => ?_) (fun h5 => ?_)
     ·have g5:=oT h5
      (try rw [g5])
      refine dw [] [] [0<=(0:Int)/\(0:Int)<((3:Nat):Int),0<=(v10:Int)/\(v10:Int)<((v6_4.length:Nat):Int),v10.toNat<v6_4.length,0<=(v13:Int)/\(v13:Int)<(((Z61 l v6_4 v10).Pads.length:Nat):Int),v31_1'.length=v31_1'.length,v31_1'.length+1<=maxLen,(v31_1'.length+1)*32<=140737488355328,0<=(0:Int)/\(0:Int)<((3:Nat):Int)] ⟨(Jz l v10 v13),(Er l v6_4 v10 [(31,.rowx 2 3 (fun _ _=>default) 48 [(0,[.s ({ data := #[78,49] }:ByteArray),.own 142 2 (v31_1'.length+1)]),(1,[.s ({ data := #[78,50] }:ByteArray),.own 100002 2 v31_3'.length]),(2,[.s ({ data := #[71,78,68] }:ByteArray),.own 100003 2 v31_5'.length])]),(HD v5''),(142,.row 2 (v31_1'.length+1) (fun i_ j_=>if i_<v31_1'.length then (AP AU.c v31_1') i_ j_ else (Vb v6_4 v10 l v13) (i_-v31_1'.length) j_) 25),(DS v6_4),(100002,Z64 v31_3'),(100003,Z65 v31_5')])⟩ .nil (.cons au18 (.cons au18 (.cons au18 (.cons au18 (.cons rfl (.cons au23 (.cons au23 (.cons au18 .nil))))))))<|A8<|AF ?_
      refine Cv.trans (BS (⟨(Jz l v10 v13),(Er l v6_4 v10 [(31,.rowx 2 3 (fun _ _=>default) 48 [(0,[.s ({ data := #[78,49] }:ByteArray),.own 142 2 (v31_1'++(Ij v6_4 v10 l v13)).length]),(1,[.s ({ data := #[78,50] }:ByteArray),.own 100002 2 v31_3'.length]),(2,[.s ({ data := #[71,78,68] }:ByteArray),.own 100003 2 v31_5'.length])]),(HD v5''),(142,Z67 v31_1' v6_4 v10 l v13),(DS v6_4),(100002,Z64 v31_3'),(100003,Z65 v31_5')])⟩) lr (.cons ⟨rfl,.refl _⟩ (.cons ⟨rfl,.refl _⟩ (.cons ⟨rfl,.refl _⟩ (.cons ⟨rfl,.rowx _ _ _ _ (.cons ⟨rfl,(rr (.cons (.own _ _ au0) .nil))⟩ (.cons ⟨rfl,(rr2 .nil)⟩ (.cons ⟨rfl,(rr2 .nil)⟩ .nil)))⟩ (.cons ⟨rfl,.refl _⟩ (.cons ⟨rfl,Ao 25 (Au (An 2 AU.c v31_1') (Ae (c:=AU.c) (xs:=([AU.mk (v6_4.getD v10.toNat default).Ref ((Z61 l v6_4 v10).Pads.getD v13.toNat default).Name]:List AU)) rfl kr))⟩ lr))))))) (Cv.trans (vr 142 100004 hk0) (Cv.trans (vr 100002 100005 hk0) (Cv.trans (vr 100003 100006 hk0) (Cv.trans (ck (⟨(Jz l v10 v13),(Er l v6_4 v10 [(31,Z6n v31_1' v6_4 v10 l v13 v31_3' v31_5'),(HD v5''),(DS v6_4),(100004,Z67 v31_1' v6_4 v10 l v13),(100005,Z64 v31_3'),(100006,Z65 v31_5')])⟩)) (BM ?_)))))
      first | rfl | (simp only [h4,h5,Z6a,Z6b,Z6c,cond_true,cond_false] <;> rfl)
     have g5:=oF h5
     refine NC (decide (((AA v5'' 5).1:Int)=1)) (fun h6 => ?_) (fun h6 => ?_)
     ·have g6:=oT h6
      (try rw [g6])
      refine dw [] [] [0<=(1:Int)/\(1:Int)<((3:Nat):Int),0<=(v10:Int)/\(v10:Int)<((v6_4.length:Nat):Int),v10.toNat<v6_4.length,0<=(v13:Int)/\(v13:Int)<(((Z61 l v6_4 v10).Pads.length:Nat):Int),v31_3'.length=v31_3'.length,v31_3'.length+1<=maxLen,(v31_3'.length+1)*32<=140737488355328,0<=(1:Int)/\(1:Int)<((3:Nat):Int)] ⟨(Jz l v10 v13),(Er l v6_4 v10 [(31,.rowx 2 3 (fun _ _=>default) 48 [(0,[.s ({ data := #[78,49] }:ByteArray),.own 100001 2 v31_1'.length]),(1,[.s ({ data := #[78,50] }:ByteArray),.own 142 2 (v31_3'.length+1)]),(2,[.s ({ data := #[71,78,68] }:ByteArray),.own 100003 2 v31_5'.length])]),(HD v5''),(142,.row 2 (v31_3'.length+1) (fun i_ j_=>if i_<v31_3'.length then (AP AU.c v31_3') i_ j_ else (Vb v6_4 v10 l v13) (i_-v31_3'.length) j_) 25),(DS v6_4),(100001,Z63 v31_1'),(100003,Z65 v31_5')])⟩ .nil (.cons au18 (.cons au18 (.cons au18 (.cons au18 (.cons rfl (.cons au23 (.cons au23 (.cons au18 .nil))))))))<|A8<|AF ?_
      refine Cv.trans (BS (⟨(Jz l v10 v13),(Er l v6_4 v10 [(31,.rowx 2 3 (fun _ _=>default) 48 [(0,[.s ({ data := #[78,49] }:ByteArray),.own 100001 2 v31_1'.length]),(1,[.s ({ data := #[78,50] }:ByteArray),.own 142 2 (v31_3'++(Ij v6_4 v10 l v13)).length]),(2,[.s ({ data := #[71,78,68] }:ByteArray),.own 100003 2 v31_5'.length])]),(HD v5''),(142,Z68 v31_3' v6_4 v10 l v13),(DS v6_4),(100001,Z63 v31_1'),(100003,Z65 v31_5')])⟩) lr (.cons ⟨rfl,.refl _⟩ (.cons ⟨rfl,.refl _⟩ (.cons ⟨rfl,.refl _⟩ (.cons ⟨rfl,.rowx _ _ _ _ (.cons ⟨rfl,(rr2 .nil)⟩ (.cons ⟨rfl,(rr (.cons (.own _ _ au0) .nil))⟩ (.cons ⟨rfl,(rr2 .nil)⟩ .nil)))⟩ (.cons ⟨rfl,.refl _⟩ (.cons ⟨rfl,Ao 25 (Au (An 2 AU.c v31_3') (Ae (c:=AU.c) (xs:=([AU.mk (v6_4.getD v10.toNat default).Ref ((Z61 l v6_4 v10).Pads.getD v13.toNat default).Name]:List AU)) rfl kr))⟩ lr))))))) (Cv.trans (vr 100001 100004 hk0) (Cv.trans (vr 142 100005 hk0) (Cv.trans (vr 100003 100006 hk0) (Cv.trans (ck (⟨(Jz l v10 v13),(Er l v6_4 v10 [(31,Z6o v31_1' v31_3' v6_4 v10 l v13 v31_5'),(HD v5''),(DS v6_4),(100004,Z63 v31_1'),(100005,Z68 v31_3' v6_4 v10 l v13),(100006,Z65 v31_5')])⟩)) (BM ?_)))))
      first | rfl | (simp only [h4,h5,h6,Z6a,Z6b,Z6c,cond_true,cond_false] <;> rfl)
     have g6:=oF h6
     have g7:((AA v5'' 5).1:Int)=2:=ZQ (by with_reducible assumption) (by with_reducible assumption) (by with_reducible assumption)
     (try rw [g7])
     refine dw [] [] [0<=(2:Int)/\(2:Int)<((3:Nat):Int),0<=(v10:Int)/\(v10:Int)<((v6_4.length:Nat):Int),v10.toNat<v6_4.length,0<=(v13:Int)/\(v13:Int)<(((Z61 l v6_4 v10).Pads.length:Nat):Int),v31_5'.length=v31_5'.length,v31_5'.length+1<=maxLen,(v31_5'.length+1)*32<=140737488355328,0<=(2:Int)/\(2:Int)<((3:Nat):Int)] ⟨(Jz l v10 v13),(Er l v6_4 v10 [(31,.rowx 2 3 (fun _ _=>default) 48 [(0,[.s ({ data := #[78,49] }:ByteArray),.own 100001 2 v31_1'.length]),(1,[.s ({ data := #[78,50] }:ByteArray),.own 100002 2 v31_3'.length]),(2,[.s ({ data := #[71,78,68] }:ByteArray),.own 142 2 (v31_5'.length+1)])]),(HD v5''),(142,.row 2 (v31_5'.length+1) (fun i_ j_=>if i_<v31_5'.length then (AP AU.c v31_5') i_ j_ else (Vb v6_4 v10 l v13) (i_-v31_5'.length) j_) 25),(DS v6_4),(100001,Z63 v31_1'),(100002,Z64 v31_3')])⟩ .nil (.cons au18 (.cons au18 (.cons au18 (.cons au18 (.cons rfl (.cons au23 (.cons au23 (.cons au18 .nil))))))))<|A8<|AF ?_
     refine Cv.trans (BS (⟨(Jz l v10 v13),(Er l v6_4 v10 [(31,.rowx 2 3 (fun _ _=>default) 48 [(0,[.s ({ data := #[78,49] }:ByteArray),.own 100001 2 v31_1'.length]),(1,[.s ({ data := #[78,50] }:ByteArray),.own 100002 2 v31_3'.length]),(2,[.s ({ data := #[71,78,68] }:ByteArray),.own 142 2 (v31_5'++(Ij v6_4 v10 l v13)).length])]),(HD v5''),(142,Z69 v31_5' v6_4 v10 l v13),(DS v6_4),(100001,Z63 v31_1'),(100002,Z64 v31_3')])⟩) lr (.cons ⟨rfl,.refl _⟩ (.cons ⟨rfl,.refl _⟩ (.cons ⟨rfl,.refl _⟩ (.cons ⟨rfl,.rowx _ _ _ _ (.cons ⟨rfl,(rr2 .nil)⟩ (.cons ⟨rfl,(rr2 .nil)⟩ (.cons ⟨rfl,(rr (.cons (.own _ _ au0) .nil))⟩ .nil)))⟩ (.cons ⟨rfl,.refl _⟩ (.cons ⟨rfl,Ao 25 (Au (An 2 AU.c v31_5') (Ae (c:=AU.c) (xs:=([AU.mk (v6_4.getD v10.toNat default).Ref ((Z61 l v6_4 v10).Pads.getD v13.toNat default).Name]:List AU)) rfl kr))⟩ lr))))))) (Cv.trans (vr 100001 100004 hk0) (Cv.trans (vr 100002 100005 hk0) (Cv.trans (vr 142 100006 hk0) (Cv.trans (ck (⟨(Jz l v10 v13),(Er l v6_4 v10 [(31,Z6p v31_1' v31_3' v31_5' v6_4 v10 l v13),(HD v5''),(DS v6_4),(100004,Z63 v31_1'),(100005,Z64 v31_3'),(100006,Z69 v31_5' v6_4 v10 l v13)])⟩)) (BM ?_)))))
     first | rfl | (simp only [h4,h5,h6,Z6a,Z6b,Z6c,cond_true,cond_false] <;> rfl)
    refine Af<|A8<|AF ?_
    refine Cv.trans (vk [0,2,4,5,6,7,10,11,13] [2,6,11,31,91,100000,100001,100002,100003]) (Cv.trans (vr 100001 100004 hk0) (Cv.trans (vr 100002 100005 hk0) (Cv.trans (wr (⟨(Jz l v10 v13),(Er l v6_4 v10 [(31,.rowx 2 3 (fun _ _=>default) 48 [(0,[.s ({ data := #[78,49] }:ByteArray),.own 100004 2 v31_1'.length]),(1,[.s ({ data := #[78,50] }:ByteArray),.own 100005 2 v31_3'.length]),(2,[.s ({ data := #[71,78,68] }:ByteArray),.own 100006 2 v31_5'.length])]),(HD v5''),(DS v6_4),(100004,Z63 v31_1'),(100005,Z64 v31_3'),(100006,Z65 v31_5')])⟩) 100003 100006 hk0) (BM ?_))))
    first | rfl | (simp only [h4,Z6a,Z6b,Z6c,cond_true,cond_false] <;> rfl)
   refine rg ⟨(Gl l [(10,tI v10),(11,tP 11 0),(13,tI (W64 (v13+1)))]),(Er l v6_4 v10 [(31,.rowx 2 3 (fun _ _=>default) 48 [(0,[.s ({ data := #[78,49] }:ByteArray),.own 100004 2 (Z6a v5'' v31_1' v6_4 v10 l v13).length]),(1,[.s ({ data := #[78,50] }:ByteArray),.own 100005 2 (Z6b v5'' v31_3' v6_4 v10 l v13).length]),(2,[.s ({ data := #[71,78,68] }:ByteArray),.own 100006 2 (Z6c v5'' v31_5' v6_4 v10 l v13).length])]),(HD v5''),(DS v6_4),(100004,Z6d v5'' v31_1' v6_4 v10 l v13),(100005,Z6e v5'' v31_3' v6_4 v10 l v13),(100006,Z6f v5'' v31_5' v6_4 v10 l v13)])⟩ ?_
   (try rw [(show W64 (v13+1)=v13+1 from A1 oM au9)])
   refine AF ?_
   refine ⟨(n2,Z6a v5'' v31_1' v6_4 v10 l v13,Z6b v5'' v31_3' v6_4 v10 l v13,Z6c v5'' v31_5' v6_4 v10 l v13,(AA v5'' 5).2,v13+1),⟨?_,?_,(by rw [<- hF2];simp only [Dd,h3,cond_true,cond_false])⟩,Nat.lt_succ_self _,Cv.trans (vr 100004 100001 hk0) (Cv.trans (vr 100005 100002 hk0) (Cv.trans (vr 100006 100003 hk0) (BM kr)))⟩
   ·show (((Z61 l v6_4 v10).Pads.length:Int)-(v13+1)).toNat<n2;omega
   exact ⟨(by show DX (Z6a v5'' v31_1' v6_4 v10 l v13) (6*v10+(v13+1));unfold DX at *;repeat (first | omega | exact E4 oM | refine E3 ?_ ?_ | (simp;done))),(by show DX (Z6b v5'' v31_3' v6_4 v10 l v13) (6*v10+(v13+1));unfold DX at *;repeat (first | omega | exact E4 oM | refine E3 ?_ ?_ | (simp;done))),(by show DX (Z6c v5'' v31_5' v6_4 v10 l v13) (6*v10+(v13+1));unfold DX at *;repeat (first | omega | exact E4 oM | refine E3 ?_ ?_ | (simp;done))),(by show Br ((AA v5'' 5).2);repeat (first | with_reducible assumption | exact C0 (Dh hll _) | with_reducible refine Be ?_ | with_reducible refine Es ?_ | with_reducible refine Dr ?_ | with_reducible refine Db ?_  | with_reducible refine DD ?_ ?_)),ax0,ax0⟩
  have g3:=oF h3
  refine BU<|BE ?_
  refine BE<|BV ?_
  refine A8<|AF ?_
  refine rg ⟨(Gl l [(10,tI (W64 (v10+1)))]),[(2,Z5r),(6,Z5I l v6_4),(31,Z6m v31_1' v31_3' v31_5'),(91,.cells (AD.c v5'') 146),(DS v6_4),(100001,Z63 v31_1'),(100002,Z64 v31_3'),(100003,Z65 v31_5')]⟩ ?_
  (try rw [(show W64 (v10+1)=v10+1 from A1 oM au9)])
  refine AF ?_
  refine ⟨(n1,v31_1',v31_3',v31_5',v5'',v10+1),⟨?_,?_,(by rw [<- hF2];simp only [Dd,h3,cond_true,cond_false])⟩,Nat.lt_succ_self _,BM kr⟩
  ·show ((W64 (1+(AA (AA (AD.mk (AZ l 2) 0) 3).2 3).1))-(v10+1)).toNat<n1;omega
  exact ⟨(by show DX v31_1' (6*(v10+1));unfold DX at *;repeat (first | omega | exact E4 oM | refine E3 ?_ ?_ | (simp;done))),(by show DX v31_3' (6*(v10+1));unfold DX at *;repeat (first | omega | exact E4 oM | refine E3 ?_ ?_ | (simp;done))),(by show DX v31_5' (6*(v10+1));unfold DX at *;repeat (first | omega | exact E4 oM | refine E3 ?_ ?_ | (simp;done))),(by show Br v5'';repeat (first | with_reducible assumption | exact C0 (Dh hll _) | with_reducible refine Be ?_ | with_reducible refine Es ?_ | with_reducible refine Dr ?_ | with_reducible refine Db ?_  | with_reducible refine DD ?_ ?_)),ax0,ax0⟩
 have g2:=oF h2
 have k2:=TK g2 (by decide) (by decide) (by decide) (by decide)
 refine BU<|BE ?_
 refine BE<|BV ?_
 refine AF<|AB ?_
 refine Aq (Cv.trans (Hq (⟨(Pu l v10),[(2,Z5r),(6,Z5Z l v6_4),(31,Z6l v31_1 v31_3 v31_5),(KQ v5'),(100001,Z5W v31_1),(100002,Z5X v31_3),(100003,Z5Y v31_5)]⟩) 100000 hk0) (Cv.refl _)) ?_
 refine Aq (Cv.trans (vf 100001 hk0) (Cv.trans (vf 100002 hk0) (Cv.trans (Hq (⟨(Pu l v10),[(2,Z5r),(6,Z5Z l v6_4),(31,.rowx 2 3 (fun _ _=>default) 48 [(0,[.s ({ data := #[78,49] }:ByteArray),lst 2 AU.c v31_1]),(1,[.s ({ data := #[78,50] }:ByteArray),lst 2 AU.c v31_3]),(2,[.s ({ data := #[71,78,68] }:ByteArray),lst 2 AU.c v31_5])]),(KQ v5')]⟩) 100003 hk0) (Cv.trans (G0 (⟨(Pu l v10),[(2,Z5r),(6,Z5Z l v6_4),(31,.row 2 3 (As 2 3 [.s ({ data := #[78,49] }:ByteArray),lst 2 AU.c v31_1,.s ({ data := #[78,50] }:ByteArray),lst 2 AU.c v31_3,.s ({ data := #[71,78,68] }:ByteArray),lst 2 AU.c v31_5]) 48),(KQ v5')]⟩) 31 2 3 (fun _ _=>default) 48 [[.s ({ data := #[78,49] }:ByteArray),lst 2 AU.c v31_1],[.s ({ data := #[78,50] }:ByteArray),lst 2 AU.c v31_3],[.s ({ data := #[71,78,68] }:ByteArray),lst 2 AU.c v31_5]] kr kr kr kr) (Cv.trans (BS (⟨(Pu l v10),[(2,Z5r),(6,.cells (Gk l [lst 7 AG.c v6_4,.own 31 2 ([A7.mk ({ data := #[78,49] }:ByteArray) v31_1,A7.mk ({ data := #[78,50] }:ByteArray) v31_3,A7.mk ({ data := #[71,78,68] }:ByteArray) v31_5].length),vN,vN,vN,vN,vN,vN,vN,vN,vN]) 42),(31,.row 2 ([A7.mk ({ data := #[78,49] }:ByteArray) v31_1,A7.mk ({ data := #[78,50] }:ByteArray) v31_3,A7.mk ({ data := #[71,78,68] }:ByteArray) v31_5].length) (AP A7.c [A7.mk ({ data := #[78,49] }:ByteArray) v31_1,A7.mk ({ data := #[78,50] }:ByteArray) v31_3,A7.mk ({ data := #[71,78,68] }:ByteArray) v31_5]) 48),(KQ v5')]⟩) lr (.cons ⟨rfl,.refl _⟩ (.cons ⟨rfl,.cells _ (rr5 (.cons (.own _ _ au0) (rr (rr (rr (rr (rr (rr (rr (rr (rr .nil)))))))))))⟩ (.cons ⟨rfl,Ao 48 (Ae (c:=A7.c) (xs:=([A7.mk ({ data := #[78,49] }:ByteArray) v31_1,A7.mk ({ data := #[78,50] }:ByteArray) v31_3,A7.mk ({ data := #[71,78,68] }:ByteArray) v31_5]:List A7)) rfl kr)⟩ lr)))) (Cv.trans (Hq (⟨(Pu l v10),[(2,Z5r),(6,.cells (Gk l [lst 7 AG.c v6_4,lst 2 A7.c [A7.mk ({ data := #[78,49] }:ByteArray) v31_1,A7.mk ({ data := #[78,50] }:ByteArray) v31_3,A7.mk ({ data := #[71,78,68] }:ByteArray) v31_5],vN,vN,vN,vN,vN,vN,vN,vN,vN]) 42),(KQ v5')]⟩) 31 hk0) (Cv.refl _))))))) ?_
 refine rb 147 (Z6h l v6_4 v31_1 v31_3 v31_5) (.cells (Gk l [lst 7 AG.c v6_4,lst 2 A7.c [A7.mk ({ data := #[78,49] }:ByteArray) v31_1,A7.mk ({ data := #[78,50] }:ByteArray) v31_3,A7.mk ({ data := #[71,78,68] }:ByteArray) v31_5],vN,vN,vN,vN,vN,vN,vN,vN,vN]) 42) ⟨[(0,Z5q l),(2,tP 2 0),(4,Z5u l),(6,tP 6 0)],[(2,Z5r),(6,.cells (Xh l v6_4 v31_1 v31_3 v31_5) 42)]⟩ (cWr (WT (AC.mk 2 (Z5A l) v6_4 [A7.mk ({ data := #[78,49] }:ByteArray) v31_1,A7.mk ({ data := #[78,50] }:ByteArray) v31_3,A7.mk ({ data := #[71,78,68] }:ByteArray) v31_5] [] [] [] [] [] [] [] [] []) [Z5s l,Z5t l] l au17 au17 au17 au17 au17 au17))<|AF<|AB ?_
 refine oc [(149,Eh l 7),(152,(Z6j l v6_4 v31_1 v31_3 v31_5))] [A0 (Eh l 7).2.1,A0 (Z6j l v6_4 v31_1 v31_3 v31_5).2.1,Tb [.cells (Xh l v6_4 v31_1 v31_3 v31_5) 42,.cells [lst 1 eIn (AZ l 7),.i 0] 146]] (.cons (F6 l 7 au17) (.cons (XK (fun _ _=>kr) kr rfl rfl kr kr (dI (AC.mk (Z6g l v6_4 v31_1 v31_3 v31_5).Layers (Z6g l v6_4 v31_1 v31_3 v31_5).Outline (Z6g l v6_4 v31_1 v31_3 v31_5).Parts (Z6g l v6_4 v31_1 v31_3 v31_5).Nets (Z6g l v6_4 v31_1 v31_3 v31_5).Tracks (Z6g l v6_4 v31_1 v31_3 v31_5).Vias (Z6g l v6_4 v31_1 v31_3 v31_5).Pours (Z6g l v6_4 v31_1 v31_3 v31_5).Keeps (Z6g l v6_4 v31_1 v31_3 v31_5).Slots [] [] [] []) (AD.mk (AZ l 7) 0) au7 au17 au17 au17 au17 au17 au17 au17)) .nil)) (.cons rfl (.cons rfl (.cons rfl .nil)))<|AF<|AB ?_
 refine on<|Ac ?_
 exact zl (by rw [<- hF1];simp only [DN,h2,cond_true,cond_false] <;> kernel_rfl)
theorem eB (l:(List (List Int))) (hl:(l.length:Int)<=9223372036854775807) (hll:∀ x∈l,(x.length:Int)<=9223372036854775807):OKc (NV l):=cPu<|jS l hl hll
end
abbrev nN1:ByteArray:={ data := #[78,49] }
abbrev nN2:ByteArray:={ data := #[78,50] }
abbrev kG:ByteArray:={ data := #[71,78,68] }
structure Hv (B:AC):Prop where
 lay:B.Layers=2
 par:1<=(B.Parts.length:Int)/\(B.Parts.length:Int)<=3
 net:∃ p q r,B.Nets=[A7.mk nN1 p,A7.mk nN2 q,A7.mk kG r]
 trk:(B.Tracks.length:Int)<=6
 edg:∀ t∈B.Tracks,(t.Shape.Edges.length:Int)<=2
 via:(B.Vias.length:Int)<=3
 pou:(B.Pours.length:Int)<=2
 kee:(B.Keeps.length:Int)<=1
 slo:(B.Slots.length:Int)<=1
theorem oH {α:Type} {c:Bool} {a b:AC×α} (h:Hv a.1) (k:Hv b.1):Hv (bif c then a else b).1:=by cases c <;> assumption
theorem iS {b:AC} {d:AD} (h:Hv b):Hv (C1 b d).1:=by
 unfold C1
 obtain ⟨h1,h2,h3,h4,h5,h6,h7,h8,h9⟩:=h
 exact oH ⟨h1,h2,h3,h4,h5,h6,h7,h8,h9⟩ ⟨h1,h2,h3,h4,h5,h6,h7,h8,h9⟩
theorem oE {b:AC} {types:List AV} {l:List (List Int)} {x y z w:List Unit} (h1:b.Layers=2) (h2:1<=(b.Parts.length:Int)/\(b.Parts.length:Int)<=3) (h3:∃ p q r,b.Nets=[A7.mk nN1 p,A7.mk nN2 q,A7.mk kG r]) {c:List BQ} {ru:List Az} {wa:List BF} {ma:List Ba} :
  Hv (AC.mk (Bb b types l).Layers (Bb b types l).Outline (Bb b types l).Parts (Bb b types l).Nets (Bb b types l).Tracks (Bb b types l).Vias (Bb b types l).Pours (Bb b types l).Keeps (Bb b types l).Slots c ru wa ma):=by
 obtain ⟨k1,k2,k3,k4,k5,k6,k7,k8,k9,k10⟩:=GY b types l
 exact ⟨k1.trans h1,by show 1<=((Bb b types l).Parts.length:Int)/\((Bb b types l).Parts.length:Int)<=3;rw [k3];exact h2,by rw [<- k4] at h3;exact h3,k5,k6,k7,k8,k9,k10⟩
theorem YG (l:List (List Int)) (v6_4:List AG) (v5:AD) (v8:Int) (a1 a3 a5:List AU) (d1:AD) (v10:Int) (K0:List AG->AD->Int->(AC×(List AV))) (K1:List AU->List AU->List AU->AD->Int->(AC×(List AV))) (hK:∀ a b c d,Hv (K1 a b c d (v10+1)).1):∀ (n:Nat) (x y z:List AU) (d:AD) (k:Int),0<=k->(((Bp [BG (AZ l 0) ({ data := #[82] }:ByteArray),BG (AZ l 1) ({ data := #[81] }:ByteArray)] (v6_4.getD v10.toNat default).Type').1.Pads.length:Int)-k).toNat<n->Hv (Dd l v6_4 v5 v8 a1 a3 a5 d1 v10 K0 K1 n x y z d k).1
 | 0,x,y,z,d,k,_,h=>absurd h (Nat.not_lt_zero _)
 | n+1,x,y,z,d,k,k0,h=>by
  unfold Dd
  show Hv (bif decide ((k:Int)<((Bp [BG (AZ l 0) ({ data := #[82] }:ByteArray),BG (AZ l 1) ({ data := #[81] }:ByteArray)] (v6_4.getD v10.toNat default).Type').1.Pads.length:Int)) then (_:AC×List AV) else _).1
  by_cases hc:(k:Int)<((Bp [BG (AZ l 0) ({ data := #[82] }:ByteArray),BG (AZ l 1) ({ data := #[81] }:ByteArray)] (v6_4.getD v10.toNat default).Type').1.Pads.length:Int)
  ·rw [decide_eq_true hc]
   exact YG l v6_4 v5 v8 a1 a3 a5 d1 v10 K0 K1 hK n _ _ _ _ _ (by omega) (by omega)
  rw [decide_eq_false hc]
  exact hK _ _ _ _
theorem YH (l:List (List Int)) (v6_4:List AG) (v5:AD) (v8:Int) (K0:List AG->AD->Int->(AC×(List AV))) (hp:1<=(v6_4.length:Int)/\(v6_4.length:Int)<=3):∀ (n:Nat) (x y z:List AU) (d:AD) (k:Int),0<=k->(W64 (1+(AA (AA (AD.mk (AZ l 2) 0) 3).2 3).1)-k).toNat<n->Hv (DN l v6_4 v5 v8 K0 n x y z d k).1
 | 0,x,y,z,d,k,_,h=>absurd h (Nat.not_lt_zero _)
 | n+1,x,y,z,d,k,k0,h=>by
  unfold DN
  by_cases hc:k<W64 (1+(AA (AA (AD.mk (AZ l 2) 0) 3).2 3).1)
  ·simp only [hc,decide_true,cond_true]
   exact YG l v6_4 v5 v8 x y z d k K0 _ (fun a b c e=>YH l v6_4 v5 v8 K0 hp n a b c e (k+1) (by omega) (by omega)) _ _ _ _ _ 0 (by omega) (Nat.lt_succ_self _)
  simp only [hc,decide_false,cond_false]
  exact iS (oE (x:=[]) (y:=[]) (z:=[]) (w:=[]) rfl hp ⟨_,_,_,rfl⟩)
theorem YI (l:List (List Int)):∀ (n:Nat) (v:List AG) (d:AD) (k:Int),0<=k->(v.length:Int)=k->k<=W64 (1+(AA (AA (AD.mk (AZ l 2) 0) 3).2 3).1)->(W64 (1+(AA (AA (AD.mk (AZ l 2) 0) 3).2 3).1)-k).toNat<n->Hv (Ch l n v d k).1
 | 0,v,d,k,_,_,_,h=>absurd h (Nat.not_lt_zero _)
 | n+1,v,d,k,k0,kv,k1,h=>by
  have hmany:1<=W64 (1+(AA (AA (AD.mk (AZ l 2) 0) 3).2 3).1)/\W64 (1+(AA (AA (AD.mk (AZ l 2) 0) 3).2 3).1)<=3:=by
   have:=DU (AA (AD.mk (AZ l 2) 0) 3).2 3 (by decide) (by decide)
   rw [A1 (by omega) (by omega)];omega
  unfold Ch
  by_cases hc:k<W64 (1+(AA (AA (AD.mk (AZ l 2) 0) 3).2 3).1)
  ·simp only [hc,decide_true,cond_true]
   exact YI l n _ _ _ (by omega) (by simp only [List.length_append,List.length_cons,List.length_nil];omega) (by omega) (by omega)
  simp only [hc,decide_false,cond_false]
  exact YH l v d k _ (by omega) _ _ _ _ _ 0 (by omega) (Nat.lt_succ_self _)
theorem oK (l:List (List Int)):Hv (DA l).1:=by
 have hmany:1<=W64 (1+(AA (AA (AD.mk (AZ l 2) 0) 3).2 3).1):=by
  have:=DU (AA (AD.mk (AZ l 2) 0) 3).2 3 (by decide) (by decide)
  rw [A1 (by omega) (by omega)];omega
 unfold DA
 exact YI l _ _ _ 0 (by omega) rfl (by omega) (Nat.lt_succ_self _)
section
open Go.RowKit
def BK (op:Int) (tx:ByteArray) (n:Int) (bx:Ai):Bg:=Bg.mk op tx n bx (OpL.mk 0 (fun _ _=>default))
abbrev F3:Nat×Blk:=(2,.cells [.i 0,.s (⟨#[]⟩),.i 0,.i 0,.i 0,.i 0,.i 0,vN] 105)
variable (xop op:Int) (xtx tx:ByteArray) (xn yop n:Int) (xbx:Ai) (ytx:ByteArray) (yn:Int) (bx:Ai) (c:Bg) (f:Nat->Cl) (ybx:Ai)
abbrev FM (t_:List Cl):List Cl:=(.i op)::(.s tx)::(.i n)::(.i bx.X0)::(.i bx.Y0)::(.i bx.X1)::(.i bx.Y1)::t_
abbrev Mo:Nat×Blk:=(1,.cells (FM op tx n bx [vN]) 105)
theorem So  (op:Int) (tx:ByteArray) (n:Int) (bx:Ai):Fo Try.prog 40 [.agg [.i op,.s tx,.i n,.i bx.X0,.i bx.Y0,.i bx.X1,.i bx.Y1,vN]] (.av (.agg (Bg.c (BK op tx n bx)))):=by
 refine pwf Try.func40 fun W0 M0 => ?_
 refine AB<|on<|AB ?_
 refine on<|AB ?_
 refine on ?_
 refine AB<|AB ?_
 refine rn ⟨[(1,tP 1 0),(2,tP 2 0),(3,.av (.one vN)),(4,tI 0)],[(Mo op tx n bx),F3]⟩<|AX ?_
 refine Dy 1 ?_
 refine B7<|AB<|AB ?_
 refine rn ⟨[(1,tP 1 0),(2,tP 2 0),(3,.av (.one vN)),(4,tI 0),(11,tB false)],[(Mo op tx n bx),F3]⟩ ?_
 refine Dz kr<|BU ?_
 refine BE<|BE ?_
 refine BV<|AF<|AB ?_
 refine on<|Ac ?_
 exact xl (.av (.agg (FM op tx n bx [vN]))) (DB (y:=.av (.agg (FM op tx n bx [opL (OpL.mk 0 (fun _ _=>default))]))) (.av (.agg (rr5 (rr2 (.cons (.nil _ _) .nil))))) (by rfl))
def Z6q:CT:=(40,[.agg [.i xop,.s xtx,.i xn,.i xbx.X0,.i xbx.Y0,.i xbx.X1,.i xbx.Y1,vN]],.val [] (.av (.agg (Bg.c (BK xop xtx xn xbx)))))
def lI (xop:Int) (xtx:ByteArray) (xn:Int) (xbx:Ai) (op:Int) (tx:ByteArray) (n:Int) (bx:Ai):Bg:=Bg.mk op tx n bx (OpL.mk ([BK xop xtx xn xbx].length) (AP Bg.c [BK xop xtx xn xbx]))
abbrev NY:Nat×Tv:=(3,.av (.one (.list false 8 1 (As 8 1 [.i xop,.s xtx,.i xn,.i xbx.X0,.i xbx.Y0,.i xbx.X1,.i xbx.Y1,vN]))))
abbrev SX (op:Int) (tx:ByteArray) (n:Int) (bx:Ai) (xop:Int) (xtx:ByteArray) (xn:Int) (xbx:Ai):List (Nat×Blk):=[(1,.cells (FM op tx n bx [.own 100000 8 ([BK xop xtx xn xbx].length)]) 105),F3,(100000,.row 8 ([BK xop xtx xn xbx].length) (AP Bg.c [BK xop xtx xn xbx]) 105)]
abbrev SV (op:Int) (tx:ByteArray) (n:Int) (bx:Ai) (xop:Int) (xtx:ByteArray) (xn:Int) (xbx:Ai):List (Nat×Blk):=[(1,.cells (FM op tx n bx [.own 22 8 ([BK xop xtx xn xbx].length)]) 105),F3,(22,.row 8 ([BK xop xtx xn xbx].length) (AP Bg.c [BK xop xtx xn xbx]) 105)]
theorem jP  (xop:Int) (xtx:ByteArray) (xn:Int) (xbx:Ai) (op:Int) (tx:ByteArray) (n:Int) (bx:Ai):Fo Try.prog 40 [.agg [.i op,.s tx,.i n,.i bx.X0,.i bx.Y0,.i bx.X1,.i bx.Y1,.list false 8 1 (As 8 1 [.i xop,.s xtx,.i xn,.i xbx.X0,.i xbx.Y0,.i xbx.X1,.i xbx.Y1,vN])]] (.av (.agg (Bg.c (lI xop xtx xn xbx op tx n bx)))):=by
 refine pwf Try.func40 fun W0 M0 => ?_
 refine AB<|on<|AB ?_
 refine on<|AB ?_
 refine on ?_
 refine AB<|AB ?_
 refine rn ⟨[(1,tP 1 0),(2,tP 2 0),(NY xop xtx xn xbx),(4,tI 0)],[(Mo op tx n bx),F3]⟩<|AX ?_
 refine Dy 2 ?_
 refine B7<|AB<|AB ?_
 refine rn ⟨[(1,tP 1 0),(2,tP 2 0),(NY xop xtx xn xbx),(4,tI 0),(11,tB true)],[(Mo op tx n bx),F3]⟩ ?_
 refine DZ kr<|Af ?_
 refine AF<|AB<|AX ?_
 refine dw [] [(20,(Z6q xop xtx xn xbx))] [0<=(0:Int)/\(0:Int)<((1:Nat):Int),A0 (Z6q xop xtx xn xbx).2.1,1<=maxLen,1*88<=140737488355328] ⟨[(1,tP 1 0),(2,tP 2 0),(NY xop xtx xn xbx),(4,tI 0)],[(1,.cells (FM op tx n bx [.own 22 8 1]) 105),F3,(22,.row 8 1 (As 8 1 (Bg.c (BK xop xtx xn xbx))) 105)]⟩ (.cons (cPu<|So xop xtx xn xbx) .nil) (.cons au1 (.cons rfl (.cons au3 (.cons au3 .nil))))<|A8<|AF ?_
 refine Aq (Cv.trans (BS (⟨[(1,tP 1 0),(2,tP 2 0),(NY xop xtx xn xbx),(4,tI 0)],(SV op tx n bx xop xtx xn xbx)⟩) lr (.cons ⟨rfl,.cells _ (rr5 (rr2 (.cons (.own _ _ au0) .nil)))⟩ (.cons ⟨rfl,.refl _⟩ (.cons ⟨rfl,Ao 105 (Ae (c:=Bg.c) (xs:=([BK xop xtx xn xbx]:List Bg)) rfl kr)⟩ .nil)))) (Cv.refl _)) ?_
 refine rn ⟨[(1,tP 1 0),(2,tP 2 0),(NY xop xtx xn xbx),(4,tI 1)],(SV op tx n bx xop xtx xn xbx)⟩ ?_
 refine B7 ?_
 refine Aq (Cv.trans (wr (⟨[(1,tP 1 0),(2,tP 2 0),(NY xop xtx xn xbx),(4,tI 1)],(SX op tx n bx xop xtx xn xbx)⟩) 22 100000 hk0) (Cv.refl _))<|AB<|AB ?_
 refine rn ⟨[(1,tP 1 0),(2,tP 2 0),(NY xop xtx xn xbx),(4,tI 1),(11,tB false)],(SX op tx n bx xop xtx xn xbx)⟩ ?_
 refine Dz kr<|BU ?_
 refine BE<|BE ?_
 refine BV<|AF<|AB ?_
 refine on<|Ac ?_
 exact zy (Cv.trans (vf 100000 hk0) (Cv.refl _))
def Z6r:CT:=(40,[.agg [.i xop,.s xtx,.i xn,.i xbx.X0,.i xbx.Y0,.i xbx.X1,.i xbx.Y1,vN]],.val [] (.av (.agg (Bg.c (BK xop xtx xn xbx)))))
def Z6s:CT:=(40,[.agg [.i yop,.s ytx,.i yn,.i ybx.X0,.i ybx.Y0,.i ybx.X1,.i ybx.Y1,vN]],.val [] (.av (.agg (Bg.c (BK yop ytx yn ybx)))))
def lH (xop:Int) (xtx:ByteArray) (xn:Int) (xbx:Ai) (yop:Int) (ytx:ByteArray) (yn:Int) (ybx:Ai) (op:Int) (tx:ByteArray) (n:Int) (bx:Ai):Bg:=Bg.mk op tx n bx (OpL.mk ([BK xop xtx xn xbx]++[BK yop ytx yn ybx]).length (AP Bg.c ([BK xop xtx xn xbx]++[BK yop ytx yn ybx])))
abbrev zzc26 (xop:Int) (xtx:ByteArray) (xn:Int) (xbx:Ai) (yop:Int) (ytx:ByteArray) (yn:Int) (ybx:Ai):Nat×Tv:=(3,.av (.one (.list false 8 2 (As 8 2 [.i xop,.s xtx,.i xn,.i xbx.X0,.i xbx.Y0,.i xbx.X1,.i xbx.Y1,vN,.i yop,.s ytx,.i yn,.i ybx.X0,.i ybx.Y0,.i ybx.X1,.i ybx.Y1,vN]))))
abbrev GE (xop:Int) (xtx:ByteArray) (xn:Int) (xbx:Ai) (yop:Int) (ytx:ByteArray) (yn:Int) (ybx:Ai) (t_:List (Nat×Tv)):List (Nat×Tv):=(1,tP 1 0)::(2,tP 2 0)::(zzc26 xop xtx xn xbx yop ytx yn ybx)::t_
theorem jO  (xop:Int) (xtx:ByteArray) (xn:Int) (xbx:Ai) (yop:Int) (ytx:ByteArray) (yn:Int) (ybx:Ai) (op:Int) (tx:ByteArray) (n:Int) (bx:Ai):Fo Try.prog 40 [.agg [.i op,.s tx,.i n,.i bx.X0,.i bx.Y0,.i bx.X1,.i bx.Y1,.list false 8 2 (As 8 2 [.i xop,.s xtx,.i xn,.i xbx.X0,.i xbx.Y0,.i xbx.X1,.i xbx.Y1,vN,.i yop,.s ytx,.i yn,.i ybx.X0,.i ybx.Y0,.i ybx.X1,.i ybx.Y1,vN])]] (.av (.agg (Bg.c (lH xop xtx xn xbx yop ytx yn ybx op tx n bx)))):=by
 refine pwf Try.func40 fun W0 M0 => ?_
 refine AB<|on<|AB ?_
 refine on<|AB ?_
 refine on ?_
 refine AB<|AB ?_
 refine rn ⟨(GE xop xtx xn xbx yop ytx yn ybx [(4,tI 0)]),[(Mo op tx n bx),F3]⟩<|AX ?_
 refine Dy 3 ?_
 refine B7<|AB<|AB ?_
 refine rn ⟨(GE xop xtx xn xbx yop ytx yn ybx [(4,tI 0),(11,tB true)]),[(Mo op tx n bx),F3]⟩ ?_
 refine DZ kr<|Af ?_
 refine AF<|AB<|AX ?_
 refine dw [] [(20,(Z6r xop xtx xn xbx))] [0<=(0:Int)/\(0:Int)<((2:Nat):Int),A0 (Z6r xop xtx xn xbx).2.1,1<=maxLen,1*88<=140737488355328] ⟨(GE xop xtx xn xbx yop ytx yn ybx [(4,tI 0)]),[(1,.cells (FM op tx n bx [.own 22 8 1]) 105),F3,(22,.row 8 1 (As 8 1 (Bg.c (BK xop xtx xn xbx))) 105)]⟩ (.cons (cPu<|So xop xtx xn xbx) .nil) (.cons au1 (.cons rfl (.cons au3 (.cons au3 .nil))))<|A8<|AF ?_
 refine Aq (Cv.trans (BS (⟨(GE xop xtx xn xbx yop ytx yn ybx [(4,tI 0)]),(SV op tx n bx xop xtx xn xbx)⟩) lr (.cons ⟨rfl,.cells _ (rr5 (rr2 (.cons (.own _ _ au0) .nil)))⟩ (.cons ⟨rfl,.refl _⟩ (.cons ⟨rfl,Ao 105 (Ae (c:=Bg.c) (xs:=([BK xop xtx xn xbx]:List Bg)) rfl kr)⟩ .nil)))) (Cv.refl _)) ?_
 refine rn ⟨(GE xop xtx xn xbx yop ytx yn ybx [(4,tI 1)]),(SV op tx n bx xop xtx xn xbx)⟩ ?_
 refine B7 ?_
 refine Aq (Cv.trans (wr (⟨(GE xop xtx xn xbx yop ytx yn ybx [(4,tI 1)]),(SX op tx n bx xop xtx xn xbx)⟩) 22 100000 hk0) (Cv.refl _))<|AB<|AB ?_
 refine rn ⟨(GE xop xtx xn xbx yop ytx yn ybx [(4,tI 1),(11,tB true)]),(SX op tx n bx xop xtx xn xbx)⟩ ?_
 refine DZ kr<|Af ?_
 refine AF<|AB<|AX ?_
 refine dw [] [(20,(Z6s yop ytx yn ybx))] [0<=(1:Int)/\(1:Int)<((2:Nat):Int),A0 (Z6s yop ytx yn ybx).2.1,[BK xop xtx xn xbx].length=[BK xop xtx xn xbx].length,([BK xop xtx xn xbx].length)+1<=maxLen,(([BK xop xtx xn xbx].length)+1)*88<=140737488355328] ⟨(GE xop xtx xn xbx yop ytx yn ybx [(4,tI 1)]),[(1,.cells (FM op tx n bx [.own 22 8 (([BK xop xtx xn xbx].length)+1)]) 105),F3,(22,.row 8 (([BK xop xtx xn xbx].length)+1) (fun i_ j_=>if i_<([BK xop xtx xn xbx].length) then (AP Bg.c [BK xop xtx xn xbx]) i_ j_ else (As 8 1 (Bg.c (BK yop ytx yn ybx))) (i_-([BK xop xtx xn xbx].length)) j_) 105)]⟩ (.cons (cPu<|So yop ytx yn ybx) .nil) (.cons au1 (.cons rfl (.cons rfl (.cons au3 (.cons au3 .nil)))))<|A8<|AF ?_
 refine Aq (Cv.trans (BS (⟨(GE xop xtx xn xbx yop ytx yn ybx [(4,tI 1)]),[(1,.cells (FM op tx n bx [.own 22 8 ([BK xop xtx xn xbx]++[BK yop ytx yn ybx]).length]) 105),F3,(22,.row 8 ([BK xop xtx xn xbx]++[BK yop ytx yn ybx]).length (AP Bg.c ([BK xop xtx xn xbx]++[BK yop ytx yn ybx])) 105)]⟩) lr (.cons ⟨rfl,.cells _ (rr5 (rr2 (.cons (.own _ _ au0) .nil)))⟩ (.cons ⟨rfl,.refl _⟩ (.cons ⟨rfl,Ao 105 (Au (An 8 Bg.c [BK xop xtx xn xbx]) (Ae (c:=Bg.c) (xs:=([BK yop ytx yn ybx]:List Bg)) rfl kr))⟩ .nil)))) (Cv.refl _)) ?_
 refine rn ⟨(GE xop xtx xn xbx yop ytx yn ybx [(4,tI 2)]),[(1,.cells (FM op tx n bx [.own 22 8 ([BK xop xtx xn xbx]++[BK yop ytx yn ybx]).length]) 105),F3,(22,.row 8 ([BK xop xtx xn xbx]++[BK yop ytx yn ybx]).length (AP Bg.c ([BK xop xtx xn xbx]++[BK yop ytx yn ybx])) 105)]⟩ ?_
 refine B7 ?_
 refine Aq (Cv.trans (wr (⟨(GE xop xtx xn xbx yop ytx yn ybx [(4,tI 2)]),[(1,.cells (FM op tx n bx [.own 100001 8 ([BK xop xtx xn xbx]++[BK yop ytx yn ybx]).length]) 105),F3,(100001,.row 8 ([BK xop xtx xn xbx]++[BK yop ytx yn ybx]).length (AP Bg.c ([BK xop xtx xn xbx]++[BK yop ytx yn ybx])) 105)]⟩) 22 100001 hk0) (Cv.refl _))<|AB<|AB ?_
 refine rn ⟨(GE xop xtx xn xbx yop ytx yn ybx [(4,tI 2),(11,tB false)]),[(1,.cells (FM op tx n bx [.own 100001 8 ([BK xop xtx xn xbx]++[BK yop ytx yn ybx]).length]) 105),F3,(100001,.row 8 ([BK xop xtx xn xbx]++[BK yop ytx yn ybx]).length (AP Bg.c ([BK xop xtx xn xbx]++[BK yop ytx yn ybx])) 105)]⟩ ?_
 refine Dz kr<|BU ?_
 refine BE<|BE ?_
 refine BV<|AF<|AB ?_
 refine on<|Ac ?_
 exact zy (Cv.trans (vf 100001 hk0) (Cv.refl _))
def lG (f:Nat->Nat->Cl) (op:Int) (tx:ByteArray) (n:Int) (bx:Ai):Bg:=Bg.mk op tx n bx (OpL.mk 0 (fun _ _=>default))
theorem jN  (f:Nat->Nat->Cl) (op:Int) (tx:ByteArray) (n:Int) (bx:Ai):Fo Try.prog 40 [.agg [.i op,.s tx,.i n,.i bx.X0,.i bx.Y0,.i bx.X1,.i bx.Y1,.list false 8 0 f]] (.av (.agg (Bg.c (lG f op tx n bx)))):=by
 refine pwf Try.func40 fun W0 M0 => ?_
 refine AB<|on<|AB ?_
 refine on<|AB ?_
 refine on ?_
 refine AB<|AB ?_
 refine rn ⟨[(1,tP 1 0),(2,tP 2 0),(3,.av (.one (.list false 8 0 f))),(4,tI 0)],[(Mo op tx n bx),F3]⟩<|AX ?_
 refine Dy 1 ?_
 refine B7<|AB<|AB ?_
 refine rn ⟨[(1,tP 1 0),(2,tP 2 0),(3,.av (.one (.list false 8 0 f))),(4,tI 0),(11,tB false)],[(Mo op tx n bx),F3]⟩ ?_
 refine Dz kr<|BU ?_
 refine BE<|BE ?_
 refine BV<|AF<|AB ?_
 refine on<|Ac ?_
 exact xl (.av (.agg (FM op tx n bx [vN]))) (DB (y:=.av (.agg (FM op tx n bx [opL (OpL.mk 0 (fun _ _=>default))]))) (.av (.agg (rr5 (rr2 (.cons (.nil _ _) .nil))))) (by rfl))
def clI:Cl->Int
 | .val (.int _ n)=>n
 | _=>0
def clS:Cl->ByteArray
 | .val (.string s)=>s
 | _=>⟨#[]⟩
def CA (c:Bg):Prop:=(∃ f,c.L=OpL.mk 0 f)\/(∃ (xop:Int) (xtx:ByteArray) (xn:Int) (xbx:Ai),c.L=OpL.mk 1 (As 8 1 [.i xop,.s xtx,.i xn,.i xbx.X0,.i xbx.Y0,.i xbx.X1,.i xbx.Y1,vN]))\/∃ (xop:Int) (xtx:ByteArray) (xn:Int) (xbx:Ai) (yop:Int) (ytx:ByteArray) (yn:Int) (ybx:Ai),c.L=OpL.mk 2 (As 8 2 [.i xop,.s xtx,.i xn,.i xbx.X0,.i xbx.Y0,.i xbx.X1,.i xbx.Y1,vN,.i yop,.s ytx,.i yn,.i ybx.X0,.i ybx.Y0,.i ybx.X1,.i ybx.Y1,vN])
def Qn:Bg:=BK (clI (f 0)) (clS (f 1)) (clI (f 2)) (Ai.mk (clI (f 3)) (clI (f 4)) (clI (f 5)) (clI (f 6)))
def copyL:OpL->OpL
 | ⟨0,_⟩=>OpL.mk 0 (fun _ _=>default)
 | ⟨1,f⟩=>OpL.mk ([Qn (f 0)].length) (AP Bg.c [Qn (f 0)])
 | ⟨_+2,f⟩=>OpL.mk ([Qn (f 0)]++[Qn (f 1)]).length (AP Bg.c ([Qn (f 0)]++[Qn (f 1)]))
def Jq (c:Bg):Bg:=Bg.mk c.Op c.Text c.N c.Box (copyL c.L)
def Gf:CT:=(40,[.agg (Bg.c c)],.val [] (.av (.agg (Bg.c (Jq c)))))
theorem Y9 (c:Bg) (h:CA c):PuP 40 (Gf c).2.1 (.av (.agg (Bg.c (Jq c)))):=by
 obtain ⟨op,tx,n,bx,l⟩:=c
 rcases h with ⟨f,e⟩ | ⟨xop,xtx,xn,xbx,e⟩ | ⟨xop,xtx,xn,xbx,yop,ytx,yn,ybx,e⟩
 ·have e:l=OpL.mk 0 f:=e
  subst e
  exact jN f op tx n bx
 ·have e:l=OpL.mk 1 _:=e
  subst e
  exact jP xop xtx xn xbx op tx n bx
 have e:l=OpL.mk 2 _:=e
 subst e
 exact jO xop xtx xn xbx yop ytx yn ybx op tx n bx
theorem O1 (c:Bg) (h:CA c):OKc (Gf c):=cPu<|Y9 c h
def Tc (b:AC):Prop:=∀ r∈b.Rules,CA r.A/\CA r.B
theorem LC {b:AC} (h:Tc b) (k:Nat):CA (b.Rules.getD k default).A/\CA (b.Rules.getD k default).B:=HI (p:=fun r:Az=>CA r.A/\CA r.B) ⟨.inl ⟨_,rfl⟩,.inl ⟨_,rfl⟩⟩ h k
end
structure CM (b:AC):Prop where
 lParts:(b.Parts.length:Int)<=1000000
 lNets:(b.Nets.length:Int)<=1000000
 lTracks:(b.Tracks.length:Int)<=1000000
 lVias:(b.Vias.length:Int)<=1000000
 lPours:(b.Pours.length:Int)<=1000000
 lKeeps:(b.Keeps.length:Int)<=1000000
 lSlots:(b.Slots.length:Int)<=1000000
 lClasses:(b.Classes.length:Int)<=1000000
 lWaivers:(b.Waivers.length:Int)<=1000000
 lMatches:(b.Matches.length:Int)<=1000000
 lRules:(b.Rules.length:Int)<=1000000
 out:(b.Outline.Edges.length:Int)<=1000000
 pin:∀ k,((b.Nets.getD k default).Pins.length:Int)<=1000000
 ted:∀ k,((b.Tracks.getD k default).Shape.Edges.length:Int)<=1000000
 rec':∀ k,((b.Pours.getD k default).Rects.length:Int)<=1000000
 ked:∀ k,((b.Keeps.getD k default).Shape.Edges.length:Int)<=1000000
 sed:∀ k,((b.Slots.getD k default).Shape.Edges.length:Int)<=1000000
 cnt:∀ k,((b.Classes.getD k default).Nets.length:Int)<=1000000
 mnt:∀ k,((b.Matches.getD k default).Nets.length:Int)<=1000000
 rok:Tc b
section
open Go.RowKit
def Cl.only (L:List Nat):Cl->Bool
 | .ptr n _=>A6 L n
 | .own n _ _=>A6 L n
 | .rptr n _ _ _=>A6 L n
 | .osl n _ _ _=>A6 L n
 | .om n=>A6 L n
 | .clo _ k caps=>(List.range k).all fun i=>(caps i).only L
 | _=>true
def Av.only (L:List Nat):Av->Bool
 | .one c=>c.only L
 | .agg l=>l.all (Cl.only L)
def Tv.only (L:List Nat):Tv->Bool
 | .av x=>x.only L
 | .tup l=>l.all (Av.only L)
 | .grd _ x=>x.only L
def Blk.only (L:List Nat):Blk->Bool
 | .cells l _=>l.all (Cl.only L)
 | .rowx _ _ _ _ hs=>hs.all fun p=>p.2.all (Cl.only L)
 | _=>true
theorem Gv {L:List Nat} {n d:Nat} (h:A6 L n=true) (hd:(!Nat.beq n d)=false):A6 L d=true:=by
 have:Nat.beq n d=true:=by cases hb:Nat.beq n d;rw [hb] at hd;cases hd;rfl
 rw [<- Nat.eq_of_beq_eq_true this];exact h
theorem IF {L:List Nat} {d:Nat}:∀ {c:Cl},c.only L=true->c.no d=false->A6 L d=true
 | .ptr ..,h,hd=>Gv h hd
 | .own ..,h,hd=>Gv h hd
 | .rptr ..,h,hd=>Gv h hd
 | .osl ..,h,hd=>Gv h hd
 | .om ..,h,hd=>Gv h hd
 | .clo f k caps,h,hd=>by
  simp only [Cl.no] at hd
  rw [List.all_eq_false] at hd
  obtain ⟨i,hi,hn⟩:=hd
  simp only [Cl.only,List.all_eq_true] at h
  exact IF (h i hi) (by cases hq:(caps i).no d;rfl;exact absurd hq hn)
 | .val ..,_,hd=>by cases hd
 | .list ..,_,hd=>by cases hd
 | .eptr ..,_,hd=>by cases hd
 | .mp ..,_,hd=>by cases hd
 | .any,_,hd=>by cases hd
theorem Pb {α:Type} {p q:α->Bool} {l:List α} (h:l.all p=true) (hd:l.all q=false):∃ x,p x=true/\q x=false:=by
 rw [List.all_eq_false] at hd
 obtain ⟨x,hx,hn⟩:=hd
 exact ⟨x,List.all_eq_true.1 h x hx,by cases hq:q x;rfl;exact absurd hq hn⟩
theorem O0 {L:List Nat} {d:Nat}:∀ {x:Av},x.only L=true->x.no d=false->A6 L d=true
 | .one _,h,hd=>IF h hd
 | .agg _,h,hd=>by obtain ⟨x,h1,h2⟩:=Pb h hd;exact IF h1 h2
theorem UN {L:List Nat} {d:Nat}:∀ {x:Tv},x.only L=true->x.no d=false->A6 L d=true
 | .av _,h,hd=>O0 h hd
 | .tup _,h,hd=>by obtain ⟨x,h1,h2⟩:=Pb h hd;exact O0 h1 h2
 | .grd _ _,h,hd=>O0 h hd
theorem UO {L:List Nat} {d:Nat}:∀ {x:Blk},x.only L=true->x.no d=false->A6 L d=true
 | .cells _ _,h,hd=>by obtain ⟨x,h1,h2⟩:=Pb h hd;exact IF h1 h2
 | .row ..,_,hd=>by cases hd
 | .omap ..,_,hd=>by cases hd
 | .rowx ..,h,hd=>by obtain ⟨x,h1,h2⟩:=Pb h hd;obtain ⟨y,h3,h4⟩:=Pb h1 h2;exact IF h3 h4
def Di (v:Nat->Value):Nat->List Bool->List Cl->List Cl
 | i,true::m,_::l=>.val (v i)::Di v (i+1) m l
 | i,false::m,c::l=>c::Di v (i+1) m l
 | _,_,l=>l
def O8:List Bool->List Cl->List Cl->List Cl
 | true::m,a::l,_::l'=>a::O8 m l l'
 | false::m,_::l,b::l'=>b::O8 m l l'
 | _,_,l'=>l'
def MF (p:Cl->Bool):List Bool->List Cl->Bool
 | true::m,a::l=>p a&&MF p m l
 | false::m,_::l=>MF p m l
 | _,_=>true
section
variable {M M':Nat→Option Obj} {σ σ' σ2:Nat→Loc}
theorem QT (v:Nat->Value):∀ (m:List Bool) (i:Nat) (l:List Cl) (c:List Value),(∀ j,v (i+j)=c.getD j undef)->L2 (R M σ) l c->L2 (R M σ) (Di v i m l) c
 | [],i,l,c,_,h=>by unfold Di;exact h
 | b::m,i,[],c,_,h=>by cases b <;> exact h
 | b::m,i,a::l,c,hv,h=>by
  cases h with
  | cons h1 h2 =>
   rename_i u us
   have ht:=QT v m (i+1) l us (fun j=>by have:=hv (j+1);rw [show i+(j+1)=i+1+j by omega] at this;exact this) h2
   cases b with
   | true =>
    have h0:v i=u:=hv 0
    exact .cons ⟨h0.symm,by rw [h0];exact JU h1⟩ ht
   | false=>exact .cons h1 ht
theorem Wm (v:Nat->Value) (hm:∀ c V,R M σ c V->(∀ d,c.no d=false->σ2 d=σ d)->R M' σ2 c V) {L:List Nat} (hl:∀ d,A6 L d=true->σ2 d=σ' d) :
  ∀ (m:List Bool) (i:Nat) (l:List Cl) (c:List Value) (l':List Cl) (c':List Value),(∀ j,v (i+j)=c.getD j undef)->L2 (R M σ) l c->L2 (R M' σ') (Di v i m l') c'->l'.length=l.length ->
   (∀ d,MF (fun x=>x.no d) m l=false->σ2 d=σ d)->(∀ x∈Di v i m l',x.only L=true)->L2 (R M' σ2) (O8 m l l') c'
 | [],i,l,c,l',c',_,_,h',_,_,ho=>by
  simp only [O8]
  simp only [Di] at h' ho
  exact h'.mono fun a ha b hb=>Ct (fun _ _ h=>h) (fun d hd=>hl d (IF (ho a ha) hd)) hb
 | b::m,i,[],c,l',c',_,_,h',hlen,_,ho=>by
  have:l'=[]:=List.eq_nil_of_length_eq_zero (by simpa using hlen)
  subst this
  cases b <;> (simp only [O8];simp only [Di] at h';cases h';exact .nil)
 | b::m,i,a::l,c,[],c',_,_,h',hlen,_,ho=>by simp at hlen
 | b::m,i,a::l,c,a'::l',c',hv,h,h',hlen,hd,ho=>by
  cases h with
  | cons h1 h2 =>
   rename_i u us
   have hv':∀ j,v (i+1+j)=us.getD j undef:=fun j=>by have:=hv (j+1);rw [show i+(j+1)=i+1+j by omega] at this;exact this
   have hlen':l'.length=l.length:=by simpa using hlen
   cases b with
   | true =>
    simp only [Di] at h' ho
    simp only [O8]
    cases h' with
    | cons k1 k2 =>
     rename_i u' us'
     have e1:u'=v i:=k1.1
     have e2:v i=u:=hv 0
     subst e1
     refine .cons ?_ (Wm v hm hl m (i+1) l us l' us' hv' h2 k2 hlen' (fun d hn=>hd d (by simp only [MF,hn,Bool.and_false])) (fun x hx=>ho x (List.mem_cons_of_mem _ hx)))
     rw [e2]
     exact hm _ _ h1 fun d hn=>hd d (by simp only [MF,hn,Bool.false_and])
   | false =>
    simp only [Di] at h' ho
    simp only [O8]
    cases h' with
    | cons k1 k2 =>
     rename_i u' us'
     refine .cons ?_ (Wm v hm hl m (i+1) l us l' us' hv' h2 k2 hlen' (fun d hn=>hd d hn) (fun x hx=>ho x (List.mem_cons_of_mem _ hx)))
     exact Ct (fun _ _ h=>h) (fun d hn=>hl d (IF (ho _ (List.mem_cons_self ..)) hn)) k1
end
def Il {α:Type} (ks:List Nat):List (Nat×α)->List (Nat×α)
 | []=>[]
 | (k,v)::r=>bif A6 ks k then Il ks r else (k,v)::Il ks r
theorem ML {α:Type} (ks:List Nat):∀ (l:List (Nat×α)) (n:Nat) (v:α),get (Il ks l) n=some v->get l n=some v/\A6 ks n=false
 | [],n,v,h=>by cases h
 | (k,u)::r,n,v,h=>by
  simp only [Il] at h
  cases hk:A6 ks k with
  | true =>
   rw [hk] at h
   simp only [cond_true] at h
   obtain ⟨h1,h2⟩:=ML ks r n v h
   refine ⟨?_,h2⟩
   simp only [get,CI]
   by_cases e:k=n
   ·subst e;rw [hk] at h2;cases h2
   simp [e,h1]
  | false =>
   rw [hk] at h
   simp only [cond_false,get,CI] at h
   by_cases e:k=n
   ·subst e
    simp at h
    subst h
    refine ⟨by simp [get,Nat.beq_refl],hk⟩
   simp [e] at h
   obtain ⟨h1,h2⟩:=ML ks r n v h
   refine ⟨?_,h2⟩
   simp only [get,CI]
   simp [e,h1]
theorem TJ {α:Type} (l m:List (Nat×α)) (n:Nat):get (l++m) n=match get l n with | some v=>some v | none=>get m n:=by
 induction l with
 | nil=>rfl
 | cons p r ih =>
  obtain ⟨k,v⟩:=p
  simp only [List.cons_append,get,CI]
  by_cases h:k=n
  ·simp [h]
  simp only [h,decide_false,cond_false,ih]
def Gw {α:Type}:List (Nat×α)->List Nat
 | []=>[]
 | (k,_)::r=>k::Gw r
theorem PI {α:Type}:∀ {l:List (Nat×α)} {n:Nat} {v:α},get l n=some v->A6 (Gw l) n=true
 | (k,u)::r,n,v,h=>by
  simp only [get,CI] at h
  simp only [Gw,A6,CI]
  by_cases e:k=n
  ·simp [e]
  simp only [e,decide_false,cond_false] at h ⊢
  exact PI h
def pC (q:Nat) (K1:List Nat) (m:List Bool) (s:AS) (l:List Cl) (tE:List (Nat×Tv)) (lE:List Cl) (hE:List (Nat×Blk)):Bool :=
 let L:=q::Gw hE
 let F:=Il (q::K1) s.h
 Nat.beq lE.length l.length && !A6 L 299999&&F.all (fun p => !A6 L p.1&&L.all fun d=>p.2.no d)&&(L.all fun d=>MF (fun x=>x.no d) m l) &&
  tE.all (fun p=>p.2.only L)&&(Di (fun _=>undef) 0 m lE).all (Cl.only L)&&hE.all (fun p=>p.2.only L)
theorem MK {L:List Nat} (v v':Nat->Value):∀ (m:List Bool) (i:Nat) (l:List Cl),(Di v i m l).all (Cl.only L)=true->(Di v' i m l).all (Cl.only L)=true
 | [],i,l,h=>h
 | b::m,i,[],h=>by cases b <;> exact h
 | b::m,i,a::l,h=>by
  cases b <;> simp only [Di,List.all_cons,Bool.and_eq_true] at h ⊢
  ·exact ⟨h.1,MK v v' m _ l h.2⟩
  exact ⟨rfl,MK v v' m _ l h.2⟩
section
variable {P:Program} {rd:Option Nat} {N:Nat} {W0:World} {X:Nat→Option Loc} {M0:Nat→Option Obj} {Q:Exit→AS→Prop} {s:AS}
set_option maxHeartbeats 1000000 in
theorem gY {c:Code} {ι:Type} (q:Nat) (l:List Cl) (ty:TypeId) (m:List Bool) (T1 K1:List Nat) (hX:Cu X W0 []) (hF:Ph X) (I:ι->Prop) (tE:ι->List (Nat×Tv)) (lE:ι->List Cl) (hE:ι->List (Nat×Blk))
  (hq:get s.h q=some (.cells l ty)) (hN:(q::K1).all (fun n=>Nat.ble N n)=true) (hN2:Nat.ble N 299999=true) (hno:noD 299999 s=true) (hK:A6 (q::K1) 299999=false) (hchk:∀ x,pC q K1 m s l (tE x) (lE x) (hE x)=true)
  (core:∀ (W1:World) (M1:Nat->Option Obj) (X1:Nat->Option Loc) (v:Nat->Value),Cu X1 W1 (q::K1)->Ph X1->AWp P rd N W1 X1 M1 c (fun e s'=>e=.normal/\∃ x,I x/\s'=⟨tE x,(q,.cells (Di v 0 m (lE x)) ty)::hE x⟩) ⟨FD s.t T1,(q,.cells (Di v 0 m l) ty)::FD s.h K1⟩)
  (hQ:∀ x,I x->Q .normal ⟨tE x,(q,.cells (O8 m l (lE x)) ty)::(hE x++Il (q::K1) s.h)⟩):AWp P rd N W0 X M0 c Q s:=by
 intro M σ a w hs
 obtain ⟨hqn,cq,hcq,hlq⟩:=hs.blk q _ hq
 obtain ⟨v,hv⟩:∃ v:Nat->Value,∀ j,v (0+j)=cq.getD j undef:=⟨fun j=>cq.getD j undef,fun j=>by rw [Nat.zero_add]⟩
 obtain ⟨X1,hX1⟩:∃ X1:Nat->Option Loc,X1=fun n=>bif A6 (q::K1) n&&(get s.h n).isSome && !(σ n).nil then some (σ n) else bif Nat.beq n 299999 then some ⟨w.heap.size,424242,true⟩ else none:=⟨_,rfl⟩
 obtain ⟨σ1,hσ1⟩:∃ σ1,σ1=upd σ 299999 ⟨w.heap.size,424242,true⟩:=⟨_,rfl⟩
 have hg9:get s.h 299999=none:=YA hno
 have hs1:∀ n,n≠299999->σ1 n=σ n:=fun n hn=>by rw [hσ1];exact CK _ _ hn
 have hk9:∀ n b,get s.h n=some b->n≠299999:=fun n b h e=>by rw [e,hg9] at h;cases h
 have pins:∀ n x,X1 n=some x->(A6 (q::K1) n=true/\(get s.h n).isSome=true/\(σ n).nil=false/\x=σ n)\/(n=299999/\x=⟨w.heap.size,424242,true⟩):=fun n x h=>by
  rw [hX1] at h
  simp only at h
  cases hb:(A6 (q::K1) n&&(get s.h n).isSome && !(σ n).nil) with
  | true =>
   rw [hb] at h
   simp only [cond_true,Option.some.injEq] at h
   simp only [Bool.and_eq_true,Bool.not_eq_true'] at hb
   exact .inl ⟨hb.1.1,hb.1.2,hb.2,h.symm⟩
  | false =>
   rw [hb] at h
   simp only [cond_false] at h
   cases h9:Nat.beq n 299999 with
   | false=>rw [h9] at h;cases h
   | true=>rw [h9] at h;simp only [cond_true,Option.some.injEq] at h;exact .inr ⟨Nat.eq_of_beq_eq_true h9,h.symm⟩
 have hflat:Ph X1:=⟨299999,⟨w.heap.size,424242,true⟩,by rw [hX1];simp only [hK,Bool.false_and,cond_false,Nat.beq_refl,cond_true],rfl,rfl⟩
 have hpins:Cu X1 w (q::K1):=fun n x h=>by
  rcases pins n x h with ⟨h1,_⟩ | ⟨h1,h2⟩
  ·exact .inl h1
  exact .inr ⟨h1,by rw [h2];exact Nat.le_refl _⟩
 have hpinned:∀ n,A6 (q::K1) n=true->(get s.h n).isSome=true->(σ n).nil=false->X1 n=some (σ n):=fun n h1 h2 h3=>by rw [hX1];simp only [h1,h2,h3,Bool.not_false,Bool.and_true,cond_true]
 have hdef:a.defers=[]:=hs.defers.2 hF
 have hC:∀ n b,get ((q,Blk.cells (Di v 0 m l) ty)::FD s.h K1) n=some b->A6 (q::K1) n=true/\∃ b0,get s.h n=some b0/\((n=q/\b=.cells (Di v 0 m l) ty)\/(n≠q/\b=b0)):=fun n b h=>by
  simp only [get,CI] at h
  by_cases e:q=n
  ·simp only [e,decide_true,cond_true,Option.some.injEq] at h
   refine ⟨by rw [<- e];simp [A6,Nat.beq_refl],_,by rw [<- e];exact hq,.inl ⟨e.symm,h.symm⟩⟩
  simp only [e,decide_false,cond_false] at h
  refine ⟨?_,b,Fl _ _ _ _ h,.inr ⟨fun h'=>e h'.symm,rfl⟩⟩
  have:∀ (ks:List Nat),get (FD s.h ks) n=some b->A6 ks n=true:=by
   intro ks
   induction ks with
   | nil=>intro h;cases h
   | cons k ks ih =>
    intro h
    simp only [FD] at h
    simp only [A6,CI]
    by_cases ek:k=n
    ·simp [ek]
    simp only [ek,decide_false,cond_false]
    split at h
    ·simp only [get,CI,ek,decide_false,cond_false] at h;exact ih h
    exact ih h
  simp only [A6,CI,e,decide_false,cond_false]
  exact this K1 h
 have hsim:Sim N w X1 M M σ1 (get (FD s.t T1)) (get ((q,Blk.cells (Di v 0 m l) ty)::FD s.h K1)) a w:=by
  have hR:∀ (c:Cl) (V:Value),c.no 299999=true->R M σ c V->R M σ1 c V:=fun c V hc h=>Ct (fun _ _ h=>h) (fun d hd=>hs1 d (fun e=>by rw [e,hc] at hd;cases hd)) h
  refine ⟨rfl,rfl,rfl,Nat.le_refl _,fun _ _ _=>rfl,fun _ _ h=>h,fun _ _ h h'=>by (rw [h] at h';cases h'),fun n x h => ?_,by rw [hdef];exact Hx.nil,hs.room,fun i t ht => ?_,hs.imm,fun n b h => ?_,fun n b h => ?_,fun n n' b b' h h' hne => ?_⟩
  ·rcases pins n x h with ⟨h1,h2,h3,rfl⟩ | ⟨rfl,rfl⟩
   ·obtain ⟨b0,hb0⟩:=Option.isSome_iff_exists.1 h2
    exact ⟨Nat.le_of_ble_eq_true (List.all_eq_true.1 hN n (Jc h1)),hs1 n (hk9 n b0 hb0)⟩
   exact ⟨Nat.le_of_ble_eq_true hN2,by rw [hσ1];exact BX _ _ _⟩
  ·have h0:=Fl _ _ _ _ ht
   exact De (fun _ _ h=>h) (fun d hd=>hs1 d (fun e=>by rw [e,X9 hno h0] at hd;cases hd)) (hs.tmps i t h0)
  ·obtain ⟨_,b0,hb0,⟨rfl,rfl⟩ | ⟨hne,rfl⟩⟩:=hC n b h
   ·rw [hs1 _ (hk9 _ _ hb0)]
    have hnl:∀ c∈l,c.no 299999=true:=fun c hc=>(List.all_eq_true.1 (UW hno hq)) c hc
    exact ⟨hqn,cq,hcq,QT v m 0 l cq hv (hlq.mono fun c hc V hV=>hR c V (hnl c hc) hV)⟩
   rw [hs1 _ (hk9 _ _ hb0)]
   exact Bq.mono (fun _ _ h=>h) (fun d hd=>hs1 d (fun e=>by rw [e,UW hno hb0] at hd;cases hd)) (fun _=>rfl) (hs.blk n _ hb0)
  ·obtain ⟨h1,b0,hb0,_⟩:=hC n b h
   rw [hs1 _ (hk9 _ _ hb0)]
   cases hnil:(σ n).nil with
   | true=>exact .inl rfl
   | false =>
    rcases hs.loc n b0 hb0 with h2 | ⟨h2,_⟩
    ·rw [hnil] at h2;cases h2
    exact .inr ⟨h2,.inr ⟨n,σ n,hpinned n h1 (by rw [hb0];rfl) hnil,rfl⟩⟩
  obtain ⟨_,b0,hb0,_⟩:=hC n b h
  obtain ⟨_,b1,hb1,_⟩:=hC n' b' h'
  rw [hs1 _ (hk9 _ _ hb0),hs1 _ (hk9 _ _ hb1)]
  exact hs.inj n n' b0 b1 hb0 hb1 hne
 refine wpIn_mono (core w M X1 v hpins hflat M σ1 a w hsim) ?_
 rintro e a' w' ⟨s',M',σ',⟨rfl,x,hI,rfl⟩,hs'⟩
 have hok:=hchk x
 unfold pC at hok
 simp only [Bool.and_eq_true,Bool.not_eq_true'] at hok
 obtain ⟨⟨⟨⟨⟨⟨ok1,ok2⟩,ok3⟩,ok4⟩,ok5⟩,ok6⟩,ok7⟩:=hok
 obtain ⟨L,hL⟩:∃ L,L=q::Gw (hE x):=⟨_,rfl⟩
 rw [<- hL] at ok2 ok3 ok4 ok5 ok6 ok7
 have hlen:(lE x).length=l.length:=Nat.eq_of_beq_eq_true ok1
 obtain ⟨σ2,hσ2⟩:∃ σ2:Nat->Loc,σ2=fun n=>bif A6 L n then σ' n else σ n:=⟨_,rfl⟩
 have hin:∀ n,A6 L n=true->σ2 n=σ' n:=fun n h=>by rw [hσ2];simp only [h,cond_true]
 have hout:∀ n,A6 L n=false->σ2 n=σ n:=fun n h=>by rw [hσ2];simp only [h,cond_false]
 have hMM:∀ b o,M b=some o->M' b=some o:=hs'.sub
 -- where the small state's blocks lie
 have hX1in:∀ b,inX X1 b->(∃ k b0,A6 (q::K1) k=true/\get s.h k=some b0/\(σ k).nil=false/\(σ k).b=b)\/b=w.heap.size:=fun b ⟨n,y,h1,h2⟩=>by
  rcases pins n y h1 with ⟨h3,h4,h5,rfl⟩ | ⟨_,rfl⟩
  ·obtain ⟨b0,hb0⟩:=Option.isSome_iff_exists.1 h4
   exact .inl ⟨n,b0,h3,hb0,h5,h2⟩
  exact .inr h2.symm
 have hnew0:∀ k b0,get s.h k=some b0->(σ k).nil=false->W0.heap.size<=(σ k).b:=fun k b0 hk hnil=>by
  rcases hs.loc k b0 hk with h1 | ⟨_,h1 | ⟨n,y,h1,h2⟩⟩
  ·rw [hnil] at h1;cases h1
  ·exact h1
  rcases hX n y h1 with h3 | ⟨_,h3⟩
  ·cases h3
  rw [<- h2];exact h3
 have hE0:∀ n b,get ((q,Blk.cells (Di v 0 m (lE x)) ty)::hE x) n=some b->A6 L n=true:=fun n b h=>by
  rw [hL]
  have:=PI h
  exact this
 have hloc':∀ n b,get ((q,Blk.cells (Di v 0 m (lE x)) ty)::hE x) n=some b->(σ' n).nil=true\/(M' (σ' n).b=none/\(w.heap.size<=(σ' n).b\/∃ k b0,A6 (q::K1) k=true/\get s.h k=some b0/\(σ k).nil=false/\(σ k).b=(σ' n).b)):=fun n b h=>by
  rcases hs'.loc n b h with h1 | ⟨h1,h2 | h2⟩
  ·exact .inl h1
  ·exact .inr ⟨h1,.inl h2⟩
  rcases hX1in _ h2 with h3 | h3
  ·exact .inr ⟨h1,.inr h3⟩
  exact .inr ⟨h1,.inl (by rw [h3];exact Nat.le_refl _)⟩
 have hFr:∀ n b,get (Il (q::K1) s.h) n=some b->get s.h n=some b/\A6 (q::K1) n=false/\A6 L n=false/\∀ d,A6 L d=true->b.no d=true:=fun n b h=>by
  obtain ⟨h1,h2⟩:=ML _ _ _ _ h
  have h3:=List.all_eq_true.1 ok3 _ (Cz h)
  simp only [Bool.and_eq_true,Bool.not_eq_true'] at h3
  exact ⟨h1,h2,h3.1,fun d hd=>List.all_eq_true.1 h3.2 d (Jc hd)⟩
 have hFrlt:∀ n b,get (Il (q::K1) s.h) n=some b->(σ n).nil=false->(σ n).b<w.heap.size/\¬ inX X1 (σ n).b:=fun n b h hnil=>by
  obtain ⟨h1,h2,_⟩:=hFr n b h
  have hlt:=(hs.blk n b h1).lt hnil
  refine ⟨hlt,fun hi => ?_⟩
  rcases hX1in _ hi with ⟨k,b0,h3,h4,h5,h6⟩ | h3
  ·have hne:n≠k:=fun e=>by rw [e,h3] at h2;cases h2
   rcases hs.inj n k b b0 h1 h4 hne with h7 | h7 | h7
   ·rw [hnil] at h7;cases h7
   ·rw [h5] at h7;cases h7
   exact h7 h6.symm
  omega
 have hG:∀ n b,get ((q,Blk.cells (O8 m l (lE x)) ty)::(hE x++Il (q::K1) s.h)) n=some b->(A6 L n=true/\((n=q/\b=.cells (O8 m l (lE x)) ty)\/(n≠q/\get (hE x) n=some b))/\∃ b',get ((q,Blk.cells (Di v 0 m (lE x)) ty)::hE x) n=some b')\/get (Il (q::K1) s.h) n=some b:=fun n b h=>by
  simp only [get,CI] at h
  by_cases e:q=n
  ·simp only [e,decide_true,cond_true,Option.some.injEq] at h
   subst e
   refine .inl ⟨by rw [hL];simp [A6,Nat.beq_refl],.inl ⟨rfl,h.symm⟩,Blk.cells (Di v 0 m (lE x)) ty,?_⟩
   simp only [get,Nat.beq_refl,cond_true]
  simp only [e,decide_false,cond_false] at h
  rw [TJ] at h
  cases hg:get (hE x) n with
  | none=>rw [hg] at h;exact .inr h
  | some b2 =>
   rw [hg] at h
   simp only [Option.some.injEq] at h
   subst h
   have hg2:get ((q,Blk.cells (Di v 0 m (lE x)) ty)::hE x) n=some b2:=by simp only [get,CI,e,decide_false,cond_false];exact hg
   exact .inl ⟨hE0 n b2 hg2,.inr ⟨fun h'=>e h'.symm,rfl⟩,b2,hg2⟩
 have hqL:A6 L q=true:=by rw [hL];simp [A6,Nat.beq_refl]
 refine ⟨_,M',σ2,hQ x hI,hs'.os.trans hs.os,hs'.tape.trans hs.tape,hs'.output.trans hs.output,Nat.le_trans hs.size hs'.size,fun b hb hnb => ?_,fun b o h=>hMM b o (hs.sub b o h),fun b o h1 h2 => ?_,fun n y h => ?_,?_,hs'.room,fun i t ht => ?_,hs'.imm,fun n b h => ?_,fun n b h => ?_,fun n n' b b' h h' hne => ?_⟩
 ·refine (hs'.old b (Nat.lt_of_lt_of_le hb hs.size) fun hi => ?_).trans (hs.old b hb hnb)
  rcases hX1in _ hi with ⟨k,b0,_,h4,h5,h6⟩ | h3
  ·have:=hnew0 k b0 h4 h5;omega
  have:=hs.size;omega
 ·cases hM:M b with
  | none=>exact Nat.le_trans hs.size (hs'.new b o h1 hM)
  | some o'=>exact hs.new b o' hM h2
 ·obtain ⟨h1,h2⟩:=hs.pin n y h
  refine ⟨h1,?_⟩
  rcases hX n y h with h3 | ⟨rfl,_⟩
  ·cases h3
  rw [hout _ ok2];exact h2
 ·have:a'.defers=[]:=hs'.defers.2 hflat
  rw [this]
  exact Hx.nil
 ·have h1:=List.all_eq_true.1 ok5 _ (Cz ht)
  exact De (fun _ _ h=>h) (fun d hd=>hin d (UN h1 hd)) (hs'.tmps i t ht)
 ·rcases hG n b h with ⟨hn,hb,b',hb'⟩ | hfr
  ·rw [hin n hn]
   rcases hb with ⟨rfl,rfl⟩ | ⟨hne,hb⟩
   ·have hq':=hs'.blk n (.cells (Di v 0 m (lE x)) ty) (by simp only [get,Nat.beq_refl,cond_true])
    obtain ⟨hn1,c',hc',hl'⟩:=hq'
    refine ⟨hn1,c',hc',?_⟩
    have honly:=List.all_eq_true.1 (MK (fun _=>undef) v m 0 (lE x) ok6)
    refine Wm v (σ2:=σ2) (fun c V h1 h2=>Ct hMM h2 h1) hin m 0 l cq (lE x) c' hv hlq hl' hlen (fun d hd => ?_) honly
    refine hout d ?_
    cases hdL:A6 L d with
    | false=>rfl
    | true=>rw [List.all_eq_true.1 ok4 d (Jc hdL)] at hd;cases hd
   have hb2:get ((q,Blk.cells (Di v 0 m (lE x)) ty)::hE x) n=some b:=by simp only [get,CI,Ne.symm hne,decide_false,cond_false];exact hb
   have h1:=List.all_eq_true.1 ok7 _ (Cz hb)
   exact Bq.mono (fun _ _ h=>h) (fun d hd=>hin d (UO h1 hd)) (fun _=>rfl) (hs'.blk n b hb2)
  obtain ⟨h1,h2,h3,h4⟩:=hFr n b hfr
  rw [hout n h3]
  refine Bq.mono hMM (fun d hd=>hout d ?_) (fun hnil => ?_) (hs.blk n b h1)
  ·cases hdL:A6 L d with
   | false=>rfl
   | true=>rw [h4 d hdL] at hd;cases hd
  obtain ⟨h5,h6⟩:=hFrlt n b hfr hnil
  exact hs'.old _ h5 h6
 ·rcases hG n b h with ⟨hn,_,b',hb'⟩ | hfr
  ·rw [hin n hn]
   rcases hloc' n b' hb' with h1 | ⟨h1,h2 | ⟨k,b0,_,h4,h5,h6⟩⟩
   ·exact .inl h1
   ·exact .inr ⟨h1,.inl (Nat.le_trans hs.size h2)⟩
   exact .inr ⟨h1,.inl (by rw [<- h6];exact hnew0 k b0 h4 h5)⟩
  obtain ⟨h1,h2,h3,_⟩:=hFr n b hfr
  rw [hout n h3]
  cases hnil:(σ n).nil with
  | true=>exact .inl rfl
  | false =>
   have h4:=hFrlt n b hfr hnil
   refine .inr ⟨?_,.inl (hnew0 n b h1 hnil)⟩
   cases hM':M' (σ n).b with
   | none=>rfl
   | some o =>
    have hM:M (σ n).b=none:=by
     rcases hs.loc n b h1 with h5 | ⟨h5,_⟩
     ·rw [hnil] at h5;cases h5
     exact h5
    have:=hs'.new _ o hM' hM
    omega
 have LI:∀ (n n':Nat) (b':Blk),(A6 L n=true/\∃ b2,get ((q,Blk.cells (Di v 0 m (lE x)) ty)::hE x) n=some b2)->get (Il (q::K1) s.h) n'=some b'->(σ2 n).nil=true\/(σ2 n').nil=true\/(σ2 n).b≠(σ2 n').b:=fun n n' b' ⟨hn,b2,hb2⟩ hfr=>by
  obtain ⟨h1,h2,h3,_⟩:=hFr n' b' hfr
  rw [hin n hn,hout n' h3]
  cases hnil:(σ n').nil with
  | true=>exact .inr (.inl rfl)
  | false =>
   obtain ⟨h4,h5⟩:=hFrlt n' b' hfr hnil
   rcases hloc' n b2 hb2 with h6 | ⟨_,h6 | ⟨k,b0,h7,h8,h9,h10⟩⟩
   ·exact .inl h6
   ·exact .inr (.inr (by omega))
   refine .inr (.inr ?_)
   have hne:n'≠k:=fun e=>by rw [e,h7] at h2;cases h2
   rcases hs.inj n' k b' b0 h1 h8 hne with h11 | h11 | h11
   ·rw [hnil] at h11;cases h11
   ·rw [h9] at h11;cases h11
   rw [<- h10];exact fun e=>h11 e.symm
 rcases hG n b h with ⟨hn,_,b2,hb2⟩ | hfr
 ·rcases hG n' b' h' with ⟨hn',_,b3,hb3⟩ | hfr'
  ·rw [hin n hn,hin n' hn']
   exact hs'.inj n n' b2 b3 hb2 hb3 hne
  exact LI n n' b' ⟨hn,b2,hb2⟩ hfr'
 rcases hG n' b' h' with ⟨hn',_,b3,hb3⟩ | hfr'
 ·rcases LI n' n b ⟨hn',b3,hb3⟩ hfr with h1 | h1 | h1
  ·exact .inr (.inl h1)
  ·exact .inl h1
  exact .inr (.inr (Ne.symm h1))
 obtain ⟨h1,_,h3,_⟩:=hFr n b hfr
 obtain ⟨h4,_,h6,_⟩:=hFr n' b' hfr'
 rw [hout n h3,hout n' h6]
 exact hs.inj n n' b b' h1 h4 hne
end
end
section
open Go.RowKit
def mkX (w:World):Nat->Option Loc:=fun n=>bif Nat.beq n 299999 then some ⟨w.heap.size,424242,true⟩ else none
theorem O7 {w:World} {n:Nat} {x:Loc} (h:mkX w n=some x):n=299999/\x=⟨w.heap.size,424242,true⟩:=by
 unfold mkX at h
 cases h9:Nat.beq n 299999 with
 | false=>rw [h9] at h;cases h
 | true=>rw [h9] at h;simp only [cond_true,Option.some.injEq] at h;exact ⟨Nat.eq_of_beq_eq_true h9,h.symm⟩
theorem eS (w:World):Ph (mkX w):=⟨299999,⟨w.heap.size,424242,true⟩,by simp only [mkX,Nat.beq_refl,cond_true],rfl,rfl⟩
theorem eQ (w:World):Cu (mkX w) w []:=fun n x h=>by
 obtain ⟨h1,rfl⟩:=O7 h
 exact .inr ⟨h1,Nat.le_refl _⟩
theorem eR {w:World} {b:Nat} (h:inX (mkX w) b):b=w.heap.size:=by
 obtain ⟨n,x,h1,h2⟩:=h
 obtain ⟨_,rfl⟩:=O7 h1
 exact h2.symm
section
variable {P:Program}
def Frs (P:Program) (f:FuncId) (xs:List Av) {ι:Type} (I:ι->Prop) (V:ι->Tv) (hE:ι->List (Nat×Blk)):Prop:=∀ (M:Nat->Option Obj) (σ:Nat->Loc) (w:World) (args:List Value),(∀ b o,M b=some o->w.heap[b]? = some o)->L2 (RA M σ) xs args ->
 Calls P f args.toArray w fun en w'=>∃ U,en=.returned U/\∃ (x:ι) (M':Nat->Option Obj) (σ':Nat->Loc),I x/\Fp w w' M M' J2/\(∀ n b,get (hE x) n=some b->Bq M' σ' w' (σ' n) b/\((σ' n).nil=true\/(w.heap.size<=(σ' n).b/\M' (σ' n).b=none))) /\
  (∀ n m b c,get (hE x) n=some b->get (hE x) m=some c->n≠m->(σ' n).nil=true\/(σ' m).nil=true\/(σ' n).b≠(σ' m).b)/\RT M' σ' (V x) U
theorem Jl {f:FuncId} {fn:Func} {c:Code} (hf:P.funcs[f]? = some fn) (hb:fn.body=some c) {xs:List Av} {ι:Type} {I:ι->Prop} {V:ι->Tv} {hE:ι->List (Nat×Blk)} (hN:Nat.ble xs.length fn.ntmps=true) (hN2:Nat.ble fn.ntmps 299999=true) (hdv:xs.all Av.dv=true)
  (h:∀ (W0:World) (M0:Nat->Option Obj) (X:Nat->Option Loc),Cu X W0 []->Ph X->AWp P none fn.ntmps W0 X M0 c (K6 P fn.ntmps W0 X M0 fn fun r' s'=>∃ x,I x/\TvE r' (V x)/\∀ n b,get (hE x) n=some b->∃ b',get s'.h n=some b'/\HB b' b) ⟨Et 0 xs,[]⟩):Frs P f xs I V hE:=by
 intro M σ w args himm hargs
 have hargs':L2 (RA M (upd σ 299999 ⟨w.heap.size,424242,true⟩)) xs args:=hargs.mono fun x hx u hu=>G4 (r:=.av x) (List.all_eq_true.1 hdv x hx) hu
 refine EZ (X:=mkX w) (σ:=upd σ 299999 ⟨w.heap.size,424242,true⟩) (h0:=[]) hf hb (Nat.le_of_ble_eq_true hN) himm hargs' (fun n b h=>by cases h) (fun n b h=>by cases h) (fun n x h => ?_) (fun n m b c h=>by cases h) (EF (h w M (mkX w) (eQ w) (eS w))) ?_
 ·obtain ⟨rfl,rfl⟩:=O7 h
  exact ⟨Nat.le_of_ble_eq_true hN2,BX _ _ _⟩
 rintro r' s' M' σ' a' w' U ⟨x,hI,he,hbs⟩ hs hR
 have hnew:∀ b,b<w.heap.size->¬ inX (mkX w) b:=fun b hb hi=>by have:=eR hi;omega
 refine ⟨U,rfl,x,M',σ',hI,⟨hs.os,hs.tape,hs.output,hs.size,fun b hb _=>hs.old b hb (hnew b hb),hs.sub,hs.new,hs.imm⟩,fun n b hn => ?_,fun n m b c hn hm hne => ?_,JV he hR⟩
 ·obtain ⟨b',hb',hbe⟩:=hbs n b hn
  refine ⟨Ih hbe (hs.blk n _ hb'),?_⟩
  rcases hs.loc n _ hb' with h1 | ⟨h1,h2 | h2⟩
  ·exact .inl h1
  ·exact .inr ⟨h2,h1⟩
  exact .inr ⟨by rw [eR h2];exact Nat.le_refl _,h1⟩
 obtain ⟨b',hb',_⟩:=hbs n b hn
 obtain ⟨c',hc',_⟩:=hbs m c hm
 exact hs.inj n m b' c' hb' hc' hne
def pF (N:Nat) (K:List Nat) (d:Nat) (V:Tv) (hE:List (Nat×Blk)) (s:AS):Bool :=
 Nat.ble (d+1) N&&(Gw hE).all (fun k=>MD K k&&noD k s)&&V.only (Gw hE)&&hE.all fun p=>p.2.only (Gw hE)
def iR (d:Nat) (V:Tv) (hE:List (Nat×Blk)) (s:AS):AS:=⟨put s.t d V,hE++s.h⟩
variable {rd:Option Nat} {N:Nat} {W0:World} {X:Nat→Option Loc} {M0 M M':Nat→Option Obj} {σ σ':Nat→Loc} {w w':World} {a:Act} {Q:Exit→AS→Prop} {s:AS}
theorem Yu {K:List Nat} {d:Nat} {V:Tv} {hE:List (Nat×Blk)} {U:Value} (hX:Cu X W0 K) (hok:pF N K d V hE s=true) (hs:Sim N W0 X M0 M σ (get s.t) (get s.h) a w) (hk:Fp w w' M M' J2)
  (hb:∀ n b,get hE n=some b->Bq M' σ' w' (σ' n) b/\((σ' n).nil=true\/(w.heap.size<=(σ' n).b/\M' (σ' n).b=none)))
  (hi:∀ n m b c,get hE n=some b->get hE m=some c->n≠m->(σ' n).nil=true\/(σ' m).nil=true\/(σ' n).b≠(σ' m).b) (hR:RT M' σ' V U) :
  Sim N W0 X M0 M' (fun n=>bif A6 (Gw hE) n then σ' n else σ n) (get (iR d V hE s).t) (get (iR d V hE s).h) (a.put (some d) U) w':=by
 unfold pF at hok
 simp only [Bool.and_eq_true] at hok
 obtain ⟨⟨⟨hdN,hks⟩,hV⟩,hEo⟩:=hok
 have hdN:=Nat.le_of_ble_eq_true hdN
 have hkeys:∀ n b,get hE n=some b->A6 (Gw hE) n=true:=fun n b h=>PI h
 generalize Gw hE=L at *
 obtain ⟨σ2,hσ2⟩:∃ σ2:Nat->Loc,σ2=fun n=>bif A6 L n then σ' n else σ n:=⟨_,rfl⟩
 rw [<- hσ2]
 have hin:∀ n,A6 L n=true->σ2 n=σ' n:=fun n h=>by rw [hσ2];simp only [h,cond_true]
 have hout:∀ n,A6 L n=false->σ2 n=σ n:=fun n h=>by rw [hσ2];simp only [h,cond_false]
 have hk1:∀ n,A6 L n=true->MD K n=true/\noD n s=true:=fun n h=>by
  have:=List.all_eq_true.1 hks n (Jc h)
  simpa only [Bool.and_eq_true] using this
 have hno:∀ n,A6 L n=true->get s.h n=none:=fun n h=>YA (hk1 n h).2
 have hold:∀ (x:Nat),(A6 L x=true->False)->σ2 x=σ x:=fun x h=>hout x (by cases hm:A6 L x;rfl;exact (h hm).elim)
 have hG:∀ n b,get (iR d V hE s).h n=some b->(A6 L n=true/\get hE n=some b)\/(A6 L n=false/\get s.h n=some b):=fun n b h=>by
  have h:get (hE++s.h) n=some b:=h
  rw [TJ] at h
  cases hg:get hE n with
  | some b2=>rw [hg] at h;simp only at h;exact .inl ⟨hkeys n b2 hg,h⟩
  | none =>
   rw [hg] at h
   simp only at h
   cases hm:A6 L n with
   | true=>rw [hno n hm] at h;cases h
   | false=>exact .inr ⟨rfl,h⟩
 have hMn:∀ b,b<w.heap.size->M b=none->M' b=none:=fun b hb h0=>by
  cases h1:M' b with
  | none=>rfl
  | some o=>have:=hk.new b o h1 h0;omega
 refine ⟨hk.os.trans hs.os,hk.tape.trans hs.tape,hk.output.trans hs.output,Nat.le_trans hs.size hk.size,fun b hb hnx=>(hk.old b (Nat.lt_of_lt_of_le hb hs.size) (fun h=>h)).trans (hs.old b hb hnx),fun b o h=>hk.sub b o (hs.sub b o h),fun b o h h0 => ?_,fun n u hu=>⟨(hs.pin n u hu).1,?_⟩,hs.defers.mono hk.sub,by simpa [Act.put] using hs.room,fun i v hv => ?_,hk.imm,fun n b hn => ?_,fun n b hn => ?_,fun n m b c hn hm hne => ?_⟩
 ·cases h1:M b with
  | some o'=>exact hs.new b o' h1 h0
  | none=>exact Nat.le_trans hs.size (hk.new b o h h1)
 ·rw [hold n fun h=>Sx hX (hk1 n h).1 hu rfl];exact (hs.pin n u hu).2
 ·have hv:get (put s.t d V) i=some v:=hv
  rw [Jh] at hv
  have hput:(a.put (some d) U).tmps.getD i undef=if d=i then U else a.tmps.getD i undef:=Gy hs.room (by omega) U i
  rw [hput]
  by_cases hdi:d=i
  ·rw [if_pos hdi] at hv ⊢
   simp only [Option.some.injEq] at hv
   subst hv
   exact De (fun _ _ h=>h) (fun k hk'=>hin k (UN hV hk')) hR
  rw [if_neg hdi] at hv ⊢
  exact De hk.sub (fun k hk'=>hold k fun h=>by rw [X9 (hk1 k h).2 hv] at hk';cases hk') (hs.tmps i v hv)
 ·rcases hG n b hn with ⟨h1,h2⟩ | ⟨h1,h2⟩
  ·rw [hin n h1]
   exact (hb n b h2).1.mono (fun _ _ h=>h) (fun k hk'=>hin k (UO (List.all_eq_true.1 hEo _ (Cz h2)) hk')) (fun _=>rfl)
  rw [hout n h1]
  exact (hs.blk n b h2).mono hk.sub (fun k hk'=>hold k fun h=>by rw [UW (hk1 k h).2 h2] at hk';cases hk') (fun hnil=>hk.old _ ((hs.blk n b h2).lt hnil) (fun h=>h))
 ·rcases hG n b hn with ⟨h1,h2⟩ | ⟨h1,h2⟩
  ·rw [hin n h1]
   rcases (hb n b h2).2 with h3 | ⟨h3,h4⟩
   ·exact .inl h3
   exact .inr ⟨h4,.inl (Nat.le_trans hs.size h3)⟩
  rw [hout n h1]
  cases hnil:(σ n).nil with
  | true=>exact .inl rfl
  | false =>
   rcases hs.loc n b h2 with h3 | ⟨h3,h4⟩
   ·rw [hnil] at h3;cases h3
   exact .inr ⟨hMn _ ((hs.blk n b h2).lt hnil) h3,h4⟩
 have LI:∀ (n m:Nat) (b c:Blk),get hE n=some b->get s.h m=some c->(σ' n).nil=true\/(σ m).nil=true\/(σ' n).b≠(σ m).b:=fun n m b c h1 h2=>by
  rcases (hb n b h1).2 with h3 | ⟨h3,_⟩
  ·exact .inl h3
  cases hnil:(σ m).nil with
  | true=>exact .inr (.inl rfl)
  | false=>have:=(hs.blk m c h2).lt hnil;exact .inr (.inr (by omega))
 rcases hG n b hn with ⟨h1,h2⟩ | ⟨h1,h2⟩ <;> rcases hG m c hm with ⟨h3,h4⟩ | ⟨h3,h4⟩
 ·rw [hin n h1,hin m h3];exact hi n m b c h2 h4 hne
 ·rw [hin n h1,hout m h3];exact LI n m b c h2 h4
 ·rw [hout n h1,hin m h3]
  rcases LI m n c b h4 h2 with h | h | h
  ·exact .inr (.inl h)
  ·exact .inl h
  exact .inr (.inr (Ne.symm h))
 rw [hout n h1,hout m h3];exact hs.inj n m b c h2 h4 hne
structure CallS (P:Program) (o:Oper) (s:AS) (f:FuncId) (xs:List Av) (d:Nat):Prop where
 op:∃ c g,o.op=.call c/\c.callee=.value g/\(∃ caps,evT (get s.t) g=some (.av (.one (.clo f 0 caps))))/\Ep (evT (get s.t)) c.args.toList=some xs
 eg:∀ args w,(callFunc f args).run P w=.ok (.enter f args) w
 gd:o.guard=none
 dst:o.dst=some d
theorem Hs {K:List Nat} {ops:Array Oper} {o:Oper} {l:List Oper} {Kk:AS->Prop} {f:FuncId} {xs:List Av} {d:Nat} {ι:Type} {I:ι->Prop} {V:ι->Tv} {hE:ι->List (Nat×Blk)} (S:ι->AS) (hX:Cu X W0 K) (hc:CallS P o s f xs d) (hF:Frs P f xs I V hE) (hok:∀ x,pF N K d (V x) (hE x) s=true) (hS:∀ x,iR d (V x) (hE x) s=S x)
  (h:∀ x,I x->AWL P rd N W0 X M0 ops l Kk (S x)):AWL P rd N W0 X M0 ops (o::l) Kk s:=by
 intro M σ a w hs Q' hQ'
 refine wpListIn_step fun K0 hK' => ?_
 obtain ⟨⟨c,g,ho,hcf,⟨caps,hf⟩,hxs⟩,heg,hgd,hdst⟩:=hc
 rw [if_pos (by simp [Region.wanted,hgd])]
 have hev:∀ x v,evT (get s.t) x=some v->RT M σ v (a.eval x):=fun x v hv=>GL hs.tmps hv
 obtain ⟨caps',hfv,hsz,hcaps⟩:=hev g _ hf
 have hargs:=Ib hev _ _ hxs
 have hce:caps' = #[]:=Array.eq_empty_of_size_eq_zero (by simpa using hsz)
 subst hce
 have hmap:c.args.map a.eval=(c.args.toList.map a.eval).toArray:=by apply Array.ext';simp
 have hres:(resolve a.eval c o.type).run P w=.ok { target:=.fn (.func f) #[],args:=(c.args.toList.map a.eval).toArray } w:=by
  simp only [resolve,hcf,hfv,Deferred.ofValue,hmap]
  simp
 have hd:XW P o a w fun U w'=>∃ (x:ι) (M':Nat->Option Obj) (σ':Nat->Loc),I x/\Fp w w' M M' J2/\(∀ n b,get (hE x) n=some b->Bq M' σ' w' (σ' n) b/\((σ' n).nil=true\/(w.heap.size<=(σ' n).b/\M' (σ' n).b=none))) /\
  (∀ n m b c,get (hE x) n=some b->get (hE x) m=some c->n≠m->(σ' n).nil=true\/(σ' m).nil=true\/(σ' n).b≠(σ' m).b)/\RT M' σ' (V x) U:=by
  refine .inr (.inr ⟨f,(c.args.toList.map a.eval).toArray,?_,?_⟩)
  ·simp only [execOp,ho,Sem.run_bind,hres,Result.andThen_ok,invoke,Array.append_empty]
   exact heg _ _
  exact hF M σ w _ hs.imm hargs
 refine hd.wp (fun U w' ⟨x,M',σ',h1,h2,h3,h4,h5⟩ => ?_) (fun c' hc'=>by rw [ho] at hc';cases hc')
 rw [hdst]
 have:=Yu hX (hok x) hs h2 h3 h4 h5
 rw [hS x] at this
 exact hK' _ _ (h x h1 _ _ _ _ this Q' hQ')
end
open Go.RowKit
def Fg:List Bool->Code->Option Code
 | [],c=>some c
 | false::p,.seq c _=>Fg p c
 | true::p,.seq _ c=>Fg p c
 | _,_=>none
section
variable {P:Program} {rd:Option Nat} {N:Nat} {W0:World} {X:Nat→Option Loc} {M0:Nat→Option Obj} {Q:Exit→AS→Prop} {s:AS}
def NN (P:Program) (N:Nat) (L:List Nat) (c:Code) {ι:Type} (I:ι->Prop) (S0:(Nat->Value)->AS) (S1:(Nat->Value)->ι->AS):Prop :=
 ∀ (W1:World) (M1:Nat->Option Obj) (X1:Nat->Option Loc) (v:Nat->Value),Cu X1 W1 L->Ph X1->AWp P none N W1 X1 M1 c (fun e s'=>∃ t,Cv N W1 X1 M1 s' t/\e=.normal/\∃ x,I x/\t=S1 v x) (S0 v)
theorem B5 {c:Code} {ι:Type} {I:ι->Prop} {S0:(Nat->Value)->AS} {S1:(Nat->Value)->ι->AS} (q:Nat) (l:List Cl) (ty:TypeId) (m:List Bool) (T1 K1:List Nat) (tE:ι->List (Nat×Tv)) (lE:ι->List Cl) (hE:ι->List (Nat×Blk)) (S:ι->AS) (hX:Cu X W0 []) (hF:Ph X) (core:NN P N (q::K1) c I S0 S1) (hQ:∀ x,I x->Q .normal (S x))
  (hq:get s.h q=some (.cells l ty):=by kernel_rfl) (hN:(q::K1).all (fun n=>Nat.ble N n)=true:=by kernel_rfl) (hN2:Nat.ble N 299999=true:=by kernel_rfl) (hno:noD 299999 s=true:=by kernel_rfl) (hK:A6 (q::K1) 299999=false:=by kernel_rfl) (hchk:∀ x,pC q K1 m s l (tE x) (lE x) (hE x)=true:=by intro _;kernel_rfl)
  (h0:∀ v,(⟨FD s.t T1,(q,.cells (Di v 0 m l) ty)::FD s.h K1⟩:AS)=S0 v:=by intro _;kernel_rfl) (h1:∀ v x,S1 v x=⟨tE x,(q,.cells (Di v 0 m (lE x)) ty)::hE x⟩:=by intro _ _;kernel_rfl)
  (h2:∀ x,(⟨tE x,(q,.cells (O8 m l (lE x)) ty)::(hE x++Il (q::K1) s.h)⟩:AS)=S x:=by intro _;kernel_rfl):AWp P none N W0 X M0 c Q s:=by
 refine gY q l ty m T1 K1 hX hF I tE lE hE hq hN hN2 hno hK hchk (fun W1 M1 X1 v hP hFl=>EF ?_) fun x hx=>by rw [h2 x];exact hQ x hx
 rw [h0 v]
 refine kX (core W1 M1 X1 v hP hFl) ?_
 rintro e s' ⟨t,h3,h4,x,h5,h6⟩
 exact ⟨t,h3,h4,x,h5,by rw [h6,h1 v x]⟩
end
open Go.RowKit
def mkB (n k:Nat):List Bool:=(List.range n).map fun i => !Nat.beq i k
def lEB (n k:Nat) (c:Cl):List Cl:=(List.range n).map fun i=>bif Nat.beq i k then c else .any
theorem fP {α:Type} {l m:List (Nat×α)} {n:Nat} {v:α} (h:get l n=some v):get (l++m) n=some v:=by
 rw [TJ,h]
open Go.RowKit
theorem kP {V:Tv} {h l m:List (Nat×Blk)} (hh:h=l++m):∃ x:Unit,True/\TvE V V/\∀ n b,get l n=some b->∃ b',get h n=some b'/\HB b' b :=
 ⟨(),trivial,.refl _,fun n b h'=>⟨b,by rw [hh];exact fP h',.refl _⟩⟩
open Go.RowKit
def fzL:List Nat->AS->AS
 | [],s=>s
 | n::r,s=>fzL r (fzN n s)
def kN (K:List Nat):List Nat->AS->Bool
 | [],_=>true
 | n::r,s=>fzK K n s&&kN K r (fzN n s)
def jH:List Nat->AS->List (List (Nat×Nat))
 | [],_=>[]
 | n::r,s=>prS n s::jH r (fzN n s)
def kO:List Nat->AS->List (List (Nat×Nat))
 | [],_=>[]
 | n::r,s=>fzE n s::kO r (fzN n s)
theorem pD {N:Nat} {W0:World} {X:Nat->Option Loc} {M0:Nat->Option Obj} {K:List Nat} (l:List Nat) (hX:Cu X W0 K):∀ {s:AS},kN K l s=true->jH l s=kO l s->Cv N W0 X M0 s (fzL l s):=by
 induction l with
 | nil=>exact fun _ _=>Cv.refl _
 | cons n r ih =>
  intro s h1 h2
  simp only [kN,Bool.and_eq_true] at h1
  simp only [jH,kO,List.cons.injEq] at h2
  exact Cv.trans (XG n hX h1.1 h2.1) (ih h1.2 h2.2)
theorem Bu {N:Nat} {W0:World} {X:Nat->Option Loc} {M0:Nat->Option Obj} {K:List Nat} {s:AS} (l:List Nat) (hX:Cu X W0 K) (hk:kN K l s=true:=by kernel_rfl) (he:jH l s=kO l s:=by kernel_rfl):Cv N W0 X M0 s (fzL l s):=pD l hX hk he
end
end Go.Proofs.Ytdbampcfmjbgmaa
