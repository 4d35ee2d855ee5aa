/-
  No statement is proved in this text. It holds a part of what the proof of ItemsAll needs.
-/
import Derived.Test.YtheobjkgllmnmaaGreatItemsAllQd
namespace Go.Proofs.YtheobjkgllmnmaaGreat
set_option maxRecDepth 100000
set_option linter.unusedVariables false
set_option linter.unusedSimpArgs false
open Go.RowKit
section
open Go.RowKit
def G0(a:AV)(b:AV):(Int×Int×Bool):=bif decide (((min a.To b.To):Int)<(max a.From b.From))then(0,0,false)else(max a.From b.From,min a.To b.To,true)
variable (a:AV)(p:A8)(l:List Al)(b:AV)(na:Int)
def iM:CT:=(22,[.agg (AV.c a),.agg (AV.c b)],.val [] (.tup [.one (.i (G0 a b).1),.one (.i (G0 a b).2.1),.one (.b (G0 a b).2.2)]))
theorem zB(a:AV)(b:AV):PuP 22 (iM a b).2.1 (.tup [.one (.i (G0 a b).1),.one (.i (G0 a b).2.1),.one (.b (G0 a b).2.2)]):=by
 refine pwf Tryz.func22 fun W0 M0=>?_;refine AA<|on<|AA<|od [] [] [] .nil .nil<|AE<|AA<|AA<|on<|kb (decide (((min a.To b.To):Int)<(max a.From b.From))) (fun h1=>?_) (fun h1=>?_)
 ·exact AA<|on<|AO<|Bf<|zl (by simp only[G0,h1,mi,mj]<;>kernel_rfl)
 exact AP<|AE<|AA<|on<|AO<|zl (by simp only[G0,h1,mi,mj]<;>kernel_rfl)
theorem sC(a:AV)(b:AV):OKc (iM a b):=cPu<|zB a b
def eI(a:AV)(b:AV):Bool:=bif bif bif bif bif bif decide ((a.Id:Int)=b.Id)then(a.Pad.toList==b.Pad.toList)else false then decide ((a.Kind:Int)=b.Kind)else false then(a.Net.toList==b.Net.toList)else false then decide ((a.From:Int)=b.From)else false then decide ((a.To:Int)=b.To)else false then Xf a.Shape b.Shape else false
def dR:CT:=(26,[.agg (AV.c a),.agg (AV.c b)],.val [] (.av (.one (.b (eI a b)))))
abbrev WD:=a.Pad.toList==b.Pad.toList
abbrev UN:=(bif bif bif bif bif decide ((a.Id:Int)=b.Id)then(WD a b)else false then decide ((a.Kind:Int)=b.Kind)else false then(a.Net.toList==b.Net.toList)else false then decide ((a.From:Int)=b.From)else false then decide ((a.To:Int)=b.To)else false)
abbrev pI:=(bif bif bif bif decide ((a.Id:Int)=b.Id)then(WD a b)else false then decide ((a.Kind:Int)=b.Kind)else false then(a.Net.toList==b.Net.toList)else false then decide ((a.From:Int)=b.From)else false)
abbrev oR:=(bif bif bif decide ((a.Id:Int)=b.Id)then(WD a b)else false then decide ((a.Kind:Int)=b.Kind)else false then(a.Net.toList==b.Net.toList)else false)
abbrev nE:=(bif bif decide ((a.Id:Int)=b.Id)then(WD a b)else false then decide ((a.Kind:Int)=b.Kind)else false)
theorem fj(a:AV)(b:AV)(h0:(a.Shape.Edges.length:Int)<=1000000)(h1:(b.Shape.Edges.length:Int)<=1000000):PuP 26 (dR a b).2.1 (tO (.b (eI a b))):=by
 refine pwf Tryz.func26 fun W0 M0=>?_;exact AA<|on<|AA<|oc [] (t5 (decide ((a.Id:Int)=b.Id)) (t5 (bif decide ((a.Id:Int)=b.Id)then(WD a b)else false) (t5 (nE a b) []))) .nil (c5 (c5 (c5 .nil)))<|AE<|AA<|oc [(52,P6 a.Shape b.Shape)] (t5 (oR a b) (t5 (pI a b) (t4 (UN a b) [gk (UN a b) (Cp (P6 a.Shape b.Shape).2.1),gt (UN a b)]))) (.cons (fX a.Shape b.Shape au22 au22) .nil) (c5 (c5 (c4 (.cons (fun _=>rfl) (ci .nil)))))<|AE<|AO<|zl
theorem zP(a:AV)(b:AV)(h0:(a.Shape.Edges.length:Int)<=1000000)(h1:(b.Shape.Edges.length:Int)<=1000000):OKc (dR a b):=cPu<|fj a b h0 h1
def Z0G:AQ:=IM (Al.mk (W64 (p.Pitch*(l.getD na.toNat default).X0)) (W64 (p.Pitch*(l.getD na.toNat default).Y0)) (W64 (p.Pitch*(l.getD na.toNat default).X1)) (W64 (p.Pitch*(l.getD na.toNat default).Y1)))
def KL(p:A8)(l:(List Al)):Nat->List AQ->Int->(List AQ)
 |0,_,_=>default
 |n0+1,out,na=>bif decide ((na:Int)<(l.length:Int))then((KL p l n0) (out++[Z0G p l na]) (na+1))else out
def UA(p:A8)(l:(List Al)):(List AQ):=KL p l (((l.length:Int)-0).toNat+1) ([]:List AQ) 0
def dV:CT:=(30,[.agg (A8.c p),.one (lst 4 Al.c l)],.val [] (.av (.one (lst 3 AQ.c (UA p l)))))
theorem f8(p:A8)(l:(List Al))(h0:(l.length:Int)<=1000000):PuP 30 (dV p l).2.1 (tO (lst 3 AQ.c (UA p l))):=by
 refine pwf Tryz.func30 fun W0 M0=>?_;refine AA<|on<|AA<|on<|AA<|AA<|rn ⟨[(2,tP 2 0),(5,.av (.one vN)),(8,tO (lst 4 Al.c l)),(9,tI (l.length:Int)),(10,tI 0)],[(2,.cells (A8.c p) 97)]⟩<|AJ<|AZ (Cv.trans (vg 2000 3 m8 28 [(5,[0])] [] hk0) (Cv.trans (Ag 2000 (Bh 3 m8 AQ.c)) (ck (⟨[(2,tP 2 0),(5,tO (.own 2000 3 ([]:List AQ).length)),(8,tO (lst 4 Al.c l)),(9,tI (l.length:Int)),(10,tI 0)],[(2,.cells (A8.c p) 97),(2000,.row 3 ([]:List AQ).length (AL AQ.c ([]:List AQ)) 28)]⟩))))<|lpC (κ:=List AQ×Int) (fun x=>⟨[(2,tP 2 0),(5,tO (.own 2000 3 x.2.1.length)),(8,tO (lst 4 Al.c l)),(9,tI (l.length:Int)),(10,tI x.2.2)],[(2,.cells (A8.c p) 97),(2000,.row 3 x.2.1.length (AL AQ.c x.2.1) 28)]⟩) (fun x=>((l.length:Int)-x.2.2).toNat) (fun x=>(0<=x.2.2/\(x.2.2<=(l.length:Int)\/x.2.2=0)/\(x.2.1.length:Int)<=0+1*(x.2.2-0))/\KL p l x.1 x.2.1 x.2.2=UA p l) ?_ (((l.length:Int)-0).toNat+1,([]:List AQ),0) ⟨lz _,⟨ax0,ax0,ax0⟩,(by simp only[UA,mi,mj])⟩;rintro n0 ⟨out,na⟩ nq ⟨nm,ng⟩
 try dsimp only at nq nm ng
 refine AA<|on<|AA<|kb (decide ((na:Int)<(l.length:Int))) (fun h1=>?_) (fun h1=>?_)
 ·have g1:=oT h1;refine AP<|AE<|AA<|AJ<|AA<|oc [] [0<=(na:Int)/\(na:Int)<(l.length:Int)] .nil (H1 au0)<|AE<|oo _ [none,out.length=out.length,out.length+1<=maxLen,(out.length+1)*40<=140737488355328] (J1 36 (RD (Al.mk (W64 (p.Pitch*(m7 l na).X0)) (W64 (p.Pitch*(m7 l na).Y0)) (W64 (p.Pitch*(m7 l na).X1)) (W64 (p.Pitch*(m7 l na).Y1))))) (H3 rfl au2 au2)<|Ao<|AE<|AZ (Ag 38 (Ac (AU 3 AQ.c out) (Ai 3 AQ.c ([Z0G p l na]:List AQ))))<|rg ⟨[(2,tP 2 0),(5,tO (.own 38 3 (out++[Z0G p l na]).length)),(8,tO (lst 4 Al.c l)),(9,tI (l.length:Int)),(10,tI (W64 (na+1)))],[(2,.cells (A8.c p) 97),(38,.row 3 (out++[Z0G p l na]).length (AL AQ.c (out++[Z0G p l na])) 28)]⟩ ?_
  (try rw[(show W64 (na+1)=na+1 from Ae oM au5)])
  refine AE ?_;refine⟨(n0,out++[Z0G p l na],na+1),⟨?_,?_,(by rw[<- ng];simp only[KL,h1,mi,mj])⟩,lz _,Cv.trans (vr 38 2000 hk0) (Az kr)⟩
  ·dsimp only;omega
  exact⟨ax0,ax0,ax0⟩
 exact Aw<|Aj<|Aj<|Ay<|AE<|AA<|on<|AO<|zy (vf 2000 hk0) (by rw[<- ng];simp only[KL,h1,mi,mj]<;>kernel_rfl)
theorem zT(p:A8)(l:(List Al))(h0:(l.length:Int)<=1000000):OKc (dV p l):=cPu<|f8 p l h0
def EC(a:(List Ad))(b:(List Ad)):Nat->Int->Bool
 |0,_=>default
 |n0+1,v5=>bif decide ((v5:Int)<(a.length:Int))then(bif bif bif bif !decide (((a.getD v5.toNat default).From:Int)=(b.getD v5.toNat default).From)then true else !decide (((a.getD v5.toNat default).To:Int)=(b.getD v5.toNat default).To)then true else !((a.getD v5.toNat default).Plated==(b.getD v5.toNat default).Plated)then true else !(Js (a.getD v5.toNat default).Shape (b.getD v5.toNat default).Shape)then false else((EC a b n0) (v5+1)))else true
def Du(a:(List Ad))(b:(List Ad)):Bool:=bif !decide (((a.length:Int):Int)=(b.length:Int))then false else(EC a b (((a.length:Int)-0).toNat+1) 0)
def EZ(a:(List Ad))(b:(List Ad)):CT:=(16,[.one (lst 6 Ad.c a),.one (lst 6 Ad.c b)],.val [] (.av (.one (.b (Du a b)))))
abbrev eQ(a:List Ad)(v5:Int):=a.getD v5.toNat default
abbrev eO(b:List Ad)(v5:Int):=b.getD v5.toNat default
abbrev R1(a:List Ad)(v5:Int)(b:List Ad):=(bif bif !decide (((eQ a v5).From:Int)=(eO b v5).From)then true else !decide (((eQ a v5).To:Int)=(eO b v5).To)then true else !((eQ a v5).Plated==(eO b v5).Plated))
abbrev Xk(a:List Ad)(v5:Int)(b:List Ad):=(bif !decide (((eQ a v5).From:Int)=(eO b v5).From)then true else !decide (((eQ a v5).To:Int)=(eO b v5).To))
abbrev Ru(a:List Ad)(v5:Int)(b:List Ad):Bool:=(!decide (((eQ a v5).From:Int)=(eO b v5).From))
theorem cE(a:(List Ad))(b:(List Ad))(h0:(a.length:Int)<=1000000000)(ha:∀k,(((a.getD k default).Shape.Edges.length:Int)<=1000000))(hbb:∀k,(((b.getD k default).Shape.Edges.length:Int)<=1000000)):PuP 16 (EZ a b).2.1 (tO (.b (Du a b))):=by
 refine pwf Tryz.func16 fun W0 M0=>?_;refine AA<|on<|AA<|AA<|on<|kb (!decide (((a.length:Int):Int)=(b.length:Int))) (fun h1=>?_) (fun h1=>?_)
 ·have g1:=B8 h1;exact AA<|on<|AO<|Bf<|zl (by simp only[Du,h1,mi,mj]<;>kernel_rfl)
 have g1:=B3 h1;refine AP<|AE<|AA<|AA<|rn ⟨[(0,tO (lst 6 Ad.c a)),(1,tO (lst 6 Ad.c b)),(5,tI 0)],[]⟩<|AJ<|lpC (κ:=Int) (fun x=>⟨[(0,tO (lst 6 Ad.c a)),(1,tO (lst 6 Ad.c b)),(5,tI x.2)],[]⟩) (fun x=>((a.length:Int)-x.2).toNat) (fun x=>(0<=x.2/\(x.2<=(a.length:Int)\/x.2=0))/\EC a b x.1 x.2=Du a b) ?_ (((a.length:Int)-0).toNat+1,0) ⟨lz _,⟨ax0,ax0⟩,(by simp only[Du,h1,mi,mj])⟩;rintro n0 v5 nq ⟨nm,ng⟩
 try dsimp only at nq nm ng
 refine AA<|AA<|on<|kb (decide ((v5:Int)<(a.length:Int))) (fun h2=>?_) (fun h2=>?_)
 ·have g2:=oT h2;refine AP<|AE<|AA<|AJ<|AA ?_
  refine dw [] [(65,P7 (eQ a v5).Shape (eO b v5).Shape)] ((0<=(v5:Int)/\(v5:Int)<(a.length:Int))::(0<=(v5:Int)/\(v5:Int)<(b.length:Int))::(i2 (Ru a v5 b) ((gj (Ru a v5 b) (0<=(v5:Int)/\(v5:Int)<(a.length:Int)))::(i4 (Ru a v5 b) ((gj (Ru a v5 b) (0<=(v5:Int)/\(v5:Int)<(b.length:Int)))::(i5 (Ru a v5 b) (i2 (Xk a v5 b) ((gj (Xk a v5 b) (0<=(v5:Int)/\(v5:Int)<(a.length:Int)))::(i4 (Xk a v5 b) ((gj (Xk a v5 b) (0<=(v5:Int)/\(v5:Int)<(b.length:Int)))::(i5 (Xk a v5 b) (i2 (R1 a v5 b) ((gj (R1 a v5 b) (0<=(v5:Int)/\(v5:Int)<(a.length:Int)))::(i4 (R1 a v5 b) ((gj (R1 a v5 b) (0<=(v5:Int)/\(v5:Int)<(b.length:Int)))::(i4 (R1 a v5 b) ((gj (R1 a v5 b) (Cp (P7 (eQ a v5).Shape (eO b v5).Shape).2.1))::(i2 (R1 a v5 b) [])))))))))))))))))) ⟨[(0,tO (lst 6 Ad.c a)),(1,tO (lst 6 Ad.c b)),(5,tI v5),(67,tB (bif bif bif !decide (((m7 a v5).From:Int)=(m7 b v5).From)then true else !decide (((m7 a v5).To:Int)=(m7 b v5).To)then true else !((m7 a v5).Plated==(m7 b v5).Plated)then true else !(Js (m7 a v5).Shape (m7 b v5).Shape)))],[]⟩ (.cons (fY (eQ a v5).Shape (eO b v5).Shape (by first|(exact bC hb _)|(exact bJ hb _)|(exact hb.parts)|(exact hb.tracks)|(exact hb.vias)|(exact hb.slots)|(exact hb.nets)|(exact hb.pins)|(exact HJ hb.parts ht)|(exact ha _)|(exact hbb _)|with_reducible assumption|omega|decide|(simp only[j8,j9,d9];omega)|assumption) (by first|(exact bC hb _)|(exact bJ hb _)|(exact hb.parts)|(exact hb.tracks)|(exact hb.vias)|(exact hb.slots)|(exact hb.nets)|(exact hb.pins)|(exact HJ hb.parts ht)|(exact ha _)|(exact hbb _)|with_reducible assumption|omega|decide|(simp only[j8,j9,d9];omega)|assumption)) .nil) (.cons au0 (.cons au0 (c2 (.cons (fun hG=>by first|exact au0|(simp only[ll,lm,mf,me]at hG<;>omega)|(simp at hG<;>omega)|(simp only[ll,lm]at hG;simp only[Bz];omega)) (c4 (.cons (fun hG=>by first|exact au0|(simp only[ll,lm,mf,me]at hG<;>omega)|(simp at hG<;>omega)|(simp only[ll,lm]at hG;simp only[Bz];omega)) (c5 (c2 (.cons (fun hG=>by first|exact au0|(simp only[ll,lm,mf,me]at hG<;>omega)|(simp at hG<;>omega)|(simp only[ll,lm]at hG;simp only[Bz];omega)) (c4 (.cons (fun hG=>by first|exact au0|(simp only[ll,lm,mf,me]at hG<;>omega)|(simp at hG<;>omega)|(simp only[ll,lm]at hG;simp only[Bz];omega)) (c5 (c2 (.cons (fun hG=>by first|exact au0|(simp only[ll,lm,mf,me]at hG<;>omega)|(simp at hG<;>omega)|(simp only[ll,lm]at hG;simp only[Bz];omega)) (c4 (.cons (fun hG=>by first|exact au0|(simp only[ll,lm,mf,me]at hG<;>omega)|(simp at hG<;>omega)|(simp only[ll,lm]at hG;simp only[Bz];omega)) (c4 (.cons (fun _=>rfl) (c2 .nil)))))))))))))))))))<|AE ?_
  refine BC _ rfl (fun h3=>?_) (fun h3=>?_)
  ·exact AA<|on<|AO<|Cm<|Bf<|Bf<|Cm<|Bf<|zl (by rw[<- ng];simp only[EC,h2,h3,mi,mj]<;>kernel_rfl)
  refine AP<|Ao<|AE<|rg ⟨[(0,tO (lst 6 Ad.c a)),(1,tO (lst 6 Ad.c b)),(5,tI (W64 (v5+1)))],[]⟩ ?_
  (try rw[(show W64 (v5+1)=v5+1 from Ae oM au5)])
  refine AE ?_;refine⟨(n0,v5+1),⟨?_,?_,(by rw[<- ng];simp only[EC,h2,h3,mi,mj])⟩,lz _,Az kr⟩
  ·dsimp only;omega
  exact⟨ax0,ax0⟩
 exact Aw<|Aj<|Aj<|Ay<|AE<|AA<|on<|AO<|zl (by rw[<- ng];simp only[EC,h2,mi,mj]<;>kernel_rfl)
theorem JG(a:(List Ad))(b:(List Ad))(h0:(a.length:Int)<=1000000000)(ha:∀k,(((a.getD k default).Shape.Edges.length:Int)<=1000000))(hbb:∀k,(((b.getD k default).Shape.Edges.length:Int)<=1000000)):OKc (EZ a b):=cPu<|cE a b h0 ha hbb
def HX(l:(List Int))(want:(List Int)):Nat->Int->Bool
 |0,_=>default
 |n0+1,nb=>bif decide ((nb:Int)<(l.length:Int))then(bif !decide (((l.getD nb.toNat default):Int)=(want.getD nb.toNat default))then false else((HX l want n0) (nb+1)))else true
def IZ(l:(List Int))(want:(List Int)):Bool:=bif !decide (((l.length:Int):Int)=(want.length:Int))then false else(HX l want (((l.length:Int)-0).toNat+1) 0)
def JM(l:(List Int))(want:(List Int)):CT:=(19,[.one (lst 1 eIn l),.one (lst 1 eIn want)],.val [] (.av (.one (.b (IZ l want)))))
theorem yO(l:(List Int))(want:(List Int))(h0:(l.length:Int)<=1000000000):PuP 19 (JM l want).2.1 (tO (.b (IZ l want))):=by
 refine pwf Tryz.func19 fun W0 M0=>?_;refine AA<|on<|AA<|AA<|on<|kb (!decide (((l.length:Int):Int)=(want.length:Int))) (fun h1=>?_) (fun h1=>?_)
 ·have g1:=B8 h1;exact AA<|on<|AO<|Bf<|zl (by simp only[IZ,h1,mi,mj]<;>kernel_rfl)
 have g1:=B3 h1;refine AP<|AE<|AA<|AA<|rn ⟨[(0,tO (lst 1 eIn l)),(1,tO (lst 1 eIn want)),(12,tI (l.length:Int)),(13,tI 0)],[]⟩<|AJ<|lpC (κ:=Int) (fun x=>⟨[(0,tO (lst 1 eIn l)),(1,tO (lst 1 eIn want)),(12,tI (l.length:Int)),(13,tI x.2)],[]⟩) (fun x=>((l.length:Int)-x.2).toNat) (fun x=>(0<=x.2/\(x.2<=(l.length:Int)\/x.2=0))/\HX l want x.1 x.2=IZ l want) ?_ (((l.length:Int)-0).toNat+1,0) ⟨lz _,⟨ax0,ax0⟩,(by simp only[IZ,h1,mi,mj])⟩;rintro n0 nb nq ⟨nm,ng⟩
 try dsimp only at nq nm ng
 refine AA<|on<|AA<|kb (decide ((nb:Int)<(l.length:Int))) (fun h2=>?_) (fun h2=>?_)
 ·have g2:=oT h2;refine AP<|AE<|AA<|AJ<|AA<|on<|AA<|od [] [] [0<=(nb:Int)/\(nb:Int)<(l.length:Int),0<=(nb:Int)/\(nb:Int)<(want.length:Int)] .nil (H2 au0 au0)<|AE<|kb (!decide (((m7 l nb):Int)=(m7 want nb))) (fun h3=>?_) (fun h3=>?_)
  ·have g3:=B8 h3;exact AA<|on<|AO<|Cm<|Bf<|Bf<|Cm<|Bf<|zl (by rw[<- ng];simp only[HX,h2,h3,mi,mj]<;>kernel_rfl)
  have g3:=B3 h3;refine AP<|Ao<|AE<|rg ⟨[(0,tO (lst 1 eIn l)),(1,tO (lst 1 eIn want)),(12,tI (l.length:Int)),(13,tI (W64 (nb+1)))],[]⟩ ?_
  (try rw[(show W64 (nb+1)=nb+1 from Ae oM au5)])
  refine AE ?_;refine⟨(n0,nb+1),⟨?_,?_,(by rw[<- ng];simp only[HX,h2,h3,mi,mj])⟩,lz _,Az kr⟩
  ·dsimp only;omega
  exact⟨ax0,ax0⟩
 exact Aw<|Aj<|Aj<|Ay<|AE<|AA<|on<|AO<|zl (by rw[<- ng];simp only[HX,h2,mi,mj]<;>kernel_rfl)
theorem Sv(l:(List Int))(want:(List Int))(h0:(l.length:Int)<=1000000000):OKc (JM l want):=cPu<|yO l want h0
def Aq:(AC×(List AN)):=(AC.mk 2 (AQ.mk 0 [] 0) [AD.mk 7 (⟨#[85,49]⟩:my) (⟨#[111,110,101]⟩:my) (AG.mk 100 50) 0 false] [] [AM.mk 3 (⟨#[]⟩) 2 (D7 (AG.mk 1 0) 2)] [Ak.mk 2 (⟨#[]⟩) (AG.mk 20 20) 6 4 1 2] [] [] [AX.mk 9 (D7 (AG.mk 0 5) 3)] [] [] [] [],[AN.mk (⟨#[111,110,101]⟩:my) [Bc.mk (⟨#[80,49]⟩:my) (IM (Al.mk (-4) (-4) 4 4)) (AG.mk 0 0) 4] []])
def Td:CT:=(36,[],.val [] (.tup [.agg (AC.c Aq.1),.one (lst 3 AN.c Aq.2)]))
abbrev Jk:=IM (Al.mk (-4) (-4) 4 4)
abbrev Rm:=D7 (AG.mk 0 5) 3
abbrev Rl:=D7 (AG.mk 1 0) 2
theorem cB  : G4 Tryz.prog 36 (Td ).2.1 (.tup [.agg (AC.c Aq.1),.one (lst 3 AN.c Aq.2)]):=by
 refine pwf Tryz.func36 fun W0 M0=>?_;refine AA<|on<|AA<|oq 5 _ (RD (Al.mk (-4) (-4) 4 4))<|AE<|AA<|on<|AA<|oq 14 _ (MV (AG.mk 1 0) 2)<|AE<|AA<|on<|AA<|oq 23 _ (MV (AG.mk 0 5) 3)<|AE<|AA<|od [] [] [] .nil .nil<|AE<|AO ?_
 exact xl (.tup [.agg [.i 2,.i 0,vN,.i 0,.list true 7 1 (A9 7 1 [.i 7,.s (⟨#[85,49]⟩:my),.s (⟨#[111,110,101]⟩:my),.i 100,.i 50,.i 0,.b false]),vN,.list true 6 1 (A9 6 1 [.i 3,.s (⟨#[]⟩),.i 2,.i Rl.Kind,lst 7 AK.c Rl.Edges,.i Rl.R]),.list true 8 1 (A9 8 1 [.i 2,.s (⟨#[]⟩),.i 20,.i 20,.i 6,.i 4,.i 1,.i 2]),vN,vN,.list true 4 1 (A9 4 1 [.i 9,.i Rm.Kind,lst 7 AK.c Rm.Edges,.i Rm.R]),vN,vN,vN,vN],.one (.list true 3 1 (A9 3 1 [.s (⟨#[111,110,101]⟩:my),.list true 7 1 (A9 7 1 [.s (⟨#[80,49]⟩:my),.i Jk.Kind,lst 7 AK.c Jk.Edges,.i Jk.R,.i 0,.i 0,.i 4]),vN]))]) (De (y:=.tup [.agg [.i 2,.i 0,lst 7 AK.c [],.i 0,lst 7 AD.c [AD.mk 7 (⟨#[85,49]⟩:my) (⟨#[111,110,101]⟩:my) (AG.mk 100 50) 0 false],lst 2 A7.c [],lst 6 AM.c [AM.mk 3 (⟨#[]⟩) 2 Rl],lst 8 Ak.c [Ak.mk 2 (⟨#[]⟩) (AG.mk 20 20) 6 4 1 2],lst 8 A8.c [],lst 5 BA.c [],lst 4 AX.c [AX.mk 9 Rm],lst 2 BG.c [],lst 20 A5.c [],lst 3 As.c [],lst 3 BI.c []],.one (lst 3 AN.c [AN.mk (⟨#[111,110,101]⟩:my) [Bc.mk (⟨#[80,49]⟩:my) Jk (AG.mk 0 0) 4] []])]) (.tup (.cons (.agg (rr2 (.cons (Ca 7 AK.c) (rr (.cons (BO true (BN (c:=AD.c) (xs:=([AD.mk 7 (⟨#[85,49]⟩:my) (⟨#[111,110,101]⟩:my) (AG.mk 100 50) 0 false]:List AD)) rfl kr)) (.cons (Ca 2 A7.c) (.cons (BO true (BN (c:=AM.c) (xs:=([AM.mk 3 (⟨#[]⟩) 2 Rl]:List AM)) rfl kr)) (.cons (BO true (BN (c:=Ak.c) (xs:=([Ak.mk 2 (⟨#[]⟩) (AG.mk 20 20) 6 4 1 2]:List Ak)) rfl kr)) (.cons (Ca 8 A8.c) (.cons (Ca 5 BA.c) (.cons (BO true (BN (c:=AX.c) (xs:=([AX.mk 9 Rm]:List AX)) rfl kr)) (.cons (Ca 2 BG.c) (.cons (Ca 20 A5.c) (.cons (Ca 3 As.c) (.cons (Ca 3 BI.c) .nil))))))))))))))) (.cons (.one (BO true (Dn (c:=AN.c) (xs:=([AN.mk (⟨#[111,110,101]⟩:my) [Bc.mk (⟨#[80,49]⟩:my) Jk (AG.mk 0 0) 4] []]:List AN)) (y:=[[.s (⟨#[111,110,101]⟩:my),.list true 7 1 (A9 7 1 [.s (⟨#[80,49]⟩:my),.i Jk.Kind,lst 7 AK.c Jk.Edges,.i Jk.R,.i 0,.i 0,.i 4]),vN]]) (z:=[[.s (⟨#[111,110,101]⟩:my),lst 7 Bc.c [Bc.mk (⟨#[80,49]⟩:my) Jk (AG.mk 0 0) 4],lst 2 BU.c []]]) rfl kr kr (.cons (rr (.cons (BO true (BN (c:=Bc.c) (xs:=([Bc.mk (⟨#[80,49]⟩:my) Jk (AG.mk 0 0) 4]:List Bc)) rfl kr)) (.cons (Ca 2 BU.c) .nil))) .nil)))) .nil))) (by rfl))
theorem YW  : OKc (Td ):=cPu<|cB
def Th(b:AC)(m9:(List AN)):CT:=(14,[.agg (AC.c b),.one (FT m9)],.val [] (.av (.one (lst 9 AV.c (GG b m9)))))
theorem Wo(b:AC)(m9:(List AN))(hb:Fg b)(ht:B7 m9):OKc (Th b m9):=cPu<|Iu (qAll b m9 hb ht)
def IY(b:AC)(m9:(List AN)):CT:=(17,[.agg (AC.c b),.one (FT m9)],.val [] (.av (.one (lst 6 Ad.c (DA b m9)))))
theorem OR(b:AC)(m9:(List AN))(hb:Fg b)(ht:B7 m9):OKc (IY b m9):=cPu<|Iu (fb b m9 hb ht)
end
theorem jf:Fg Aq.1:=by
 constructor<;>decide
theorem uX:B7 Aq.2:=by
 refine⟨by decide,fun t ht=>?_⟩;rw[show Aq.2=[Aq.2.getD 0 default]from rfl,kl]at ht;subst ht;refine⟨by decide,by decide,fun p hp=>?_,fun g hg=>by cases hg⟩;rw[show(Aq.2.getD 0 default).Pads=[(Aq.2.getD 0 default).Pads.getD 0 default]from rfl,kl]at hp;subst hp;unfold ZV;decide
theorem uN{α:Type}[Inhabited α]{p:α->Bool}{l:List α}(hd:p default=true)(h:l.all p=true)(k:Nat):p (l.getD k default)=true:=ER (p:=fun x=>p x=true) hd (List.all_eq_true.1 h) k
theorem uI{l:List Ad}(h:(l.all fun x=>decide ((x.Shape.Edges.length:Int)<=1000000))=true):∀k,(((l.getD k default).Shape.Edges.length:Int)<=1000000):=fun k=>oT (uN (p:=fun x:Ad=>decide ((x.Shape.Edges.length:Int)<=1000000)) m4 h k)
def Z0H:Bool:=!decide ((((GG Aq.1 Aq.2).length:Int):Int)=3)
def Z0I:AV:=(GG Aq.1 Aq.2).getD 0 default
def Z0J:Bool:=eI Z0I (AV.mk 7 (⟨#[80,49]⟩:my) 1 (⟨#[]⟩) 1 2 (IM (Al.mk 96 46 104 54)))
def Z0K:Bool:=bif Z0J then decide ((((GG Aq.1 Aq.2).getD 1 default).Id:Int)=3)else false
def Z0L:Bool:=bif Z0K then decide ((((GG Aq.1 Aq.2).getD 1 default).From:Int)=2)else false
def Z0M:Bool:=bif Z0L then decide ((((GG Aq.1 Aq.2).getD 2 default).Id:Int)=2)else false
def Z0N:Bool:=bif Z0M then decide ((((GG Aq.1 Aq.2).getD 2 default).Kind:Int)=3)else false
def Z0O:(List Int):=FOn (GG Aq.1 Aq.2) 1
def Z0P:Bool:=bif IZ Z0O [0,2]then IZ (FOn (GG Aq.1 Aq.2) 2) [0,1,2]else false
def Z0R:AQ:=(Aq.1.Slots.getD 0 default).Shape
def Z0S:(Nat->Nat->Cl):=A9 6 3 [.i (D7 (AG.mk 100 50) 2).Kind,lst 7 AK.c (D7 (AG.mk 100 50) 2).Edges,.i (D7 (AG.mk 100 50) 2).R,.i 1,.i 2,.b true,.i (D7 (AG.mk 20 20) 2).Kind,lst 7 AK.c (D7 (AG.mk 20 20) 2).Edges,.i (D7 (AG.mk 20 20) 2).R,.i 1,.i 2,.b true,.i Z0R.Kind,lst 7 AK.c Z0R.Edges,.i Z0R.R,.i 1,.i 2,.b false]
def Z0T:AV:=(GG Aq.1 Aq.2).getD 1 default
def Z0U:AV:=(GG Aq.1 Aq.2).getD 2 default
def Z0V:(List AQ):=UA (A8.mk 0 (⟨#[]⟩) 0 10 0 0 0 []) [Al.mk 1 2 3 4]
def Z0W:Bool:=bif Z0N then(bif Z0P then IZ (FOn (GG Aq.1 Aq.2) 3) []else false)else false
def Z0X:Bool:=bif Z0W then Du (DA Aq.1 Aq.2) [Ad.mk (D7 (AG.mk 100 50) 2) 1 2 true,Ad.mk (D7 (AG.mk 20 20) 2) 1 2 true,Ad.mk Z0R 1 2 false]else false
def Z0Y:Bool:=bif Z0X then(G0 Z0T Z0U).2.2 else false
def Z0Z:Bool:=bif Z0Y then decide (((G0 Z0T Z0U).1:Int)=2)else false
def Z10:Bool:=bif Z0Z then decide (((G0 Z0T Z0U).2.1:Int)=2)else false
def Z11:Bool:=bif Z10 then decide (((Z0V.length:Int):Int)=1)else false
def FH:Bool:=bif Z0H then false else(bif Z11 then Xf (Z0V.getD 0 default) (IM (Al.mk 10 20 30 40))else false)
def VA:CT:=(9,[],.val [] (.av (.one (.b FH))))
abbrev DY:=GG Aq.1 Aq.2
abbrev WR:=[Ad.mk (D7 (AG.mk 100 50) 2) 1 2 true,Ad.mk (D7 (AG.mk 20 20) 2) 1 2 true,Ad.mk Z0R 1 2 false]
abbrev PS:=Al.mk 10 20 30 40
abbrev Vr:=Al.mk 96 46 104 54
abbrev Ra:=IZ Z0O [0,2]
abbrev mH:List Av:=[.one (lst 6 Ad.c (DA Aq.1 Aq.2)),.one (.list true 6 3 Z0S)]
theorem au23{p:Prop}(h:p:=by first|(exact jf)|(exact uX)|(decide +kernel)|(exact uI (by decide +kernel))|with_reducible assumption|omega|decide|(simp only[j8,j9,d9];omega)|assumption):p:=h
theorem jM  : G4 Tryz.prog 9 (VA ).2.1 (tO (.b FH)):=by
 refine pwf Tryz.func9 fun W0 M0=>?_;refine AA<|on<|AA<|oq 12 _ YW<|AE<|AA<|oq 17 _ (Wo Aq.1 Aq.2 au23 au23)<|AE<|AA<|AA<|rn ⟨[(1,tP 1 0),(2,tO (lst 3 AN.c Aq.2)),(3,tO (lst 9 AV.c DY)),(20,tB Z0H)],[(1,.cells (AC.c Aq.1) 41)]⟩<|BC _ rfl (fun h1=>?_) (fun h1=>?_)
 ·exact AA<|on<|AO<|Bf<|zl (by simp only[FH,h1,mi,mj]<;>kernel_rfl)
 refine AP<|AE<|AA ?_
 refine od [] _ [0<=(0:Int)/\(0:Int)<(DY.length:Int),Cp (Tf Vr).2.1,Cp (dR Z0I (AV.mk 7 (⟨#[80,49]⟩:my) 1 (⟨#[]⟩) 1 2 (IM Vr))).2.1,(Z0J=true)->(Z0J=true),(Z0J=true)->(0<=(1:Int)/\(1:Int)<(DY.length:Int)),(Z0J=true)->(Z0J=true),(Z0J=true)->(Z0J=true),(Z0J=true)->(Z0J=true),Z0J=true->(Z0J=true),(Z0K=true)->(Z0K=true),(Z0K=true)->(0<=(1:Int)/\(1:Int)<(DY.length:Int)),(Z0K=true)->(Z0K=true),(Z0K=true)->(Z0K=true),(Z0K=true)->(Z0K=true),Z0K=true->(Z0K=true),(Z0L=true)->(Z0L=true),(Z0L=true)->(0<=(2:Int)/\(2:Int)<(DY.length:Int)),(Z0L=true)->(Z0L=true),(Z0L=true)->(Z0L=true),(Z0L=true)->(Z0L=true),Z0L=true->(Z0L=true),(Z0M=true)->(Z0M=true),(Z0M=true)->(0<=(2:Int)/\(2:Int)<(DY.length:Int)),(Z0M=true)->(Z0M=true),(Z0M=true)->(Z0M=true),(Z0M=true)->(Z0M=true),Z0M=true->(Z0M=true)] (J2 25 27 (RD Vr) (zP Z0I (AV.mk 7 (⟨#[80,49]⟩:my) 1 (⟨#[]⟩) 1 2 (IM Vr)) au23 au23)) (.cons (by decide +kernel) (.cons rfl (.cons rfl (ci (.cons (fun hG=>by first|exact(by decide +kernel)|(simp only[ll,lm,mf,me]at hG<;>omega)|(simp at hG<;>omega)|(simp only[ll,lm]at hG;simp only[Bz];omega)) (ci (ci (ci (ci (ci (.cons (fun hG=>by first|exact(by decide +kernel)|(simp only[ll,lm,mf,me]at hG<;>omega)|(simp at hG<;>omega)|(simp only[ll,lm]at hG;simp only[Bz];omega)) (ci (ci (ci (ci (ci (.cons (fun hG=>by first|exact(by decide +kernel)|(simp only[ll,lm,mf,me]at hG<;>omega)|(simp at hG<;>omega)|(simp only[ll,lm]at hG;simp only[Bz];omega)) (ci (ci (ci (ci (ci (.cons (fun hG=>by first|exact(by decide +kernel)|(simp only[ll,lm,mf,me]at hG<;>omega)|(simp at hG<;>omega)|(simp only[ll,lm]at hG;simp only[Bz];omega)) (ci (ci (ci (ci .nil)))))))))))))))))))))))))))<|AE<|AA ?_
 refine oc [(57,cOn DY 1),(59,ceI [.one (lst 1 eIn Z0O),.one (.list true 1 2 (A9 1 2 [.i 0,.i 2]))] (JM Z0O [0,2])),(62,cOn DY 2),(64,ceI [.one (lst 1 eIn (FOn DY 2)),.one (.list true 1 3 (A9 1 3 [.i 0,.i 1,.i 2]))] (JM (FOn DY 2) [0,1,2])),(68,cOn DY 3),(69,ceI [.one (lst 1 eIn (FOn DY 3)),.one vN] (JM (FOn DY 3) []))] ((Cp (cOn DY 1).2.1)::(Cp (ceI [.one (lst 1 eIn Z0O),.one (.list true 1 2 (A9 1 2 [.i 0,.i 2]))] (JM Z0O [0,2])).2.1)::(gt Ra)::(gk Ra (Cp (cOn DY 2).2.1))::(t2 Ra [gk Ra (Cp (ceI [.one (lst 1 eIn (FOn DY 2)),.one (.list true 1 3 (A9 1 3 [.i 0,.i 1,.i 2]))] (JM (FOn DY 2) [0,1,2])).2.1),gt Ra,(Z0P=true)->(Z0P=true),(Z0P=true)->(Cp (cOn DY 3).2.1),(Z0P=true)->(Z0P=true),(Z0P=true)->(Cp (ceI [.one (lst 1 eIn (FOn DY 3)),.one vN] (JM (FOn DY 3) [])).2.1),Z0P=true->(Z0P=true)])) (.cons (ik DY 1 au23) (.cons (Cq (Sv Z0O [0,2] au23) (.cons (AvE.refl _) (.cons (.one (BO true (BN (c:=eIn) (xs:=([0,2]:List Int)) rfl kr))) .nil))) (.cons (ik DY 2 au23) (.cons (Cq (Sv (FOn DY 2) [0,1,2] au23) (.cons (AvE.refl _) (.cons (.one (BO true (BN (c:=eIn) (xs:=([0,1,2]:List Int)) rfl kr))) .nil))) (.cons (ik DY 3 au23) (.cons (Cq (Sv (FOn DY 3) [] au23) (.cons (AvE.refl _) (.cons (.one (Ca 1 eIn)) .nil))) .nil)))))) (.cons rfl (.cons rfl (ci (.cons (fun _=>rfl) (c2 (.cons (fun _=>rfl) (ci (ci (.cons (fun _=>rfl) (ci (.cons (fun _=>rfl) (ci .nil))))))))))))<|AE<|AA ?_
 refine oe [] _ [none,none,0<=(0:Int)/\(0:Int)<(Aq.1.Slots.length:Int)] (J2 72 75 (MV (AG.mk 100 50) 2) (MV (AG.mk 20 20) 2)) (H1 (by decide +kernel))<|AE<|AA<|oe [] _ [0<=(1:Int)/\(1:Int)<(DY.length:Int),0<=(2:Int)/\(2:Int)<(DY.length:Int),none] (J1 91 (sC Z0T Z0U)) (H2 (by decide +kernel) (by decide +kernel))<|AE<|AA<|oq 98 (ceI [.agg [.i 0,.s (⟨#[]⟩),.i 0,.i 10,.i 0,.i 0,.i 0,vN],.one (.list true 4 1 (A9 4 1 [.i 1,.i 2,.i 3,.i 4]))] (dV (A8.mk 0 (⟨#[]⟩) 0 10 0 0 0 []) [Al.mk 1 2 3 4])) (Cq (zT (A8.mk 0 (⟨#[]⟩) 0 10 0 0 0 []) [Al.mk 1 2 3 4] au23) (.cons (.agg (rr5 (rr2 (.cons (Ca 4 Al.c) .nil)))) (.cons (.one (BO true (BN (c:=Al.c) (xs:=([Al.mk 1 2 3 4]:List Al)) rfl kr))) .nil)))<|AE<|AA ?_
 refine od [] [(106,IY Aq.1 Aq.2),(108,ceI mH (EZ (DA Aq.1 Aq.2) WR)),(131,Tf PS),(132,P6 (Z0V.getD 0 default) (IM PS))] [Z0N=true->(Z0N=true),(Z0W=true)->(Z0W=true),(Z0W=true)->(Z0W=true),(Z0W=true)->(Cp (IY Aq.1 Aq.2).2.1),(Z0W=true)->(Z0W=true),(Z0W=true)->(Z0W=true),(Z0W=true)->(Cp (ceI mH (EZ (DA Aq.1 Aq.2) WR)).2.1),Z0W=true->(Z0W=true),Z0X=true->(Z0X=true),(Z0Y=true)->(Z0Y=true),Z0Y=true->(Z0Y=true),(Z0Z=true)->(Z0Z=true),Z0Z=true->(Z0Z=true),(Z10=true)->(Z10=true),(Z10=true)->(Z10=true),Z10=true->(Z10=true),(Z11=true)->(Z11=true),(Z11=true)->(0<=(0:Int)/\(0:Int)<(Z0V.length:Int)),(Z11=true)->(Z11=true),(Z11=true)->(Z11=true),(Z11=true)->(Cp (Tf PS).2.1),(Z11=true)->(Z11=true),(Z11=true)->(Z11=true),(Z11=true)->(Cp (P6 (Z0V.getD 0 default) (IM PS)).2.1),Z11=true->(Z11=true)] (.cons (OR Aq.1 Aq.2 au23 au23) (.cons (Cq (JG (DA Aq.1 Aq.2) WR au23 au23 au23) (.cons (AvE.refl _) (.cons (.one (BO true (BN (c:=Ad.c) (xs:=(WR:List Ad)) rfl kr))) .nil))) (.cons (RD PS) (.cons (fX (Z0V.getD 0 default) (IM PS) au23 au23) .nil)))) (ci (ci (ci (.cons (fun _=>rfl) (ci (ci (.cons (fun _=>rfl) (ci (ci (ci (ci (ci (ci (ci (ci (ci (ci (.cons (fun hG=>by first|exact(by decide +kernel)|(simp only[ll,lm,mf,me]at hG<;>omega)|(simp at hG<;>omega)|(simp only[ll,lm]at hG;simp only[Bz];omega)) (ci (ci (.cons (fun _=>rfl) (ci (ci (.cons (fun _=>rfl) (ci .nil)))))))))))))))))))))))))<|AE<|AO ?_;exact zl (by simp only[FH,h1,mi,mj]<;>kernel_rfl)
theorem cI  : OKc (VA ):=cPu<|jM
theorem e7:FH=true:=by decide +kernel
section
open Go.RowKit
def Z13:Blk:=.cells Rk 82
variable (m9:List AN)(l:List AG)(k:Int)(x0:AG)(name:my)(r:Al)(x1:Int)
def Z14:Bool:=((m9.getD k.toNat default).Name.toList==name.toList)
def Et(m9:(List AN))(name:my):Nat->Int->(AN×Bool)
 |0,_=>default
 |n0+1,k=>bif decide ((k:Int)<(m9.length:Int))then(bif Z14 m9 k name then(m9.getD k.toNat default,true)else((Et m9 name n0) (k+1)))else(AN.mk (⟨#[]⟩) [] [],false)
def Bq(m9:(List AN))(name:my):(AN×Bool):=Et m9 name (((m9.length:Int)-0).toNat+1) 0
def vU:CT:=(33,[.one (FT m9),.one (.s name)],.val [] (.tup [.agg (AN.c (Bq m9 name).1),.one (.b (Bq m9 name).2)]))
theorem f4(m9:(List AN))(name:my)(h0:(m9.length:Int)<=1000000):PuP 33 (vU m9 name).2.1 (.tup [.agg (AN.c (Bq m9 name).1),.one (.b (Bq m9 name).2)]):=by
 refine pwf Tryz.func33 fun W0 M0=>?_;refine AA<|on<|AA<|AA<|rn ⟨[(0,tO (FT m9)),(1,tO (.s name)),(4,tP 4 0),(6,tI 0)],[(4,Z13)]⟩<|AJ<|lpC (κ:=Int) (fun x=>⟨[(0,tO (FT m9)),(1,tO (.s name)),(4,tP 4 0),(6,tI x.2)],[(4,Z13)]⟩) (fun x=>((m9.length:Int)-x.2).toNat) (fun x=>(0<=x.2/\0<=x.2/\(x.2<=(m9.length:Int)\/x.2=0))/\Et m9 name x.1 x.2=Bq m9 name) ?_ (((m9.length:Int)-0).toNat+1,0) ⟨lz _,⟨ax0,ax0,ax0⟩,(by simp only[Bq,mi,mj])⟩;rintro n0 k nq ⟨nm,ng⟩
 try dsimp only at nq nm ng
 refine AA<|AA<|on<|kb (decide ((k:Int)<(m9.length:Int))) (fun h1=>?_) (fun h1=>?_)
 ·have g1:=oT h1;refine AP<|AE<|AA<|AJ<|AA<|oc [] [0<=(k:Int)/\(k:Int)<(m9.length:Int)] .nil (H1 au0)<|AE<|kb (Z14 m9 k name) (fun h2=>?_) (fun h2=>?_)
  ·exact AA<|oc [] [0<=(k:Int)/\(k:Int)<(m9.length:Int)] .nil (H1 au0)<|AE<|AO<|Cm<|Bf<|Bf<|Cm<|Bf<|zl (by rw[<- ng];simp only[Et,h1,h2,mi,mj]<;>kernel_rfl)
  refine AP<|Ao<|AE<|rg ⟨[(0,tO (FT m9)),(1,tO (.s name)),(4,tP 4 0),(6,tI (W64 (k+1)))],[(4,Z13)]⟩ ?_
  (try rw[(show W64 (k+1)=k+1 from Ae oM oM)])
  refine AE ?_;refine⟨(n0,k+1),⟨?_,?_,(by rw[<- ng];simp only[Et,h1,h2,mi,mj])⟩,lz _,Az kr⟩
  ·dsimp only;omega
  exact⟨ax0,ax0,ax0⟩
 exact Aw<|Aj<|Aj<|Ay<|AE<|AA<|on<|AO<|xl (.tup [.agg Rk,.one (.b false)]) (De (y:=.tup mS) (.tup (.cons (.agg (rr (.cons (Ca 7 Bc.c) (.cons (Ca 2 BU.c) .nil)))) (.cons (AvE.refl _) .nil))) (by rw[<- ng];first|(simp only[Et,h1,mi,mj]<;>rfl)))
theorem RF(m9:(List AN))(name:my)(h0:(m9.length:Int)<=1000000):OKc (vU m9 name):=cPu<|f4 m9 name h0
theorem XJ{α β:Type}[Inhabited α](f:α->Bool)(K:α->β)(D:β)(xs:List α)(g:Nat->Int->β)(hg:∀m (v:Nat),g (m+1) v=bif decide ((v:Int)<(xs.length:Int))then(bif f (xs.getD v default)then K (xs.getD v default)else g m ((v:Int)+1))else D) :
  ∀(k v m:Nat),xs.length-v=k->v<=xs.length->k<m->g m v=match (xs.drop v).find? f with|some x=>K x|none=>D:=by
 intro k;induction k with
 |zero =>
  intro v m hk hv hm;obtain⟨m,rfl⟩:∃k,m=k+1:=⟨m-1,by omega⟩;rw[hg,lk mz,mj,List.drop_eq_nil_of_le mz];rfl
 |succ k ih =>
  intro v m hk hv hm;obtain⟨m,rfl⟩:∃k,m=k+1:=⟨m-1,by omega⟩;have hlt:v<xs.length:=by omega
  have e:xs.getD v default=xs[v]:=by rw[aE,ea hlt];rfl
  rw[hg,lj mz,mi,e,List.drop_eq_getElem_cons hlt,List.find?_cons];cases f xs[v]with
  |true=>rfl
  |false=>exact ih (v+1) m mz mz mz
theorem wK{a c:my}(h:(a.toList==c.toList)=true):a=c:=by have:=(dH a c).1 h;cases this;rfl
theorem Ij(m9:List AN)(name:my):Bq m9 name=CM m9 name:=by
 rw[LG];unfold Bq ZE;have h:=XJ (fun t=>IU t name) (fun t=>((t,true):AN×Bool)) (⟨⟨#[]⟩,[],[]⟩,false) m9 (Et m9 name) (fun m v=>by rw[Et];unfold Z14;rw[l9];rfl) m9.length 0 (((m9.length:Int)-0).toNat+1) rfl (lv _) mz;rw[km]at h;refine h.trans ?_;cases hf:m9.find? (fun t=>IU t name)with
 |none=>rfl
 |some t =>
  have e:t.Name=name:=wK (List.find?_some (p:=fun t=>IU t name) hf);subst e;rfl
theorem Mk{m9:List AN}(h:B7 m9)(name:my):((Bq m9 name).1.Pads.length:Int)<=1000000:=by rw[Ij];exact ND h name
def Z15:Blk:=.cells [.i 0,vN,.i 0] 28
def Z18:AG:=l.getD (Int.tmod (W64 (k+1)) (l.length:Int)).toNat default
abbrev R6:=[AK.mk 1 (l.getD k.toNat default) (Z18 l k) (AG.mk 0 0)]
def MP(l:(List AG)):Nat->List AK->Int->AQ
 |0,_,_=>default
 |n0+1,s_1,k=>bif decide ((k:Int)<(l.length:Int))then((MP l n0) (s_1++[AK.mk 1 (l.getD k.toNat default) (Z18 l k) (AG.mk 0 0)]) (k+1))else(AQ.mk 2 s_1 0)
def Zf(l:(List AG)):AQ:=MP l (((l.length:Int)-0).toNat+1) ([]:List AK) 0
def vT:CT:=(92,[.one (lst 2 AG.c l)],.val [] (.av (.agg (AQ.c (Zf l)))))
abbrev Vj(t_:List (Nat×Tv)):List (Nat×Tv):=(0,tO (lst 2 AG.c l))::(2,tP 2 0)::(3,tP 3 0)::t_
theorem pLoop(l:(List AG))(h0:(l.length:Int)<=1000000):PuP 92 (vT l).2.1 (.av (.agg (AQ.c (Zf l)))):=by
 refine pwf Tryz.func92 fun W0 M0=>?_;refine AA<|on<|AA<|on<|AA<|AA<|rn ⟨(Vj l [(4,tI 0)]),[(2,Z15),(3,.cells [.i 2,vN,.i 0] 28)]⟩<|AJ<|AZ (Cv.trans (vg 2000 7 m8 68 [] [(3,[1])] hk0) (Cv.trans (Ag 2000 (Bh 7 m8 AK.c)) (ck (⟨(Vj l [(4,tI 0)]),[(2,Z15),(3,.cells [.i 2,.own 2000 7 ([]:List AK).length,.i 0] 28),(2000,.row 7 ([]:List AK).length (AL AK.c ([]:List AK)) 68)]⟩))))<|lpC (κ:=List AK×Int) (fun x=>⟨(Vj l [(4,tI x.2.2)]),[(2,Z15),(3,.cells [.i 2,.own 2000 7 x.2.1.length,.i 0] 28),(2000,.row 7 x.2.1.length (AL AK.c x.2.1) 68)]⟩) (fun x=>((l.length:Int)-x.2.2).toNat) (fun x=>(0<=x.2.2/\(x.2.2<=(l.length:Int)\/x.2.2=0)/\(x.2.1.length:Int)<=0+1*(x.2.2-0))/\MP l x.1 x.2.1 x.2.2=Zf l) ?_ (((l.length:Int)-0).toNat+1,([]:List AK),0) ⟨lz _,⟨ax0,ax0,ax0⟩,(by simp only[Zf,mi,mj])⟩;rintro n0 ⟨s_1,k⟩ nq ⟨nm,ng⟩
 try dsimp only at nq nm ng
 refine AA<|AA<|on<|kb (decide ((k:Int)<(l.length:Int))) (fun h1=>?_) (fun h1=>?_)
 ·have g1:=oT h1;refine AP<|AE<|AA<|AJ<|od [] [] [0<=(k:Int)/\(k:Int)<(l.length:Int),((l.length:Int):Int)≠0,0<=(Int.tmod (W64 (k+1)) (l.length:Int):Int)/\(Int.tmod (W64 (k+1)) (l.length:Int):Int)<(l.length:Int),s_1.length=s_1.length,s_1.length+1<=maxLen,(s_1.length+1)*56<=140737488355328] .nil (H6 au0 au11 au0 rfl au2 au2)<|Ao<|AE<|AZ (Ag 28 (Ac (AU 7 AK.c s_1) (Ai 7 AK.c ((R6 l k):List AK))))<|rg ⟨(Vj l [(4,tI (W64 (k+1)))]),[(2,Z15),(3,.cells [.i 2,.own 28 7 (s_1++(R6 l k)).length,.i 0] 28),(28,.row 7 (s_1++(R6 l k)).length (AL AK.c (s_1++(R6 l k))) 68)]⟩ ?_
  (try rw[(show W64 (k+1)=k+1 from Ae oM au5)])
  refine AE ?_;refine⟨(n0,s_1++(R6 l k),k+1),⟨?_,?_,(by rw[<- ng];simp only[MP,h1,mi,mj])⟩,lz _,Cv.trans (vr 28 2000 hk0) (Az kr)⟩
  ·dsimp only;omega
  exact⟨ax0,ax0,ax0⟩
 exact Aw<|Aj<|Aj<|Ay<|AE<|AA<|on<|AO<|zy (vf 2000 hk0) (by rw[<- ng];simp only[MP,h1,mi,mj]<;>kernel_rfl)
theorem io(l:(List AG))(h0:(l.length:Int)<=1000000):OKc (vT l):=cPu<|pLoop l h0
def Z1b:AQ:=Zf [AG.mk r.X0 r.Y0,AG.mk r.X1 r.Y0,AG.mk r.X1 r.Y1,AG.mk r.X0 r.Y1]
def I9(r:Al):AQ:=Z1b r
def Tg:CT:=(41,[.agg (Al.c r)],.val [] (.av (.agg (AQ.c (I9 r)))))
abbrev Z5:=[AG.mk r.X0 r.Y0,AG.mk r.X1 r.Y0,AG.mk r.X1 r.Y1,AG.mk r.X0 r.Y1]
theorem fo(r:Al):PuP 41 (Tg r).2.1 (.av (.agg (AQ.c (I9 r)))):=by
 refine pwf Tryz.func41 fun W0 M0=>?_;exact AA<|on<|AA<|oq 24 (ceI [.one (.list true 2 4 (A9 2 4 [.i r.X0,.i r.Y0,.i r.X1,.i r.Y0,.i r.X1,.i r.Y1,.i r.X0,.i r.Y1]))] (vT (Z5 r))) (Cq (io (Z5 r) au15) (.cons (.one (BO true (BN (c:=AG.c) (xs:=((Z5 r):List AG)) rfl kr))) .nil))<|AE<|AO<|zl
theorem RE(r:Al):OKc (Tg r):=cPu<|fo r
def IP(x0:AG)(x1:Int):AQ:=AQ.mk 1 [AK.mk 1 x0 x0 (AG.mk 0 0)] x1
def dU:CT:=(49,[.agg (AG.c x0),.one (.i x1)],.val [] (.av (.agg (AQ.c (IP x0 x1)))))
theorem f6(x0:AG)(x1:Int):PuP 49 (dU x0 x1).2.1 (.av (.agg (AQ.c (IP x0 x1)))):=by
 refine pwf Tryz.func49 fun W0 M0=>?_;exact AA<|on<|AA<|on<|AO<|xl (.av (.agg [.i 1,.list true 7 1 (A9 7 1 [.i 1,.i x0.X,.i x0.Y,.i x0.X,.i x0.Y,.i 0,.i 0]),.i x1])) (De (y:=.av (.agg [.i 1,lst 7 AK.c [AK.mk 1 x0 x0 (AG.mk 0 0)],.i x1])) (.av (.agg (rr (.cons (BO true (BN (c:=AK.c) (xs:=([AK.mk 1 x0 x0 (AG.mk 0 0)]:List AK)) rfl kr)) (rr .nil))))) (by rfl))
theorem MX(x0:AG)(x1:Int):OKc (dU x0 x1):=cPu<|f6 x0 x1
end
section
open Go.RowKit
theorem wQ{p:Prop}[Decidable p]{q:Bool}(h:(bif q then decide p else false)=true):p:=by
 cases q with
 |true=>exact oT h
 |false=>cases h
theorem Y9{m9:List AN}(h:B7 m9)(name:my):∀k,(((CM m9 name).1.Pads.getD k default).Shape.Edges.length:Int)<=1000000:=by
 rw[LG];unfold ZE;cases hf:m9.find? (fun t=>IU t name)with
 |none=>exact fun k=>(by decide:((0:Nat):Int)<=1000000)
 |some t=>exact fun k=>Sq (h.2 t (List.mem_of_find?_eq_some hf)) k
theorem uO{m9:List AN}(h:B7 m9)(name:my):∀k,(((Bq m9 name).1.Pads.getD k default).Shape.Edges.length:Int)<=1000000:=by rw[Ij];exact Y9 h name
theorem yR{b:AC}(h:∀n∈b.Nets,(n.Pins.length:Int)<=1000000)(k:Nat):((b.Nets.getD k default).Pins.length:Int)<=1000000:=ER (p:=fun n:A7=>(n.Pins.length:Int)<=1000000) m4 h k
def KJ(p:AD):Am:=Am.mk p.At p.Turn p.Under
variable (b:AC)(m9:List AN)(s:AQ)(k:Int)(p:AD)(at_ i:Int)(m:Am)(pad:Bc)
def VI:CT:=(67,[.agg (AD.c p)],.val [] (.av (.agg (Am.c (KJ p)))))
theorem jV(p:AD):PuP 67 (VI p).2.1 (.av (.agg (Am.c (KJ p)))):=by
 refine pwf Tryz.func67 fun W0 M0=>?_;exact AA<|on<|AA<|on<|AO<|zl
theorem Sy(p:AD):OKc (VI p):=cPu<|jV p
def Z1c:Ab:=(b.Nets.getD k.toNat default).Pins.getD i.toNat default
def Z1d(p:Ab):Bool:=(((Z1c b k i).Ref.toList==p.Ref.toList)&&(((Z1c b k i).Pad.toList==p.Pad.toList)&&true))
def Fq(b:AC)(p:Ab)(k:Int)(K0:Int->my):Nat->Int->my
 |0,_=>default
 |n1+1,i=>bif decide ((i:Int)<((b.Nets.getD k.toNat default).Pins.length:Int))then(bif Z1d b k i p then(b.Nets.getD k.toNat default).Name else((Fq b p k K0 n1) (i+1)))else(K0 (k+1))
def Fs(b:AC)(p:Ab):Nat->Int->my
 |0,_=>default
 |n0+1,k=>bif decide ((k:Int)<(b.Nets.length:Int))then(Fq b p k (Fs b p n0) ((((b.Nets.getD k.toNat default).Pins.length:Int)-0).toNat+1) 0)else(⟨#[]⟩:my)
def I8(b:AC)(p:Ab):my:=Fs b p (((b.Nets.length:Int)-0).toNat+1) 0
def vP(p:Ab):CT:=(157,[.agg (CE b),.agg (Ab.c p)],.val [] (.av (.one (.s (I8 b p)))))
abbrev PT(p:Ab):List (Nat×Blk):=[(Dl b),(3,.cells (Ab.c p) 106)]
theorem fc(b:AC)(p:Ab)(hn:(b.Nets.length:Int)<=1000000)(hq:∀n∈b.Nets,(n.Pins.length:Int)<=1000000):PuP 157 (vP b p).2.1 (tO (.s (I8 b p))):=by
 refine pwf Tryz.func157 fun W0 M0=>?_;refine AA<|on<|AA<|AA<|rn ⟨[(2,tP 2 0),(3,tP 3 0),(5,tI 0)],(PT b p)⟩<|AJ<|lpC (κ:=Int) (fun x=>⟨[(2,tP 2 0),(3,tP 3 0),(5,tI x.2)],(PT b p)⟩) (fun x=>((b.Nets.length:Int)-x.2).toNat) (fun x=>(0<=x.2/\(x.2<=(b.Nets.length:Int)\/x.2=0))/\Fs b p x.1 x.2=I8 b p) ?_ (((b.Nets.length:Int)-0).toNat+1,0) ⟨lz _,⟨ax0,ax0⟩,(by simp only[I8,mi,mj])⟩;rintro n0 k nq ⟨nm,ng⟩
 try dsimp only at nq nm ng
 refine AA<|AA<|on<|kb (decide ((k:Int)<(b.Nets.length:Int))) (fun h1=>?_) (fun h1=>?_)
 ·have g1:=oT h1;refine AP<|AE<|AA<|AJ<|AA<|rn ⟨[(2,tP 2 0),(3,tP 3 0),(5,tI k),(6,tI 0)],(PT b p)⟩<|AJ<|lpC (κ:=Int) (fun x=>⟨[(2,tP 2 0),(3,tP 3 0),(5,tI k),(6,tI x.2)],(PT b p)⟩) (fun x=>(((b.Nets.getD k.toNat default).Pins.length:Int)-x.2).toNat) (fun x=>(0<=x.2/\(x.2<=((b.Nets.getD k.toNat default).Pins.length:Int)\/x.2=0))/\Fq b p k (Fs b p n0) x.1 x.2=I8 b p) ?_ ((((b.Nets.getD k.toNat default).Pins.length:Int)-0).toNat+1,0) ⟨lz _,⟨ax0,ax0⟩,(by rw[<- ng];simp only[Fs,h1,mi,mj])⟩;rintro n1 i o0 ⟨ox,np⟩
  try dsimp only at o0 ox np
  have hb1:=yR hq k.toNat;refine AA<|AA<|oc [] [0<=(k:Int)/\(k:Int)<(b.Nets.length:Int)] .nil (H1 au0)<|AE<|kb (decide ((i:Int)<((b.Nets.getD k.toNat default).Pins.length:Int))) (fun h2=>?_) (fun h2=>?_)
  ·have g2:=oT h2;refine AP<|AE<|AA<|AJ<|AA<|od [] [] [0<=(k:Int)/\(k:Int)<(b.Nets.length:Int),0<=(i:Int)/\(i:Int)<((b.Nets.getD k.toNat default).Pins.length:Int)] .nil (H2 au0 au0)<|AE<|kb (Z1d b k i p) (fun h3=>?_) (fun h3=>?_)
   ·exact AA<|oc [] [0<=(k:Int)/\(k:Int)<(b.Nets.length:Int)] .nil (H1 au0)<|AE<|AO<|Cm<|Bf<|Bf<|Cm<|Cm<|Bf<|Bf<|Cm<|Bf<|zl (by rw[<- np];simp only[Fq,h2,h3,mi,mj]<;>kernel_rfl)
   refine AP<|Ao<|AE<|rg ⟨[(2,tP 2 0),(3,tP 3 0),(5,tI k),(6,tI (W64 (i+1)))],(PT b p)⟩ ?_
   (try rw[(show W64 (i+1)=i+1 from Ae oM au5)])
   refine AE ?_;refine⟨(n1,i+1),⟨?_,?_,(by rw[<- np];simp only[Fq,h2,h3,mi,mj])⟩,lz _,Az kr⟩
   ·dsimp only;omega
   exact⟨ax0,ax0⟩
  have g2:=oF h2;refine Aw<|Aj<|Aj<|Ay<|Ao<|AE<|rg ⟨[(2,tP 2 0),(3,tP 3 0),(5,tI (W64 (k+1)))],(PT b p)⟩ ?_
  (try rw[(show W64 (k+1)=k+1 from Ae oM au5)])
  refine AE ?_;refine⟨(n0,k+1),⟨?_,?_,(by rw[<- np];simp only[Fq,h2,mi,mj])⟩,lz _,Az kr⟩
  ·dsimp only;omega
  exact⟨ax0,ax0⟩
 exact Aw<|Aj<|Aj<|Ay<|AE<|AA<|on<|AO<|zl (by rw[<- ng];simp only[Fs,h1,mi,mj]<;>kernel_rfl)
theorem zO(b:AC)(p:Ab)(hn:(b.Nets.length:Int)<=1000000)(hq:∀n∈b.Nets,(n.Pins.length:Int)<=1000000):OKc (vP b p):=cPu<|fc b p hn hq
def Hh(b:AC)(p:AD):Int:=bif p.Under then b.Layers else 1
def iE:CT:=(158,[.agg (CE b),.agg (AD.c p)],.val [] (.av (.one (.i (Hh b p)))))
theorem yL(b:AC)(p:AD):PuP 158 (iE b p).2.1 (tO (.i (Hh b p))):=by
 refine pwf Tryz.func158 fun W0 M0=>?_;refine AA<|on<|AA<|AA<|rn ⟨[(2,tP 2 0),(6,tB p.Under)],[(Dl b)]⟩<|BC p.Under kr (fun h1=>?_) (fun h1=>?_)
 ·exact AA<|on<|AO<|Bf<|zl (by simp only[Hh,h1,mi,mj]<;>kernel_rfl)
 exact AP<|AE<|AA<|on<|AO<|zl (by simp only[Hh,h1,mi,mj]<;>kernel_rfl)
theorem rW(b:AC)(p:AD):OKc (iE b p):=cPu<|yL b p
def Z1e:Blk:=.cells [.i 0,vN,.i 0] 28
def Z1h:AK:=I7 (s.Edges.getD k.toNat default) m
def GS(s:AQ)(m:Am):Nat->List AK->Int->AQ
 |0,_,_=>default
 |n0+1,out_1,k=>bif decide ((k:Int)<(s.Edges.length:Int))then((GS s m n0) (out_1++[Z1h s k m]) (k+1))else(AQ.mk s.Kind out_1 s.R)
def LE(s:AQ)(m:Am):AQ:=GS s m (((s.Edges.length:Int)-0).toNat+1) ([]:List AK) 0
def iO:CT:=(25,[.agg (AQ.c s),.agg (Am.c m)],.val [] (.av (.agg (AQ.c (LE s m)))))
theorem zE(s:AQ)(m:Am)(h0:(s.Edges.length:Int)<=1000000):PuP 25 (iO s m).2.1 (.av (.agg (AQ.c (LE s m)))):=by
 refine pwf Tryz.func25 fun W0 M0=>?_;refine AA<|on<|AA<|on<|AA<|AA<|rn ⟨(Dd [(5,tP 5 0),(6,tI 0)]),[(2,.cells (AQ.c s) 28),(GN m),(4,Z1e),(5,.cells [.i s.Kind,vN,.i s.R] 28)]⟩<|AJ<|AZ (Cv.trans (vg 2000 7 m8 68 [] [(5,[1])] hk0) (Cv.trans (Ag 2000 (Bh 7 m8 AK.c)) (ck (⟨(Dd [(5,tP 5 0),(6,tI 0)]),[(2,.cells (AQ.c s) 28),(GN m),(4,Z1e),(5,.cells [.i s.Kind,.own 2000 7 ([]:List AK).length,.i s.R] 28),(2000,.row 7 ([]:List AK).length (AL AK.c ([]:List AK)) 68)]⟩))))<|lpC (κ:=List AK×Int) (fun x=>⟨(Dd [(5,tP 5 0),(6,tI x.2.2)]),[(2,.cells (AQ.c s) 28),(GN m),(4,Z1e),(5,.cells [.i s.Kind,.own 2000 7 x.2.1.length,.i s.R] 28),(2000,.row 7 x.2.1.length (AL AK.c x.2.1) 68)]⟩) (fun x=>((s.Edges.length:Int)-x.2.2).toNat) (fun x=>(0<=x.2.2/\(x.2.2<=(s.Edges.length:Int)\/x.2.2=0)/\(x.2.1.length:Int)<=0+1*(x.2.2-0))/\GS s m x.1 x.2.1 x.2.2=LE s m) ?_ (((s.Edges.length:Int)-0).toNat+1,([]:List AK),0) ⟨lz _,⟨ax0,ax0,ax0⟩,(by simp only[LE,mi,mj])⟩;rintro n0 ⟨out_1,k⟩ nq ⟨nm,ng⟩
 try dsimp only at nq nm ng
 refine AA<|AA<|on<|kb (decide ((k:Int)<(s.Edges.length:Int))) (fun h1=>?_) (fun h1=>?_)
 ·have g1:=oT h1;refine AP<|AE<|AA<|AJ<|oe [] _ [0<=(k:Int)/\(k:Int)<(s.Edges.length:Int),none,out_1.length=out_1.length,out_1.length+1<=maxLen,(out_1.length+1)*56<=140737488355328] (J1 27 (YR (m7 s.Edges k) m)) (H4 au0 rfl au2 au2)<|Ao<|AE<|AZ (Ag 29 (Ac (AU 7 AK.c out_1) (Ai 7 AK.c ([Z1h s k m]:List AK))))<|rg ⟨(Dd [(5,tP 5 0),(6,tI (W64 (k+1)))]),[(2,.cells (AQ.c s) 28),(GN m),(4,Z1e),(5,.cells [.i s.Kind,.own 29 7 (out_1++[Z1h s k m]).length,.i s.R] 28),(29,.row 7 (out_1++[Z1h s k m]).length (AL AK.c (out_1++[Z1h s k m])) 68)]⟩ ?_
  (try rw[(show W64 (k+1)=k+1 from Ae oM au5)])
  refine AE ?_;refine⟨(n0,out_1++[Z1h s k m],k+1),⟨?_,?_,(by rw[<- ng];simp only[GS,h1,mi,mj])⟩,lz _,Cv.trans (vr 29 2000 hk0) (Az kr)⟩
  ·dsimp only;omega
  exact⟨ax0,ax0,ax0⟩
 exact Aw<|Aj<|Aj<|Ay<|AE<|AA<|on<|AO<|zy (vf 2000 hk0) (by rw[<- ng];simp only[GS,h1,mi,mj]<;>kernel_rfl)
theorem sF(s:AQ)(m:Am)(h0:(s.Edges.length:Int)<=1000000):OKc (iO s m):=cPu<|zE s m h0
abbrev mK:List Cl:=[.i 0,.s (⟨#[]⟩),.i 0,.s (⟨#[]⟩),.i 0,.i 0,.i 0,vN,.i 0]
def Z1j:Blk:=.cells mK 61
def Z1k(p:AD)(pad:Bc)(b:AC):Blk:=.cells [.i p.Id,.s pad.Name,.i 1,.s (I8 b (Ab.mk p.Ref pad.Name)),.i 1,.i b.Layers,.i 0,vN,.i 0] 61
def Ot(b:AC)(p:AD)(pad:Bc):AV:=AV.mk p.Id pad.Name 1 (I8 b (Ab.mk p.Ref pad.Name)) (bif decide ((pad.Drill:Int)=0)then(Hh b p)else 1) (bif decide ((pad.Drill:Int)=0)then(Hh b p)else b.Layers) (LE pad.Shape (KJ p))
def iH:CT:=(114,[.agg (CE b),.agg (AD.c p),.agg (Bc.c pad)],.val [] (.av (.agg (AV.c (Ot b p pad)))))
abbrev Z2:List (Nat×Tv):=[(4,tP 4 0),(5,tP 5 0),(6,tP 6 0),(7,tP 7 0)]
theorem yQ(b:AC)(p:AD)(pad:Bc)(hn:(b.Nets.length:Int)<=1000000)(hq:∀n∈b.Nets,(n.Pins.length:Int)<=1000000)(he:(pad.Shape.Edges.length:Int)<=1000000):PuP 114 (iH b p pad).2.1 (.av (.agg (AV.c (Ot b p pad)))):=by
 refine pwf Tryz.func114 fun W0 M0=>?_;refine AA<|on<|AA<|oe [] _ [none] (J1 18 (zO b (Ab.mk p.Ref pad.Name) au15 au15)) .nil<|AE<|AA<|AA<|rn ⟨[(3,tP 3 0),(4,tP 4 0),(5,tP 5 0),(6,tP 6 0),(7,tP 7 0),(24,tB (decide ((pad.Drill:Int)=0)))],[(3,.cells (CE b) 41),(4,.cells (AD.c p) 78),(5,.cells (Bc.c pad) 102),(6,Z1j),(7,Z1k p pad b)]⟩<|B4 (⟨Z2,[(4,.cells (AD.c p) 78),(5,.cells (Bc.c pad) 102),(6,.cells mK 61),(7,.cells [.i p.Id,.s pad.Name,.i 1,.s (I8 b (Ab.mk p.Ref pad.Name)),.i (bif decide ((pad.Drill:Int)=0)then(Hh b p)else 1),.i (bif decide ((pad.Drill:Int)=0)then(Hh b p)else b.Layers),.i 0,vN,.i 0] 61)]⟩) ?_ ?_
 ·refine BC _ rfl (fun h1=>?_) (fun h1=>?_)
  ·refine AA<|oq 27 _ (rW b p)<|AE<|rn ⟨Z2,[(4,.cells (AD.c p) 78),(5,.cells (Bc.c pad) 102),(6,Z1j),(7,.cells [.i p.Id,.s pad.Name,.i 1,.s (I8 b (Ab.mk p.Ref pad.Name)),.i (Hh b p),.i (Hh b p),.i 0,vN,.i 0] 61)]⟩<|Az ?_
   first|rfl|(simp only[h1,mi,mj]<;>rfl)
  refine AP<|AE<|Cv.trans (ck (⟨Z2,[(4,.cells (AD.c p) 78),(5,.cells (Bc.c pad) 102),(6,Z1j),(7,Z1k p pad b)]⟩)) (Az ?_)
  first|rfl|(simp only[h1,mi,mj]<;>rfl)
 exact AA<|oe [] _ [none,none] (J2 35 36 (Sy p) (sF pad.Shape (KJ p) au15)) .nil<|AE<|AA<|on<|AO<|zl
theorem rZ(b:AC)(p:AD)(pad:Bc)(hn:(b.Nets.length:Int)<=1000000)(hq:∀n∈b.Nets,(n.Pins.length:Int)<=1000000)(he:(pad.Shape.Edges.length:Int)<=1000000):OKc (iH b p pad):=cPu<|yQ b p pad hn hq he
def Z1l(out:List AD)(at_:Int)(b:AC)(k:Int):Tv:=.av (.one (.own 49 7 (((out.take (at_:Int).toNat)++[b.Parts.getD k.toNat default])++(out.drop (at_:Int).toNat)).length))
def Z1m(out:List AD)(at_:Int)(b:AC)(k:Int):Blk:=.row 7 (((out.take (at_:Int).toNat)++[b.Parts.getD k.toNat default])++(out.drop (at_:Int).toNat)).length (AL AD.c (((out.take (at_:Int).toNat)++[b.Parts.getD k.toNat default])++(out.drop (at_:Int).toNat))) 78
def Ey(b:AC)(out:List AD)(k:Int)(K0:List AD->Int->(List AD)):Nat->Int->(List AD)
 |0,_=>default
 |n1+1,at_=>bif bif decide ((0:Int)<at_)then decide (((b.Parts.getD k.toNat default).Id:Int)<(out.getD (at_-1).toNat default).Id)else false then((Ey b out k K0 n1) (at_-1))else(K0 (((out.take (at_:Int).toNat)++[b.Parts.getD k.toNat default])++(out.drop (at_:Int).toNat)) (k+1))
def ET(b:AC):Nat->List AD->Int->(List AD)
 |0,_,_=>default
 |n0+1,out,k=>bif decide ((k:Int)<(b.Parts.length:Int))then(Ey b out k (ET b n0) ((out.length:Int).toNat+1) (out.length:Int))else out
def B5(b:AC):(List AD):=ET b (((b.Parts.length:Int)-0).toNat+1) [] 0
def ZQ:CT:=(113,[.agg (CE b)],.val [] (.av (.one (lst 7 AD.c (B5 b)))))
abbrev Bx:Nat×Blk:=(1,.cells (CE b) 41)
abbrev Dz:Bool:=(decide ((0:Int)<at_))
abbrev Pb:List (Nat×Tv):=[(1,tP 1 0),(3,.av (.one vN)),(4,tI 0)]
abbrev Kc:=b.Parts.getD k.toNat default
theorem au4{p:Prop}(h:p:=by first|omega|(unfold maxLen;omega)|(simp only[kG,kF,kE,Wu];omega)):p:=h
theorem rN(b:AC)(hp:(b.Parts.length:Int)<=1000000):PuP 113 (ZQ b).2.1 (tO (lst 7 AD.c (B5 b))):=by
 refine pwf Tryz.func113 fun W0 M0=>?_;refine AA<|on<|AA<|on<|AA<|AA<|rn ⟨Pb,[(Bx b)]⟩<|AJ<|AZ (DD (⟨[(1,tP 1 0),(3,tO (lst 7 AD.c [])),(4,tI 0)],[(Bx b)]⟩) (rz (.cons ⟨rfl,.av (.one (Ca 7 AD.c))⟩ lr)) lr)<|lpC (κ:=List AD×Int) (fun x=>⟨[(1,tP 1 0),(3,tO (lst 7 AD.c x.2.1)),(4,tI x.2.2)],[(Bx b)]⟩) (fun x=>((b.Parts.length:Int)-x.2.2).toNat) (fun x=>((x.2.1.length:Int)=x.2.2/\0<=x.2.2/\(x.2.2<=(b.Parts.length:Int)\/x.2.2=0))/\ET b x.1 x.2.1 x.2.2=B5 b) ?_ (((b.Parts.length:Int)-0).toNat+1,[],0) ⟨lz _,⟨ax0,ax0,ax0⟩,(by simp only[B5,mi,mj])⟩;rintro n0 ⟨out,k⟩ nq ⟨nm,ng⟩
 try dsimp only at nq nm ng
 refine AA<|AA<|on<|kb (decide ((k:Int)<(b.Parts.length:Int))) (fun h1=>?_) (fun h1=>?_)
 ·have g1:=oT h1;refine AP<|AE<|AA<|AJ<|AA<|rn ⟨[(1,tP 1 0),(3,tO (lst 7 AD.c out)),(4,tI k),(5,tI (out.length:Int))],[(Bx b)]⟩<|AA<|AJ<|lpC (κ:=Int) (fun x=>⟨[(1,tP 1 0),(3,tO (lst 7 AD.c out)),(4,tI k),(5,tI x.2)],[(Bx b)]⟩) (fun x=>x.2.toNat) (fun x=>(0<=x.2/\x.2<=(out.length:Int))/\Ey b out k (ET b n0) x.1 x.2=B5 b) ?_ ((out.length:Int).toNat+1,(out.length:Int)) ⟨lz _,⟨ax0,ax0⟩,(by rw[<- ng];simp only[ET,h1,mi,mj])⟩;rintro n1 at_ o0 ⟨ox,np⟩
  try dsimp only at o0 ox np
  refine AA<|AA<|dw [] [] (t3 (Dz at_) ((gk (Dz at_) (0<=(W64 (at_-1):Int)/\(W64 (at_-1):Int)<(out.length:Int)))::(t5 (Dz at_) ((gk (Dz at_) (0<=(k:Int)/\(k:Int)<(b.Parts.length:Int)))::(t5 (Dz at_) []))))) ⟨[(1,tP 1 0),(3,tO (lst 7 AD.c out)),(4,tI k),(5,tI at_),(31,tB (bif decide ((0:Int)<at_)then decide (((Kc b k).Id:Int)<(out.getD (W64 (at_-1)).toNat default).Id)else false))],[(Bx b)]⟩ .nil (c3 (.cons (fun hG=>by first|exact oM|(simp only[ll,lm,mf,me]at hG<;>omega)|(simp at hG<;>omega)|(simp only[ll,lm]at hG;simp only[Bz];omega)) (c5 (.cons (fun hG=>by first|exact oM|(simp only[ll,lm,mf,me]at hG<;>omega)|(simp at hG<;>omega)|(simp only[ll,lm]at hG;simp only[Bz];omega)) (c5 .nil))))) ?_
  (try rw[(show W64 (at_-1)=at_-1 from Ae oM oM)])
  refine AE<|BC _ rfl (fun h2=>?_) (fun h2=>?_)
  ·have g2:=Fl h2;refine AP<|AE<|AJ<|rg ⟨[(1,tP 1 0),(3,tO (lst 7 AD.c out)),(4,tI k),(5,tI (W64 (at_-1)))],[(Bx b)]⟩ ?_
   (try rw[(show W64 (at_-1)=at_-1 from Ae oM oM)])
   refine Ao<|AE ?_;refine⟨(n1,at_-1),⟨?_,?_,(by rw[<- np];simp only[Ey,h2,mi,mj])⟩,lz _,Az kr⟩
   ·dsimp only;omega
   exact⟨ax0,ax0⟩
  refine Aw<|Aj<|Aj<|Ay<|AE<|od [34] [] [0<=(0:Int)/\(0:Int)<=(at_:Int)/\(at_:Int)<=(out.length:Int),0=0,0+((at_:Int).toNat-(0:Int).toNat)<=maxLen,(0+((at_:Int).toNat-(0:Int).toNat))*72<=140737488355328,0<=(k:Int)/\(k:Int)<(b.Parts.length:Int),0+((at_:Int).toNat-(0:Int).toNat)=0+((at_:Int).toNat-(0:Int).toNat),(0+((at_:Int).toNat-(0:Int).toNat))+1<=maxLen,((0+((at_:Int).toNat-(0:Int).toNat))+1)*72<=140737488355328,0<=(at_:Int)/\(at_:Int)<=((out.length:Int):Int)/\((out.length:Int):Int)<=(out.length:Int),(0+((at_:Int).toNat-(0:Int).toNat))+1=(0+((at_:Int).toNat-(0:Int).toNat))+1,((0+((at_:Int).toNat-(0:Int).toNat))+1)+(((out.length:Int):Int).toNat-(at_:Int).toNat)<=maxLen,(((0+((at_:Int).toNat-(0:Int).toNat))+1)+(((out.length:Int):Int).toNat-(at_:Int).toNat))*72<=140737488355328] .nil (.cons oM (.cons rfl (.cons au4 (.cons au4 (.cons oM (.cons rfl (.cons au4 (.cons au4 (.cons oM (.cons rfl (.cons au4 (.cons au4 .nil))))))))))))<|Ao<|AE ?_
  refine AZ (Ag 49 (Ac (Ac (Ac (Ai 7 AD.c (([]:List AD):List AD)) (FF (b:=at_) (AU 7 AD.c out) (by have hc:=(show 0<=(0:Int)/\(0:Int)<=(at_:Int)/\(at_:Int)<=(out.length:Int)from oM);exact hc.2.1) (by have hc:=(show 0<=(0:Int)/\(0:Int)<=(at_:Int)/\(at_:Int)<=(out.length:Int)from oM);exact hc.2.2))) (Ai 7 AD.c ([m7 b.Parts k]:List AD))) (jC (a:=at_) (AU 7 AD.c out) (by have hc:=(show 0<=(at_:Int)/\(at_:Int)<=((out.length:Int):Int)/\((out.length:Int):Int)<=(out.length:Int)from oM);exact hc.1) (by have hc:=(show 0<=(at_:Int)/\(at_:Int)<=((out.length:Int):Int)/\((out.length:Int):Int)<=(out.length:Int)from oM);exact hc.2.1))))<|rg ⟨[(1,tP 1 0),(3,Z1l out at_ b k),(4,tI (W64 (k+1)))],[(Bx b),(49,Z1m out at_ b k)]⟩ ?_
  (try rw[(show W64 (k+1)=k+1 from Ae oM au5)])
  refine AE ?_;refine⟨(n0,((out.take (at_:Int).toNat)++[m7 b.Parts k])++(out.drop (at_:Int).toNat),k+1),⟨?_,?_,(by rw[<- np];simp only[Ey,h2,mi,mj])⟩,lz _,Cv.trans (vf 49 hk0) (Az kr)⟩
  ·dsimp only;omega
  exact(by show((((out.take (at_:Int).toNat)++[m7 b.Parts k])++(out.drop (at_:Int).toNat)).length:Int)=(k+1)/\0<=(k+1)/\((k+1)<=(b.Parts.length:Int)\/(k+1)=0);(simp only[d9,ki,List.length_drop,j8,j9];omega))
 exact Aw<|Aj<|Aj<|Ay<|AE<|AA<|on<|AO<|zl (by rw[<- ng];simp only[ET,h1,mi,mj]<;>kernel_rfl)
theorem kC(b:AC)(hp:(b.Parts.length:Int)<=1000000):OKc (ZQ b):=cPu<|rN b hp
theorem cC(b:AC)(out:List AD)(k:Nat)(K0:List AD->Int->List AD):∀(j m:Nat),j<m->Ey b out k K0 m j=K0 (out.take (HN (fun y=>decide ((b.Parts.getD k default).Id<y.Id)) out j)++[b.Parts.getD k default]++out.drop (HN (fun y=>decide ((b.Parts.getD k default).Id<y.Id)) out j)) ((k:Int)+1):=by
 intro j;induction j with
 |zero =>
  intro m hm;obtain⟨m,rfl⟩:∃k,m=k+1:=⟨m-1,by omega⟩;rw[Ey];simp only[l9];rfl
 |succ j ih =>
  intro m hm;obtain⟨m,rfl⟩:∃k,m=k+1:=⟨m-1,by omega⟩;rw[Ey,HN,lj (show(0:Int)<((j+1:Nat):Int)by omega),mi];have e:(((j+1:Nat):Int)-1)=(j:Int):=by omega
  rw[e];simp only[l9];cases decide ((b.Parts.getD k default).Id<(out.getD j default).Id)with
  |true=>exact ih m oM
  |false=>rfl
theorem Qq(b:AC):B5 b=CY (fun x y=>decide (x.Id<y.Id)) b.Parts:=by
 have h:=F7 b.Parts (W7 fun x y:AD=>decide (x.Id<y.Id)) (ET b) (fun acc _=>acc) (fun m acc v=>by
  rw[ET,cC b acc v (ET b m) acc.length _ mz];unfold W7;rw[List.append_assoc];rfl) b.Parts.length 0 (((((b.Parts.length:Int)))-0).toNat+1) [] rfl (lv _) mz
 rw[km]at h;exact h
theorem Sp(b:AC):B5 b=DM b.Parts:=by
 rw[Qq,Ze];congr 1;funext x y;unfold Qp Dk Jr
 by_cases h:x.Id<y.Id<;>by_cases k:y.Id<x.Id<;>simp[h,k]
theorem YJ(b:AC):(B5 b).length=b.Parts.length:=by rw[Qq];exact Cu _ _
def Z1n:Tv:=.av (.one (lst 7 AD.c (B5 b)))
def Z1q(m9:(List AN))(b:AC)(k:Int):AN:=(Bq m9 ((B5 b).getD k.toNat default).Type').1
def Z1r(m9:(List AN))(b:AC)(k:Int):Tv:=tB (Bq m9 ((B5 b).getD k.toNat default).Type').2
def Z1s(m9:(List AN))(b:AC)(k:Int):Blk:=.cells (AN.c (Z1q m9 b k)) 82
def Z1t(m9:(List AN))(b:AC)(k:Int)(i:Int):Bc:=(Z1q m9 b k).Pads.getD i.toNat default
def Z1u(b:AC)(k:Int)(m9:(List AN))(i:Int):AV:=Ot b ((B5 b).getD k.toNat default) (Z1t m9 b k i)
def Fc(b:AC)(m9:(List AN))(out:List AV)(k:Int)(K0:List AV->Int->(List AV)):Nat->List AV->Int->(List AV)
 |0,_,_=>default
 |n1+1,out',i=>bif bif (Bq m9 ((B5 b).getD k.toNat default).Type').2 then decide ((i:Int)<((Z1q m9 b k).Pads.length:Int))else false then((Fc b m9 out k K0 n1) (out'++[Z1u b k m9 i]) (i+1))else(K0 out' (k+1))
def Dv(b:AC)(m9:(List AN)):Nat->List AV->Int->(List AV)
 |0,_,_=>default
 |n0+1,out,k=>bif decide ((k:Int)<((B5 b).length:Int))then(Fc b m9 out k (Dv b m9 n0) ((((Z1q m9 b k).Pads.length:Int)-0).toNat+1) out 0)else out
def Ds(b:AC)(m9:(List AN)):(List AV):=Dv b m9 ((((B5 b).length:Int)-0).toNat+1) ([]:List AV) 0
theorem au30{p:Prop}(h:p:=by first|(exact Mk ht _)|(exact uO ht _ _)|with_reducible assumption|omega|decide|(simp only[j8,j9,d9];omega)|assumption):p:=h
theorem yE(b:AC)(m9:(List AN))(hp:b.Parts.length<20)(ht:B7 m9)(hn:(b.Nets.length:Int)<=1000000)(hq:∀n∈b.Nets,(n.Pins.length:Int)<=1000000):Fr Tryz.prog 55 [.agg (CE b),.one (lst 3 AN.c m9)] (.row 9 (Ds b m9).length (AL AV.c (Ds b m9)) 61) (fun d=>tO (.own d 9 (Ds b m9).length)):=by
 refine DC Tryz.func55 rfl kr (Df _ _) fun W0 M0=>?_;have ht1:=ht.1;have hl:=YJ b;refine AA<|on<|AA<|on<|AA<|oq 12 _ (kC b au30)<|AE<|AA<|AA<|rn ⟨[(D8 m9),(2,tP 2 0),(5,.av (.one vN)),(6,Z1n b),(7,tI 0)],[(Dl b)]⟩<|AJ<|AZ (Cv.trans (vg 2000 9 m8 61 [(5,[0])] [] hk0) (Cv.trans (Ag 2000 (Bh 9 m8 AV.c)) (ck (⟨[(D8 m9),(2,tP 2 0),(5,.av (.one (.own 2000 9 ([]:List AV).length))),(6,Z1n b),(7,tI 0)],[(Dl b),(2000,.row 9 ([]:List AV).length (AL AV.c ([]:List AV)) 61)]⟩))))<|lpC (κ:=List AV×Int) (fun x=>⟨[(D8 m9),(2,tP 2 0),(5,tO (.own 2000 9 x.2.1.length)),(6,Z1n b),(7,tI x.2.2)],[(Dl b),(2000,.row 9 x.2.1.length (AL AV.c x.2.1) 61)]⟩) (fun x=>(((B5 b).length:Int)-x.2.2).toNat) (fun x=>((x.2.1.length:Int)<=1000000*x.2.2/\0<=x.2.2/\(x.2.2<=((B5 b).length:Int)\/x.2.2=0))/\Dv b m9 x.1 x.2.1 x.2.2=Ds b m9) ?_ ((((B5 b).length:Int)-0).toNat+1,([]:List AV),0) ⟨lz _,⟨ax0,ax0,ax0⟩,(by simp only[Ds,mi,mj])⟩;rintro n0 ⟨out,k⟩ nq ⟨nm,ng⟩
 try dsimp only at nq nm ng
 refine AA<|AA<|on<|kb (decide ((k:Int)<((B5 b).length:Int))) (fun h1=>?_) (fun h1=>?_)
 ·have g1:=oT h1;refine AP<|AE<|AA<|AJ<|AA<|oo _ [0<=(k:Int)/\(k:Int)<((B5 b).length:Int),none] (J1 26 (RF m9 (m7 (B5 b) k).Type' au30)) (H1 au0)<|AE<|AA<|rn ⟨[(D8 m9),(2,tP 2 0),(5,tO (.own 2000 9 out.length)),(6,Z1n b),(7,tI k),(8,tP 8 0),(9,Z1r m9 b k),(10,tI 0)],[(Dl b),(8,Z1s m9 b k),(2000,.row 9 out.length (AL AV.c out) 61)]⟩<|AJ<|lpC (κ:=List AV×Int) (fun x=>⟨[(D8 m9),(2,tP 2 0),(5,tO (.own 2000 9 x.2.1.length)),(6,Z1n b),(7,tI k),(8,tP 8 0),(9,Z1r m9 b k),(10,tI x.2.2)],[(Dl b),(8,Z1s m9 b k),(2000,.row 9 x.2.1.length (AL AV.c x.2.1) 61)]⟩) (fun x=>(((Z1q m9 b k).Pads.length:Int)-x.2.2).toNat) (fun x=>(0<=x.2.2/\x.2.2<=((Z1q m9 b k).Pads.length:Int)/\(x.2.1.length:Int)<=1000000*k+x.2.2/\0<=x.2.2)/\Fc b m9 out k (Dv b m9 n0) x.1 x.2.1 x.2.2=Ds b m9) ?_ ((((Z1q m9 b k).Pads.length:Int)-0).toNat+1,out,0) ⟨lz _,⟨ax0,ax0,ax0,ax0⟩,(by rw[<- ng];simp only[Dv,h1,mi,mj])⟩;rintro n1 ⟨out',i⟩ o0 ⟨ox,np⟩
  try dsimp only at o0 ox np
  have hb1:((Z1q m9 b k).Pads.length:Int)<=1000000:=Mk ht (m7 (B5 b) k).Type';refine AA<|AA<|oc [] (t5 ((Bq m9 (m7 (B5 b) k).Type').2) []) .nil (c5 .nil)<|AE<|kb (bif (Bq m9 (m7 (B5 b) k).Type').2 then decide ((i:Int)<((Z1q m9 b k).Pads.length:Int))else false) (fun h2=>?_) (fun h2=>?_)
  ·have g2:=wQ h2;refine AP<|AE<|AA<|AJ<|oe [] _ [0<=(k:Int)/\(k:Int)<((B5 b).length:Int),0<=(i:Int)/\(i:Int)<((Z1q m9 b k).Pads.length:Int),none,out'.length=out'.length,out'.length+1<=maxLen,(out'.length+1)*104<=140737488355328] (J1 50 (rZ b (m7 (B5 b) k) (Z1t m9 b k i) au30 au30 au30)) (H5 au0 au0 rfl au4 au4)<|Ao<|AE<|AZ (Ag 52 (Ac (AU 9 AV.c out') (Ai 9 AV.c ([Z1u b k m9 i]:List AV))))<|rg ⟨[(D8 m9),(2,tP 2 0),(5,tO (.own 52 9 (out'++[Z1u b k m9 i]).length)),(6,Z1n b),(7,tI k),(8,tP 8 0),(9,Z1r m9 b k),(10,tI (W64 (i+1)))],[(Dl b),(8,Z1s m9 b k),(52,.row 9 (out'++[Z1u b k m9 i]).length (AL AV.c (out'++[Z1u b k m9 i])) 61)]⟩ ?_
   (try rw[(show W64 (i+1)=i+1 from Ae oM oM)])
   refine AE ?_;refine⟨(n1,out'++[Z1u b k m9 i],i+1),⟨?_,?_,(by rw[<- np];simp only[Fc,h2,mi,mj])⟩,lz _,Cv.trans (vr 52 2000 hk0) (Az kr)⟩
   ·dsimp only;omega
   exact⟨ax0,ax0,ax0,ax0⟩
  refine Aw<|Aj<|Aj<|Ay<|Ao<|AE<|rg ⟨[(D8 m9),(2,tP 2 0),(5,tO (.own 2000 9 out'.length)),(6,Z1n b),(7,tI (W64 (k+1)))],[(Dl b),(2000,.row 9 out'.length (AL AV.c out') 61)]⟩ ?_
  (try rw[(show W64 (k+1)=k+1 from Ae oM au5)])
  refine AE ?_;refine⟨(n0,out',k+1),⟨?_,?_,(by rw[<- np];simp only[Fc,h2,mi,mj])⟩,lz _,Az kr⟩
  ·dsimp only;omega
  exact⟨ax0,ax0,ax0⟩
 exact Aw<|Aj<|Aj<|Ay<|AE<|AA<|on<|AO<|xl (tO (.own 2000 9 out.length)) (frE (c:=AV.c) (xs:=out) (by rw[<- ng];first|(simp only[Dv,h1,mi,mj]<;>rfl)) kr)
def bt:CT:=(55,[.agg (CE b),.one (FT m9)],.new [] (.row 9 (Ds b m9).length (AL AV.c (Ds b m9)) 61) (fun d=>.av (.one (.own d 9 (Ds b m9).length))))
theorem sE(b:AC)(m9:(List AN))(hp:b.Parts.length<20)(ht:B7 m9)(hn:(b.Nets.length:Int)<=1000000)(hq:∀n∈b.Nets,(n.Pins.length:Int)<=1000000):OKc (bt b m9):=DQ (fun _ _=>kr) (yE b m9 hp ht hn hq)
end
section
open Go.RowKit
abbrev Vu:=(AL AM.c ([]:List AM))
variable (out:List AM)(at_:Int)(b:AC)(k:Int)(s:AQ)
def Z1y:Blk:=.row 6 out.length (AL AM.c out) 131
abbrev UM:=AQ.mk 0 [] 0
abbrev GV:=out++[AM.mk 0 (⟨#[]⟩) 0 UM]
abbrev OE:=(LP (GV out) (W64 (at_+1):Int).toNat (at_:Int).toNat (Nat.min ((((GV out).length:Int):Int).toNat-(at_:Int).toNat) ((((GV out).length:Int):Int).toNat-(W64 (at_+1):Int).toNat)))
def Z1A:Tv:=.av (.one (.own 37 6 (OE out at_).length))
abbrev Lj:=b.Tracks.getD k.toNat default
def Z1B:Tv:=.av (.one (.own 37 6 ((OE out at_).set at_.toNat (Lj b k)).length))
def Z1C:Blk:=.row 6 ((OE out at_).set at_.toNat (Lj b k)).length (AL AM.c ((OE out at_).set at_.toNat (Lj b k))) 131
def GY(b:AC)(out:List AM)(k:Int)(K0:List AM->Int->(List AM)):Nat->Int->(List AM)
 |0,_=>default
 |n1+1,at_=>bif bif decide ((0:Int)<at_)then decide (((b.Tracks.getD k.toNat default).Id:Int)<(out.getD (at_-1).toNat default).Id)else false then((GY b out k K0 n1) (at_-1))else(K0 ((LP (out++[AM.mk 0 (⟨#[]⟩) 0 (AQ.mk 0 [] 0)]) (W64 (at_+1):Int).toNat (at_:Int).toNat (Nat.min ((((out++[AM.mk 0 (⟨#[]⟩) 0 (AQ.mk 0 [] 0)]).length:Int):Int).toNat-(at_:Int).toNat) ((((out++[AM.mk 0 (⟨#[]⟩) 0 (AQ.mk 0 [] 0)]).length:Int):Int).toNat-(W64 (at_+1):Int).toNat))).set at_.toNat (b.Tracks.getD k.toNat default)) (k+1))
def Fa(b:AC):Nat->List AM->Int->(List AM)
 |0,_,_=>default
 |n0+1,out,k=>bif decide ((k:Int)<(b.Tracks.length:Int))then(GY b out k (Fa b n0) ((out.length:Int).toNat+1) (out.length:Int))else out
def BS(b:AC):(List AM):=Fa b (((b.Tracks.length:Int)-0).toNat+1) ([]:List AM) 0
abbrev Vh(t_:List (Nat×Tv)):List (Nat×Tv):=(1,tP 1 0)::(3,tO (.own 2000 6 out.length))::(4,tI k)::t_
theorem au7{p:Prop}(h:p:=by first|omega|(simp only[d9,j8,j9];omega)|(simp only[L0,OT,hw9,d9,j8,j9];omega)):p:=h
theorem au17{p:Prop}(h:p:=by first|(simp;done)|(simp;omega)):p:=h
theorem qR(b:AC)(hp:(b.Tracks.length:Int)<=1000000):Fr Tryz.prog 56 [.agg (CE b)] (.row 6 (BS b).length (AL AM.c (BS b)) 131) (fun d=>tO (.own d 6 (BS b).length)):=by
 refine DC Tryz.func56 rfl kr (Df _ _) fun W0 M0=>?_;refine AA<|on<|AA<|on<|AA<|AA<|rn ⟨Pb,[(Bx b)]⟩<|AJ<|AZ (Cv.trans (vg 2000 6 m8 131 [(3,[0])] [] hk0) (Cv.trans (Ag 2000 (Bh 6 m8 AM.c)) (ck (⟨[(1,tP 1 0),(3,.av (.one (.own 2000 6 ([]:List AM).length))),(4,tI 0)],[(Bx b),(2000,.row 6 ([]:List AM).length Vu 131)]⟩))))<|lpC (κ:=List AM×Int) (fun x=>⟨[(1,tP 1 0),(3,tO (.own 2000 6 x.2.1.length)),(4,tI x.2.2)],[(Bx b),(2000,.row 6 x.2.1.length (AL AM.c x.2.1) 131)]⟩) (fun x=>((b.Tracks.length:Int)-x.2.2).toNat) (fun x=>((x.2.1.length:Int)=x.2.2/\0<=x.2.2/\(x.2.2<=(b.Tracks.length:Int)\/x.2.2=0))/\Fa b x.1 x.2.1 x.2.2=BS b) ?_ (((b.Tracks.length:Int)-0).toNat+1,([]:List AM),0) ⟨lz _,⟨ax0,ax0,ax0⟩,(by simp only[BS,mi,mj])⟩;rintro n0 ⟨out,k⟩ nq ⟨nm,ng⟩
 try dsimp only at nq nm ng
 refine AA<|AA<|on<|kb (decide ((k:Int)<(b.Tracks.length:Int))) (fun h1=>?_) (fun h1=>?_)
 ·have g1:=oT h1;refine AP<|AE<|AA<|AJ<|AA<|rn ⟨(Vh out k [(5,tI (out.length:Int))]),[(Bx b),(2000,Z1y out)]⟩<|AA<|AJ<|lpC (κ:=Int) (fun x=>⟨(Vh out k [(5,tI x.2)]),[(Bx b),(2000,Z1y out)]⟩) (fun x=>x.2.toNat) (fun x=>(0<=x.2/\x.2<=(out.length:Int))/\GY b out k (Fa b n0) x.1 x.2=BS b) ?_ ((out.length:Int).toNat+1,(out.length:Int)) ⟨lz _,⟨ax0,ax0⟩,(by rw[<- ng];simp only[Fa,h1,mi,mj])⟩;rintro n1 at_ o0 ⟨ox,np⟩
  try dsimp only at o0 ox np
  have hw9:W64 (at_+1)=at_+1:=Ae oM oM;refine AA<|AA ?_;refine dw [] [] (t3 (Dz at_) ((gk (Dz at_) (0<=(k:Int)/\(k:Int)<(b.Tracks.length:Int)))::(t5 (Dz at_) ((gk (Dz at_) (0<=(W64 (at_-1):Int)/\(W64 (at_-1):Int)<(out.length:Int)))::(t2 (Dz at_) ((gk (Dz at_) ((W64 (at_-1)).toNat<out.length))::(t3 (Dz at_) []))))))) ⟨(Vh out k [(5,tI at_),(31,tB (bif decide ((0:Int)<at_)then decide (((Lj b k).Id:Int)<(out.getD (W64 (at_-1)).toNat default).Id)else false))]),[(Bx b),(2000,Z1y out)]⟩ .nil (c3 (.cons (fun hG=>by first|exact au7|(simp only[ll,lm,mf,me]at hG<;>omega)|(simp at hG<;>omega)|(simp only[ll,lm]at hG;simp only[Bz];omega)) (c5 (.cons (fun hG=>by first|exact au7|(simp only[ll,lm,mf,me]at hG<;>omega)|(simp at hG<;>omega)|(simp only[ll,lm]at hG;simp only[Bz];omega)) (c2 (.cons (fun hG=>by first|exact au7|(simp only[ll,lm,mf,me]at hG<;>omega)|(simp at hG<;>omega)|(simp only[ll,lm]at hG;simp only[Bz];omega)) (c3 .nil))))))) ?_
  (try rw[(show W64 (at_-1)=at_-1 from Ae oM oM)])
  refine AE<|BC _ rfl (fun h2=>?_) (fun h2=>?_)
  ·have g2:=Fl h2;refine AP<|AE<|AJ<|rg ⟨(Vh out k [(5,tI (W64 (at_-1)))]),[(Bx b),(2000,Z1y out)]⟩ ?_
   (try rw[(show W64 (at_-1)=at_-1 from Ae oM oM)])
   refine Ao<|AE ?_;refine⟨(n1,at_-1),⟨?_,?_,(by rw[<- np];simp only[GY,h2,mi,mj])⟩,lz _,Az kr⟩
   ·dsimp only;omega
   exact⟨ax0,ax0⟩
  refine Aw<|Aj<|Aj<|Ay<|AE<|AA<|rc [] [out.length=out.length,out.length+1<=maxLen,(out.length+1)*72<=140737488355328] ⟨[(1,tP 1 0),(3,tO (.own 37 6 (out.length+1))),(4,tI k),(5,tI at_)],[(Bx b),(37,.row 6 (out.length+1) (fun i_ j_=>if i_<out.length then(AL AM.c out) i_ j_ else(A9 6 1 [.i 0,.s (⟨#[]⟩),.i 0,.i 0,vN,.i 0]) (i_-out.length) j_) 131)]⟩ .nil (H3 rfl au4 au4)<|AE<|AZ (DD (⟨[(1,tP 1 0),(3,.av (.one (.own 37 6 (GV out).length))),(4,tI k),(5,tI at_)],[(Bx b),(37,.row 6 (GV out).length (AL AM.c (GV out)) 131)]⟩) (rz (.cons ⟨rfl,.av (.one (.own _ _ au17))⟩ lr)) (rz (.cons ⟨rfl,CS 131 (Ac (AU 6 AM.c out) (Dn (c:=AM.c) (xs:=([AM.mk 0 (⟨#[]⟩) 0 UM]:List AM)) (y:=[[.i 0,.s (⟨#[]⟩),.i 0,.i 0,vN,.i 0]]) (z:=[[.i 0,.s (⟨#[]⟩),.i 0,.i 0,lst 7 AK.c [],.i 0]]) rfl kr kr (.cons (rr4 (.cons (Ca 7 AK.c) (rr .nil))) .nil)))⟩ .nil)))<|AA ?_
  refine od [] [] [(GV out).length=(GV out).length,0<=(W64 (at_+1):Int)/\(W64 (at_+1):Int)<=(((GV out).length:Int):Int)/\(((GV out).length:Int):Int)<=((GV out).length:Int),(GV out).length=(GV out).length,0<=(at_:Int)/\(at_:Int)<=(((GV out).length:Int):Int)/\(((GV out).length:Int):Int)<=((GV out).length:Int),(W64 (at_+1):Int).toNat+((((GV out).length:Int):Int).toNat-(W64 (at_+1):Int).toNat)<=(GV out).length,(at_:Int).toNat+((((GV out).length:Int):Int).toNat-(at_:Int).toNat)<=(GV out).length] .nil (H6 rfl au7 rfl au7 au7 au7)<|AE<|AZ (Ag 37 (MR (lo1:=(W64 (at_+1):Int).toNat) (m1:=(((GV out).length:Int):Int).toNat-(W64 (at_+1):Int).toNat) (lo2:=(at_:Int).toNat) (m2:=(((GV out).length:Int):Int).toNat-(at_:Int).toNat) (AU 6 AM.c (GV out)) au7 au7))<|oc [] [0<=(k:Int)/\(k:Int)<(b.Tracks.length:Int),0<=(at_:Int)/\(at_:Int)<((OE out at_).length:Int),at_.toNat<(OE out at_).length] .nil (H3 au7 au7 au7)<|Ao<|AE ?_;refine AZ (Ag 37 (DU (l:=(AM.c (Lj b k))) (off:=0) (q:=6) (k:=at_.toNat) (AU 6 AM.c (OE out at_)) au7 (Lj b k) (Do kr)))<|rg ⟨[(1,tP 1 0),(3,Z1B out at_ b k),(4,tI (W64 (k+1)))],[(Bx b),(37,Z1C out at_ b k)]⟩ ?_
  (try rw[(show W64 (k+1)=k+1 from Ae oM au5)])
  refine AE ?_;refine⟨(n0,(OE out at_).set at_.toNat (Lj b k),k+1),⟨?_,?_,(by rw[<- np];simp only[GY,h2,mi,mj])⟩,lz _,Cv.trans (vr 37 2000 hk0) (Az kr)⟩
  ·dsimp only;omega
  exact(by show(((OE out at_).set at_.toNat (Lj b k)).length:Int)=(k+1)/\0<=(k+1)/\((k+1)<=(b.Tracks.length:Int)\/(k+1)=0);(simp only[L0,OT,hw9,kj,d9,j8,j9];omega))
 exact Aw<|Aj<|Aj<|Ay<|AE<|AA<|on<|AO<|xl (tO (.own 2000 6 out.length)) (frE (c:=AM.c) (xs:=out) (by rw[<- ng];first|(simp only[Fa,h1,mi,mj]<;>rfl)) kr)
def vK:CT:=(56,[.agg (CE b)],.new [] (.row 6 (BS b).length (AL AM.c (BS b)) 131) (fun d=>.av (.one (.own d 6 (BS b).length))))
theorem kA(b:AC)(hp:(b.Tracks.length:Int)<=1000000):OKc (vK b):=DQ (fun _ _=>kr) (qR b hp)
abbrev R0:=[Ak.mk 0 (⟨#[]⟩) (AG.mk 0 0) 0 0 0 0]
abbrev Hm(out:List Ak):=out++R0
abbrev OG(out:List Ak)(at_:Int):=(LP (Hm out) (W64 (at_+1):Int).toNat (at_:Int).toNat (Nat.min ((((Hm out).length:Int):Int).toNat-(at_:Int).toNat) ((((Hm out).length:Int):Int).toNat-(W64 (at_+1):Int).toNat)))
def Z1G(out:List Ak)(at_:Int):Tv:=.av (.one (.own 37 8 (OG out at_).length))
abbrev Lh:=b.Vias.getD k.toNat default
def Z1H(out:List Ak)(at_:Int)(b:AC)(k:Int):Tv:=.av (.one (.own 37 8 ((OG out at_).set at_.toNat (Lh b k)).length))
def Z1I(out:List Ak)(at_:Int)(b:AC)(k:Int):Blk:=.row 8 ((OG out at_).set at_.toNat (Lh b k)).length (AL Ak.c ((OG out at_).set at_.toNat (Lh b k))) 133
def Ih(b:AC)(out:List Ak)(k:Int)(K0:List Ak->Int->(List Ak)):Nat->Int->(List Ak)
 |0,_=>default
 |n1+1,at_=>bif bif decide ((0:Int)<at_)then decide (((b.Vias.getD k.toNat default).Id:Int)<(out.getD (at_-1).toNat default).Id)else false then((Ih b out k K0 n1) (at_-1))else(K0 ((LP (out++[Ak.mk 0 (⟨#[]⟩) (AG.mk 0 0) 0 0 0 0]) (W64 (at_+1):Int).toNat (at_:Int).toNat (Nat.min ((((out++[Ak.mk 0 (⟨#[]⟩) (AG.mk 0 0) 0 0 0 0]).length:Int):Int).toNat-(at_:Int).toNat) ((((out++[Ak.mk 0 (⟨#[]⟩) (AG.mk 0 0) 0 0 0 0]).length:Int):Int).toNat-(W64 (at_+1):Int).toNat))).set at_.toNat (b.Vias.getD k.toNat default)) (k+1))
def HU(b:AC):Nat->List Ak->Int->(List Ak)
 |0,_,_=>default
 |n0+1,out,k=>bif decide ((k:Int)<(b.Vias.length:Int))then(Ih b out k (HU b n0) ((out.length:Int).toNat+1) (out.length:Int))else out
def BD(b:AC):(List Ak):=HU b (((b.Vias.length:Int)-0).toNat+1) ([]:List Ak) 0
abbrev Vw(out:List Ak):List (Nat×Blk):=[(Bx b),(2000,.row 8 out.length (AL Ak.c out) 133)]
abbrev Vf(out:List Ak)(k:Int)(t_:List (Nat×Tv)):List (Nat×Tv):=(1,tP 1 0)::(3,tO (.own 2000 8 out.length))::(4,tI k)::t_
theorem e8(b:AC)(hp:(b.Vias.length:Int)<=1000000):Fr Tryz.prog 58 [.agg (CE b)] (.row 8 (BD b).length (AL Ak.c (BD b)) 133) (fun d=>tO (.own d 8 (BD b).length)):=by
 refine DC Tryz.func58 rfl kr (Df _ _) fun W0 M0=>?_;refine AA<|on<|AA<|on<|AA<|AA<|rn ⟨Pb,[(Bx b)]⟩<|AJ<|AZ (Cv.trans (vg 2000 8 m8 133 [(3,[0])] [] hk0) (Cv.trans (Ag 2000 (Bh 8 m8 Ak.c)) (ck (⟨[(1,tP 1 0),(3,.av (.one (.own 2000 8 ([]:List Ak).length))),(4,tI 0)],[(Bx b),(2000,.row 8 ([]:List Ak).length (AL Ak.c ([]:List Ak)) 133)]⟩))))<|lpC (κ:=List Ak×Int) (fun x=>⟨[(1,tP 1 0),(3,tO (.own 2000 8 x.2.1.length)),(4,tI x.2.2)],[(Bx b),(2000,.row 8 x.2.1.length (AL Ak.c x.2.1) 133)]⟩) (fun x=>((b.Vias.length:Int)-x.2.2).toNat) (fun x=>((x.2.1.length:Int)=x.2.2/\0<=x.2.2/\(x.2.2<=(b.Vias.length:Int)\/x.2.2=0))/\HU b x.1 x.2.1 x.2.2=BD b) ?_ (((b.Vias.length:Int)-0).toNat+1,([]:List Ak),0) ⟨lz _,⟨ax0,ax0,ax0⟩,(by simp only[BD,mi,mj])⟩;rintro n0 ⟨out,k⟩ nq ⟨nm,ng⟩
 try dsimp only at nq nm ng
 refine AA<|AA<|on<|kb (decide ((k:Int)<(b.Vias.length:Int))) (fun h1=>?_) (fun h1=>?_)
 ·have g1:=oT h1;refine AP<|AE<|AA<|AJ<|AA<|rn ⟨(Vf out k [(5,tI (out.length:Int))]),(Vw b out)⟩<|AA<|AJ<|lpC (κ:=Int) (fun x=>⟨(Vf out k [(5,tI x.2)]),(Vw b out)⟩) (fun x=>x.2.toNat) (fun x=>(0<=x.2/\x.2<=(out.length:Int))/\Ih b out k (HU b n0) x.1 x.2=BD b) ?_ ((out.length:Int).toNat+1,(out.length:Int)) ⟨lz _,⟨ax0,ax0⟩,(by rw[<- ng];simp only[HU,h1,mi,mj])⟩;rintro n1 at_ o0 ⟨ox,np⟩
  try dsimp only at o0 ox np
  have hw9:W64 (at_+1)=at_+1:=Ae oM oM;refine AA<|AA<|dw [] [] (t3 (Dz at_) ((gk (Dz at_) (0<=(k:Int)/\(k:Int)<(b.Vias.length:Int)))::(t5 (Dz at_) ((gk (Dz at_) (0<=(W64 (at_-1):Int)/\(W64 (at_-1):Int)<(out.length:Int)))::(t2 (Dz at_) ((gk (Dz at_) ((W64 (at_-1)).toNat<out.length))::(t3 (Dz at_) []))))))) ⟨(Vf out k [(5,tI at_),(31,tB (bif decide ((0:Int)<at_)then decide (((Lh b k).Id:Int)<(out.getD (W64 (at_-1)).toNat default).Id)else false))]),(Vw b out)⟩ .nil (c3 (.cons (fun hG=>by first|exact au7|(simp only[ll,lm,mf,me]at hG<;>omega)|(simp at hG<;>omega)|(simp only[ll,lm]at hG;simp only[Bz];omega)) (c5 (.cons (fun hG=>by first|exact au7|(simp only[ll,lm,mf,me]at hG<;>omega)|(simp at hG<;>omega)|(simp only[ll,lm]at hG;simp only[Bz];omega)) (c2 (.cons (fun hG=>by first|exact au7|(simp only[ll,lm,mf,me]at hG<;>omega)|(simp at hG<;>omega)|(simp only[ll,lm]at hG;simp only[Bz];omega)) (c3 .nil))))))) ?_
  (try rw[(show W64 (at_-1)=at_-1 from Ae oM oM)])
  refine AE<|BC _ rfl (fun h2=>?_) (fun h2=>?_)
  ·have g2:=Fl h2;refine AP<|AE<|AJ<|rg ⟨(Vf out k [(5,tI (W64 (at_-1)))]),(Vw b out)⟩ ?_
   (try rw[(show W64 (at_-1)=at_-1 from Ae oM oM)])
   refine Ao<|AE ?_;refine⟨(n1,at_-1),⟨?_,?_,(by rw[<- np];simp only[Ih,h2,mi,mj])⟩,lz _,Az kr⟩
   ·dsimp only;omega
   exact⟨ax0,ax0⟩
  refine Aw<|Aj<|Aj<|Ay<|AE<|AA<|oc [] [out.length=out.length,out.length+1<=maxLen,(out.length+1)*72<=140737488355328] .nil (H3 rfl au4 au4)<|AE<|AZ (Ag 37 (Ac (AU 8 Ak.c out) (Ai 8 Ak.c (R0:List Ak))))<|AA<|od [] [] [(Hm out).length=(Hm out).length,0<=(W64 (at_+1):Int)/\(W64 (at_+1):Int)<=(((Hm out).length:Int):Int)/\(((Hm out).length:Int):Int)<=((Hm out).length:Int),(Hm out).length=(Hm out).length,0<=(at_:Int)/\(at_:Int)<=(((Hm out).length:Int):Int)/\(((Hm out).length:Int):Int)<=((Hm out).length:Int),(W64 (at_+1):Int).toNat+((((Hm out).length:Int):Int).toNat-(W64 (at_+1):Int).toNat)<=(Hm out).length,(at_:Int).toNat+((((Hm out).length:Int):Int).toNat-(at_:Int).toNat)<=(Hm out).length] .nil (H6 rfl au7 rfl au7 au7 au7)<|AE<|AZ (Ag 37 (MR (lo1:=(W64 (at_+1):Int).toNat) (m1:=(((Hm out).length:Int):Int).toNat-(W64 (at_+1):Int).toNat) (lo2:=(at_:Int).toNat) (m2:=(((Hm out).length:Int):Int).toNat-(at_:Int).toNat) (AU 8 Ak.c (Hm out)) au7 au7)) ?_;refine oc [] [0<=(k:Int)/\(k:Int)<(b.Vias.length:Int),0<=(at_:Int)/\(at_:Int)<((OG out at_).length:Int),at_.toNat<(OG out at_).length] .nil (H3 au7 au7 au7)<|Ao<|AE<|AZ (Ag 37 (DU (l:=(Ak.c (Lh b k))) (off:=0) (q:=8) (k:=at_.toNat) (AU 8 Ak.c (OG out at_)) au7 (Lh b k) (Do kr)))<|rg ⟨[(1,tP 1 0),(3,Z1H out at_ b k),(4,tI (W64 (k+1)))],[(Bx b),(37,Z1I out at_ b k)]⟩ ?_
  (try rw[(show W64 (k+1)=k+1 from Ae oM au5)])
  refine AE ?_;refine⟨(n0,(OG out at_).set at_.toNat (Lh b k),k+1),⟨?_,?_,(by rw[<- np];simp only[Ih,h2,mi,mj])⟩,lz _,Cv.trans (vr 37 2000 hk0) (Az kr)⟩
  ·dsimp only;omega
  exact(by show(((OG out at_).set at_.toNat (Lh b k)).length:Int)=(k+1)/\0<=(k+1)/\((k+1)<=(b.Vias.length:Int)\/(k+1)=0);(simp only[L0,OT,hw9,kj,d9,j8,j9];omega))
 exact Aw<|Aj<|Aj<|Ay<|AE<|AA<|on<|AO<|xl (tO (.own 2000 8 out.length)) (frE (c:=Ak.c) (xs:=out) (by rw[<- ng];first|(simp only[HU,h1,mi,mj]<;>rfl)) kr)
def jg:CT:=(58,[.agg (CE b)],.new [] (.row 8 (BD b).length (AL Ak.c (BD b)) 133) (fun d=>.av (.one (.own d 8 (BD b).length))))
theorem fV(b:AC)(hp:(b.Vias.length:Int)<=1000000):OKc (jg b):=DQ (fun _ _=>kr) (e8 b hp)
def Z1J:Blk:=.cells [.i 0,vN,.i 0] 28
def LD(s:AQ):AQ:=s
def iI:CT:=(57,[.agg (AQ.c s)],.val [] (.av (.agg (AQ.c (LD s)))))
abbrev Vq:List (Nat×Tv):=[(1,tP 1 0),(2,tP 2 0)]
theorem yY(s:AQ)(h0:(s.Edges.length:Int)<=1000000):PuP 57 (iI s).2.1 (.av (.agg (AQ.c (LD s)))):=by
 refine pwf Tryz.func57 fun W0 M0=>?_;exact AA<|rn ⟨Vq,[(1,.cells (AQ.c s) 28),(2,Z1J)]⟩<|AA<|DE C8 [3] [] [] [1,2] [1,2,6] [0=0,0+s.Edges.length<=maxLen,(0+s.Edges.length)*56<=140737488355328] ⟨Vq,[(1,.cells [.i s.Kind,.own 6 7 (0+s.Edges.length),.i s.R] 28),(2,Z1J),(6,.row 7 (0+s.Edges.length) (fun i_ j_=>if i_<0 then(A9 7 0 []) i_ j_ else(AL AK.c s.Edges) (i_-0) j_) 68)]⟩ .nil kr (.cons rfl (.cons au2 (.cons au2 .nil)))<|AE<|AZ (Ag 6 (Ac (Ai 7 AK.c (([]:List AK):List AK)) (AU 7 AK.c s.Edges)))<|AA<|on<|AO<|zy (vf 6 hk0)
theorem YX(s:AQ)(h0:(s.Edges.length:Int)<=1000000):OKc (iI s):=cPu<|yY s h0
end
section
open Go.RowKit
variable (out:List AD)(at_:Int)(b:AC)(k:Int)
def Z1O:Blk:=.row 7 out.length (AL AD.c out) 78
abbrev R7:=[AD.mk 0 (⟨#[]⟩) (⟨#[]⟩) (AG.mk 0 0) 0 false]
abbrev Hn:=out++R7
abbrev OH:=(LP (Hn out) (W64 (at_+1):Int).toNat (at_:Int).toNat (Nat.min ((((Hn out).length:Int):Int).toNat-(at_:Int).toNat) ((((Hn out).length:Int):Int).toNat-(W64 (at_+1):Int).toNat)))
def Z1Q:Tv:=.av (.one (.own 37 7 (OH out at_).length))
def Z1R:Tv:=.av (.one (.own 37 7 ((OH out at_).set at_.toNat (Kc b k)).length))
def Z1S:Blk:=.row 7 ((OH out at_).set at_.toNat (Kc b k)).length (AL AD.c ((OH out at_).set at_.toNat (Kc b k))) 78
def HW(b:AC)(out:List AD)(k:Int)(K0:List AD->Int->(List AD)):Nat->Int->(List AD)
 |0,_=>default
 |n1+1,at_=>bif bif decide ((0:Int)<at_)then decide (((b.Parts.getD k.toNat default).Id:Int)<(out.getD (at_-1).toNat default).Id)else false then((HW b out k K0 n1) (at_-1))else(K0 ((LP (out++[AD.mk 0 (⟨#[]⟩) (⟨#[]⟩) (AG.mk 0 0) 0 false]) (W64 (at_+1):Int).toNat (at_:Int).toNat (Nat.min ((((out++[AD.mk 0 (⟨#[]⟩) (⟨#[]⟩) (AG.mk 0 0) 0 false]).length:Int):Int).toNat-(at_:Int).toNat) ((((out++[AD.mk 0 (⟨#[]⟩) (⟨#[]⟩) (AG.mk 0 0) 0 false]).length:Int):Int).toNat-(W64 (at_+1):Int).toNat))).set at_.toNat (b.Parts.getD k.toNat default)) (k+1))
def GR(b:AC):Nat->List AD->Int->(List AD)
 |0,_,_=>default
 |n0+1,out,k=>bif decide ((k:Int)<(b.Parts.length:Int))then(HW b out k (GR b n0) ((out.length:Int).toNat+1) (out.length:Int))else out
def Bo(b:AC):(List AD):=GR b (((b.Parts.length:Int)-0).toNat+1) ([]:List AD) 0
abbrev Vg(t_:List (Nat×Tv)):List (Nat×Tv):=(1,tP 1 0)::(3,tO (.own 2000 7 out.length))::(4,tI k)::t_
theorem yD(b:AC)(hp:(b.Parts.length:Int)<=1000000):Fr Tryz.prog 65 [.agg (CE b)] (.row 7 (Bo b).length (AL AD.c (Bo b)) 78) (fun d=>tO (.own d 7 (Bo b).length)):=by
 refine DC Tryz.func65 rfl kr (Df _ _) fun W0 M0=>?_;refine AA<|on<|AA<|on<|AA<|AA<|rn ⟨Pb,[(Bx b)]⟩<|AJ<|AZ (Cv.trans (vg 2000 7 m8 78 [(3,[0])] [] hk0) (Cv.trans (Ag 2000 (Bh 7 m8 AD.c)) (ck (⟨[(1,tP 1 0),(3,.av (.one (.own 2000 7 ([]:List AD).length))),(4,tI 0)],[(Bx b),(2000,.row 7 ([]:List AD).length (AL AD.c ([]:List AD)) 78)]⟩))))<|lpC (κ:=List AD×Int) (fun x=>⟨[(1,tP 1 0),(3,tO (.own 2000 7 x.2.1.length)),(4,tI x.2.2)],[(Bx b),(2000,.row 7 x.2.1.length (AL AD.c x.2.1) 78)]⟩) (fun x=>((b.Parts.length:Int)-x.2.2).toNat) (fun x=>((x.2.1.length:Int)=x.2.2/\0<=x.2.2/\(x.2.2<=(b.Parts.length:Int)\/x.2.2=0))/\GR b x.1 x.2.1 x.2.2=Bo b) ?_ (((b.Parts.length:Int)-0).toNat+1,([]:List AD),0) ⟨lz _,⟨ax0,ax0,ax0⟩,(by simp only[Bo,mi,mj])⟩;rintro n0 ⟨out,k⟩ nq ⟨nm,ng⟩
 try dsimp only at nq nm ng
 refine AA<|AA<|on<|kb (decide ((k:Int)<(b.Parts.length:Int))) (fun h1=>?_) (fun h1=>?_)
 ·have g1:=oT h1;refine AP<|AE<|AA<|AJ<|AA<|rn ⟨(Vg out k [(5,tI (out.length:Int))]),[(Bx b),(2000,Z1O out)]⟩<|AA<|AJ<|lpC (κ:=Int) (fun x=>⟨(Vg out k [(5,tI x.2)]),[(Bx b),(2000,Z1O out)]⟩) (fun x=>x.2.toNat) (fun x=>(0<=x.2/\x.2<=(out.length:Int))/\HW b out k (GR b n0) x.1 x.2=Bo b) ?_ ((out.length:Int).toNat+1,(out.length:Int)) ⟨lz _,⟨ax0,ax0⟩,(by rw[<- ng];simp only[GR,h1,mi,mj])⟩;rintro n1 at_ o0 ⟨ox,np⟩
  try dsimp only at o0 ox np
  have hw9:W64 (at_+1)=at_+1:=Ae oM oM;refine AA<|AA ?_;refine dw [] [] (t3 (Dz at_) ((gk (Dz at_) (0<=(k:Int)/\(k:Int)<(b.Parts.length:Int)))::(t5 (Dz at_) ((gk (Dz at_) (0<=(W64 (at_-1):Int)/\(W64 (at_-1):Int)<(out.length:Int)))::(t2 (Dz at_) ((gk (Dz at_) ((W64 (at_-1)).toNat<out.length))::(t3 (Dz at_) []))))))) ⟨(Vg out k [(5,tI at_),(31,tB (bif decide ((0:Int)<at_)then decide (((Kc b k).Id:Int)<(out.getD (W64 (at_-1)).toNat default).Id)else false))]),[(Bx b),(2000,Z1O out)]⟩ .nil (c3 (.cons (fun hG=>by first|exact au7|(simp only[ll,lm,mf,me]at hG<;>omega)|(simp at hG<;>omega)|(simp only[ll,lm]at hG;simp only[Bz];omega)) (c5 (.cons (fun hG=>by first|exact au7|(simp only[ll,lm,mf,me]at hG<;>omega)|(simp at hG<;>omega)|(simp only[ll,lm]at hG;simp only[Bz];omega)) (c2 (.cons (fun hG=>by first|exact au7|(simp only[ll,lm,mf,me]at hG<;>omega)|(simp at hG<;>omega)|(simp only[ll,lm]at hG;simp only[Bz];omega)) (c3 .nil))))))) ?_
  (try rw[(show W64 (at_-1)=at_-1 from Ae oM oM)])
  refine AE<|BC _ rfl (fun h2=>?_) (fun h2=>?_)
  ·have g2:=Fl h2;refine AP<|AE<|AJ<|rg ⟨(Vg out k [(5,tI (W64 (at_-1)))]),[(Bx b),(2000,Z1O out)]⟩ ?_
   (try rw[(show W64 (at_-1)=at_-1 from Ae oM oM)])
   refine Ao<|AE ?_;refine⟨(n1,at_-1),⟨?_,?_,(by rw[<- np];simp only[HW,h2,mi,mj])⟩,lz _,Az kr⟩
   ·dsimp only;omega
   exact⟨ax0,ax0⟩
  refine Aw<|Aj<|Aj<|Ay<|AE<|AA<|oc [] [out.length=out.length,out.length+1<=maxLen,(out.length+1)*72<=140737488355328] .nil (H3 rfl au4 au4)<|AE<|AZ (Ag 37 (Ac (AU 7 AD.c out) (Ai 7 AD.c (R7:List AD))))<|AA<|od [] [] [(Hn out).length=(Hn out).length,0<=(W64 (at_+1):Int)/\(W64 (at_+1):Int)<=(((Hn out).length:Int):Int)/\(((Hn out).length:Int):Int)<=((Hn out).length:Int),(Hn out).length=(Hn out).length,0<=(at_:Int)/\(at_:Int)<=(((Hn out).length:Int):Int)/\(((Hn out).length:Int):Int)<=((Hn out).length:Int),(W64 (at_+1):Int).toNat+((((Hn out).length:Int):Int).toNat-(W64 (at_+1):Int).toNat)<=(Hn out).length,(at_:Int).toNat+((((Hn out).length:Int):Int).toNat-(at_:Int).toNat)<=(Hn out).length] .nil (H6 rfl au7 rfl au7 au7 au7)<|AE<|AZ (Ag 37 (MR (lo1:=(W64 (at_+1):Int).toNat) (m1:=(((Hn out).length:Int):Int).toNat-(W64 (at_+1):Int).toNat) (lo2:=(at_:Int).toNat) (m2:=(((Hn out).length:Int):Int).toNat-(at_:Int).toNat) (AU 7 AD.c (Hn out)) au7 au7)) ?_;refine oc [] [0<=(k:Int)/\(k:Int)<(b.Parts.length:Int),0<=(at_:Int)/\(at_:Int)<((OH out at_).length:Int),at_.toNat<(OH out at_).length] .nil (H3 au7 au7 au7)<|Ao<|AE<|AZ (Ag 37 (DU (l:=(AD.c (Kc b k))) (off:=0) (q:=7) (k:=at_.toNat) (AU 7 AD.c (OH out at_)) au7 (Kc b k) (Do kr)))<|rg ⟨[(1,tP 1 0),(3,Z1R out at_ b k),(4,tI (W64 (k+1)))],[(Bx b),(37,Z1S out at_ b k)]⟩ ?_
  (try rw[(show W64 (k+1)=k+1 from Ae oM au5)])
  refine AE ?_;refine⟨(n0,(OH out at_).set at_.toNat (Kc b k),k+1),⟨?_,?_,(by rw[<- np];simp only[HW,h2,mi,mj])⟩,lz _,Cv.trans (vr 37 2000 hk0) (Az kr)⟩
  ·dsimp only;omega
  exact(by show(((OH out at_).set at_.toNat (Kc b k)).length:Int)=(k+1)/\0<=(k+1)/\((k+1)<=(b.Parts.length:Int)\/(k+1)=0);(simp only[L0,OT,hw9,kj,d9,j8,j9];omega))
 exact Aw<|Aj<|Aj<|Ay<|AE<|AA<|on<|AO<|xl (tO (.own 2000 7 out.length)) (frE (c:=AD.c) (xs:=out) (by rw[<- ng];first|(simp only[GR,h1,mi,mj]<;>rfl)) kr)
def bi:CT:=(65,[.agg (CE b)],.new [] (.row 7 (Bo b).length (AL AD.c (Bo b)) 78) (fun d=>.av (.one (.own d 7 (Bo b).length))))
theorem rY(b:AC)(hp:(b.Parts.length:Int)<=1000000):OKc (bi b):=DQ (fun _ _=>kr) (yD b hp)
abbrev Ej(out:List AX):=out++[AX.mk 0 UM]
abbrev OD(out:List AX)(at_:Int):=(LP (Ej out) (W64 (at_+1):Int).toNat (at_:Int).toNat (Nat.min ((((Ej out).length:Int):Int).toNat-(at_:Int).toNat) ((((Ej out).length:Int):Int).toNat-(W64 (at_+1):Int).toNat)))
def Z1W(out:List AX)(at_:Int):Tv:=.av (.one (.own 37 4 (OD out at_).length))
abbrev Li:=b.Slots.getD k.toNat default
def Z1X(out:List AX)(at_:Int)(b:AC)(k:Int):Tv:=.av (.one (.own 37 4 ((OD out at_).set at_.toNat (Li b k)).length))
def Z1Y(out:List AX)(at_:Int)(b:AC)(k:Int):Blk:=.row 4 ((OD out at_).set at_.toNat (Li b k)).length (AL AX.c ((OD out at_).set at_.toNat (Li b k))) 112
def HV(b:AC)(out:List AX)(k:Int)(K0:List AX->Int->(List AX)):Nat->Int->(List AX)
 |0,_=>default
 |n1+1,at_=>bif bif decide ((0:Int)<at_)then decide (((b.Slots.getD k.toNat default).Id:Int)<(out.getD (at_-1).toNat default).Id)else false then((HV b out k K0 n1) (at_-1))else(K0 ((LP (out++[AX.mk 0 (AQ.mk 0 [] 0)]) (W64 (at_+1):Int).toNat (at_:Int).toNat (Nat.min ((((out++[AX.mk 0 (AQ.mk 0 [] 0)]).length:Int):Int).toNat-(at_:Int).toNat) ((((out++[AX.mk 0 (AQ.mk 0 [] 0)]).length:Int):Int).toNat-(W64 (at_+1):Int).toNat))).set at_.toNat (b.Slots.getD k.toNat default)) (k+1))
def GQ(b:AC):Nat->List AX->Int->(List AX)
 |0,_,_=>default
 |n0+1,out,k=>bif decide ((k:Int)<(b.Slots.length:Int))then(HV b out k (GQ b n0) ((out.length:Int).toNat+1) (out.length:Int))else out
def Cc(b:AC):(List AX):=GQ b (((b.Slots.length:Int)-0).toNat+1) ([]:List AX) 0
abbrev Vx(out:List AX):List (Nat×Blk):=[(Bx b),(2000,.row 4 out.length (AL AX.c out) 112)]
abbrev Vi(out:List AX)(k:Int)(t_:List (Nat×Tv)):List (Nat×Tv):=(1,tP 1 0)::(3,tO (.own 2000 4 out.length))::(4,tI k)::t_
theorem yC(b:AC)(hp:(b.Slots.length:Int)<=1000000):Fr Tryz.prog 68 [.agg (CE b)] (.row 4 (Cc b).length (AL AX.c (Cc b)) 112) (fun d=>tO (.own d 4 (Cc b).length)):=by
 refine DC Tryz.func68 rfl kr (Df _ _) fun W0 M0=>?_;refine AA<|on<|AA<|on<|AA<|AA<|rn ⟨Pb,[(Bx b)]⟩<|AJ<|AZ (Cv.trans (vg 2000 4 m8 112 [(3,[0])] [] hk0) (Cv.trans (Ag 2000 (Bh 4 m8 AX.c)) (ck (⟨[(1,tP 1 0),(3,.av (.one (.own 2000 4 ([]:List AX).length))),(4,tI 0)],[(Bx b),(2000,.row 4 ([]:List AX).length (AL AX.c ([]:List AX)) 112)]⟩))))<|lpC (κ:=List AX×Int) (fun x=>⟨[(1,tP 1 0),(3,tO (.own 2000 4 x.2.1.length)),(4,tI x.2.2)],[(Bx b),(2000,.row 4 x.2.1.length (AL AX.c x.2.1) 112)]⟩) (fun x=>((b.Slots.length:Int)-x.2.2).toNat) (fun x=>((x.2.1.length:Int)=x.2.2/\0<=x.2.2/\(x.2.2<=(b.Slots.length:Int)\/x.2.2=0))/\GQ b x.1 x.2.1 x.2.2=Cc b) ?_ (((b.Slots.length:Int)-0).toNat+1,([]:List AX),0) ⟨lz _,⟨ax0,ax0,ax0⟩,(by simp only[Cc,mi,mj])⟩;rintro n0 ⟨out,k⟩ nq ⟨nm,ng⟩
 try dsimp only at nq nm ng
 refine AA<|AA<|on<|kb (decide ((k:Int)<(b.Slots.length:Int))) (fun h1=>?_) (fun h1=>?_)
 ·have g1:=oT h1;refine AP<|AE<|AA<|AJ<|AA<|rn ⟨(Vi out k [(5,tI (out.length:Int))]),(Vx b out)⟩<|AA<|AJ<|lpC (κ:=Int) (fun x=>⟨(Vi out k [(5,tI x.2)]),(Vx b out)⟩) (fun x=>x.2.toNat) (fun x=>(0<=x.2/\x.2<=(out.length:Int))/\HV b out k (GQ b n0) x.1 x.2=Cc b) ?_ ((out.length:Int).toNat+1,(out.length:Int)) ⟨lz _,⟨ax0,ax0⟩,(by rw[<- ng];simp only[GQ,h1,mi,mj])⟩;rintro n1 at_ o0 ⟨ox,np⟩
  try dsimp only at o0 ox np
  have hw9:W64 (at_+1)=at_+1:=Ae oM oM;refine AA<|AA<|dw [] [] (t3 (Dz at_) ((gk (Dz at_) (0<=(k:Int)/\(k:Int)<(b.Slots.length:Int)))::(t5 (Dz at_) ((gk (Dz at_) (0<=(W64 (at_-1):Int)/\(W64 (at_-1):Int)<(out.length:Int)))::(t2 (Dz at_) ((gk (Dz at_) ((W64 (at_-1)).toNat<out.length))::(t3 (Dz at_) []))))))) ⟨(Vi out k [(5,tI at_),(31,tB (bif decide ((0:Int)<at_)then decide (((Li b k).Id:Int)<(out.getD (W64 (at_-1)).toNat default).Id)else false))]),(Vx b out)⟩ .nil (c3 (.cons (fun hG=>by first|exact au7|(simp only[ll,lm,mf,me]at hG<;>omega)|(simp at hG<;>omega)|(simp only[ll,lm]at hG;simp only[Bz];omega)) (c5 (.cons (fun hG=>by first|exact au7|(simp only[ll,lm,mf,me]at hG<;>omega)|(simp at hG<;>omega)|(simp only[ll,lm]at hG;simp only[Bz];omega)) (c2 (.cons (fun hG=>by first|exact au7|(simp only[ll,lm,mf,me]at hG<;>omega)|(simp at hG<;>omega)|(simp only[ll,lm]at hG;simp only[Bz];omega)) (c3 .nil))))))) ?_
  (try rw[(show W64 (at_-1)=at_-1 from Ae oM oM)])
  refine AE<|BC _ rfl (fun h2=>?_) (fun h2=>?_)
  ·have g2:=Fl h2;refine AP<|AE<|AJ<|rg ⟨(Vi out k [(5,tI (W64 (at_-1)))]),(Vx b out)⟩ ?_
   (try rw[(show W64 (at_-1)=at_-1 from Ae oM oM)])
   refine Ao<|AE ?_;refine⟨(n1,at_-1),⟨?_,?_,(by rw[<- np];simp only[HV,h2,mi,mj])⟩,lz _,Az kr⟩
   ·dsimp only;omega
   exact⟨ax0,ax0⟩
  refine Aw<|Aj<|Aj<|Ay<|AE<|AA<|rc [] [out.length=out.length,out.length+1<=maxLen,(out.length+1)*48<=140737488355328] ⟨[(1,tP 1 0),(3,tO (.own 37 4 (out.length+1))),(4,tI k),(5,tI at_)],[(Bx b),(37,.row 4 (out.length+1) (fun i_ j_=>if i_<out.length then(AL AX.c out) i_ j_ else(A9 4 1 [.i 0,.i 0,vN,.i 0]) (i_-out.length) j_) 112)]⟩ .nil (H3 rfl au4 au4)<|AE<|AZ (DD (⟨[(1,tP 1 0),(3,.av (.one (.own 37 4 (Ej out).length))),(4,tI k),(5,tI at_)],[(Bx b),(37,.row 4 (Ej out).length (AL AX.c (Ej out)) 112)]⟩) (rz (.cons ⟨rfl,.av (.one (.own _ _ au17))⟩ lr)) (rz (.cons ⟨rfl,CS 112 (Ac (AU 4 AX.c out) (Dn (c:=AX.c) (xs:=([AX.mk 0 UM]:List AX)) (y:=[[.i 0,.i 0,vN,.i 0]]) (z:=[[.i 0,.i 0,lst 7 AK.c [],.i 0]]) rfl kr kr (.cons (rr2 (.cons (Ca 7 AK.c) (rr .nil))) .nil)))⟩ .nil)))<|AA ?_
  refine od [] [] [(Ej out).length=(Ej out).length,0<=(W64 (at_+1):Int)/\(W64 (at_+1):Int)<=(((Ej out).length:Int):Int)/\(((Ej out).length:Int):Int)<=((Ej out).length:Int),(Ej out).length=(Ej out).length,0<=(at_:Int)/\(at_:Int)<=(((Ej out).length:Int):Int)/\(((Ej out).length:Int):Int)<=((Ej out).length:Int),(W64 (at_+1):Int).toNat+((((Ej out).length:Int):Int).toNat-(W64 (at_+1):Int).toNat)<=(Ej out).length,(at_:Int).toNat+((((Ej out).length:Int):Int).toNat-(at_:Int).toNat)<=(Ej out).length] .nil (H6 rfl au7 rfl au7 au7 au7)<|AE<|AZ (Ag 37 (MR (lo1:=(W64 (at_+1):Int).toNat) (m1:=(((Ej out).length:Int):Int).toNat-(W64 (at_+1):Int).toNat) (lo2:=(at_:Int).toNat) (m2:=(((Ej out).length:Int):Int).toNat-(at_:Int).toNat) (AU 4 AX.c (Ej out)) au7 au7))<|oc [] [0<=(k:Int)/\(k:Int)<(b.Slots.length:Int),0<=(at_:Int)/\(at_:Int)<((OD out at_).length:Int),at_.toNat<(OD out at_).length] .nil (H3 au7 au7 au7)<|Ao<|AE ?_;refine AZ (Ag 37 (DU (l:=(AX.c (Li b k))) (off:=0) (q:=4) (k:=at_.toNat) (AU 4 AX.c (OD out at_)) au7 (Li b k) (Do kr)))<|rg ⟨[(1,tP 1 0),(3,Z1X out at_ b k),(4,tI (W64 (k+1)))],[(Bx b),(37,Z1Y out at_ b k)]⟩ ?_
  (try rw[(show W64 (k+1)=k+1 from Ae oM au5)])
  refine AE ?_;refine⟨(n0,(OD out at_).set at_.toNat (Li b k),k+1),⟨?_,?_,(by rw[<- np];simp only[HV,h2,mi,mj])⟩,lz _,Cv.trans (vr 37 2000 hk0) (Az kr)⟩
  ·dsimp only;omega
  exact(by show(((OD out at_).set at_.toNat (Li b k)).length:Int)=(k+1)/\0<=(k+1)/\((k+1)<=(b.Slots.length:Int)\/(k+1)=0);(simp only[L0,OT,hw9,kj,d9,j8,j9];omega))
 exact Aw<|Aj<|Aj<|Ay<|AE<|AA<|on<|AO<|xl (tO (.own 2000 4 out.length)) (frE (c:=AX.c) (xs:=out) (by rw[<- ng];first|(simp only[GQ,h1,mi,mj]<;>rfl)) kr)
def bh:CT:=(68,[.agg (CE b)],.new [] (.row 4 (Cc b).length (AL AX.c (Cc b)) 112) (fun d=>.av (.one (.own d 4 (Cc b).length))))
theorem rV(b:AC)(hp:(b.Slots.length:Int)<=1000000):OKc (bh b):=DQ (fun _ _=>kr) (yC b hp)
end
theorem zJ{α:Type}(out:List α)(z x:α)(a:Nat)(h:a<=out.length):(LP (out++[z]) (a+1) a (Nat.min ((out++[z]).length-a) ((out++[z]).length-(a+1)))).set a x=out.take a++x::out.drop a:=by
 have hl:(out++[z]).length=out.length+1:=by simp
 have hm:Nat.min ((out++[z]).length-a) ((out++[z]).length-(a+1))=out.length-a:=by
  rw[hl,show out.length+1-(a+1)=out.length-a by omega];exact Nat.min_eq_right mz
 rw[hm];unfold LP;have e1:(out++[z]).take (a+1)=out.take a++[(out++[z])[a]'mz]:=by
  rw[List.take_succ_eq_append_getElem mz,List.take_append_of_le_length h]
 have e2:((out++[z]).drop a).take (out.length-a)=out.drop a:=by
  rw[List.drop_append_of_le_length h,List.take_append_of_le_length (by rw[List.length_drop];exact lu _),ky (by rw[List.length_drop];exact lu _)]
 have e3:(out++[z]).drop (a+1+(out.length-a))=[]:=List.drop_eq_nil_of_le mz;rw[e1,e2,e3,ko];have ht:(out.take a).length=a:=by rw[ki];omega
 rw[List.append_assoc,List.set_append_right _ _ mz,ht,mu];rfl
theorem ON{α:Type}[Inhabited α](lt:α->α->Bool)(xs:List α)(z:α)(g0:Nat->List α->Int->List α)(g1:List α->Int->(List α->Int->List α)->Nat->Int->List α)
 (h1:∀out k K n a,g1 out k K (n+1) a=bif bif decide ((0:Int)<a)then lt (xs.getD k.toNat default) (out.getD (a-1).toNat default)else false then g1 out k K n (a-1)else K ((LP (out++[z]) (W64 (a+1)).toNat a.toNat (Nat.min (((out++[z]).length:Int).toNat-a.toNat) (((out++[z]).length:Int).toNat-(W64 (a+1)).toNat))).set a.toNat (xs.getD k.toNat default)) (k+1))
 (h0:∀n out k,g0 (n+1) out k=bif decide (k<(xs.length:Int))then g1 out k (g0 n) ((out.length:Int).toNat+1) (out.length:Int)else out)
 (hp:(xs.length:Int)<=1000000):g0 (((xs.length:Int)-0).toNat+1) [] 0=CY lt xs:=by
 have hi:∀(out:List α) (k:Nat) (K:List α->Int->List α),(out.length:Int)<=1000000->∀(j m:Nat),j<=out.length->j<m->g1 out k K m j=K (out.take (HN (lt (xs.getD k default)) out j)++xs.getD k default::out.drop (HN (lt (xs.getD k default)) out j)) ((k:Int)+1):=by
  intro out k K ho j;have fin:∀(n j:Nat),j<=out.length->K ((LP (out++[z]) (W64 ((j:Int)+1)).toNat (Int.toNat (j:Int)) (Nat.min (((out++[z]).length:Int).toNat-Int.toNat (j:Int)) (((out++[z]).length:Int).toNat-(W64 ((j:Int)+1)).toNat))).set (Int.toNat (j:Int)) (xs.getD (Int.toNat (k:Int)) default)) ((k:Int)+1)=K (out.take j++xs.getD k default::out.drop j) ((k:Int)+1):=fun n j hj=>by
   rw[Ae mz mz,show((j:Int)+1).toNat=j+1 by omega,l9,l9,l9,zJ out z _ j hj]
  induction j with
  |zero =>
   intro m hj hm;obtain⟨m,rfl⟩:∃k,m=k+1:=⟨m-1,by omega⟩;rw[h1,lk m4,mj,mj];exact fin 0 0 (lv _)
  |succ j ih =>
   intro m hj hm;obtain⟨m,rfl⟩:∃k,m=k+1:=⟨m-1,by omega⟩;rw[h1,HN,lj (show(0:Int)<((j+1:Nat):Int)by omega),mi,show(((j+1:Nat):Int)-1)=(j:Int)by omega];rw[l9,l9];cases lt (xs.getD k default) (out.getD j default)with
   |true=>exact ih m mz mz
   |false=>exact fin 0 (j+1) hj
 have key:∀n k:Nat,xs.length-k<n->k<=xs.length->g0 n (CY lt (xs.take k)) (k:Int)=CY lt xs:=by
  intro n;induction n with
  |zero=>intro k h _;exact absurd h (lw _)
  |succ n ih =>
   intro k h hk;rw[h0]
   by_cases hc:k<xs.length
   ·rw[lj (show(k:Int)<(xs.length:Int)by omega),mi];have hl:(CY lt (xs.take k)).length=k:=by rw[Cu,ki];omega
    rw[l9,hi _ k _ mz _ _ (lu _) mz];have e:xs.take (k+1)=xs.take k++[xs.getD k default]:=by
     rw[List.take_succ_eq_append_getElem hc,aE,ea hc];rfl
    have:=ih (k+1) mz hc;rw[e,QZ,show((k+1:Nat):Int)=(k:Int)+1 by omega]at this;exact this
   rw[lk (show ¬ (k:Int)<(xs.length:Int)by omega),mj,ky mz]
 exact key _ 0 mz (lv _)
theorem MN(b:AC)(h:(b.Tracks.length:Int)<=1000000):BS b=CY (fun x y=>decide (x.Id<y.Id)) b.Tracks:=ON (fun x y:AM=>decide (x.Id<y.Id)) b.Tracks (AM.mk 0 (⟨#[]⟩) 0 (AQ.mk 0 [] 0)) (Fa b) (GY b) (fun _ _ _ _ _=>rfl) (fun _ _ _=>rfl) h
theorem VN(b:AC)(h:(b.Vias.length:Int)<=1000000):BD b=CY (fun x y=>decide (x.Id<y.Id)) b.Vias:=ON (fun x y:Ak=>decide (x.Id<y.Id)) b.Vias (Ak.mk 0 (⟨#[]⟩) (AG.mk 0 0) 0 0 0 0) (HU b) (Ih b) (fun _ _ _ _ _=>rfl) (fun _ _ _=>rfl) h
theorem Xe(b:AC)(h:(b.Tracks.length:Int)<=1000000):(BS b).length=b.Tracks.length:=by rw[MN b h];exact Cu _ _
theorem Tp(b:AC)(h:(b.Vias.length:Int)<=1000000):(BD b).length=b.Vias.length:=by rw[VN b h];exact Cu _ _
theorem Kj{b:AC}(h:(b.Tracks.length:Int)<=1000000)(ht:∀t∈b.Tracks,(t.Shape.Edges.length:Int)<=1000000)(k:Nat):(((BS b).getD k default).Shape.Edges.length:Int)<=1000000:=ER (p:=fun t:AM=>(t.Shape.Edges.length:Int)<=1000000) m4 (fun x hx=>ht x (by rw[MN b h,Kr]at hx;exact hx)) k
theorem Tt(b:AC)(h:(b.Parts.length:Int)<=1000000):Bo b=CY (fun x y=>decide (x.Id<y.Id)) b.Parts:=ON (fun x y:AD=>decide (x.Id<y.Id)) b.Parts (AD.mk 0 (⟨#[]⟩) (⟨#[]⟩) (AG.mk 0 0) 0 false) (GR b) (HW b) (fun _ _ _ _ _=>rfl) (fun _ _ _=>rfl) h
theorem N6(b:AC)(h:(b.Slots.length:Int)<=1000000):Cc b=CY (fun x y=>decide (x.Id<y.Id)) b.Slots:=ON (fun x y:AX=>decide (x.Id<y.Id)) b.Slots (AX.mk 0 (AQ.mk 0 [] 0)) (GQ b) (HV b) (fun _ _ _ _ _=>rfl) (fun _ _ _=>rfl) h
theorem Zd(b:AC)(h:(b.Parts.length:Int)<=1000000):(Bo b).length=b.Parts.length:=by rw[Tt b h];exact Cu _ _
theorem Zc(b:AC)(h:(b.Slots.length:Int)<=1000000):(Cc b).length=b.Slots.length:=by rw[N6 b h];exact Cu _ _
theorem xQ{b:AC}(h:(b.Slots.length:Int)<=1000000)(ht:∀t∈b.Slots,(t.Shape.Edges.length:Int)<=1000000)(k:Nat):(((Cc b).getD k default).Shape.Edges.length:Int)<=1000000:=ER (p:=fun t:AX=>(t.Shape.Edges.length:Int)<=1000000) m4 (fun x hx=>ht x (by rw[N6 b h,Kr]at hx;exact hx)) k
section
open Go.RowKit
def Ap(k:Int):my:=([(⟨#[80,49]⟩:my),(⟨#[80,50]⟩:my),(⟨#[80,51]⟩:my),(⟨#[80,52]⟩:my),(⟨#[80,53]⟩:my),(⟨#[80,54]⟩:my)]:List my).getD k.toNat ⟨#[]⟩
variable (a:AG)(b:AC)(b_:AG)(l:List (List Int))(d:AF)(k n:Int)(s:AQ)(m9:List AN)(x0:AD)
def Di:CT:=(91,[.one (.i k)],.val [] (.av (.one (.s (Ap k)))))
theorem rG(k:Int)(hk:0<=k/\k<6):PuP 91 (Di k).2.1 (tO (.s (Ap k))):=by
 refine pwf Tryz.func91 fun W0 M0=>?_;exact AA<|on<|AA<|oc [] [0<=(k:Int)/\(k:Int)<((6:Nat):Int)] .nil (H1 au0)<|AE<|AO<|zl
theorem Fi(k:Int)(hk:0<=k/\k<6):OKc (Di k):=cPu<|rG k hk
def Mu(x0:AD):Am:=Am.mk x0.At x0.Turn x0.Under
def VJ:CT:=(145,[.agg (AD.c x0)],.val [] (.av (.agg (Am.c (Mu x0)))))
theorem jW(x0:AD):PuP 145 (VJ x0).2.1 (.av (.agg (Am.c (Mu x0)))):=by
 refine pwf Tryz.func145 fun W0 M0=>?_;exact AA<|on<|AA<|on<|AO<|zl
theorem cL(x0:AD):OKc (VJ x0):=cPu<|jW x0
def E2(x0:AG)(x1:AG):AK:=AK.mk 1 x0 x1 (AG.mk 0 0)
def Nz(x0:AG)(x1:AG):CT:=(98,[.agg (AG.c x0),.agg (AG.c x1)],.val [] (.av (.agg (AK.c (E2 x0 x1)))))
theorem bO(x0:AG)(x1:AG):PuP 98 (Nz x0 x1).2.1 (.av (.agg (AK.c (E2 x0 x1)))):=by
 refine pwf Tryz.func98 fun W0 M0=>?_;exact AA<|on<|AA<|on<|AO<|zl
theorem Ev(x0:AG)(x1:AG):OKc (Nz x0 x1):=cPu<|bO x0 x1
def Ah(l:(List (List Int)))(k:Int):(List Int):=bif decide ((k:Int)<(l.length:Int))then(l.getD k.toNat default)else([])
def Og:CT:=(40,[.one (lst 1 (fun x=>[lst 1 eIn x]) l),.one (.i k)],.val [] (.av (.one (lst 1 eIn (Ah l k)))))
theorem yN(l:(List (List Int)))(k:Int)(hk:0<=k):PuP 40 (Og l k).2.1 (tO (lst 1 eIn (Ah l k))):=by
 refine pwf Tryz.func40 fun W0 M0=>?_;refine AA<|on<|AA<|AA<|on<|kb (decide ((k:Int)<(l.length:Int))) (fun h1=>?_) (fun h1=>?_)
 ·have g1:=oT h1;exact AA<|oc [] [0<=(k:Int)/\(k:Int)<(l.length:Int)] .nil (H1 au0)<|AE<|AO<|Bf<|zl (by simp only[Ah,h1,mi,mj]<;>kernel_rfl)
 exact AP<|AE<|AA<|on<|AO<|xl (.av (.one vN)) (De (y:=tO (lst 1 eIn [])) (.av (.one (Ca 1 eIn))) (by simp only[Ah,h1,mi,mj]<;>rfl))
theorem Hp(l:(List (List Int)))(k:Int)(hk:0<=k):OKc (Og l k):=cPu<|yN l k hk
abbrev ej:List Av:=[.one (.ptr 1000 0),.one (.i 4)]
abbrev Jg:Blk:=.cells (AF.c d) 117
abbrev Jb:List Av:=(ej:List Av)
def Z1Z:CT:=(42,Jb.map (CH 1000 1000),wrI 1000 (Jg d) (tI (AB d 4).1) (.cells (AF.c (AB d 4).2) 117))
def Z20:AK:=E2 a (AG.mk (bif (decide (a.X=b_.X)&&(decide (a.Y=b_.Y)&&true))then(W64 (b_.X+20))else b_.X) a.Y)
def Z21:AK:=E2 (AG.mk (bif (decide (a.X=b_.X)&&(decide (a.Y=b_.Y)&&true))then(W64 (b_.X+20))else b_.X) a.Y) (AG.mk (bif (decide (a.X=b_.X)&&(decide (a.Y=b_.Y)&&true))then(W64 (b_.X+20))else b_.X) b_.Y)
abbrev NN:=AB (AB d 4).2 20
def Z22:CT:=(42,([.one (.ptr 1000 0),.one (.i 20)]:List Av).map (CH 1000 1000),wrI 1000 (.cells (AF.c (AB d 4).2) 117) (tI (NN d).1) (.cells (AF.c (NN d).2) 117))
def Z24:AK:=GZ (AG.mk (bif (decide (a.X=b_.X)&&(decide (a.Y=b_.Y)&&true))then(W64 (b_.X+20))else b_.X) (W64 (b_.Y+(W64 (5+(AB (AB d 4).2 20).1))))) (W64 (5+(AB (AB d 4).2 20).1)) 3 2
def Z25:AK:=E2 a (AG.mk (bif (decide (a.X=b_.X)&&(decide (a.Y=b_.Y)&&true))then(W64 (b_.X+20))else b_.X) b_.Y)
def DX(a:AG)(b_:AG)(d:AF):((List AK)×AF):=bif bif bif bif decide ((0:Int)<(AB d 4).1)then decide (((AB d 4).1:Int)<3)else false then !(decide ((bif (decide (a.X=b_.X)&&(decide (a.Y=b_.Y)&&true))then(W64 (b_.X+20))else b_.X)=a.X)&&(decide (a.Y=a.Y)&&true))else false then !(decide ((bif (decide (a.X=b_.X)&&(decide (a.Y=b_.Y)&&true))then(W64 (b_.X+20))else b_.X)=(bif (decide (a.X=b_.X)&&(decide (a.Y=b_.Y)&&true))then(W64 (b_.X+20))else b_.X))&&(decide (a.Y=b_.Y)&&true))else false then([Z20 a b_,Z21 a b_],(AB d 4).2)else(bif decide (((AB d 4).1:Int)=3)then([Z25 a b_,Z24 a b_ d],(AB (AB d 4).2 20).2)else([Z25 a b_],(AB d 4).2))
abbrev cx:Bool:=decide (a.X=b_.X)&&(decide (a.Y=b_.Y)&&true)
abbrev Jv:=bif (cx a b_)then(W64 (b_.X+20))else b_.X
abbrev PJ:Nat×Blk:=(3,.cells (AG.c a) 66)
abbrev nC:List (Nat×Blk):=[(PJ a),(4,.cells [.i (Jv a b_),.i b_.Y] 66),(7,.cells [.i (Jv a b_),.i a.Y] 66),(1000,.cells (AF.c (AB d 4).2) 117)]
abbrev Zz:List (Nat×Tv):=[(2,tP 1000 0),(3,tP 3 0),(4,tP 4 0)]
theorem au29{p:Prop}(h:p:=by repeat (first|assumption|exact DV (by assumption)|refine Bm ?_|refine Dh ?_ ?_|refine hKd _ _ ?_|refine cond_dk _ ?_)):p:=h
theorem au14{p:Prop}(h:p:=by first|decide|omega|(simp only[Bz];omega)):p:=h
theorem rH (a:AG)(b_:AG)(d:AF)(hd:DK d):Wr Tryz.prog 96 1000 [.agg (AG.c a),.agg (AG.c b_),.one (.ptr 1000 0)] (.cells (AF.c d) 117) (tO (lst 7 AK.c (DX a b_ d).1)) (.cells (AF.c (DX a b_ d).2) 117):=by
 refine Jw Tryz.func96 rfl kr kr kr kr fun W0 M0 X hX=>?_;refine AA<|on<|AA<|AA<|rn ⟨[(2,tP 1000 0),(3,tP 3 0),(4,tP 4 0),(13,tB (cx a b_))],[(PJ a),(4,.cells (AG.c b_) 66),(1000,.cells (AF.c d) 117)]⟩<|B4 (⟨Zz,[(PJ a),(4,.cells [.i (bif (cx a b_)then(W64 (b_.X+20))else b_.X),.i b_.Y] 66),(1000,.cells (AF.c d) 117)]⟩) ?_ ?_
 ·refine BC _ rfl (fun h1=>?_) (fun h1=>?_)
  ·refine rn ⟨Zz,[(PJ a),(4,.cells [.i (W64 (b_.X+20)),.i b_.Y] 66),(1000,.cells (AF.c d) 117)]⟩<|Az ?_
   first|rfl|(simp only[h1,mi,mj]<;>rfl)
  refine AP<|AE<|Cv.trans (ck (⟨Zz,[(PJ a),(4,.cells (AG.c b_) 66),(1000,.cells (AF.c d) 117)]⟩)) (Az ?_)
  first|rfl|(simp only[h1,mi,mj]<;>rfl)
 refine AA<|on<|AA<|AA<|rb 24 (Z1Z d) (Jg d) ⟨[(2,tP 1000 0),(3,tP 3 0),(4,tP 4 0),(7,tP 7 0),(8,tI (AB d 4).1)],(nC a b_ d)⟩ (cWr (Bp d 4 au29 au14))<|AE<|AJ<|AA<|rc [] (t2 (decide ((0:Int)<(AB d 4).1)) (t3 (bif decide ((0:Int)<(AB d 4).1)then decide (((AB d 4).1:Int)<3)else false) (t3 (bif bif decide ((0:Int)<(AB d 4).1)then decide (((AB d 4).1:Int)<3)else false then !(decide ((Jv a b_)=a.X)&&(decide (a.Y=a.Y)&&true))else false) []))) ⟨[(2,tP 1000 0),(3,tP 3 0),(4,tP 4 0),(7,tP 7 0),(8,tI (AB d 4).1),(25,tB (bif bif bif decide ((0:Int)<(AB d 4).1)then decide (((AB d 4).1:Int)<3)else false then !(decide ((bif (decide (a.X=b_.X)&&(decide (a.Y=b_.Y)&&true))then(W64 (b_.X+20))else b_.X)=a.X)&&(decide (a.Y=a.Y)&&true))else false then !(decide ((bif (decide (a.X=b_.X)&&(decide (a.Y=b_.Y)&&true))then(W64 (b_.X+20))else b_.X)=(bif (decide (a.X=b_.X)&&(decide (a.Y=b_.Y)&&true))then(W64 (b_.X+20))else b_.X))&&(decide (a.Y=b_.Y)&&true))else false))],(nC a b_ d)⟩ .nil (c2 (c3 (c3 .nil)))<|AE ?_;refine BC (bif bif bif decide ((0:Int)<(AB d 4).1)then decide (((AB d 4).1:Int)<3)else false then !(decide ((Jv a b_)=a.X)&&(decide (a.Y=a.Y)&&true))else false then !(decide ((Jv a b_)=(Jv a b_))&&(decide (a.Y=b_.Y)&&true))else false) kr (fun h1=>?_) (fun h1=>?_)
 ·exact AA<|oe [] _ [none,none] (J2 44 47 (Ev a (AG.mk (Jv a b_) a.Y)) (Ev (AG.mk (Jv a b_) a.Y) (AG.mk (Jv a b_) b_.Y))) .nil<|AE<|AO<|Cm<|Bf<|xl (.av (.one (.list true 7 2 (A9 7 2 [.i (Z20 a b_).Kind,.i (Z20 a b_).A.X,.i (Z20 a b_).A.Y,.i (Z20 a b_).B.X,.i (Z20 a b_).B.Y,.i (Z20 a b_).C.X,.i (Z20 a b_).C.Y,.i (Z21 a b_).Kind,.i (Z21 a b_).A.X,.i (Z21 a b_).A.Y,.i (Z21 a b_).B.X,.i (Z21 a b_).B.Y,.i (Z21 a b_).C.X,.i (Z21 a b_).C.Y])))) ⟨De (y:=tO (lst 7 AK.c [Z20 a b_,Z21 a b_])) (.av (.one (BO true (BN (c:=AK.c) (xs:=([Z20 a b_,Z21 a b_]:List AK)) rfl kr)))) (by unfold DX;rw[h1];rfl),.cells (AF.c (AB d 4).2) 117,by kernel_rfl,Ea (by unfold DX;rw[h1];kernel_rfl)⟩
 refine AA<|on<|kb (decide (((AB d 4).1:Int)=3)) (fun h2=>?_) (fun h2=>?_)
 ·have g2:=oT h2;exact AA<|rb 53 (Z22 d) (.cells (AF.c (AB d 4).2) 117) ⟨[(3,tP 3 0),(4,tP 4 0),(9,tI (W64 (5+(NN d).1)))],[(PJ a),(4,.cells [.i (Jv a b_),.i b_.Y] 66),(1000,.cells (AF.c (NN d).2) 117)]⟩ (cWr (Bp (AB d 4).2 20 au29 au14))<|AE<|AA<|oq 63 _ (E0 (AG.mk (Jv a b_) (W64 (b_.Y+(W64 (5+(NN d).1))))) (W64 (5+(NN d).1)) 3 2)<|AE<|AA<|oe [] _ [none] (J1 66 (Ev a (AG.mk (Jv a b_) b_.Y))) .nil<|AE<|AO<|Cm<|Bf<|xl (.av (.one (.list true 7 2 (A9 7 2 [.i (Z25 a b_).Kind,.i (Z25 a b_).A.X,.i (Z25 a b_).A.Y,.i (Z25 a b_).B.X,.i (Z25 a b_).B.Y,.i (Z25 a b_).C.X,.i (Z25 a b_).C.Y,.i (Z24 a b_ d).Kind,.i (Z24 a b_ d).A.X,.i (Z24 a b_ d).A.Y,.i (Z24 a b_ d).B.X,.i (Z24 a b_ d).B.Y,.i (Z24 a b_ d).C.X,.i (Z24 a b_ d).C.Y])))) ⟨De (y:=tO (lst 7 AK.c [Z25 a b_,Z24 a b_ d])) (.av (.one (BO true (BN (c:=AK.c) (xs:=([Z25 a b_,Z24 a b_ d]:List AK)) rfl kr)))) (by unfold DX;rw[h1,h2];rfl),.cells (AF.c (NN d).2) 117,by kernel_rfl,Ea (by unfold DX;rw[h1,h2];kernel_rfl)⟩
 exact AP<|Ao<|AE<|AA<|oq 71 _ (Ev a (AG.mk (Jv a b_) b_.Y))<|AE<|AO<|xl (.av (.one (.list true 7 1 (A9 7 1 (AK.c (Z25 a b_)))))) ⟨De (y:=tO (lst 7 AK.c [Z25 a b_])) (.av (.one (BO true (BN (c:=AK.c) (xs:=([Z25 a b_]:List AK)) rfl kr)))) (by unfold DX;rw[h1,h2];rfl),.cells (AF.c (AB d 4).2) 117,by kernel_rfl,Ea (by unfold DX;rw[h1,h2];kernel_rfl)⟩
abbrev PQ(d:AF)(b:AC):=(AB d (b.Nets.length:Int))
def Z26:CT:=(42,([.one (.ptr 1000 0),.one (.i (b.Nets.length:Int))]:List Av).map (CH 1000 1001),wrI 1001 (Jg d) (tI (PQ d b).1) (.cells (AF.c (PQ d b).2) 117))
def Dj(b:AC)(d:AF):(my×AF):=((b.Nets.getD (AB d (b.Nets.length:Int)).1.toNat default).Name,(AB d (b.Nets.length:Int)).2)
theorem Wd (b:AC)(d:AF)(vs:Nat->Value)(hd:DK d)(hn:1<=(b.Nets.length:Int)/\(b.Nets.length:Int)<=1000000):Wr2 Tryz.prog 95 1000 1001 [.one (.ptr 1000 0),.one (.ptr 1001 0)] (.cells [.i b.Layers,.i b.Outline.Kind,lst 7 AK.c b.Outline.Edges,.i b.Outline.R,lst 7 AD.c b.Parts,lst 2 A7.c b.Nets,.val (vs 6),.val (vs 7),.val (vs 8),.val (vs 9),.val (vs 10),.val (vs 11),.val (vs 12),.val (vs 13),.val (vs 14)] 41) (.cells (AF.c d) 117) (tO (.s (Dj b d).1)) (.cells [.i b.Layers,.i b.Outline.Kind,lst 7 AK.c b.Outline.Edges,.i b.Outline.R,lst 7 AD.c b.Parts,lst 2 A7.c b.Nets,.val (vs 6),.val (vs 7),.val (vs 8),.val (vs 9),.val (vs 10),.val (vs 11),.val (vs 12),.val (vs 13),.val (vs 14)] 41) (.cells (AF.c (Dj b d).2) 117):=by
 refine SU Tryz.func95 rfl kr kr kr rfl kr kr kr fun W0 M0 X hX=>?_;have hnb:=D5 d (b.Nets.length:Int) oM oM;exact AA<|on<|AA<|oe [] [(15,(Z26 b d))] [none,CQ (Jg d),0<=((PQ d b).1:Int)/\((PQ d b).1:Int)<(b.Nets.length:Int)] (.cons (cWr (Bp d (b.Nets.length:Int) au29 au14)) .nil) (H2 rfl oM)<|AE<|AO<|xl (tO (.s (b.Nets.getD (PQ d b).1.toNat default).Name)) ⟨F5 (by rfl),⟨.cells (Bj b [.val (vs 6),.val (vs 7),.val (vs 8),.val (vs 9),.val (vs 10),.val (vs 11),.val (vs 12),.val (vs 13),.val (vs 14)]) 41,by kernel_rfl,Ea rfl⟩,.cells (AF.c (PQ d b).2) 117,by kernel_rfl,Ea kr⟩
theorem Ok{p q:Prop}[Decidable p][Decidable q](h:(bif decide p then decide q else false)=true):q:=by
 by_cases hp:p
 ·rw[lj hp]at h;exact oT h
 rw[lk hp]at h;cases h
def RU(b:AC)(m9:List AN):Prop:=∀k:Int,0<=k->k<(b.Parts.length:Int)->1<=((Bq m9 (b.Parts.getD k.toNat default).Type').1.Pads.length:Int)
theorem Xy{b:AC}{d:AF}(h:(bif decide ((AB d 12).1<8)then decide ((0:Int)<(b.Parts.length:Int))else false)=true):0<=Int.tmod (AB d 12).1 (b.Parts.length:Int)/\Int.tmod (AB d 12).1 (b.Parts.length:Int)<(b.Parts.length:Int):=L8 (D5 d 12 m4 m4).1 (Ok h)
theorem OJ{b:AC}{m9:List AN}{d:AF}(hg:RU b m9)(h:(bif decide ((AB d 12).1<8)then decide ((0:Int)<(b.Parts.length:Int))else false)=true):1<=((Bq m9 (b.Parts.getD (Int.tmod (AB d 12).1 (b.Parts.length:Int)).toNat default).Type').1.Pads.length:Int):=hg _ (Xy h).1 (Xy h).2
abbrev Zn(t_:List Cl):List Cl:=(.i b.Layers)::(.i b.Outline.Kind)::(lst 7 AK.c b.Outline.Edges)::(.i b.Outline.R)::t_
abbrev Z7:List Cl:=(Zn b [lst 7 AD.c b.Parts,.any,.any,.any,.any,.any,.any,.any,.any,.any,.any])
abbrev Zt:List Av:=[.one (.ptr 1000 0),.one (.i 12)]
def Z28:CT:=(42,(Zt:List Av).map (CH 1000 1000),wrI 1000 (Jg d) (tI (AB d 12).1) (.cells (AF.c (AB d 12).2) 117))
abbrev Rw:List Av:=[.one (.ptr 1000 0),.one (.i 6)]
abbrev KV:=AB (AB d 12).2 6
def Z29:CT:=(42,(Rw:List Av).map (CH 1000 1000),wrI 1000 (.cells (AF.c (AB d 12).2) 117) (tI (KV d).1) (.cells (AF.c (KV d).2) 117))
def Z2b:AD:=b.Parts.getD (Int.tmod (AB d 12).1 (b.Parts.length:Int)).toNat default
def Z2c(m9:(List AN))(b:AC)(d:AF):AG:=((Bq m9 (Z2b b d).Type').1.Pads.getD (Int.tmod (AB (AB d 12).2 6).1 ((Bq m9 (Z2b b d).Type').1.Pads.length:Int)).toNat default).At
def Z2d:AG:=BB (Mu (Z2b b d)) (Z2c m9 b d)
def CD(b:AC)(m9:(List AN))(d:AF):(AG×AF):=bif bif decide (((AB d 12).1:Int)<8)then decide ((0:Int)<(b.Parts.length:Int))else false then(Z2d b d m9,(AB (AB d 12).2 6).2)else(AG.mk (W64 (30+(Int.tmod (W64 (40*(AB d 12).1)) 360))) (W64 (30+(W64 (60*(AB (AB d 12).2 6).1)))),(AB (AB d 12).2 6).2)
theorem OO (b:AC)(m9:(List AN))(d:AF)(hd:DK d)(hb:(b.Parts.length:Int)<=1000000)(ht:(m9.length:Int)<=1000000)(hg:RU b m9):Wr Tryz.prog 97 1000 [.agg [.i b.Layers,.i b.Outline.Kind,lst 7 AK.c b.Outline.Edges,.i b.Outline.R,lst 7 AD.c b.Parts,.any,.any,.any,.any,.any,.any,.any,.any,.any,.any],.one (lst 3 AN.c m9),.one (.ptr 1000 0)] (.cells (AF.c d) 117) (.av (.agg (AG.c (CD b m9 d).1))) (.cells (AF.c (CD b m9 d).2) 117):=by
 refine Jw Tryz.func97 rfl kr kr kr kr fun W0 M0 X hX=>?_;refine AA<|on<|AA<|rb 13 (Z28 d) (Jg d) ⟨[(D8 m9),(2,tP 1000 0),(3,tP 3 0),(6,tP 6 0),(7,tI (AB d 12).1)],[(3,.cells (Z7 b) 41),(6,.cells [.i 0,.i 0] 66),(1000,.cells (AF.c (AB d 12).2) 117)]⟩ (cWr (Bp d 12 au29 au14))<|AE<|AA<|rb 15 (Z29 d) (.cells (AF.c (AB d 12).2) 117) ⟨[(D8 m9),(3,tP 3 0),(6,tP 6 0),(7,tI (AB d 12).1),(8,tI (AB (AB d 12).2 6).1)],[(3,.cells (Z7 b) 41),(6,.cells [.i 0,.i 0] 66),(1000,.cells (AF.c (KV d).2) 117)]⟩ (cWr (Bp (AB d 12).2 6 au29 au14))<|AE<|AA<|AA<|oc [] (t4 (decide (((AB d 12).1:Int)<8)) []) .nil (c4 .nil)<|AE<|kb (bif decide (((AB d 12).1:Int)<8)then decide ((0:Int)<(b.Parts.length:Int))else false) (fun h1=>?_) (fun h1=>?_)
 ·have g1:=Fl h1;refine AA<|od [] [] [((b.Parts.length:Int):Int)≠0,0<=(Int.tmod (AB d 12).1 (b.Parts.length:Int):Int)/\(Int.tmod (AB d 12).1 (b.Parts.length:Int):Int)<(b.Parts.length:Int)] .nil (H2 (by first|decide|(have hq:=Ok h1;omega)|(have hq:=OJ hg h1;show ¬ ((Bq m9 (b.Parts.getD (Int.tmod (AB d 12).1 (b.Parts.length:Int)).toNat default).Type').1.Pads.length:Int)=0;omega)) (by first|exact Xy h1|exact L8 (D5 _ 6 m4 m4).1 (by have hq:=OJ hg h1;show(0:Int)<((Bq m9 (b.Parts.getD (Int.tmod (AB d 12).1 (b.Parts.length:Int)).toNat default).Type').1.Pads.length:Int);omega)|decide|omega))<|AE<|AA<|oq 37 _ (RF m9 (Z2b b d).Type' au15)<|AE<|AA ?_
  exact oe [] _ [none,(((Bq m9 (Z2b b d).Type').1.Pads.length:Int):Int)≠0,0<=(Int.tmod (AB (AB d 12).2 6).1 ((Bq m9 (Z2b b d).Type').1.Pads.length:Int):Int)/\(Int.tmod (AB (AB d 12).2 6).1 ((Bq m9 (Z2b b d).Type').1.Pads.length:Int):Int)<((Bq m9 (Z2b b d).Type').1.Pads.length:Int),none] (J2 41 52 (cL (Z2b b d)) (E1 (Mu (Z2b b d)) (Z2c m9 b d))) (H2 (by first|decide|(have hq:=Ok h1;omega)|(have hq:=OJ hg h1;show ¬ ((Bq m9 (b.Parts.getD (Int.tmod (AB d 12).1 (b.Parts.length:Int)).toNat default).Type').1.Pads.length:Int)=0;omega)) (by first|exact Xy h1|exact L8 (D5 _ 6 m4 m4).1 (by have hq:=OJ hg h1;show(0:Int)<((Bq m9 (b.Parts.getD (Int.tmod (AB d 12).1 (b.Parts.length:Int)).toNat default).Type').1.Pads.length:Int);omega)|decide|omega))<|AE<|AO<|Bf<|xl (.av (.agg (AG.c (Z2d b d m9)))) ⟨F5 (by simp only[CD,h1,mi,mj]<;>rfl),.cells (AF.c (AB (AB d 12).2 6).2) 117,by kernel_rfl,Ea (by first|(simp only[CD,h1,mi,mj];done)|(simp only[CD,h1,mi,mj];kernel_rfl))⟩
 exact AP<|AE<|AA<|oc [] [(360:Int)≠0] .nil (H1 (by first|decide|(have hq:=Ok h1;omega)|(have hq:=OJ hg h1;show ¬ ((Bq m9 (b.Parts.getD (Int.tmod (AB d 12).1 (b.Parts.length:Int)).toNat default).Type').1.Pads.length:Int)=0;omega)))<|AE<|AO<|xl (.av (.agg [.i (W64 (30+(Int.tmod (W64 (40*(AB d 12).1)) 360))),.i (W64 (30+(W64 (60*(AB (AB d 12).2 6).1))))])) ⟨F5 (by simp only[CD,h1,mi,mj]<;>rfl),.cells (AF.c (AB (AB d 12).2 6).2) 117,by kernel_rfl,Ea (by first|(simp only[CD,h1,mi,mj];done)|(simp only[CD,h1,mi,mj];kernel_rfl))⟩
def A3(n:Int):my:=([(⟨#[78,49]⟩:my),(⟨#[78,50]⟩:my),(⟨#[71,78,68]⟩:my),(⟨#[82,49]⟩:my),(⟨#[120,47,82,49]⟩:my),(⟨#[110,101,119]⟩:my),(⟨#[]⟩:my),(⟨#[57]⟩:my),(⟨#[97,47,98,47,99,47,100,47,101,47,102]⟩:my),(⟨#[80,49]⟩:my),(⟨#[112,111,119,101,114]⟩:my),(⟨#[109,49]⟩:my)]:List my).getD (Int.tmod n 12).toNat ⟨#[]⟩
def iD:CT:=(48,[.one (.i n)],.val [] (.av (.one (.s (A3 n)))))
theorem yK(n:Int)(hn:0<=n):PuP 48 (iD n).2.1 (tO (.s (A3 n))):=by
 refine pwf Tryz.func48 fun W0 M0=>?_;exact AA<|on<|AA<|oc [] [(12:Int)≠0,0<=(Int.tmod n 12:Int)/\(Int.tmod n 12:Int)<((12:Nat):Int)] .nil (H2 au11 (L8 hn m4))<|AE<|AO<|zl
theorem E8(n:Int)(hn:0<=n):OKc (iD n):=cPu<|yK n hn
def Z2f:AQ:=I9 (Al.mk (W64 (10*n)) 50 (W64 ((W64 (10*n))+9)) 59)
def Z2g:AK:=E2 (AG.mk (W64 (10*n)) 50) (AG.mk 300 (W64 (9*n)))
def Z2h:AK:=E2 (AG.mk (W64 (10*n)) 50) (AG.mk 67108865 0)
def DP(n:Int):AQ:=bif decide (((Int.tmod n 6):Int)=0)then(AQ.mk 0 [] 0)else(bif decide (((Int.tmod n 6):Int)=1)then(IP (AG.mk (W64 (10*n)) 50) 5)else(bif decide (((Int.tmod n 6):Int)=2)then(Z2f n)else(bif decide (((Int.tmod n 6):Int)=3)then(AQ.mk 1 [Z2g n] 4)else(bif decide (((Int.tmod n 6):Int)=4)then(AQ.mk 1 [Z2g n] 0)else(AQ.mk 1 [Z2h n] 4)))))
def ZK:CT:=(47,[.one (.i n)],.val [] (.av (.agg (AQ.c (DP n)))))
theorem rD(n:Int):PuP 47 (ZK n).2.1 (.av (.agg (AQ.c (DP n)))):=by
 refine pwf Tryz.func47 fun W0 M0=>?_;refine AA<|on<|AA<|on<|AA<|AA<|oc [] [(6:Int)≠0] .nil (H1 au11)<|AE<|AJ<|AA<|on<|kb (decide (((Int.tmod n 6):Int)=0)) (fun h1=>?_) (fun h1=>?_)
 ·exact AA<|on<|AO<|Cm<|Bf<|xl (.av (.agg [.i 0,vN,.i 0])) (De (y:=.av (.agg [.i 0,lst 7 AK.c [],.i 0])) (.av (.agg (rr (.cons (Ca 7 AK.c) (rr .nil))))) (by simp only[DP,h1,mi,mj]<;>rfl))
 refine AA<|on<|kb (decide (((Int.tmod n 6):Int)=1)) (fun h2=>?_) (fun h2=>?_)
 ·exact AA<|oq 15 _ (MX (AG.mk (W64 (10*n)) 50) 5)<|AE<|AO<|Cm<|Bf<|zl (by simp only[DP,h1,h2,mi,mj]<;>kernel_rfl)
 refine AA<|on<|kb (decide (((Int.tmod n 6):Int)=2)) (fun h3=>?_) (fun h3=>?_)
 ·exact AA<|oq 29 _ (RE (Al.mk (W64 (10*n)) 50 (W64 ((W64 (10*n))+9)) 59))<|AE<|AO<|Cm<|Bf<|zl (by simp only[DP,h1,h2,h3,mi,mj]<;>kernel_rfl)
 refine AA<|on<|kb (decide (((Int.tmod n 6):Int)=3)) (fun h4=>?_) (fun h4=>?_)
 ·exact AA<|oq 36 _ (Ev (AG.mk (W64 (10*n)) 50) (AG.mk 300 (W64 (9*n))))<|AE<|AO<|Cm<|Bf<|xl (.av (.agg [.i 1,.list true 7 1 (A9 7 1 (AK.c (Z2g n))),.i 4])) (De (y:=.av (.agg [.i 1,lst 7 AK.c [Z2g n],.i 4])) (.av (.agg (rr (.cons (BO true (BN (c:=AK.c) (xs:=([Z2g n]:List AK)) rfl kr)) (rr .nil))))) (by simp only[DP,h1,h2,h3,h4,mi,mj]<;>rfl))
 refine AA<|on<|kb (decide (((Int.tmod n 6):Int)=4)) (fun h5=>?_) (fun h5=>?_)
 ·exact AA<|oq 45 _ (Ev (AG.mk (W64 (10*n)) 50) (AG.mk 300 (W64 (9*n))))<|AE<|AO<|Cm<|Bf<|xl (.av (.agg [.i 1,.list true 7 1 (A9 7 1 (AK.c (Z2g n))),.i 0])) (De (y:=.av (.agg [.i 1,lst 7 AK.c [Z2g n],.i 0])) (.av (.agg (rr (.cons (BO true (BN (c:=AK.c) (xs:=([Z2g n]:List AK)) rfl kr)) (rr .nil))))) (by simp only[DP,h1,h2,h3,h4,h5,mi,mj]<;>rfl))
 exact AP<|Ao<|AE<|AA<|oq 50 _ (Ev (AG.mk (W64 (10*n)) 50) (AG.mk 67108865 0))<|AE<|AO<|xl (.av (.agg [.i 1,.list true 7 1 (A9 7 1 (AK.c (Z2h n))),.i 4])) (De (y:=.av (.agg [.i 1,lst 7 AK.c [Z2h n],.i 4])) (.av (.agg (rr (.cons (BO true (BN (c:=AK.c) (xs:=([Z2h n]:List AK)) rfl kr)) (rr .nil))))) (by simp only[DP,h1,h2,h3,h4,h5,mi,mj]<;>rfl))
theorem MU(n:Int):OKc (ZK n):=cPu<|rD n
def Z2i:Blk:=.cells [.i 0,vN,.i 0] 28
def E3(s:AQ):AQ:=s
def Oi:CT:=(102,[.agg (AQ.c s)],.val [] (.av (.agg (AQ.c (E3 s)))))
theorem Wj(s:AQ)(hl:(s.Edges.length:Int)<=1000000):PuP 102 (Oi s).2.1 (.av (.agg (AQ.c (E3 s)))):=by
 refine pwf Tryz.func102 fun W0 M0=>?_;exact AA<|rn ⟨Vq,[(1,.cells (AQ.c s) 28),(2,Z2i)]⟩<|AA<|DE C8 [3] [] [] [1,2] [1,2,6] [0=0,0+s.Edges.length<=maxLen,(0+s.Edges.length)*56<=140737488355328] ⟨Vq,[(1,.cells [.i s.Kind,.own 6 7 (0+s.Edges.length),.i s.R] 28),(2,Z2i),(6,.row 7 (0+s.Edges.length) (fun i_ j_=>if i_<0 then(A9 7 0 []) i_ j_ else(AL AK.c s.Edges) (i_-0) j_) 68)]⟩ .nil kr (.cons rfl (.cons au2 (.cons au2 .nil)))<|AE<|AZ (Ag 6 (Ac (Ai 7 AK.c (([]:List AK):List AK)) (AU 7 AK.c s.Edges)))<|AA<|on<|AO<|zy (vf 6 hk0)
theorem EX(s:AQ)(hl:(s.Edges.length:Int)<=1000000):OKc (Oi s):=cPu<|Wj s hl
theorem Eo{α:Type}{c:Bool}{a b:α×AF}(ha:DK a.2)(hb:DK b.2):DK (bif c then a else b).2:=by cases c<;>assumption
theorem F6{b:AC}{d:AF}(h:DK d):DK (Dj b d).2:=Bm h
theorem EF{a c:AG}{d:AF}(h:DK d):DK (DX a c d).2:=by
 unfold DX;exact Eo (Bm h) (Eo (Bm (Bm h)) (Bm h))
theorem Eh{b:AC}{m9:List AN}{d:AF}(h:DK d):DK (CD b m9 d).2:=by
 unfold CD;exact Eo (Bm (Bm h)) (Bm (Bm h))
theorem EP{l:List (List Int)}(hl:∀x∈l,(x.length:Int)<=9223372036854775807)(k:Int):((Ah l k).length:Int)<=9223372036854775807:=by
 unfold Ah
 by_cases h:k<(l.length:Int)
 ·rw[lj h];simp only[mi]
  by_cases hk:k.toNat<l.length
  ·rw[aE,ea hk];exact hl _ (List.getElem_mem _)
  rw[aE,cw oM];decide
 rw[lk h];exact Int.le_of_lt (by decide:(([]:List Int).length:Int)<9223372036854775807)
theorem Wz{v:Int}{d:AF}{n:Int}(h:v<(AB d n).1)(h0:0<n)(h1:n<=1000000):v<n:=by
 have:=D5 d n h0 mz;omega
end
section
open Go.RowKit
variable (b:AC)(Af:List AM)(Au:List Ak)(m9:List AN)(BE:List A8)(nt:Int)(l:List (List Int))(v6 nk nf:AF)
abbrev WP:List Cl:=(Bj b [vN,vN,vN,vN,vN,vN,vN,vN,vN])
def Z2m:Blk:=.cells (WP b) 41
abbrev Gp:=AC.mk b.Layers b.Outline b.Parts b.Nets [] [] [] [] [] [] [] [] []
abbrev QO:List Cl:=(Bj b [lst 6 AM.c [],lst 8 Ak.c [],lst 8 A8.c [],lst 5 BA.c [],lst 4 AX.c [],lst 2 BG.c [],lst 20 A5.c [],lst 3 As.c [],lst 3 BI.c []])
abbrev R2:List Av:=[.one (.ptr 1000 0),.one (.ptr 1001 0)]
def Z2n:CT:=(95,(R2:List Av).map (G7 1000 1000 1001 22),wqV 1000 22 [6,7,8,9,10,11,12,13,14] (QO b) 41 (.cells [lst 1 eIn (Ah l 4),.i 0] 117) (.av (.one (.s (Dj (Gp b) (AF.mk (Ah l 4) 0)).1))) (.cells (AF.c (Dj (Gp b) (AF.mk (Ah l 4) 0)).2) 117))
abbrev Z2o:AF:=(Dj (AC.mk b.Layers b.Outline b.Parts b.Nets [] [] [] [] [] [] [] [] []) (AF.mk (Ah l 4) 0)).2
def Z2p:Tv:=.av (.one (.s (Dj (Gp b) (AF.mk (Ah l 4) 0)).1))
abbrev G9:=AB (Z2o b l) 6
def Z2q:CT:=(42,(Rw:List Av).map (CH 1000 22),wrI 22 (.cells (AF.c (Z2o b l)) 117) (tI (G9 b l).1) (.cells (AF.c (G9 b l).2) 117))
def Z2r:Blk:=.cells (AF.c (G9 b l).2) 117
abbrev GU:List Av:=[.one (.ptr 1000 0),.one (.i 3)]
abbrev Lk:=AB (AF.mk (Ah l 5) 0) 3
def Z2s:CT:=(42,(GU:List Av).map (CH 1000 75),wrI 75 (.cells [lst 1 eIn (Ah l 5),.i 0] 117) (tI (Lk l).1) (.cells (AF.c (Lk l).2) 117))
def Z2t:Tv:=tI (Lk l).1
def Z2u:Blk:=.cells (AF.c (Lk l).2) 117
abbrev Ka:=AB (AF.mk (Ah l 6) 0) 3
def Z2v:CT:=(42,(GU:List Av).map (CH 1000 189),wrI 189 (.cells [lst 1 eIn (Ah l 6),.i 0] 117) (tI (Ka l).1) (.cells (AF.c (Ka l).2) 117))
def Z2w:Blk:=.cells (AF.c (Ka l).2) 117
abbrev Ik:=AC.mk b.Layers b.Outline b.Parts [] [] [] [] [] [] [] [] [] []
abbrev Xn:List Av:=[.agg (Z7 b),.one (FT m9),.one (.ptr 1000 0)]
def Z2x:CT:=(97,((Xn b m9):List Av).map (CH 1000 189),wrI 189 (.cells (AF.c (Ka l).2) 117) (.av (.agg (AG.c (CD (Ik b) m9 (Ka l).2).1))) (.cells (AF.c (CD (Ik b) m9 (Ka l).2).2) 117))
abbrev Z2y:AF:=(CD (AC.mk b.Layers b.Outline b.Parts [] [] [] [] [] [] [] [] [] []) m9 (AB (AF.mk (Ah l 6) 0) 3).2).2
def Z2z:AG:=(CD (AC.mk b.Layers b.Outline b.Parts [] [] [] [] [] [] [] [] [] []) m9 (AB (AF.mk (Ah l 6) 0) 3).2).1
def Z2A:CT:=(42,(GU:List Av).map (CH 1000 189),wrI 189 (.cells (AF.c (Z2y b m9 l)) 117) (tI (AB (Z2y b m9 l) 3).1) (.cells (AF.c (AB (Z2y b m9 l) 3).2) 117))
def Z2B:AQ:=I9 (Al.mk (Z2z b m9 l).X (Z2z b m9 l).Y (W64 ((Z2z b m9 l).X+30)) (W64 ((Z2z b m9 l).Y+20)))
abbrev Z2C(l:(List (List Int)))(b:AC)(m9:(List AN)):AF:=bif decide (((AB (AF.mk (Ah l 6) 0) 3).1:Int)=0)then(AB (Z2y b m9 l) 3).2 else(AB (AF.mk (Ah l 6) 0) 3).2
def Z2D(l:(List (List Int)))(b:AC)(m9:(List AN)):(List BA):=bif decide (((AB (AF.mk (Ah l 6) 0) 3).1:Int)=0)then [BA.mk 41 (AB (Z2y b m9 l) 3).1 (Z2B b m9 l)]else []
def Z2E(l:(List (List Int)))(b:AC)(m9:(List AN)):CT:=(42,(GU:List Av).map (CH 1000 189),wrI 189 (.cells (AF.c (Z2C l b m9)) 117) (tI (AB (Z2C l b m9) 3).1) (.cells (AF.c (AB (Z2C l b m9) 3).2) 117))
def Z2F(l:(List (List Int)))(b:AC)(m9:(List AN)):Tv:=tB (decide (((AB (Z2C l b m9) 3).1:Int)=0))
def Z2G(l:(List (List Int)))(b:AC)(m9:(List AN)):Blk:=.cells (AF.c (AB (Z2C l b m9) 3).2) 117
def Z2H:CT:=(97,((Xn b m9):List Av).map (CH 1000 189),wrI 189 (.cells (AF.c (AB (Z2C l b m9) 3).2) 117) (.av (.agg (AG.c (CD (Ik b) m9 (AB (Z2C l b m9) 3).2).1))) (.cells (AF.c (CD (Ik b) m9 (AB (Z2C l b m9) 3).2).2) 117))
abbrev Z2I:AF:=(CD (AC.mk b.Layers b.Outline b.Parts [] [] [] [] [] [] [] [] [] []) m9 (AB (Z2C l b m9) 3).2).2
def Z2J:AG:=(CD (AC.mk b.Layers b.Outline b.Parts [] [] [] [] [] [] [] [] [] []) m9 (AB (Z2C l b m9) 3).2).1
def Z2K:CT:=(42,Jb.map (CH 1000 189),wrI 189 (.cells (AF.c (Z2I b m9 l)) 117) (tI (AB (Z2I b m9 l) 4).1) (.cells (AF.c (AB (Z2I b m9 l) 4).2) 117))
def Z2L:AK:=E2 (Z2J b m9 l) (AG.mk (W64 ((Z2J b m9 l).X+25)) (W64 ((Z2J b m9 l).Y+10)))
def Z2M:Blk:=.row 8 ([]:List A8).length (AL A8.c ([]:List A8)) 97
def Z2N:Blk:=.row 8 BE.length (AL A8.c BE) 97
def Z2O:Blk:=.row 8 ([]:List Ak).length (AL Ak.c ([]:List Ak)) 133
def Z2Q:Blk:=.row 6 ([]:List AM).length Vu 131
def Z2R:Blk:=.cells (Bj b [.own 2000 6 ([]:List AM).length,vN,vN,vN,vN,vN,vN,vN,vN]) 41
abbrev aM:List Cl:=(Bj b [.own 2000 6 Af.length,vN,vN,vN,vN,vN,vN,vN,vN])
def Z2S:Blk:=.cells (aM b Af) 41
abbrev eo:List Av:=[.one (.ptr 1000 0),.one (.i 2)]
abbrev HA:List Av:=(eo:List Av)
def Z2U:CT:=(42,HA.map (CH 1000 22),wrI 22 (.cells (AF.c v6) 117) (tI (AB v6 2).1) (.cells (AF.c (AB v6 2).2) 117))
abbrev Lc:=AB (AB v6 2).2 4
def Z2V:CT:=(42,Jb.map (CH 1000 22),wrI 22 (.cells (AF.c (AB v6 2).2) 117) (tI (Lc v6).1) (.cells (AF.c (Lc v6).2) 117))
def Z2W:CT:=(97,((Xn b m9):List Av).map (CH 1000 22),wrI 22 (.cells (AF.c (Lc v6).2) 117) (.av (.agg (AG.c (CD (Ik b) m9 (Lc v6).2).1))) (.cells (AF.c (CD (Ik b) m9 (Lc v6).2).2) 117))
abbrev Z2X:AF:=(CD (AC.mk b.Layers b.Outline b.Parts [] [] [] [] [] [] [] [] [] []) m9 (AB (AB v6 2).2 4).2).2
def Z2Y:AG:=(CD (AC.mk b.Layers b.Outline b.Parts [] [] [] [] [] [] [] [] [] []) m9 (AB (AB v6 2).2 4).2).1
def Z2Z:CT:=(97,((Xn b m9):List Av).map (CH 1000 22),wrI 22 (.cells (AF.c (Z2X b m9 v6)) 117) (.av (.agg (AG.c (CD (Ik b) m9 (Z2X b m9 v6)).1))) (.cells (AF.c (CD (Ik b) m9 (Z2X b m9 v6)).2) 117))
abbrev Z30:AF:=(CD (AC.mk b.Layers b.Outline b.Parts [] [] [] [] [] [] [] [] [] []) m9 (Z2X b m9 v6)).2
def Z31:AG:=(CD (AC.mk b.Layers b.Outline b.Parts [] [] [] [] [] [] [] [] [] []) m9 (Z2X b m9 v6)).1
def Z32:CT:=(96,([.agg (AG.c (Z2Y b m9 v6)),.agg (AG.c (Z31 b m9 v6)),.one (.ptr 1000 0)]:List Av).map (CH 1000 22),wrI 22 (.cells (AF.c (Z30 b m9 v6)) 117) (.av (.one (lst 7 AK.c (DX (Z2Y b m9 v6) (Z31 b m9 v6) (Z30 b m9 v6)).1))) (.cells (AF.c (DX (Z2Y b m9 v6) (Z31 b m9 v6) (Z30 b m9 v6)).2) 117))
abbrev Z33:AF:=(DX (Z2Y b m9 v6) (Z31 b m9 v6) (Z30 b m9 v6)).2
abbrev Xs(v9:Int)(v7:my)(v6:AF)(b:AC)(m9:List AN):=[AM.mk (W64 (11+v9)) v7 (W64 (1+(AB v6 2).1)) (AQ.mk 1 (DX (Z2Y b m9 v6) (Z31 b m9 v6) (Z30 b m9 v6)).1 (W64 (3+(Lc v6).1)))]
def Z34(Af:List AM)(v9:Int)(v7:my)(v6:AF)(b:AC)(m9:(List AN)):Blk:=.row 6 (Af++(Xs v9 v7 v6 b m9)).length (AL AM.c (Af++(Xs v9 v7 v6 b m9))) 131
def Z35(b:AC)(Af:List AM)(v9:Int)(v7:my)(v6:AF)(m9:(List AN)):Blk:=.cells ((Bj b [.own 66 6 (Af++(Xs v9 v7 v6 b m9)).length,vN,vN,vN,vN,vN,vN,vN,vN])) 41
def Z36:CT:=(95,(R2:List Av).map (G7 1000 1000 1001 22),wqV 1000 22 [6,7,8,9,10,11,12,13,14] (QO b) 41 (.cells (AF.c (Z33 b m9 v6)) 117) (.av (.one (.s (Dj (Gp b) (Z33 b m9 v6)).1))) (.cells (AF.c (Dj (Gp b) (Z33 b m9 v6)).2) 117))
abbrev Z37:AF:=(Dj (AC.mk b.Layers b.Outline b.Parts b.Nets [] [] [] [] [] [] [] [] []) (Z33 b m9 v6)).2
def Z38:Tv:=.av (.one (.s (Dj (Gp b) (Z33 b m9 v6)).1))
def Z39:Blk:=.cells (AF.c (Z37 b m9 v6)) 117
def Z3a:CT:=(95,(R2:List Av).map (G7 1000 1000 1001 75),wqV 1000 75 [6,7,8,9,10,11,12,13,14] (QO b) 41 (.cells (AF.c nk) 117) (.av (.one (.s (Dj (Gp b) nk).1))) (.cells (AF.c (Dj (Gp b) nk).2) 117))
abbrev Z3b:AF:=(Dj (AC.mk b.Layers b.Outline b.Parts b.Nets [] [] [] [] [] [] [] [] []) nk).2
def Z3c:CT:=(97,((Xn b m9):List Av).map (CH 1000 75),wrI 75 (.cells (AF.c (Z3b b nk)) 117) (.av (.agg (AG.c (CD (Ik b) m9 (Z3b b nk)).1))) (.cells (AF.c (CD (Ik b) m9 (Z3b b nk)).2) 117))
abbrev Z3d:AF:=(CD (AC.mk b.Layers b.Outline b.Parts [] [] [] [] [] [] [] [] [] []) m9 (Z3b b nk)).2
def Z3e:AG:=(CD (AC.mk b.Layers b.Outline b.Parts [] [] [] [] [] [] [] [] [] []) m9 (Z3b b nk)).1
abbrev ec:List Av:=[.one (.ptr 1000 0),.one (.i 5)]
abbrev NQ:List Av:=(ec:List Av)
def Z3f:CT:=(42,NQ.map (CH 1000 75),wrI 75 (.cells (AF.c (Z3d b m9 nk)) 117) (tI (AB (Z3d b m9 nk) 5).1) (.cells (AF.c (AB (Z3d b m9 nk) 5).2) 117))
def Z3g:CT:=(42,(GU:List Av).map (CH 1000 75),wrI 75 (.cells (AF.c (AB (Z3d b m9 nk) 5).2) 117) (tI (AB (AB (Z3d b m9 nk) 5).2 3).1) (.cells (AF.c (AB (AB (Z3d b m9 nk) 5).2 3).2) 117))
abbrev Z3h:AF:=(AB (AB (Z3d b m9 nk) 5).2 3).2
def Z3i:Blk:=.cells (AF.c (Z3h b m9 nk)) 117
abbrev SL(ob:Int)(b:AC)(nk:AF)(m9:List AN):=[Ak.mk (W64 (21+ob)) (Dj (Gp b) nk).1 (Z3e b m9 nk) (W64 (6+(AB (Z3d b m9 nk) 5).1)) (W64 (4+(W64 (2*(AB (AB (Z3d b m9 nk) 5).2 3).1)))) 1 2]
def Z3j(Au:List Ak)(ob:Int)(b:AC)(nk:AF)(m9:(List AN)):Blk:=.row 8 (Au++(SL ob b nk m9)).length (AL Ak.c (Au++(SL ob b nk m9))) 133
def Z3k(b:AC)(Af:List AM)(Au:List Ak)(ob:Int)(nk:AF)(m9:(List AN)):Blk:=.cells (Bj b [.own 2000 6 Af.length,.own 108 8 (Au++(SL ob b nk m9)).length,vN,vN,vN,vN,vN,vN,vN]) 41
def Z3l:CT:=(42,(GU:List Av).map (CH 1000 75),wrI 75 (.cells (AF.c nk) 117) (tI (AB nk 3).1) (.cells (AF.c (AB nk 3).2) 117))
def Z3m:CT:=(42,(Zt:List Av).map (CH 1000 75),wrI 75 (.cells (AF.c nf) 117) (tI (AB nf 12).1) (.cells (AF.c (AB nf 12).2) 117))
abbrev LH:=AB (AB nf 12).2 12
def Z3n:CT:=(42,(Zt:List Av).map (CH 1000 75),wrI 75 (.cells (AF.c (AB nf 12).2) 117) (tI (LH nf).1) (.cells (AF.c (LH nf).2) 117))
def Z3o:CT:=(42,(Rw:List Av).map (CH 1000 75),wrI 75 (.cells (AF.c (LH nf).2) 117) (tI (AB (LH nf).2 6).1) (.cells (AF.c (AB (LH nf).2 6).2) 117))
abbrev Z3p:AF:=(AB (AB (AB nf 12).2 12).2 6).2
def Z3q:CT:=(42,NQ.map (CH 1000 75),wrI 75 (.cells (AF.c (Z3p nf)) 117) (tI (AB (Z3p nf) 5).1) (.cells (AF.c (AB (Z3p nf) 5).2) 117))
abbrev j3:=Dj (Gp b) (AB (Z3p nf) 5).2
def Z3r:CT:=(95,(R2:List Av).map (G7 1000 1000 1001 75),wqV 1000 75 [6,7,8,9,10,11,12,13,14] (QO b) 41 (.cells (AF.c (AB (Z3p nf) 5).2) 117) (.av (.one (.s (j3 b nf).1))) (.cells (AF.c (j3 b nf).2) 117))
abbrev Z3s:AF:=(Dj (AC.mk b.Layers b.Outline b.Parts b.Nets [] [] [] [] [] [] [] [] []) (AB (Z3p nf) 5).2).2
abbrev Ke:=AB (Z3s b nf) 2
def Z3t:CT:=(42,HA.map (CH 1000 75),wrI 75 (.cells (AF.c (Z3s b nf)) 117) (tI (Ke b nf).1) (.cells (AF.c (Ke b nf).2) 117))
def Z3u:CT:=(42,(GU:List Av).map (CH 1000 75),wrI 75 (.cells (AF.c (Ke b nf).2) 117) (tI (AB (Ke b nf).2 3).1) (.cells (AF.c (AB (Ke b nf).2 3).2) 117))
abbrev Z3v:AF:=(AB (AB (Z3s b nf) 2).2 3).2
def Z3w:CT:=(42,HA.map (CH 1000 75),wrI 75 (.cells (AF.c (Z3v b nf)) 117) (tI (AB (Z3v b nf) 2).1) (.cells (AF.c (AB (Z3v b nf) 2).2) 117))
abbrev SC:=AB (AB (Z3v b nf) 2).2 4
def Z3x:CT:=(42,Jb.map (CH 1000 75),wrI 75 (.cells (AF.c (AB (Z3v b nf) 2).2) 117) (tI (SC b nf).1) (.cells (AF.c (SC b nf).2) 117))
abbrev Z3y:AF:=(AB (AB (Z3v b nf) 2).2 4).2
abbrev JZ:=AB (Z3y b nf) 6
def Z3z:CT:=(42,(Rw:List Av).map (CH 1000 75),wrI 75 (.cells (AF.c (Z3y b nf)) 117) (tI (JZ b nf).1) (.cells (AF.c (JZ b nf).2) 117))
abbrev LO:=[Al.mk (AB nf 12).1 (LH nf).1 (W64 ((W64 ((AB nf 12).1+1))+(AB (LH nf).2 6).1)) (W64 ((W64 ((LH nf).1+1))+(AB (Z3p nf) 5).1))]
abbrev PI(nt:Int)(b:AC)(nf:AF)(t_:List Cl):List Cl:=(.i (W64 (31+nt)))::(.s (j3 b nf).1)::(.i (W64 (1+(Ke b nf).1)))::(.i (W64 (20+(W64 (5*(AB (Ke b nf).2 3).1)))))::(.i (AB (Z3v b nf) 2).1)::(.i (([0,0,5,9]:List Int).getD (SC b nf).1.toNat 0))::(.i (W64 (4+(JZ b nf).1)))::t_
def Z3A(nt:Int)(b:AC)(nf:AF):Blk:=.cells (PI nt b nf [.own 158 4 ((LO nf).length)]) 97
def Z3B:Blk:=.row 4 ((LO nf).length) (AL Al.c (LO nf)) 90
def Z3C:CT:=(42,(GU:List Av).map (CH 1000 75),wrI 75 (.cells (AF.c (JZ b nf).2) 117) (tI (AB (JZ b nf).2 3).1) (.cells (AF.c (AB (JZ b nf).2 3).2) 117))
abbrev Z3D:AF:=(AB (AB (Z3y b nf) 6).2 3).2
def Z3E:Blk:=.cells (AF.c (Z3D b nf)) 117
abbrev WO:=[Al.mk (W64 ((AB nf 12).1-2)) (LH nf).1 (W64 ((AB nf 12).1+1)) (W64 ((LH nf).1+2))]
def Z3F:Blk:=.row 4 ((LO nf)++(WO nf)).length (AL Al.c ((LO nf)++(WO nf))) 90
def Z3G:(List Al):=bif decide (((AB (AB (Z3y b nf) 6).2 3).1:Int)=0)then([Al.mk (AB nf 12).1 (AB (AB nf 12).2 12).1 (W64 ((W64 ((AB nf 12).1+1))+(AB (AB (AB nf 12).2 12).2 6).1)) (W64 ((W64 ((AB (AB nf 12).2 12).1+1))+(AB (Z3p nf) 5).1))]++[Al.mk (W64 ((AB nf 12).1-2)) (AB (AB nf 12).2 12).1 (W64 ((AB nf 12).1+1)) (W64 ((AB (AB nf 12).2 12).1+2))])else [Al.mk (AB nf 12).1 (AB (AB nf 12).2 12).1 (W64 ((W64 ((AB nf 12).1+1))+(AB (AB (AB nf 12).2 12).2 6).1)) (W64 ((W64 ((AB (AB nf 12).2 12).1+1))+(AB (Z3p nf) 5).1))]
abbrev SO(nt:Int)(b:AC)(nf:AF):=[A8.mk (W64 (31+nt)) (j3 b nf).1 (W64 (1+(Ke b nf).1)) (W64 (20+(W64 (5*(AB (Ke b nf).2 3).1)))) (AB (Z3v b nf) 2).1 (([0,0,5,9]:List Int).getD (SC b nf).1.toNat 0) (W64 (4+(JZ b nf).1)) (Z3G b nf)]
def Z3H(BE:List A8)(nt:Int)(b:AC)(nf:AF):Blk:=.row 8 (BE++(SO nt b nf)).length (AL A8.c (BE++(SO nt b nf))) 97
def Z3J:Blk:=.cells (Bj b [.own 2000 6 Af.length,.own 2001 8 ([]:List Ak).length,vN,vN,vN,vN,vN,vN,vN]) 41
abbrev JU(t_:List Cl):List Cl:=(.own 2000 6 Af.length)::(.own 2001 8 Au.length)::t_
abbrev WW:List Cl:=(Bj b (JU Af Au [vN,vN,vN,vN,vN,vN,vN]))
def Z3K:Blk:=.cells (WW b Af Au) 41
def Z3L:Blk:=.cells (Bj b (JU Af Au [.own 183 8 (BE++(SO nt b nf)).length,vN,vN,vN,vN,vN,vN])) 41
def Z3N:Blk:=.cells (Bj b (JU Af Au [.own 2002 8 ([]:List A8).length,vN,vN,vN,vN,vN,vN])) 41
abbrev Xm:List Cl:=(Bj b (JU Af Au [.own 2002 8 BE.length,vN,vN,vN,vN,vN,vN]))
def Z3O:Blk:=.cells (Xm b Af Au BE) 41
abbrev Zu(b:AC)(Af:List AM)(Au:List Ak)(BE:List A8)(l:List (List Int))(m9:List AN):List Cl:=(Bj b (JU Af Au [.own 2002 8 BE.length,lst 5 BA.c (Z2D l b m9),vN,vN,vN,vN,vN]))
def Z3P(b:AC)(Af:List AM)(Au:List Ak)(BE:List A8)(l:(List (List Int)))(m9:(List AN)):Blk:=.cells (Zu b Af Au BE l m9) 41
def Z3Q(nt:Int)(b:AC)(nf:AF):Blk:=.cells (PI nt b nf [.own 2003 4 ((LO nf)++(WO nf)).length]) 97
def Z3R(nt:Int)(b:AC)(nf:AF):Blk:=.cells (PI nt b nf [.own 2003 4 ((LO nf).length)]) 97
def Co(b:AC)(m9:(List AN))(l:(List (List Int)))(Af:List AM)(v6:AF)(v7:my)(v9:Int)(Au:List Ak)(nk:AF)(ob:Int)(K0:List AM->AF->my->Int->AC)(K1:List Ak->AF->Int->AC):Nat->List A8->AF->Int->AC
 |0,_,_,_=>default
 |n2+1,BE,nf,nt=>bif decide ((nt:Int)<(AB nk 3).1)then((Co b m9 l Af v6 v7 v9 Au nk ob K0 K1 n2) (BE++[A8.mk (W64 (31+nt)) (Dj (AC.mk b.Layers b.Outline b.Parts b.Nets [] [] [] [] [] [] [] [] []) (AB (Z3p nf) 5).2).1 (W64 (1+(AB (Z3s b nf) 2).1)) (W64 (20+(W64 (5*(AB (AB (Z3s b nf) 2).2 3).1)))) (AB (Z3v b nf) 2).1 (([0,0,5,9]:List Int).getD (AB (AB (Z3v b nf) 2).2 4).1.toNat 0) (W64 (4+(AB (Z3y b nf) 6).1)) (Z3G b nf)]) (Z3D b nf) (nt+1))else(bif decide (((AB (Z2C l b m9) 3).1:Int)=0)then(AC.mk b.Layers b.Outline b.Parts b.Nets Af Au BE (Z2D l b m9) [AX.mk 51 (AQ.mk 1 [Z2L b m9 l] (W64 (3+(AB (Z2I b m9 l) 4).1)))] [] [] [] [])else(AC.mk b.Layers b.Outline b.Parts b.Nets Af Au BE (Z2D l b m9) [] [] [] [] []))
def C2(b:AC)(m9:(List AN))(l:(List (List Int)))(Af:List AM)(v6:AF)(v7:my)(v9:Int)(K0:List AM->AF->my->Int->AC):Nat->List Ak->AF->Int->AC
 |0,_,_,_=>default
 |n1+1,Au,nk,ob=>bif decide ((ob:Int)<(AB (AF.mk (Ah l 5) 0) 3).1)then((C2 b m9 l Af v6 v7 v9 K0 n1) (Au++[Ak.mk (W64 (21+ob)) (Dj (AC.mk b.Layers b.Outline b.Parts b.Nets [] [] [] [] [] [] [] [] []) nk).1 (Z3e b m9 nk) (W64 (6+(AB (Z3d b m9 nk) 5).1)) (W64 (4+(W64 (2*(AB (AB (Z3d b m9 nk) 5).2 3).1)))) 1 2]) (Z3h b m9 nk) (ob+1))else(Co b m9 l Af v6 v7 v9 Au nk ob K0 (C2 b m9 l Af v6 v7 v9 K0 n1) (((AB nk 3).1-0).toNat+1) ([]:List A8) (AB nk 3).2 0)
def CU(b:AC)(m9:(List AN))(l:(List (List Int))):Nat->List AM->AF->my->Int->AC
 |0,_,_,_,_=>default
 |n0+1,Af,v6,v7,v9=>bif decide ((v9:Int)<(AB (Z2o b l) 6).1)then((CU b m9 l n0) (Af++[AM.mk (W64 (11+v9)) v7 (W64 (1+(AB v6 2).1)) (AQ.mk 1 (DX (Z2Y b m9 v6) (Z31 b m9 v6) (Z30 b m9 v6)).1 (W64 (3+(AB (AB v6 2).2 4).1)))]) (Z37 b m9 v6) (Dj (AC.mk b.Layers b.Outline b.Parts b.Nets [] [] [] [] [] [] [] [] []) (Z33 b m9 v6)).1 (v9+1))else(C2 b m9 l Af v6 v7 v9 (CU b m9 l n0) (((AB (AF.mk (Ah l 5) 0) 3).1-0).toNat+1) ([]:List Ak) (AB (AF.mk (Ah l 5) 0) 3).2 0)
def BW(b:AC)(m9:(List AN))(l:(List (List Int))):AC:=CU b m9 l (((AB (Z2o b l) 6).1-0).toNat+1) ([]:List AM) (AB (Z2o b l) 6).2 (Dj (AC.mk b.Layers b.Outline b.Parts b.Nets [] [] [] [] [] [] [] [] []) (AF.mk (Ah l 4) 0)).1 0
abbrev oL(l:List (List Int)):Av:=.one (lst 1 (fun x=>[lst 1 (fun x=>[.i x]) x]) l)
abbrev GM(t_:List (Nat×Tv)):List (Nat×Tv):=(0,tP 1000 0)::(D8 m9)::(2,.av (oL l))::(6,tP 75 0)::t_
abbrev Im:Nat×Tv:=(8,tI (AB nk 3).1)
abbrev j4(m9:List AN)(l:List (List Int))(nk:AF)(nt:Int):List (Nat×Tv):=(GM m9 l [(Im nk),(12,tI nt),(16,tP 16 0)])
abbrev D3:Nat×Blk:=(2000,.row 6 Af.length (AL AM.c Af) 131)
abbrev Rs:List (Nat×Tv):=[(0,tP 1000 0),(D8 m9),(6,tP 189 0)]
abbrev FL:Nat×Blk:=(2001,.row 8 Au.length (AL Ak.c Au) 133)
abbrev PE(t_:List (Nat×Tv)):List (Nat×Tv):=(0,tP 1000 0)::(D8 m9)::(2,.av (oL l))::(6,tP 22 0)::t_
theorem au9{p:Prop}(h:p:=by repeat (first|with_reducible assumption|exact DV (EP hll _)|with_reducible refine Bm ?_|with_reducible refine F6 ?_|with_reducible refine Eh ?_|with_reducible refine EF ?_  | with_reducible refine Dh ?_ ?_)):p:=h
set_option maxHeartbeats 2000000 in
theorem bV (b:AC)(m9:(List AN))(l:(List (List Int)))(hb:(b.Parts.length:Int)<=1000000)(ht:(m9.length:Int)<=1000000)(hg:RU b m9)(hn:1<=(b.Nets.length:Int)/\(b.Nets.length:Int)<=1000000)(hl:(l.length:Int)<=9223372036854775807)(hll:∀x∈l,(x.length:Int)<=9223372036854775807):Wr Tryz.prog 44 1000 [.one (.ptr 1000 0),.one (lst 3 AN.c m9),.one (lst 1 (fun x=>[lst 1 eIn x]) l)] (.cells [.i b.Layers,.i b.Outline.Kind,lst 7 AK.c b.Outline.Edges,.i b.Outline.R,lst 7 AD.c b.Parts,lst 2 A7.c b.Nets,vN,vN,vN,vN,vN,vN,vN,vN,vN] 41) (.tup []) (.cells [.i (BW b m9 l).Layers,.i (BW b m9 l).Outline.Kind,lst 7 AK.c (BW b m9 l).Outline.Edges,.i (BW b m9 l).Outline.R,lst 7 AD.c (BW b m9 l).Parts,lst 2 A7.c (BW b m9 l).Nets,lst 6 AM.c (BW b m9 l).Tracks,lst 8 Ak.c (BW b m9 l).Vias,lst 8 A8.c (BW b m9 l).Pours,lst 5 BA.c (BW b m9 l).Keeps,lst 4 AX.c (BW b m9 l).Slots,vN,vN,vN,vN] 41):=by
 refine Jw Tryz.func44 rfl kr kr kr kr fun W0 M0 X hX=>?_;refine AA<|oq 20 _ (Hp l 4 au15)<|AE<|AA<|oo [(25,(Z2n b l))] [none,Blk.cells (WP b) 41=Blk.cells (UB [6,7,8,9,10,11,12,13,14] 0 (WP b) (QO b)) 41,CQ (.cells [lst 1 eIn (Ah l 4),.i 0] 117)] (.cons (K9 (B0:=fun vs=>(Bj b [.val (vs 6),.val (vs 7),.val (vs 8),.val (vs 9),.val (vs 10),.val (vs 11),.val (vs 12),.val (vs 13),.val (vs 14)])) (fun _ _=>kr) kr rfl rfl kr (fun vs=>by kernel_rfl) (fun vs=>by kernel_rfl) (fun vs=>Wd (AC.mk b.Layers b.Outline b.Parts b.Nets [] [] [] [] [] [] [] [] []) (AF.mk (Ah l 4) 0) vs au9 oM)) .nil) (H2 rfl rfl)<|AE<|AA<|rb 27 (Z2q b l) (.cells (AF.c (Z2o b l)) 117) ⟨(PE m9 l [(7,Z2p b l),(8,tI (G9 b l).1)]),[(22,Z2r b l),(1000,Z2m b)]⟩ (cWr (Bp (Z2o b l) 6 au9 au14))<|AE<|AA<|AA<|rn ⟨(PE m9 l [(7,Z2p b l),(8,tI (G9 b l).1),(9,tI 0)]),[(22,Z2r b l),(1000,Z2m b)]⟩<|AJ<|AZ (Cv.trans (vg 2000 6 m8 131 [] [(1000,[6])] (K:=[1000]) hX) (Cv.trans (Ag 2000 (Bh 6 m8 AM.c)) (ck (⟨(PE m9 l [(7,Z2p b l),(8,tI (G9 b l).1),(9,tI 0)]),[(22,Z2r b l),(1000,Z2R b),(2000,Z2Q)]⟩)))) ?_
 refine wL (ι:=Nat×List AM×AF×my×Int) (fun x=>⟨(PE m9 l [(7,tO (.s x.2.2.2.1)),(8,tI (G9 b l).1),(9,tI x.2.2.2.2)]),[(22,.cells (AF.c x.2.2.1) 117),(1000,.cells (Bj b [.own 2000 6 x.2.1.length,vN,vN,vN,vN,vN,vN,vN,vN]) 41),(2000,.row 6 x.2.1.length (AL AM.c x.2.1) 131)]⟩) (fun x=>((AB (Z2o b l) 6).1-x.2.2.2.2).toNat<x.1/\(DK x.2.2.1/\0<=x.2.2.2.2/\(x.2.2.2.2<=(AB (Z2o b l) 6).1\/x.2.2.2.2=0)/\(x.2.1.length:Int)<=0+1*(x.2.2.2.2-0))/\CU b m9 l x.1 x.2.1 x.2.2.1 x.2.2.2.1 x.2.2.2.2=BW b m9 l) (fun x=>x.1) ?_ (((AB (Z2o b l) 6).1-0).toNat+1,([]:List AM),(AB (Z2o b l) 6).2,(Dj (AC.mk b.Layers b.Outline b.Parts b.Nets [] [] [] [] [] [] [] [] []) (AF.mk (Ah l 4) 0)).1,0) ⟨lz _,⟨(by show DK ((AB (Z2o b l) 6).2);repeat (first|with_reducible assumption|exact DV (EP hll _)|with_reducible refine Bm ?_|with_reducible refine F6 ?_|with_reducible refine Eh ?_|with_reducible refine EF ?_  | with_reducible refine Dh ?_ ?_)),ax0,ax0,ax0⟩,(by simp only[BW,mi,mj])⟩;rintro⟨n0,Af,v6,v7,v9⟩ ⟨nq,nm,ng⟩
 try dsimp only at nq nm ng
 cases n0 with|zero=>exact nz nq|succ n0=>?_
 have hi0_0:=nm.1;refine AA<|AA<|on<|kb (decide ((v9:Int)<(AB (Z2o b l) 6).1)) (fun h1=>?_) (fun h1=>?_)
 ·have g1:=oT h1;have k1:=Wz g1 m4 m4;refine AP<|AE<|AA<|AJ<|AA<|rb 37 (Z2U v6) (.cells (AF.c v6) 117) ⟨(PE m9 l [(8,tI (G9 b l).1),(9,tI v9),(10,tP 10 0)]),[(10,.cells [.i (W64 (11+v9)),.s v7,.i (W64 (1+(AB v6 2).1)),.i 0,vN,.i 0] 131),(22,.cells (AF.c (AB v6 2).2) 117),(1000,Z2S b Af),(D3 Af)]⟩ (cWr (Bp v6 2 au9 au14))<|AE<|AA ?_
  refine oe [] [(41,(Z2V v6)),(48,ceI [.agg (aM b Af),.one (FT m9),.one (.ptr 22 0)] (Z2W b m9 v6)),(54,ceI [.agg (aM b Af),.one (FT m9),.one (.ptr 22 0)] (Z2Z b m9 v6)),(56,(Z32 b m9 v6))] [none,CQ (.cells (AF.c (AB v6 2).2) 117),none,CQ (.cells (AF.c (AB (AB v6 2).2 4).2) 117),none,CQ (.cells (AF.c (Z2X b m9 v6)) 117),none,CQ (.cells (AF.c (Z30 b m9 v6)) 117)] (.cons (cWr (Bp (AB v6 2).2 4 au9 au14)) (.cons (Cq (cWr (OO (AC.mk b.Layers b.Outline b.Parts [] [] [] [] [] [] [] [] [] []) m9 (AB (AB v6 2).2 4).2 au9 oM oM (by assumption))) (.cons (.agg (rr5 (.cons (.any _) (.cons (.any _) (.cons (.any _) (.cons (.any _) (.cons (.any _) (.cons (.any _) (.cons (.any _) (.cons (.any _) (.cons (.any _) (.cons (.any _) .nil)))))))))))) (.cons (AvE.refl _) (.cons (AvE.refl _) .nil)))) (.cons (Cq (cWr (OO (AC.mk b.Layers b.Outline b.Parts [] [] [] [] [] [] [] [] [] []) m9 (Z2X b m9 v6) au9 oM oM (by assumption))) (.cons (.agg (rr5 (.cons (.any _) (.cons (.any _) (.cons (.any _) (.cons (.any _) (.cons (.any _) (.cons (.any _) (.cons (.any _) (.cons (.any _) (.cons (.any _) (.cons (.any _) .nil)))))))))))) (.cons (AvE.refl _) (.cons (AvE.refl _) .nil)))) (.cons (cWr (rH (Z2Y b m9 v6) (Z31 b m9 v6) (Z30 b m9 v6) au9)) .nil)))) (H4 rfl rfl rfl rfl)<|AE<|AA ?_
  refine od [] [] [Af.length=Af.length,Af.length+1<=maxLen,(Af.length+1)*72<=140737488355328] .nil (H3 rfl au2 au2)<|AE<|AZ (Ag 66 (Ac (AU 6 AM.c Af) (Ai 6 AM.c ([AM.mk (W64 (11+v9)) v7 (W64 (1+(AB v6 2).1)) (AQ.mk 1 (DX (Z2Y b m9 v6) (Z31 b m9 v6) (Z30 b m9 v6)).1 (W64 (3+(AB (AB v6 2).2 4).1)))]:List AM)))) ?_;refine oo [(71,(Z36 b m9 v6))] [none,Blk.cells (Bj b [.own 66 6 (Af++[AM.mk (W64 (11+v9)) v7 (W64 (1+(AB v6 2).1)) (AQ.mk 1 (DX (Z2Y b m9 v6) (Z31 b m9 v6) (Z30 b m9 v6)).1 (W64 (3+(AB (AB v6 2).2 4).1)))]).length,vN,vN,vN,vN,vN,vN,vN,vN]) 41=Blk.cells (UB [6,7,8,9,10,11,12,13,14] 0 (Bj b [.own 66 6 (Af++[AM.mk (W64 (11+v9)) v7 (W64 (1+(AB v6 2).1)) (AQ.mk 1 (DX (Z2Y b m9 v6) (Z31 b m9 v6) (Z30 b m9 v6)).1 (W64 (3+(AB (AB v6 2).2 4).1)))]).length,vN,vN,vN,vN,vN,vN,vN,vN]) (QO b)) 41,CQ (.cells (AF.c (Z33 b m9 v6)) 117)] (.cons (K9 (B0:=fun vs=>(Bj b [.val (vs 6),.val (vs 7),.val (vs 8),.val (vs 9),.val (vs 10),.val (vs 11),.val (vs 12),.val (vs 13),.val (vs 14)])) (fun _ _=>kr) kr rfl rfl kr (fun vs=>by kernel_rfl) (fun vs=>by kernel_rfl) (fun vs=>Wd (AC.mk b.Layers b.Outline b.Parts b.Nets [] [] [] [] [] [] [] [] []) (Z33 b m9 v6) vs au9 oM)) .nil) (H2 rfl rfl)<|Ao<|AE<|rg ⟨(PE m9 l [(7,Z38 b m9 v6),(8,tI (G9 b l).1),(9,tI (W64 (v9+1)))]),[(22,Z39 b m9 v6),(66,Z34 Af v9 v7 v6 b m9),(1000,Z35 b Af v9 v7 v6 m9)]⟩ ?_
  (try rw[(show W64 (v9+1)=v9+1 from Ae oM au5)])
  refine AE ?_;refine⟨(n0,Af++[AM.mk (W64 (11+v9)) v7 (W64 (1+(AB v6 2).1)) (AQ.mk 1 (DX (Z2Y b m9 v6) (Z31 b m9 v6) (Z30 b m9 v6)).1 (W64 (3+(AB (AB v6 2).2 4).1)))],Z37 b m9 v6,(Dj (AC.mk b.Layers b.Outline b.Parts b.Nets [] [] [] [] [] [] [] [] []) (Z33 b m9 v6)).1,v9+1),⟨?_,?_,(by rw[<- ng];simp only[CU,h1,mi,mj])⟩,lz _,Cv.trans (vr 66 2000 (K:=[1000]) hX) (Cv.trans (vk [0,1,2,6,7,8,9] [22,1000,2000]) (Az kr))⟩
  ·show((AB (Z2o b l) 6).1-(v9+1)).toNat<n0;omega
  exact⟨(by show DK (Z37 b m9 v6);repeat (first|with_reducible assumption|exact DV (EP hll _)|with_reducible refine Bm ?_|with_reducible refine F6 ?_|with_reducible refine Eh ?_|with_reducible refine EF ?_  | with_reducible refine Dh ?_ ?_)),ax0,ax0,ax0⟩
 have g1:=oF h1;refine Aw<|Aj<|Aj<|Ay<|AE<|AA<|oq 73 _ (Hp l 5 au15)<|AE<|AA<|rb 77 (Z2s l) (.cells [lst 1 eIn (Ah l 5),.i 0] 117) ⟨(GM m9 l [(8,Z2t l)]),[(75,Z2u l),(1000,Z2S b Af),(D3 Af)]⟩ (cWr (Bp (AF.mk (Ah l 5) 0) 3 au9 au14))<|AE<|AA<|AA<|rn ⟨(GM m9 l [(8,Z2t l),(11,tI 0)]),[(75,Z2u l),(1000,Z2S b Af),(D3 Af)]⟩<|AJ<|AZ (Cv.trans (vg 2001 8 m8 133 [] [(1000,[7])] (K:=[1000]) hX) (Cv.trans (Ag 2001 (Bh 8 m8 Ak.c)) (ck (⟨(GM m9 l [(8,Z2t l),(11,tI 0)]),[(75,Z2u l),(1000,Z3J b Af),(D3 Af),(2001,Z2O)]⟩)))) ?_;refine wL (ι:=Nat×List Ak×AF×Int) (fun x=>⟨(GM m9 l [(8,Z2t l),(11,tI x.2.2.2)]),[(75,.cells (AF.c x.2.2.1) 117),(1000,.cells (Bj b [.own 2000 6 Af.length,.own 2001 8 x.2.1.length,vN,vN,vN,vN,vN,vN,vN]) 41),(D3 Af),(2001,.row 8 x.2.1.length (AL Ak.c x.2.1) 133)]⟩) (fun x=>((AB (AF.mk (Ah l 5) 0) 3).1-x.2.2.2).toNat<x.1/\(DK x.2.2.1/\0<=x.2.2.2/\(x.2.2.2<=(AB (AF.mk (Ah l 5) 0) 3).1\/x.2.2.2=0)/\(x.2.1.length:Int)<=0+1*(x.2.2.2-0))/\C2 b m9 l Af v6 v7 v9 (CU b m9 l n0) x.1 x.2.1 x.2.2.1 x.2.2.2=BW b m9 l) (fun x=>x.1) ?_ (((AB (AF.mk (Ah l 5) 0) 3).1-0).toNat+1,([]:List Ak),(AB (AF.mk (Ah l 5) 0) 3).2,0) ⟨lz _,⟨(by show DK ((AB (AF.mk (Ah l 5) 0) 3).2);repeat (first|with_reducible assumption|exact DV (EP hll _)|with_reducible refine Bm ?_|with_reducible refine F6 ?_|with_reducible refine Eh ?_|with_reducible refine EF ?_  | with_reducible refine Dh ?_ ?_)),ax0,ax0,ax0⟩,(by rw[<- ng];simp only[CU,h1,mi,mj])⟩;rintro⟨n1,Au,nk,ob⟩ ⟨o0,ox,np⟩
 try dsimp only at o0 ox np
 cases n1 with|zero=>exact nz o0|succ n1=>?_
 have hi1_0:=ox.1;refine AA<|AA<|on<|kb (decide ((ob:Int)<(AB (AF.mk (Ah l 5) 0) 3).1)) (fun h2=>?_) (fun h2=>?_)
 ·have g2:=oT h2;have k2:=Wz g2 m4 m4;refine AP<|AE<|AA<|AJ ?_;refine oe [] [(92,(Z3a b nk)),(98,ceI [.agg (WW b Af Au),.one (FT m9),.one (.ptr 75 0)] (Z3c b m9 nk)),(100,(Z3f b m9 nk)),(103,(Z3g b m9 nk))] [none,Blk.cells (WW b Af Au) 41=Blk.cells (UB [6,7,8,9,10,11,12,13,14] 0 (WW b Af Au) (QO b)) 41,CQ (.cells (AF.c nk) 117),none,CQ (.cells (AF.c (Z3b b nk)) 117),none,CQ (.cells (AF.c (Z3d b m9 nk)) 117),none,CQ (.cells (AF.c (AB (Z3d b m9 nk) 5).2) 117),Au.length=Au.length,Au.length+1<=maxLen,(Au.length+1)*72<=140737488355328] (.cons (K9 (B0:=fun vs=>(Bj b [.val (vs 6),.val (vs 7),.val (vs 8),.val (vs 9),.val (vs 10),.val (vs 11),.val (vs 12),.val (vs 13),.val (vs 14)])) (fun _ _=>kr) kr rfl rfl kr (fun vs=>by kernel_rfl) (fun vs=>by kernel_rfl) (fun vs=>Wd (AC.mk b.Layers b.Outline b.Parts b.Nets [] [] [] [] [] [] [] [] []) nk vs au9 oM)) (.cons (Cq (cWr (OO (AC.mk b.Layers b.Outline b.Parts [] [] [] [] [] [] [] [] [] []) m9 (Z3b b nk) au9 oM oM (by assumption))) (.cons (.agg (rr5 (.cons (.any _) (.cons (.any _) (.cons (.any _) (.cons (.any _) (.cons (.any _) (.cons (.any _) (.cons (.any _) (.cons (.any _) (.cons (.any _) (.cons (.any _) .nil)))))))))))) (.cons (AvE.refl _) (.cons (AvE.refl _) .nil)))) (.cons (cWr (Bp (Z3d b m9 nk) 5 au9 au14)) (.cons (cWr (Bp (AB (Z3d b m9 nk) 5).2 3 au9 au14)) .nil)))) (H8 rfl rfl rfl rfl rfl rfl au2 au2)<|Ao<|AE ?_
  refine AZ (Ag 108 (Ac (AU 8 Ak.c Au) (Ai 8 Ak.c ([Ak.mk (W64 (21+ob)) (Dj (AC.mk b.Layers b.Outline b.Parts b.Nets [] [] [] [] [] [] [] [] []) nk).1 (Z3e b m9 nk) (W64 (6+(AB (Z3d b m9 nk) 5).1)) (W64 (4+(W64 (2*(AB (AB (Z3d b m9 nk) 5).2 3).1)))) 1 2]:List Ak))))<|rg ⟨(GM m9 l [(8,Z2t l),(11,tI (W64 (ob+1)))]),[(75,Z3i b m9 nk),(108,Z3j Au ob b nk m9),(1000,Z3k b Af Au ob nk m9),(D3 Af)]⟩ ?_
  (try rw[(show W64 (ob+1)=ob+1 from Ae oM au5)])
  refine AE ?_;refine⟨(n1,Au++[Ak.mk (W64 (21+ob)) (Dj (AC.mk b.Layers b.Outline b.Parts b.Nets [] [] [] [] [] [] [] [] []) nk).1 (Z3e b m9 nk) (W64 (6+(AB (Z3d b m9 nk) 5).1)) (W64 (4+(W64 (2*(AB (AB (Z3d b m9 nk) 5).2 3).1)))) 1 2],Z3h b m9 nk,ob+1),⟨?_,?_,(by rw[<- np];simp only[C2,h2,mi,mj])⟩,lz _,Cv.trans (vr 108 2001 (K:=[1000]) hX) (Cv.trans (vk [0,1,2,6,8,11] [75,1000,2000,2001]) (Az kr))⟩
  ·show((AB (AF.mk (Ah l 5) 0) 3).1-(ob+1)).toNat<n1;omega
  exact⟨(by show DK (Z3h b m9 nk);repeat (first|with_reducible assumption|exact DV (EP hll _)|with_reducible refine Bm ?_|with_reducible refine F6 ?_|with_reducible refine Eh ?_|with_reducible refine EF ?_  | with_reducible refine Dh ?_ ?_)),ax0,ax0,ax0⟩
 have g2:=oF h2;refine Aw<|Aj<|Aj<|Ay<|AE<|AA<|rb 112 (Z3l nk) (.cells (AF.c nk) 117) ⟨(GM m9 l [(Im nk)]),[(75,.cells (AF.c (AB nk 3).2) 117),(1000,Z3K b Af Au),(D3 Af),(FL Au)]⟩ (cWr (Bp nk 3 au9 au14))<|AE<|AA<|AA<|rn ⟨(GM m9 l [(Im nk),(12,tI 0)]),[(75,.cells (AF.c (AB nk 3).2) 117),(1000,Z3K b Af Au),(D3 Af),(FL Au)]⟩<|AJ<|AZ (Cv.trans (vg 2002 8 m8 97 [] [(1000,[8])] (K:=[1000]) hX) (Cv.trans (Ag 2002 (Bh 8 m8 A8.c)) (ck (⟨(GM m9 l [(Im nk),(12,tI 0)]),[(75,.cells (AF.c (AB nk 3).2) 117),(1000,Z3N b Af Au),(D3 Af),(FL Au),(2002,Z2M)]⟩)))) ?_;refine wL (ι:=Nat×List A8×AF×Int) (fun x=>⟨(GM m9 l [(Im nk),(12,tI x.2.2.2)]),[(75,.cells (AF.c x.2.2.1) 117),(1000,.cells (Bj b (JU Af Au [.own 2002 8 x.2.1.length,vN,vN,vN,vN,vN,vN])) 41),(D3 Af),(FL Au),(2002,.row 8 x.2.1.length (AL A8.c x.2.1) 97)]⟩) (fun x=>((AB nk 3).1-x.2.2.2).toNat<x.1/\(DK x.2.2.1/\0<=x.2.2.2/\(x.2.2.2<=(AB nk 3).1\/x.2.2.2=0)/\(x.2.1.length:Int)<=0+1*(x.2.2.2-0))/\Co b m9 l Af v6 v7 v9 Au nk ob (CU b m9 l n0) (C2 b m9 l Af v6 v7 v9 (CU b m9 l n0) n1) x.1 x.2.1 x.2.2.1 x.2.2.2=BW b m9 l) (fun x=>x.1) ?_ (((AB nk 3).1-0).toNat+1,([]:List A8),(AB nk 3).2,0) ⟨lz _,⟨(by show DK ((AB nk 3).2);repeat (first|with_reducible assumption|exact DV (EP hll _)|with_reducible refine Bm ?_|with_reducible refine F6 ?_|with_reducible refine Eh ?_|with_reducible refine EF ?_  | with_reducible refine Dh ?_ ?_)),ax0,ax0,ax0⟩,(by rw[<- np];simp only[C2,h2,mi,mj])⟩
 rintro⟨n2,BE,nf,nt⟩ ⟨pd,pg,oy⟩
 try dsimp only at pd pg oy
 cases n2 with|zero=>exact nz pd|succ n2=>?_
 have hi2_0:=pg.1;refine AA<|AA<|on<|kb (decide ((nt:Int)<(AB nk 3).1)) (fun h3=>?_) (fun h3=>?_)
 ·have g3:=oT h3;have k3:=Wz g3 m4 m4;refine AP<|AE<|AA<|AJ<|AA<|oo [(119,(Z3m nf)),(121,(Z3n nf))] [none,CQ (.cells (AF.c nf) 117),none,CQ (.cells (AF.c (AB nf 12).2) 117)] (.cons (cWr (Bp nf 12 au9 au14)) (.cons (cWr (Bp (AB nf 12).2 12 au9 au14)) .nil)) (H2 rfl rfl)<|AE<|AA<|oo [(127,(Z3o nf)),(132,(Z3q nf))] [none,CQ (.cells (AF.c (AB (AB nf 12).2 12).2) 117),none,CQ (.cells (AF.c (Z3p nf)) 117)] (.cons (cWr (Bp (AB (AB nf 12).2 12).2 6 au9 au14)) (.cons (cWr (Bp (Z3p nf) 5 au9 au14)) .nil)) (H2 rfl rfl)<|AE<|AA ?_
  refine oe [158] [(139,(Z3r b nf)),(141,(Z3t b nf)),(144,(Z3u b nf)),(148,(Z3w b nf)),(151,(Z3x b nf)),(155,(Z3z b nf))] [none,Blk.cells (Xm b Af Au BE) 41=Blk.cells (UB [6,7,8,9,10,11,12,13,14] 0 (Xm b Af Au BE) (QO b)) 41,CQ (.cells (AF.c (AB (Z3p nf) 5).2) 117),none,CQ (.cells (AF.c (Z3s b nf)) 117),none,CQ (.cells (AF.c (AB (Z3s b nf) 2).2) 117),none,CQ (.cells (AF.c (Z3v b nf)) 117),none,CQ (.cells (AF.c (AB (Z3v b nf) 2).2) 117),0<=((AB (AB (Z3v b nf) 2).2 4).1:Int)/\((AB (AB (Z3v b nf) 2).2 4).1:Int)<((4:Nat):Int),none,CQ (.cells (AF.c (Z3y b nf)) 117)] (.cons (K9 (B0:=fun vs=>(Bj b [.val (vs 6),.val (vs 7),.val (vs 8),.val (vs 9),.val (vs 10),.val (vs 11),.val (vs 12),.val (vs 13),.val (vs 14)])) (fun _ _=>kr) kr rfl rfl kr (fun vs=>by kernel_rfl) (fun vs=>by kernel_rfl) (fun vs=>Wd (AC.mk b.Layers b.Outline b.Parts b.Nets [] [] [] [] [] [] [] [] []) (AB (Z3p nf) 5).2 vs au9 oM)) (.cons (cWr (Bp (Z3s b nf) 2 au9 au14)) (.cons (cWr (Bp (AB (Z3s b nf) 2).2 3 au9 au14)) (.cons (cWr (Bp (Z3v b nf) 2 au9 au14)) (.cons (cWr (Bp (AB (Z3v b nf) 2).2 4 au9 au14)) (.cons (cWr (Bp (Z3y b nf) 6 au9 au14)) .nil)))))) (H8 rfl rfl rfl rfl rfl rfl (by first|exact Me _ _ _ m4 m4 m4|decide|omega) rfl)<|AE ?_
  refine AZ (Ag 158 (Ai 4 Al.c ([Al.mk (AB nf 12).1 (AB (AB nf 12).2 12).1 (W64 ((W64 ((AB nf 12).1+1))+(AB (AB (AB nf 12).2 12).2 6).1)) (W64 ((W64 ((AB (AB nf 12).2 12).1+1))+(AB (Z3p nf) 5).1))]:List Al)))<|AA<|AA<|rb 161 (Z3C b nf) (.cells (AF.c (AB (Z3y b nf) 6).2) 117) ⟨(GM m9 l [(Im nk),(12,tI nt),(13,tI (AB nf 12).1),(14,tI (LH nf).1),(16,tP 16 0),(162,tB (decide (((AB (JZ b nf).2 3).1:Int)=0)))]),[(16,Z3A nt b nf),(75,Z3E b nf),(158,Z3B nf),(1000,Z3O b Af Au BE),(D3 Af),(FL Au),(2002,Z2N BE)]⟩ (cWr (Bp (AB (Z3y b nf) 6).2 3 au9 au14))<|AE<|B4 (⟨[(0,tP 1000 0),(D8 m9),(2,.av (oL l)),(6,tP 75 0),(Im nk),(12,tI nt),(16,tP 16 0)],[(16,.cells (PI nt b nf [.own 2003 4 (Z3G b nf).length]) 97),(75,.cells (AF.c (Z3D b nf)) 117),(1000,.cells (Xm b Af Au BE) 41),(2000,.row 6 Af.length (AL AM.c Af) 131),(2001,.row 8 Au.length (AL Ak.c Au) 133),(2002,.row 8 BE.length (AL A8.c BE) 97),(2003,.row 4 (Z3G b nf).length (AL Al.c (Z3G b nf)) 90)]⟩) ?_ ?_
  ·refine BC _ rfl (fun h4=>?_) (fun h4=>?_)
   ·have g4:=oT h4;refine rc [] [[Al.mk (AB nf 12).1 (AB (AB nf 12).2 12).1 (W64 ((W64 ((AB nf 12).1+1))+(AB (AB (AB nf 12).2 12).2 6).1)) (W64 ((W64 ((AB (AB nf 12).2 12).1+1))+(AB (Z3p nf) 5).1))].length=[Al.mk (AB nf 12).1 (AB (AB nf 12).2 12).1 (W64 ((W64 ((AB nf 12).1+1))+(AB (AB (AB nf 12).2 12).2 6).1)) (W64 ((W64 ((AB (AB nf 12).2 12).1+1))+(AB (Z3p nf) 5).1))].length,([Al.mk (AB nf 12).1 (AB (AB nf 12).2 12).1 (W64 ((W64 ((AB nf 12).1+1))+(AB (AB (AB nf 12).2 12).2 6).1)) (W64 ((W64 ((AB (AB nf 12).2 12).1+1))+(AB (Z3p nf) 5).1))].length)+1<=maxLen,(([Al.mk (AB nf 12).1 (AB (AB nf 12).2 12).1 (W64 ((W64 ((AB nf 12).1+1))+(AB (AB (AB nf 12).2 12).2 6).1)) (W64 ((W64 ((AB (AB nf 12).2 12).1+1))+(AB (Z3p nf) 5).1))].length)+1)*32<=140737488355328] ⟨(j4 m9 l nk nt),[(16,.cells [.i (W64 (31+nt)),.s (j3 b nf).1,.i (W64 (1+(Ke b nf).1)),.i (W64 (20+(W64 (5*(AB (Ke b nf).2 3).1)))),.i (AB (Z3v b nf) 2).1,.i (([0,0,5,9]:List Int).getD (SC b nf).1.toNat 0),.i (W64 (4+(AB (Z3y b nf) 6).1)),.own 174 4 (((LO nf).length)+1)] 97),(75,Z3E b nf),(174,.row 4 (((LO nf).length)+1) (fun i_ j_=>if i_<((LO nf).length)then(AL Al.c (LO nf)) i_ j_ else(A9 4 1 [.i (W64 ((AB nf 12).1-2)),.i (LH nf).1,.i (W64 ((AB nf 12).1+1)),.i (W64 ((LH nf).1+2))]) (i_-((LO nf).length)) j_) 90),(1000,Z3O b Af Au BE),(D3 Af),(FL Au),(2002,Z2N BE)]⟩ .nil (H3 rfl au2 au2)<|AE ?_
    refine Cv.trans (Ag 174 (Ac (AU 4 Al.c [Al.mk (AB nf 12).1 (AB (AB nf 12).2 12).1 (W64 ((W64 ((AB nf 12).1+1))+(AB (AB (AB nf 12).2 12).2 6).1)) (W64 ((W64 ((AB (AB nf 12).2 12).1+1))+(AB (Z3p nf) 5).1))]) (Ai 4 Al.c ([Al.mk (W64 ((AB nf 12).1-2)) (AB (AB nf 12).2 12).1 (W64 ((AB nf 12).1+1)) (W64 ((AB (AB nf 12).2 12).1+2))]:List Al)))) (Cv.trans (vr 174 2003 (K:=[1000]) hX) (Cv.trans (ck (⟨(j4 m9 l nk nt),[(16,Z3Q nt b nf),(75,Z3E b nf),(1000,Z3O b Af Au BE),(D3 Af),(FL Au),(2002,Z2N BE),(2003,Z3F nf)]⟩)) (Az ?_)))
    first|rfl|(simp only[h4,Z3G,mi,mj]<;>rfl)
   refine AP<|AE<|Cv.trans (vk [0,1,2,6,8,12,16] [16,75,158,1000,2000,2001,2002]) (Cv.trans (vr 158 2003 (K:=[1000]) hX) (Cv.trans (ck (⟨(j4 m9 l nk nt),[(16,Z3R nt b nf),(75,Z3E b nf),(1000,Z3O b Af Au BE),(D3 Af),(FL Au),(2002,Z2N BE),(2003,Z3B nf)]⟩)) (Az ?_)))
   first|rfl|(simp only[h4,Z3G,mi,mj]<;>rfl)
  refine AZ (KD (⟨(j4 m9 l nk nt),[(16,.cells [.i (W64 (31+nt)),.s (j3 b nf).1,.i (W64 (1+(Ke b nf).1)),.i (W64 (20+(W64 (5*(AB (Ke b nf).2 3).1)))),.i (AB (Z3v b nf) 2).1,.i (([0,0,5,9]:List Int).getD (SC b nf).1.toNat 0),.i (W64 (4+(AB (Z3y b nf) 6).1)),lst 4 Al.c (Z3G b nf)] 97),(75,Z3E b nf),(1000,Z3O b Af Au BE),(D3 Af),(FL Au),(2002,Z2N BE)]⟩) 2003 (K:=[1000]) hX)<|od [] [] [BE.length=BE.length,BE.length+1<=maxLen,(BE.length+1)*88<=140737488355328] .nil (H3 rfl au2 au2)<|Ao<|AE<|AZ (Ag 183 (Ac (AU 8 A8.c BE) (Ai 8 A8.c ([A8.mk (W64 (31+nt)) (Dj (AC.mk b.Layers b.Outline b.Parts b.Nets [] [] [] [] [] [] [] [] []) (AB (Z3p nf) 5).2).1 (W64 (1+(AB (Z3s b nf) 2).1)) (W64 (20+(W64 (5*(AB (AB (Z3s b nf) 2).2 3).1)))) (AB (Z3v b nf) 2).1 (([0,0,5,9]:List Int).getD (AB (AB (Z3v b nf) 2).2 4).1.toNat 0) (W64 (4+(AB (Z3y b nf) 6).1)) (Z3G b nf)]:List A8))))<|rg ⟨(GM m9 l [(Im nk),(12,tI (W64 (nt+1)))]),[(75,Z3E b nf),(183,Z3H BE nt b nf),(1000,Z3L b Af Au BE nt nf),(D3 Af),(FL Au)]⟩ ?_
  (try rw[(show W64 (nt+1)=nt+1 from Ae oM au5)])
  refine AE ?_;refine⟨(n2,BE++[A8.mk (W64 (31+nt)) (Dj (AC.mk b.Layers b.Outline b.Parts b.Nets [] [] [] [] [] [] [] [] []) (AB (Z3p nf) 5).2).1 (W64 (1+(AB (Z3s b nf) 2).1)) (W64 (20+(W64 (5*(AB (AB (Z3s b nf) 2).2 3).1)))) (AB (Z3v b nf) 2).1 (([0,0,5,9]:List Int).getD (AB (AB (Z3v b nf) 2).2 4).1.toNat 0) (W64 (4+(AB (Z3y b nf) 6).1)) (Z3G b nf)],Z3D b nf,nt+1),⟨?_,?_,(by rw[<- oy];simp only[Co,h3,mi,mj])⟩,lz _,Cv.trans (vr 183 2002 (K:=[1000]) hX) (Cv.trans (vk [0,1,2,6,8,12] [75,1000,2000,2001,2002]) (Az kr))⟩
  ·show((AB nk 3).1-(nt+1)).toNat<n2;omega
  exact⟨(by show DK (Z3D b nf);repeat (first|with_reducible assumption|exact DV (EP hll _)|with_reducible refine Bm ?_|with_reducible refine F6 ?_|with_reducible refine Eh ?_|with_reducible refine EF ?_  | with_reducible refine Dh ?_ ?_)),ax0,ax0,ax0⟩
 have g3:=oF h3;refine Aw<|Aj<|Aj<|Ay<|AE<|AA<|oq 187 _ (Hp l 6 au15)<|AE<|AA<|AA<|rb 191 (Z2v l) (.cells [lst 1 eIn (Ah l 6),.i 0] 117) ⟨[(0,tP 1000 0),(D8 m9),(6,tP 189 0),(192,tB (decide (((Ka l).1:Int)=0)))],[(189,Z2w l),(1000,Z3O b Af Au BE),(D3 Af),(FL Au),(2002,Z2N BE)]⟩ (cWr (Bp (AF.mk (Ah l 6) 0) 3 au9 au14))<|AE<|B4 (⟨(Rs m9),[(189,.cells (AF.c (Z2C l b m9)) 117),(1000,.cells (Bj b (JU Af Au [.own 2002 8 BE.length,lst 5 BA.c (Z2D l b m9),vN,vN,vN,vN,vN])) 41),(2000,.row 6 Af.length (AL AM.c Af) 131),(2001,.row 8 Au.length (AL Ak.c Au) 133),(2002,.row 8 BE.length (AL A8.c BE) 97)]⟩) ?_ ?_
 ·refine BC _ rfl (fun h4=>?_) (fun h4=>?_)
  ·have g4:=oT h4;refine AA<|rb 198 (ceI [.agg (Xm b Af Au BE),.one (lst 3 AN.c m9),.one (.ptr 189 0)] (Z2x b m9 l)) (.cells (AF.c (AB (AF.mk (Ah l 6) 0) 3).2) 117) ⟨[(0,tP 1000 0),(D8 m9),(6,tP 189 0),(17,tP 17 0)],[(17,.cells (AG.c (Z2z b m9 l)) 66),(189,.cells (AF.c (Z2y b m9 l)) 117),(1000,Z3O b Af Au BE),(D3 Af),(FL Au),(2002,Z2N BE)]⟩ (Cq (cWr (OO (AC.mk b.Layers b.Outline b.Parts [] [] [] [] [] [] [] [] [] []) m9 (AB (AF.mk (Ah l 6) 0) 3).2 au9 oM oM (by assumption))) (.cons (.agg (rr5 (.cons (.any _) (.cons (.any _) (.cons (.any _) (.cons (.any _) (.cons (.any _) (.cons (.any _) (.cons (.any _) (.cons (.any _) (.cons (.any _) (.cons (.any _) .nil)))))))))))) (.cons (AvE.refl _) (.cons (AvE.refl _) .nil))))<|AE ?_
   refine dO [] [(201,(Z2A b m9 l)),(213,Tg (Al.mk (Z2z b m9 l).X (Z2z b m9 l).Y (W64 ((Z2z b m9 l).X+30)) (W64 ((Z2z b m9 l).Y+20))))] [none,CQ (.cells (AF.c (Z2y b m9 l)) 117),none] ⟨(Rs m9),[(189,.cells (AF.c (AB (Z2y b m9 l) 3).2) 117),(1000,.cells (Bj b (JU Af Au [.own 2002 8 BE.length,.list true 5 1 (A9 5 1 [.i 41,.i (AB (Z2y b m9 l) 3).1,.i (Z2B b m9 l).Kind,lst 7 AK.c (Z2B b m9 l).Edges,.i (Z2B b m9 l).R]),vN,vN,vN,vN,vN])) 41),(D3 Af),(FL Au),(2002,Z2N BE)]⟩ (.cons (cWr (Bp (Z2y b m9 l) 3 au9 au14)) (.cons (RE (Al.mk (Z2z b m9 l).X (Z2z b m9 l).Y (W64 ((Z2z b m9 l).X+30)) (W64 ((Z2z b m9 l).Y+20)))) .nil)) (H1 rfl)<|AE<|Cv.trans (DD (⟨(Rs m9),[(189,.cells (AF.c (AB (Z2y b m9 l) 3).2) 117),(1000,.cells (Bj b (JU Af Au [.own 2002 8 BE.length,lst 5 BA.c [BA.mk 41 (AB (Z2y b m9 l) 3).1 (Z2B b m9 l)],vN,vN,vN,vN,vN])) 41),(D3 Af),(FL Au),(2002,Z2N BE)]⟩) lr (.cons ⟨rfl,.refl _⟩ (.cons ⟨rfl,.cells _ (rr9 (.cons (BO true (BN (c:=BA.c) (xs:=([BA.mk 41 (AB (Z2y b m9 l) 3).1 (Z2B b m9 l)]:List BA)) rfl kr)) (rr (rr (rr (rr (rr .nil)))))))⟩ lr))) (Az ?_)
   first|rfl|(simp only[h4,Z2C,Z2D,mi,mj]<;>rfl)
  refine AP<|AE<|Cv.trans (ck (⟨(Rs m9),[(189,Z2w l),(1000,Z3O b Af Au BE),(D3 Af),(FL Au),(2002,Z2N BE)]⟩)) (Cv.trans (DD (⟨(Rs m9),[(189,Z2w l),(1000,.cells (Bj b (JU Af Au [.own 2002 8 BE.length,lst 5 BA.c [],vN,vN,vN,vN,vN])) 41),(D3 Af),(FL Au),(2002,Z2N BE)]⟩) lr (.cons ⟨rfl,.refl _⟩ (.cons ⟨rfl,.cells _ (rr9 (.cons (Ca 5 BA.c) (rr (rr (rr (rr (rr .nil)))))))⟩ lr))) (Az ?_))
  first|rfl|(simp only[h4,Z2C,Z2D,mi,mj]<;>rfl)
 refine AA<|rb 219 (Z2E l b m9) (.cells (AF.c (Z2C l b m9)) 117) ⟨[(0,tP 1000 0),(D8 m9),(6,tP 189 0),(220,Z2F l b m9)],[(189,Z2G l b m9),(1000,Z3P b Af Au BE l m9),(D3 Af),(FL Au),(2002,Z2N BE)]⟩ (cWr (Bp (Z2C l b m9) 3 au9 au14))<|AE<|BC _ rfl (fun h4=>?_) (fun h4=>?_)
 ·have g4:=oT h4;refine AA<|rb 226 (ceI [.agg (Zu b Af Au BE l m9),.one (lst 3 AN.c m9),.one (.ptr 189 0)] (Z2H b m9 l)) (.cells (AF.c (AB (Z2C l b m9) 3).2) 117) ⟨[(0,tP 1000 0),(6,tP 189 0),(18,tP 18 0)],[(18,.cells (AG.c (Z2J b m9 l)) 66),(189,.cells (AF.c (Z2I b m9 l)) 117),(1000,Z3P b Af Au BE l m9),(D3 Af),(FL Au),(2002,Z2N BE)]⟩ (Cq (cWr (OO (AC.mk b.Layers b.Outline b.Parts [] [] [] [] [] [] [] [] [] []) m9 (AB (Z2C l b m9) 3).2 au9 oM oM (by assumption))) (.cons (.agg (rr5 (.cons (.any _) (.cons (.any _) (.cons (.any _) (.cons (.any _) (.cons (.any _) (.cons (.any _) (.cons (.any _) (.cons (.any _) (.cons (.any _) (.cons (.any _) .nil)))))))))))) (.cons (AvE.refl _) (.cons (AvE.refl _) .nil))))<|AE<|oe [] [(229,(Z2K b m9 l)),(239,Nz (Z2J b m9 l) (AG.mk (W64 ((Z2J b m9 l).X+25)) (W64 ((Z2J b m9 l).Y+10))))] [none,CQ (.cells (AF.c (Z2I b m9 l)) 117),none] (.cons (cWr (Bp (Z2I b m9 l) 4 au9 au14)) (.cons (Ev (Z2J b m9 l) (AG.mk (W64 ((Z2J b m9 l).X+25)) (W64 ((Z2J b m9 l).Y+10)))) .nil)) (H1 rfl) ?_
  exact yn (Cv.trans (vf 2000 (K:=[1000]) hX) (Cv.trans (vf 2001 (K:=[1000]) hX) (vf 2002 (K:=[1000]) hX))) (.tup []) ⟨F5 rfl,.cells (Bj b [lst 6 AM.c Af,lst 8 Ak.c Au,lst 8 A8.c BE,lst 5 BA.c (Z2D l b m9),.list true 4 1 (A9 4 1 [.i 51,.i 1,.list true 7 1 (A9 7 1 (AK.c (Z2L b m9 l))),.i (W64 (3+(AB (Z2I b m9 l) 4).1))]),vN,vN,vN,vN]) 41,by kernel_rfl,XS (y:=.cells (Bj b [lst 6 AM.c Af,lst 8 Ak.c Au,lst 8 A8.c BE,lst 5 BA.c (Z2D l b m9),lst 4 AX.c [AX.mk 51 (AQ.mk 1 [Z2L b m9 l] (W64 (3+(AB (Z2I b m9 l) 4).1)))],vN,vN,vN,vN]) 41) (.cells _ (rr9 (rr (.cons (BO true (Dn (c:=AX.c) (xs:=([AX.mk 51 (AQ.mk 1 [Z2L b m9 l] (W64 (3+(AB (Z2I b m9 l) 4).1)))]:List AX)) (y:=[[.i 51,.i 1,.list true 7 1 (A9 7 1 (AK.c (Z2L b m9 l))),.i (W64 (3+(AB (Z2I b m9 l) 4).1))]]) (z:=[[.i 51,.i 1,lst 7 AK.c [Z2L b m9 l],.i (W64 (3+(AB (Z2I b m9 l) 4).1))]]) rfl kr kr (.cons (rr (rr (.cons (BO true (BN (c:=AK.c) (xs:=([Z2L b m9 l]:List AK)) rfl kr)) (rr .nil)))) .nil))) (rr (rr (rr (rr .nil)))))))) (by rw[<- oy];first|(simp only[Co,h3,h4,mi,mj];done)|(simp only[Co,h3,h4,mi,mj];kernel_rfl))⟩
 exact AP<|yn (Cv.trans (vf 2000 (K:=[1000]) hX) (Cv.trans (vf 2001 (K:=[1000]) hX) (vf 2002 (K:=[1000]) hX))) (.tup []) ⟨F5 rfl,.cells (Bj b [lst 6 AM.c Af,lst 8 Ak.c Au,lst 8 A8.c BE,lst 5 BA.c (Z2D l b m9),vN,vN,vN,vN,vN]) 41,by kernel_rfl,XS (y:=.cells (Bj b [lst 6 AM.c Af,lst 8 Ak.c Au,lst 8 A8.c BE,lst 5 BA.c (Z2D l b m9),lst 4 AX.c [],vN,vN,vN,vN]) 41) (.cells _ (rr9 (rr (.cons (Ca 4 AX.c) (rr (rr (rr (rr .nil)))))))) (by rw[<- oy];first|(simp only[Co,h3,h4,mi,mj];done)|(simp only[Co,h3,h4,mi,mj];kernel_rfl))⟩
end
structure On (b:AC) (B:AC):Prop where
 lay:B.Layers=b.Layers
 out:B.Outline=b.Outline
 par:B.Parts=b.Parts
 net:B.Nets=b.Nets
 trk:(B.Tracks.length:Int)<=6
 edg:∀ t∈B.Tracks,(t.Shape.Edges.length:Int)<=2
 via:(B.Vias.length:Int)<=3
 pou:(B.Pours.length:Int)<=2
 kee:(B.Keeps.length:Int)<=1
 slo:(B.Slots.length:Int)<=1
theorem zV{b B C:AC}{c:Bool}(h:On b B)(k:On b C):On b (bif c then B else C):=by cases c<;>assumption
theorem Wm{α:Type}{c:Bool}{x:α}:((bif c then [x]else []:List α).length:Int)<=1:=by cases c<;>simp
theorem P3(a c:AG)(d:AF):((DX a c d).1.length:Int)<=2:=by
 unfold DX;generalize (bif _ then _ else false:Bool)=q;cases q with
 |true=>simp
 |false =>
  simp only[mj];cases decide (((AB d 4).1:Int)=3)<;>simp
theorem fZ(b:AC)(m9:List AN)(l:List (List Int))(v1:List AM)(v6:AF)(v7:my)(v9:Int)(v2:List Ak)(nk:AF)(ob:Int)(K0:List AM->AF->my->Int->AC)(K1:List Ak->AF->Int->AC)(h1:(v1.length:Int)<=6)(he:∀t∈v1,(t.Shape.Edges.length:Int)<=2)(h2:(v2.length:Int)<=3):∀(n:Nat) (v:List A8) (d:AF) (k:Int),0<=k->(v.length:Int)<=k->k<=2->((AB nk 3).1-k).toNat<n->On b (Co b m9 l v1 v6 v7 v9 v2 nk ob K0 K1 n v d k)
 |0,v,d,k,_,_,_,h=>absurd h (lw _)
 |n+1,v,d,k,k0,kv,k3,h=>by
  unfold Co;have hb:=D5 nk 3 m4 m4
  by_cases hc:k<(AB nk 3).1
  ·simp only[hc,ml,mi];exact fZ b m9 l v1 v6 v7 v9 v2 nk ob K0 K1 h1 he h2 n _ _ _ mz (by simp only[d9,j8,j9];omega) mz mz
  simp only[hc,mm,mj];have hv:(v.length:Int)<=2:=by omega
  repeat (first|exact⟨rfl,rfl,rfl,rfl,h1,he,h2,hv,Wm,Wm⟩|exact⟨rfl,rfl,rfl,rfl,h1,he,h2,hv,Wm,(by simp:(([_]:List AX).length:Int)<=1)⟩|exact⟨rfl,rfl,rfl,rfl,h1,he,h2,hv,Wm,(by simp:(([]:List AX).length:Int)<=1)⟩|refine zV ?_ ?_)
theorem gA(b:AC)(m9:List AN)(l:List (List Int))(v1:List AM)(v6:AF)(v7:my)(v9:Int)(K0:List AM->AF->my->Int->AC)(h1:(v1.length:Int)<=6)(he:∀t∈v1,(t.Shape.Edges.length:Int)<=2):∀(n:Nat) (v:List Ak) (d:AF) (k:Int),0<=k->(v.length:Int)<=k->k<=3->((AB (AF.mk (Ah l 5) 0) 3).1-k).toNat<n->On b (C2 b m9 l v1 v6 v7 v9 K0 n v d k)
 |0,v,d,k,_,_,_,h=>absurd h (lw _)
 |n+1,v,d,k,k0,kv,k3,h=>by
  unfold C2;have hb:=D5 (AF.mk (Ah l 5) 0) 3 m4 m4
  by_cases hc:k<(AB (AF.mk (Ah l 5) 0) 3).1
  ·simp only[hc,ml,mi];exact gA b m9 l v1 v6 v7 v9 K0 h1 he n _ _ _ mz (by simp only[d9,j8,j9];omega) mz mz
  simp only[hc,mm,mj];exact fZ b m9 l v1 v6 v7 v9 v d k K0 _ h1 he mz _ _ _ 0 mz m3 mz mz
theorem gB(b:AC)(m9:List AN)(l:List (List Int)):∀(n:Nat) (v:List AM) (d:AF) (s:my) (k:Int),0<=k->(v.length:Int)<=k->k<=6->(∀t∈v,(t.Shape.Edges.length:Int)<=2)->((AB (Z2o b l) 6).1-k).toNat<n->On b (CU b m9 l n v d s k)
 |0,v,d,s,k,_,_,_,_,h=>absurd h (lw _)
 |n+1,v,d,s,k,k0,kv,k3,he,h=>by
  unfold CU;have hb:=D5 (Z2o b l) 6 m4 m4
  by_cases hc:k<(AB (Z2o b l) 6).1
  ·simp only[hc,ml,mi];refine gB b m9 l n _ _ _ _ mz (by simp only[d9,j8,j9];omega) mz (fun t ht=>?_) mz;rcases List.mem_append.1 ht with ht|ht
   ·exact he t ht
   rw[List.mem_singleton.1 ht];exact P3 _ _ _
  simp only[hc,mm,mj];exact gA b m9 l v d s k _ mz he _ _ _ 0 mz m3 mz mz
theorem IW(b:AC)(m9:List AN)(l:List (List Int)):On b (BW b m9 l):=by
 have hb:=D5 (Z2o b l) 6 m4 m4;unfold BW;exact gB b m9 l _ _ _ _ 0 mz m3 mz (fun t ht=>by cases ht) mz
section
open Go.RowKit
def AH:Bu:=Bu.mk 1 (⟨#[]⟩) 0 (Al.mk 0 0 0 0) (OpL.mk 0 m8)
def Dp:CT:=(99,[],.val [] (.av (.agg (Bu.c AH))))
abbrev mU:Tv:=.av (.agg [.i 1,.s (⟨#[]⟩),.i 0,.i 0,.i 0,.i 0,.i 0,vN])
theorem jN  : G4 Tryz.prog 99 (Dp ).2.1 (.av (.agg (Bu.c AH))):=by
 refine pwf Tryz.func99 fun W0 M0=>?_;exact AA<|on<|AA<|on<|AO<|xl mU (De (y:=.av (.agg [.i 1,.s (⟨#[]⟩),.i 0,.i 0,.i 0,.i 0,.i 0,opL (OpL.mk 0 m8)])) (.av (.agg (rr5 (rr2 (.cons (.nil _ _) .nil))))) (by rfl))
theorem FY  : OKc (Dp ):=cPu<|jN
variable (b:AC)(v3:List Int)(v4:Int)(n7:List Int)(v5:Int)(n0 n1:Nat)(d:AF)(n2:Nat)(v6 v7 v8 v9:Int)
abbrev IF:Blk:=.cells (AF.c (AB d 9).2) 117
def Z3U:CT:=(42,([.one (.ptr 1000 0),.one (.i 9)]:List Av).map (CH 1000 1000),wrI 1000 (Jg d) (tI (AB d 9).1) (IF d))
abbrev EV:=AB (AB d 9).2 2
def Z3V:CT:=(42,HA.map (CH 1000 1000),wrI 1000 (IF d) (tI (EV d).1) (.cells (AF.c (EV d).2) 117))
def Z3X:CT:=(42,NQ.map (CH 1000 1000),wrI 1000 (IF d) (tI (AB (AB d 9).2 5).1) (.cells (AF.c (AB (AB d 9).2 5).2) 117))
def Z3Y:CT:=(42,(GU:List Av).map (CH 1000 1000),wrI 1000 (IF d) (tI (AB (AB d 9).2 3).1) (.cells (AF.c (AB (AB d 9).2 3).2) 117))
def Z3Z:CT:=(42,(Rw:List Av).map (CH 1000 1000),wrI 1000 (IF d) (tI (AB (AB d 9).2 6).1) (.cells (AF.c (AB (AB d 9).2 6).2) 117))
def Z40:CT:=(42,Jb.map (CH 1000 1000),wrI 1000 (.cells (AF.c (EV d).2) 117) (tI (AB (EV d).2 4).1) (.cells (AF.c (AB (EV d).2 4).2) 117))
abbrev Z41:AF:=(AB (AB (AB d 9).2 2).2 4).2
def Ba(d:AF):(Bu×AF):=bif decide (((AB d 9).1:Int)=0)then(Bu.mk 2 (([(⟨#[78,49]⟩:my),(⟨#[71,78,68]⟩:my)]:List my).getD (AB (AB d 9).2 2).1.toNat ⟨#[]⟩) 0 (Al.mk 0 0 0 0) (OpL.mk 0 m8),(AB (AB d 9).2 2).2)else(bif decide (((AB d 9).1:Int)=1)then(Bu.mk 3 (⟨#[112,111,119,101,114]⟩:my) 0 (Al.mk 0 0 0 0) (OpL.mk 0 m8),(AB d 9).2)else(bif decide (((AB d 9).1:Int)=2)then(Bu.mk 4 (⟨#[]⟩) (W64 (1+(AB (AB d 9).2 5).1)) (Al.mk 0 0 0 0) (OpL.mk 0 m8),(AB (AB d 9).2 5).2)else(bif decide (((AB d 9).1:Int)=3)then(Bu.mk 5 (⟨#[]⟩) (W64 (1+(AB (AB d 9).2 2).1)) (Al.mk 0 0 0 0) (OpL.mk 0 m8),(AB (AB d 9).2 2).2)else(bif decide (((AB d 9).1:Int)=4)then(Bu.mk 6 (⟨#[]⟩) (W64 (1+(AB (AB d 9).2 3).1)) (Al.mk 0 0 0 0) (OpL.mk 0 m8),(AB (AB d 9).2 3).2)else(bif decide (((AB d 9).1:Int)=5)then(Bu.mk 7 (⟨#[]⟩) 0 (Al.mk 0 0 (W64 (100+(W64 (50*(AB (AB d 9).2 6).1)))) 400) (OpL.mk 0 m8),(AB (AB d 9).2 6).2)else(bif decide (((AB d 9).1:Int)=6)then(Bu.mk 8 (⟨#[]⟩) 0 (Al.mk 0 0 0 0) (OpL.mk 1 (A9 8 1 [.i 5,.s (⟨#[]⟩),.i (W64 (1+(AB (AB d 9).2 2).1)),.i 0,.i 0,.i 0,.i 0,vN])),(AB (AB d 9).2 2).2)else(bif decide (((AB d 9).1:Int)=7)then(Bu.mk (W64 (9+(AB (AB d 9).2 2).1)) (⟨#[]⟩) 0 (Al.mk 0 0 0 0) (OpL.mk 2 (A9 8 2 [.i 4,.s (⟨#[]⟩),.i (W64 (1+(AB (AB (AB d 9).2 2).2 4).1)),.i 0,.i 0,.i 0,.i 0,vN,.i 2,.s (⟨#[71,78,68]⟩:my),.i 0,.i 0,.i 0,.i 0,.i 0,vN])),Z41 d)else(Bu.mk 1 (⟨#[]⟩) 0 (Al.mk 0 0 0 0) (OpL.mk 0 m8),(AB d 9).2))))))))
abbrev WQ:List Cl:=[.i 5,.s (⟨#[]⟩),.i (W64 (1+(EV d).1)),.i 0,.i 0,.i 0,.i 0,vN]
abbrev nB:List Cl:=[.i 7,.s (⟨#[]⟩),.i 0,.i 0,.i 0,.i (W64 (100+(W64 (50*(AB (AB d 9).2 6).1)))),.i 400,vN]
abbrev mQ:List Cl:=[.i 4,.s (⟨#[]⟩),.i (W64 (1+(AB (AB d 9).2 5).1)),.i 0,.i 0,.i 0,.i 0,vN]
abbrev mP:List Cl:=[.i 6,.s (⟨#[]⟩),.i (W64 (1+(AB (AB d 9).2 3).1)),.i 0,.i 0,.i 0,.i 0,vN]
abbrev mJ:List Cl:=[.i 8,.s (⟨#[]⟩),.i 0,.i 0,.i 0,.i 0,.i 0,.list true 8 1 (A9 8 1 (WQ d))]
theorem fQ (d:AF)(hd:DK d):Wr Tryz.prog 100 1000 [.one (.ptr 1000 0)] (.cells (AF.c d) 117) (.av (.agg (Bu.c (Ba d).1))) (.cells (AF.c (Ba d).2) 117):=by
 refine Jw Tryz.func100 rfl kr kr kr kr fun W0 M0 X hX=>?_;refine AA<|on<|AA<|AA<|rb 4 (Z3U d) (Jg d) ⟨[(0,tP 1000 0),(2,tP 2 0),(4,tI (AB d 9).1)],[(2,.cells [.i 0,.s (⟨#[]⟩),.i 0,.i 0,.i 0,.i 0,.i 0,vN] 145),(1000,.cells (AF.c (AB d 9).2) 117)]⟩ (cWr (Bp d 9 au9 au14))<|AE<|AJ<|AA<|on<|kb (decide (((AB d 9).1:Int)=0)) (fun h1=>?_) (fun h1=>?_)
 ·have g1:=oT h1;exact AA<|oo [(9,(Z3V d))] [none,CQ (IF d),0<=((EV d).1:Int)/\((EV d).1:Int)<((2:Nat):Int)] (.cons (cWr (Bp (AB d 9).2 2 au9 au14)) .nil) (H2 rfl (by first|exact Me _ _ _ m4 m4 m4|decide|omega))<|AE<|AO<|Cm<|Bf<|xl (.av (.agg [.i 2,.s (([(⟨#[78,49]⟩:my),(⟨#[71,78,68]⟩:my)]:List my).getD (EV d).1.toNat ⟨#[]⟩),.i 0,.i 0,.i 0,.i 0,.i 0,vN])) ⟨De (y:=.av (.agg [.i 2,.s (([(⟨#[78,49]⟩:my),(⟨#[71,78,68]⟩:my)]:List my).getD (EV d).1.toNat ⟨#[]⟩),.i 0,.i 0,.i 0,.i 0,.i 0,opL (OpL.mk 0 m8)])) (.av (.agg (rr5 (rr2 (.cons (.nil _ _) .nil))))) (by unfold Ba;rw[h1];rfl),.cells (AF.c (EV d).2) 117,by kernel_rfl,Ea (by unfold Ba;rw[h1];kernel_rfl)⟩
 have g1:=oF h1;refine AA<|on<|kb (decide (((AB d 9).1:Int)=1)) (fun h2=>?_) (fun h2=>?_)
 ·exact AA<|on<|AO<|Cm<|Bf<|xl (.av (.agg [.i 3,.s (⟨#[112,111,119,101,114]⟩:my),.i 0,.i 0,.i 0,.i 0,.i 0,vN])) ⟨De (y:=.av (.agg [.i 3,.s (⟨#[112,111,119,101,114]⟩:my),.i 0,.i 0,.i 0,.i 0,.i 0,opL (OpL.mk 0 m8)])) (.av (.agg (rr5 (rr2 (.cons (.nil _ _) .nil))))) (by unfold Ba;rw[h1,h2];rfl),.cells (AF.c (AB d 9).2) 117,by kernel_rfl,Ea (by unfold Ba;rw[h1,h2];kernel_rfl)⟩
 have g2:=oF h2;refine AA<|on<|kb (decide (((AB d 9).1:Int)=2)) (fun h3=>?_) (fun h3=>?_)
 ·have g3:=oT h3;exact AA<|rb 19 (Z3X d) (IF d) ⟨[(2,tP 2 0)],[(2,.cells (mQ d) 145),(1000,.cells (AF.c (AB (AB d 9).2 5).2) 117)]⟩ (cWr (Bp (AB d 9).2 5 au9 au14))<|AE<|AO<|Cm<|Bf<|xl (.av (.agg (mQ d))) ⟨De (y:=.av (.agg [.i 4,.s (⟨#[]⟩),.i (W64 (1+(AB (AB d 9).2 5).1)),.i 0,.i 0,.i 0,.i 0,opL (OpL.mk 0 m8)])) (.av (.agg (rr5 (rr2 (.cons (.nil _ _) .nil))))) (by unfold Ba;rw[h1,h2,h3];rfl),.cells (AF.c (AB (AB d 9).2 5).2) 117,by kernel_rfl,Ea (by unfold Ba;rw[h1,h2,h3];kernel_rfl)⟩
 have g3:=oF h3;refine AA<|on<|kb (decide (((AB d 9).1:Int)=3)) (fun h4=>?_) (fun h4=>?_)
 ·have g4:=oT h4;exact AA<|rb 25 (Z3V d) (IF d) ⟨[(2,tP 2 0)],[(2,.cells (WQ d) 145),(1000,.cells (AF.c (EV d).2) 117)]⟩ (cWr (Bp (AB d 9).2 2 au9 au14))<|AE<|AO<|Cm<|Bf<|xl (.av (.agg (WQ d))) ⟨De (y:=.av (.agg [.i 5,.s (⟨#[]⟩),.i (W64 (1+(EV d).1)),.i 0,.i 0,.i 0,.i 0,opL (OpL.mk 0 m8)])) (.av (.agg (rr5 (rr2 (.cons (.nil _ _) .nil))))) (by unfold Ba;rw[h1,h2,h3,h4];rfl),.cells (AF.c (EV d).2) 117,by kernel_rfl,Ea (by unfold Ba;rw[h1,h2,h3,h4];kernel_rfl)⟩
 have g4:=oF h4;refine AA<|on<|kb (decide (((AB d 9).1:Int)=4)) (fun h5=>?_) (fun h5=>?_)
 ·have g5:=oT h5;exact AA<|rb 31 (Z3Y d) (IF d) ⟨[(2,tP 2 0)],[(2,.cells (mP d) 145),(1000,.cells (AF.c (AB (AB d 9).2 3).2) 117)]⟩ (cWr (Bp (AB d 9).2 3 au9 au14))<|AE<|AO<|Cm<|Bf<|xl (.av (.agg (mP d))) ⟨De (y:=.av (.agg [.i 6,.s (⟨#[]⟩),.i (W64 (1+(AB (AB d 9).2 3).1)),.i 0,.i 0,.i 0,.i 0,opL (OpL.mk 0 m8)])) (.av (.agg (rr5 (rr2 (.cons (.nil _ _) .nil))))) (by unfold Ba;rw[h1,h2,h3,h4,h5];rfl),.cells (AF.c (AB (AB d 9).2 3).2) 117,by kernel_rfl,Ea (by unfold Ba;rw[h1,h2,h3,h4,h5];kernel_rfl)⟩
 have g5:=oF h5;refine AA<|on<|kb (decide (((AB d 9).1:Int)=5)) (fun h6=>?_) (fun h6=>?_)
 ·have g6:=oT h6;exact AA<|rb 37 (Z3Z d) (IF d) ⟨[(2,tP 2 0)],[(2,.cells (nB d) 145),(1000,.cells (AF.c (AB (AB d 9).2 6).2) 117)]⟩ (cWr (Bp (AB d 9).2 6 au9 au14))<|AE<|AO<|Cm<|Bf<|xl (.av (.agg (nB d))) ⟨De (y:=.av (.agg [.i 7,.s (⟨#[]⟩),.i 0,.i 0,.i 0,.i (W64 (100+(W64 (50*(AB (AB d 9).2 6).1)))),.i 400,opL (OpL.mk 0 m8)])) (.av (.agg (rr5 (rr2 (.cons (.nil _ _) .nil))))) (by unfold Ba;rw[h1,h2,h3,h4,h5,h6];rfl),.cells (AF.c (AB (AB d 9).2 6).2) 117,by kernel_rfl,Ea (by unfold Ba;rw[h1,h2,h3,h4,h5,h6];kernel_rfl)⟩
 have g6:=oF h6;refine AA<|on<|kb (decide (((AB d 9).1:Int)=6)) (fun h7=>?_) (fun h7=>?_)
 ·have g7:=oT h7;exact AA<|rb 45 (Z3V d) (IF d) ⟨[(2,tP 2 0)],[(2,.cells (mJ d) 145),(1000,.cells (AF.c (EV d).2) 117)]⟩ (cWr (Bp (AB d 9).2 2 au9 au14))<|AE<|AO<|Cm<|Bf<|xl (.av (.agg (mJ d))) ⟨De (y:=.av (.agg [.i 8,.s (⟨#[]⟩),.i 0,.i 0,.i 0,.i 0,.i 0,opL (OpL.mk 1 (A9 8 1 (WQ d)))])) (.av (.agg (rr5 (rr2 (.cons (.list true false _ _ _ _ (fun _ _ _ _=>.refl _) (fun h=>by cases h)) .nil))))) (by unfold Ba;rw[h1,h2,h3,h4,h5,h6,h7];rfl),.cells (AF.c (EV d).2) 117,by kernel_rfl,Ea (by unfold Ba;rw[h1,h2,h3,h4,h5,h6,h7];kernel_rfl)⟩
 have g7:=oF h7;refine AA<|on<|kb (decide (((AB d 9).1:Int)=7)) (fun h8=>?_) (fun h8=>?_)
 ·have g8:=oT h8;exact AA<|oo [(53,(Z3V d)),(56,(Z40 d))] [none,CQ (IF d),none,CQ (.cells (AF.c (EV d).2) 117)] (.cons (cWr (Bp (AB d 9).2 2 au9 au14)) (.cons (cWr (Bp (EV d).2 4 au9 au14)) .nil)) (H2 rfl rfl)<|AE<|AO<|Cm<|Bf<|xl (.av (.agg [.i (W64 (9+(EV d).1)),.s (⟨#[]⟩),.i 0,.i 0,.i 0,.i 0,.i 0,.list true 8 2 (A9 8 2 [.i 4,.s (⟨#[]⟩),.i (W64 (1+(AB (EV d).2 4).1)),.i 0,.i 0,.i 0,.i 0,vN,.i 2,.s (⟨#[71,78,68]⟩:my),.i 0,.i 0,.i 0,.i 0,.i 0,vN])])) ⟨De (y:=.av (.agg [.i (W64 (9+(EV d).1)),.s (⟨#[]⟩),.i 0,.i 0,.i 0,.i 0,.i 0,opL (OpL.mk 2 (A9 8 2 [.i 4,.s (⟨#[]⟩),.i (W64 (1+(AB (EV d).2 4).1)),.i 0,.i 0,.i 0,.i 0,vN,.i 2,.s (⟨#[71,78,68]⟩:my),.i 0,.i 0,.i 0,.i 0,.i 0,vN]))])) (.av (.agg (rr5 (rr2 (.cons (.list true false _ _ _ _ (fun _ _ _ _=>.refl _) (fun h=>by cases h)) .nil))))) (by unfold Ba;rw[h1,h2,h3,h4,h5,h6,h7,h8];rfl),.cells (AF.c (Z41 d)) 117,by kernel_rfl,Ea (by unfold Ba;rw[h1,h2,h3,h4,h5,h6,h7,h8];kernel_rfl)⟩
 exact AP<|Ao<|AE<|AA<|on<|AO<|xl mU ⟨De (y:=.av (.agg [.i 1,.s (⟨#[]⟩),.i 0,.i 0,.i 0,.i 0,.i 0,opL (OpL.mk 0 m8)])) (.av (.agg (rr5 (rr2 (.cons (.nil _ _) .nil))))) (by unfold Ba;rw[h1,h2,h3,h4,h5,h6,h7,h8];rfl),.cells (AF.c (AB d 9).2) 117,by kernel_rfl,Ea (by unfold Ba;rw[h1,h2,h3,h4,h5,h6,h7,h8];kernel_rfl)⟩
theorem lJ{d:AF}(h:DK d):DK (Ba d).2:=by
 unfold Ba;exact Eo (Bm (Bm h)) (Eo (Bm h) (Eo (Bm (Bm h)) (Eo (Bm (Bm h)) (Eo (Bm (Bm h)) (Eo (Bm (Bm h)) (Eo (Bm (Bm h)) (Eo (Bm (Bm (Bm h))) (Bm h))))))))
abbrev oQ:List Cl:=[.i b.Layers,.any,.any,.any,lst 7 AD.c b.Parts,.any,lst 6 AM.c b.Tracks,lst 8 Ak.c b.Vias,lst 8 A8.c b.Pours,lst 5 BA.c b.Keeps,lst 4 AX.c b.Slots,.any,.any,.any,.any]
def Z42:Blk:=.cells (oQ b) 41
def Z44:Tv:=.av (.one (.own 2000 1 ([]:List Int).length))
abbrev Ri:=b.Parts.getD v4.toNat default
def Z45(v3:List Int)(b:AC)(v4:Int):Blk:=.row 1 (v3++[(Ri b v4).Id]).length (AL eIn (v3++[(Ri b v4).Id])) 3
abbrev DB:=b.Tracks.getD v5.toNat default
def Z46(n7:List Int)(b:AC)(v5:Int):Blk:=.row 1 (n7++[(DB b v5).Id]).length (AL eIn (n7++[(DB b v5).Id])) 3
abbrev Rd:=b.Vias.getD v6.toNat default
def Z47(ou:List Int)(b:AC)(v6:Int):Blk:=.row 1 (ou++[(Rd b v6).Id]).length (AL eIn (ou++[(Rd b v6).Id])) 3
abbrev Kb:=b.Pours.getD v7.toNat default
abbrev Rj:=b.Keeps.getD v8.toNat default
abbrev Rg:=b.Slots.getD v9.toNat default
def Hb(b:AC)(v3:List Int)(v4:Int)(n7:List Int)(v5:Int)(ou:List Int)(v6:Int)(o4:List Int)(v7:Int)(pb:List Int)(v8:Int)(K0:List Int->Int->(List Int))(K1:List Int->Int->(List Int))(K2:List Int->Int->(List Int))(K3:List Int->Int->(List Int))(K4:List Int->Int->(List Int)):Nat->List Int->Int->(List Int)
 |0,_,_=>default
 |n5+1,pm,v9=>bif decide ((v9:Int)<(b.Slots.length:Int))then((Hb b v3 v4 n7 v5 ou v6 o4 v7 pb v8 K0 K1 K2 K3 K4 n5) (pm++[(b.Slots.getD v9.toNat default).Id]) (v9+1))else pm
def Ft(b:AC)(v3:List Int)(v4:Int)(n7:List Int)(v5:Int)(ou:List Int)(v6:Int)(o4:List Int)(v7:Int)(K0:List Int->Int->(List Int))(K1:List Int->Int->(List Int))(K2:List Int->Int->(List Int))(K3:List Int->Int->(List Int)):Nat->List Int->Int->(List Int)
 |0,_,_=>default
 |n4+1,pb,v8=>bif decide ((v8:Int)<(b.Keeps.length:Int))then((Ft b v3 v4 n7 v5 ou v6 o4 v7 K0 K1 K2 K3 n4) (pb++[(b.Keeps.getD v8.toNat default).Id]) (v8+1))else(Hb b v3 v4 n7 v5 ou v6 o4 v7 pb v8 K0 K1 K2 K3 (Ft b v3 v4 n7 v5 ou v6 o4 v7 K0 K1 K2 K3 n4) (((b.Slots.length:Int)-0).toNat+1) pb 0)
def Es(b:AC)(v3:List Int)(v4:Int)(n7:List Int)(v5:Int)(ou:List Int)(v6:Int)(K0:List Int->Int->(List Int))(K1:List Int->Int->(List Int))(K2:List Int->Int->(List Int)):Nat->List Int->Int->(List Int)
 |0,_,_=>default
 |n3+1,o4,v7=>bif decide ((v7:Int)<(b.Pours.length:Int))then((Es b v3 v4 n7 v5 ou v6 K0 K1 K2 n3) (o4++[(b.Pours.getD v7.toNat default).Id]) (v7+1))else(Ft b v3 v4 n7 v5 ou v6 o4 v7 K0 K1 K2 (Es b v3 v4 n7 v5 ou v6 K0 K1 K2 n3) (((b.Keeps.length:Int)-0).toNat+1) o4 0)
def Fu(b:AC)(v3:List Int)(v4:Int)(n7:List Int)(v5:Int)(K0:List Int->Int->(List Int))(K1:List Int->Int->(List Int)):Nat->List Int->Int->(List Int)
 |0,_,_=>default
 |n2+1,ou,v6=>bif decide ((v6:Int)<(b.Vias.length:Int))then((Fu b v3 v4 n7 v5 K0 K1 n2) (ou++[(b.Vias.getD v6.toNat default).Id]) (v6+1))else(Es b v3 v4 n7 v5 ou v6 K0 K1 (Fu b v3 v4 n7 v5 K0 K1 n2) (((b.Pours.length:Int)-0).toNat+1) ou 0)
def DG(b:AC)(v3:List Int)(v4:Int)(K0:List Int->Int->(List Int)):Nat->List Int->Int->(List Int)
 |0,_,_=>default
 |n1+1,n7,v5=>bif decide ((v5:Int)<(b.Tracks.length:Int))then((DG b v3 v4 K0 n1) (n7++[(b.Tracks.getD v5.toNat default).Id]) (v5+1))else(Fu b v3 v4 n7 v5 K0 (DG b v3 v4 K0 n1) (((b.Vias.length:Int)-0).toNat+1) n7 0)
def B2(b:AC):Nat->List Int->Int->(List Int)
 |0,_,_=>default
 |n0+1,v3,v4=>bif decide ((v4:Int)<(b.Parts.length:Int))then((B2 b n0) (v3++[(b.Parts.getD v4.toNat default).Id]) (v4+1))else(DG b v3 v4 (B2 b n0) (((b.Tracks.length:Int)-0).toNat+1) v3 0)
def F8(b:AC):(List Int):=B2 b (((b.Parts.length:Int)-0).toNat+1) ([]:List Int) 0
def dT:CT:=(101,[.agg (oQ b)],.val [] (.av (.one (lst 1 eIn (F8 b)))))
abbrev NK:=Fu b v3 v4 n7 v5 (B2 b n0) (DG b v3 v4 (B2 b n0) n1) n2
theorem fz(b:AC)(h0:(b.Parts.length:Int)<=1000000)(h1:(b.Tracks.length:Int)<=1000000)(h2:(b.Vias.length:Int)<=1000000)(h3:(b.Pours.length:Int)<=1000000)(h4:(b.Keeps.length:Int)<=1000000)(h5:(b.Slots.length:Int)<=1000000):PuP 101 (dT b).2.1 (tO (lst 1 eIn (F8 b))):=by
 refine pwf Tryz.func101 fun W0 M0=>?_;refine AA<|on<|AA<|on<|AA<|AA<|rn ⟨Pb,[(1,Z42 b)]⟩<|AJ<|AZ (Cv.trans (vg 2000 1 m8 3 [(3,[0])] [] hk0) (Cv.trans (Ag 2000 (Bh 1 m8 eIn)) (ck (⟨[(1,tP 1 0),(3,Z44),(4,tI 0)],[(1,Z42 b),(2000,.row 1 ([]:List Int).length (AL eIn ([]:List Int)) 3)]⟩))))<|lpC (κ:=List Int×Int) (fun x=>⟨[(1,tP 1 0),(3,tO (.own 2000 1 x.2.1.length)),(4,tI x.2.2)],[(1,Z42 b),(2000,.row 1 x.2.1.length (AL eIn x.2.1) 3)]⟩) (fun x=>((b.Parts.length:Int)-x.2.2).toNat) (fun x=>(0<=x.2.2/\(x.2.2<=(b.Parts.length:Int)\/x.2.2=0)/\(x.2.1.length:Int)<=0+1*(x.2.2-0))/\B2 b x.1 x.2.1 x.2.2=F8 b) ?_ (((b.Parts.length:Int)-0).toNat+1,([]:List Int),0) ⟨lz _,⟨ax0,ax0,ax0⟩,(by simp only[F8,mi,mj])⟩;rintro n0 ⟨v3,v4⟩ nq ⟨nm,ng⟩
 try dsimp only at nq nm ng
 refine AA<|AA<|on<|kb (decide ((v4:Int)<(b.Parts.length:Int))) (fun h1=>?_) (fun h1=>?_)
 ·have g1:=oT h1;refine AP<|AE<|AA<|AJ<|oc [] [0<=(v4:Int)/\(v4:Int)<(b.Parts.length:Int),v3.length=v3.length,v3.length+1<=maxLen,(v3.length+1)*8<=140737488355328] .nil (H4 au0 rfl au2 au2)<|Ao<|AE<|AZ (Ag 25 (Ac (AU 1 eIn v3) (Ai 1 eIn ([(Ri b v4).Id]:List Int))))<|rg ⟨[(1,tP 1 0),(3,tO (.own 25 1 (v3++[(Ri b v4).Id]).length)),(4,tI (W64 (v4+1)))],[(1,Z42 b),(25,Z45 v3 b v4)]⟩ ?_
  (try rw[(show W64 (v4+1)=v4+1 from Ae oM au5)])
  refine AE ?_;refine⟨(n0,v3++[(Ri b v4).Id],v4+1),⟨?_,?_,(by rw[<- ng];simp only[B2,h1,mi,mj])⟩,lz _,Cv.trans (vr 25 2000 hk0) (Az kr)⟩
  ·dsimp only;omega
  exact⟨ax0,ax0,ax0⟩
 have g1:=oF h1;refine Aw<|Aj<|Aj<|Ay<|AE<|AA<|AA<|rn ⟨[(1,tP 1 0),(3,tO (.own 2000 1 v3.length)),(5,tI 0)],[(1,Z42 b),(2000,.row 1 v3.length (AL eIn v3) 3)]⟩<|AJ<|lpC (κ:=List Int×Int) (fun x=>⟨[(1,tP 1 0),(3,tO (.own 2000 1 x.2.1.length)),(5,tI x.2.2)],[(1,Z42 b),(2000,.row 1 x.2.1.length (AL eIn x.2.1) 3)]⟩) (fun x=>((b.Tracks.length:Int)-x.2.2).toNat) (fun x=>(0<=x.2.2/\(x.2.2<=(b.Tracks.length:Int)\/x.2.2=0)/\(x.2.1.length:Int)<=(v3.length:Int)+1*(x.2.2-0))/\DG b v3 v4 (B2 b n0) x.1 x.2.1 x.2.2=F8 b) ?_ (((b.Tracks.length:Int)-0).toNat+1,v3,0) ⟨lz _,⟨ax0,ax0,ax0⟩,(by rw[<- ng];simp only[B2,h1,mi,mj])⟩;rintro n1 ⟨n7,v5⟩ o0 ⟨ox,np⟩
 try dsimp only at o0 ox np
 refine AA<|AA<|on<|kb (decide ((v5:Int)<(b.Tracks.length:Int))) (fun h2=>?_) (fun h2=>?_)
 ·have g2:=oT h2;refine AP<|AE<|AA<|AJ<|oc [] [0<=(v5:Int)/\(v5:Int)<(b.Tracks.length:Int),n7.length=n7.length,n7.length+1<=maxLen,(n7.length+1)*8<=140737488355328] .nil (H4 au0 rfl au2 au2)<|Ao<|AE<|AZ (Ag 41 (Ac (AU 1 eIn n7) (Ai 1 eIn ([(DB b v5).Id]:List Int))))<|rg ⟨[(1,tP 1 0),(3,tO (.own 41 1 (n7++[(DB b v5).Id]).length)),(5,tI (W64 (v5+1)))],[(1,Z42 b),(41,Z46 n7 b v5)]⟩ ?_
  (try rw[(show W64 (v5+1)=v5+1 from Ae oM au5)])
  refine AE ?_;refine⟨(n1,n7++[(DB b v5).Id],v5+1),⟨?_,?_,(by rw[<- np];simp only[DG,h2,mi,mj])⟩,lz _,Cv.trans (vr 41 2000 hk0) (Az kr)⟩
  ·dsimp only;omega
  exact⟨ax0,ax0,ax0⟩
 have g2:=oF h2;refine Aw<|Aj<|Aj<|Ay<|AE<|AA<|AA<|rn ⟨[(1,tP 1 0),(3,tO (.own 2000 1 n7.length)),(6,tI 0)],[(1,Z42 b),(2000,.row 1 n7.length (AL eIn n7) 3)]⟩<|AJ<|lpC (κ:=List Int×Int) (fun x=>⟨[(1,tP 1 0),(3,tO (.own 2000 1 x.2.1.length)),(6,tI x.2.2)],[(1,Z42 b),(2000,.row 1 x.2.1.length (AL eIn x.2.1) 3)]⟩) (fun x=>((b.Vias.length:Int)-x.2.2).toNat) (fun x=>(0<=x.2.2/\(x.2.2<=(b.Vias.length:Int)\/x.2.2=0)/\(x.2.1.length:Int)<=(n7.length:Int)+1*(x.2.2-0))/\Fu b v3 v4 n7 v5 (B2 b n0) (DG b v3 v4 (B2 b n0) n1) x.1 x.2.1 x.2.2=F8 b) ?_ (((b.Vias.length:Int)-0).toNat+1,n7,0) ⟨lz _,⟨ax0,ax0,ax0⟩,(by rw[<- np];simp only[DG,h2,mi,mj])⟩;rintro n2 ⟨ou,v6⟩ pd ⟨pg,oy⟩
 try dsimp only at pd pg oy
 refine AA<|AA<|on<|kb (decide ((v6:Int)<(b.Vias.length:Int))) (fun h3=>?_) (fun h3=>?_)
 ·have g3:=oT h3;refine AP<|AE<|AA<|AJ<|oc [] [0<=(v6:Int)/\(v6:Int)<(b.Vias.length:Int),ou.length=ou.length,ou.length+1<=maxLen,(ou.length+1)*8<=140737488355328] .nil (H4 au0 rfl au2 au2)<|Ao<|AE<|AZ (Ag 57 (Ac (AU 1 eIn ou) (Ai 1 eIn ([(Rd b v6).Id]:List Int))))<|rg ⟨[(1,tP 1 0),(3,tO (.own 57 1 (ou++[(Rd b v6).Id]).length)),(6,tI (W64 (v6+1)))],[(1,Z42 b),(57,Z47 ou b v6)]⟩ ?_
  (try rw[(show W64 (v6+1)=v6+1 from Ae oM au5)])
  refine AE ?_;refine⟨(n2,ou++[(Rd b v6).Id],v6+1),⟨?_,?_,(by rw[<- oy];simp only[Fu,h3,mi,mj])⟩,lz _,Cv.trans (vr 57 2000 hk0) (Az kr)⟩
  ·dsimp only;omega
  exact⟨ax0,ax0,ax0⟩
 have g3:=oF h3;refine Aw<|Aj<|Aj<|Ay<|AE<|AA<|AA<|rn ⟨[(1,tP 1 0),(3,tO (.own 2000 1 ou.length)),(7,tI 0)],[(1,Z42 b),(2000,.row 1 ou.length (AL eIn ou) 3)]⟩<|AJ<|lpC (κ:=List Int×Int) (fun x=>⟨[(1,tP 1 0),(3,tO (.own 2000 1 x.2.1.length)),(7,tI x.2.2)],[(1,Z42 b),(2000,.row 1 x.2.1.length (AL eIn x.2.1) 3)]⟩) (fun x=>((b.Pours.length:Int)-x.2.2).toNat) (fun x=>(0<=x.2.2/\(x.2.2<=(b.Pours.length:Int)\/x.2.2=0)/\(x.2.1.length:Int)<=(ou.length:Int)+1*(x.2.2-0))/\Es b v3 v4 n7 v5 ou v6 (B2 b n0) (DG b v3 v4 (B2 b n0) n1) (NK b v3 v4 n7 v5 n0 n1 n2) x.1 x.2.1 x.2.2=F8 b) ?_ (((b.Pours.length:Int)-0).toNat+1,ou,0) ⟨lz _,⟨ax0,ax0,ax0⟩,(by rw[<- oy];simp only[Fu,h3,mi,mj])⟩;rintro n3 ⟨o4,v7⟩ pn ⟨po,ph⟩
 try dsimp only at pn po ph
 refine AA<|AA<|on<|kb (decide ((v7:Int)<(b.Pours.length:Int))) (fun h4=>?_) (fun h4=>?_)
 ·have g4:=oT h4;refine AP<|AE<|AA<|AJ<|oc [] [0<=(v7:Int)/\(v7:Int)<(b.Pours.length:Int),o4.length=o4.length,o4.length+1<=maxLen,(o4.length+1)*8<=140737488355328] .nil (H4 au0 rfl au2 au2)<|Ao<|AE<|AZ (Ag 73 (Ac (AU 1 eIn o4) (Ai 1 eIn ([(Kb b v7).Id]:List Int))))<|rg ⟨[(1,tP 1 0),(3,tO (.own 73 1 (o4++[(Kb b v7).Id]).length)),(7,tI (W64 (v7+1)))],[(1,Z42 b),(73,.row 1 (o4++[(Kb b v7).Id]).length (AL eIn (o4++[(Kb b v7).Id])) 3)]⟩ ?_
  (try rw[(show W64 (v7+1)=v7+1 from Ae oM au5)])
  refine AE ?_;refine⟨(n3,o4++[(Kb b v7).Id],v7+1),⟨?_,?_,(by rw[<- ph];simp only[Es,h4,mi,mj])⟩,lz _,Cv.trans (vr 73 2000 hk0) (Az kr)⟩
  ·dsimp only;omega
  exact⟨ax0,ax0,ax0⟩
 have g4:=oF h4;refine Aw<|Aj<|Aj<|Ay<|AE<|AA<|AA<|rn ⟨[(1,tP 1 0),(3,tO (.own 2000 1 o4.length)),(8,tI 0)],[(1,Z42 b),(2000,.row 1 o4.length (AL eIn o4) 3)]⟩<|AJ<|lpC (κ:=List Int×Int) (fun x=>⟨[(1,tP 1 0),(3,tO (.own 2000 1 x.2.1.length)),(8,tI x.2.2)],[(1,Z42 b),(2000,.row 1 x.2.1.length (AL eIn x.2.1) 3)]⟩) (fun x=>((b.Keeps.length:Int)-x.2.2).toNat) (fun x=>(0<=x.2.2/\(x.2.2<=(b.Keeps.length:Int)\/x.2.2=0)/\(x.2.1.length:Int)<=(o4.length:Int)+1*(x.2.2-0))/\Ft b v3 v4 n7 v5 ou v6 o4 v7 (B2 b n0) (DG b v3 v4 (B2 b n0) n1) (NK b v3 v4 n7 v5 n0 n1 n2) (Es b v3 v4 n7 v5 ou v6 (B2 b n0) (DG b v3 v4 (B2 b n0) n1) (NK b v3 v4 n7 v5 n0 n1 n2) n3) x.1 x.2.1 x.2.2=F8 b) ?_ (((b.Keeps.length:Int)-0).toNat+1,o4,0) ⟨lz _,⟨ax0,ax0,ax0⟩,(by rw[<- ph];simp only[Es,h4,mi,mj])⟩;rintro n4 ⟨pb,v8⟩ hm4 ⟨pu,pq⟩
 try dsimp only at hm4 pu pq
 refine AA<|AA<|on<|kb (decide ((v8:Int)<(b.Keeps.length:Int))) (fun h5=>?_) (fun h5=>?_)
 ·have g5:=oT h5;refine AP<|AE<|AA<|AJ<|oc [] [0<=(v8:Int)/\(v8:Int)<(b.Keeps.length:Int),pb.length=pb.length,pb.length+1<=maxLen,(pb.length+1)*8<=140737488355328] .nil (H4 au0 rfl au2 au2)<|Ao<|AE<|AZ (Ag 89 (Ac (AU 1 eIn pb) (Ai 1 eIn ([(Rj b v8).Id]:List Int))))<|rg ⟨[(1,tP 1 0),(3,tO (.own 89 1 (pb++[(Rj b v8).Id]).length)),(8,tI (W64 (v8+1)))],[(1,Z42 b),(89,.row 1 (pb++[(Rj b v8).Id]).length (AL eIn (pb++[(Rj b v8).Id])) 3)]⟩ ?_
  (try rw[(show W64 (v8+1)=v8+1 from Ae oM au5)])
  refine AE ?_;refine⟨(n4,pb++[(Rj b v8).Id],v8+1),⟨?_,?_,(by rw[<- pq];simp only[Ft,h5,mi,mj])⟩,lz _,Cv.trans (vr 89 2000 hk0) (Az kr)⟩
  ·dsimp only;omega
  exact⟨ax0,ax0,ax0⟩
 have g5:=oF h5;refine Aw<|Aj<|Aj<|Ay<|AE<|AA<|AA<|rn ⟨[(1,tP 1 0),(3,tO (.own 2000 1 pb.length)),(9,tI 0)],[(1,Z42 b),(2000,.row 1 pb.length (AL eIn pb) 3)]⟩<|AJ<|lpC (κ:=List Int×Int) (fun x=>⟨[(1,tP 1 0),(3,tO (.own 2000 1 x.2.1.length)),(9,tI x.2.2)],[(1,Z42 b),(2000,.row 1 x.2.1.length (AL eIn x.2.1) 3)]⟩) (fun x=>((b.Slots.length:Int)-x.2.2).toNat) (fun x=>(0<=x.2.2/\(x.2.2<=(b.Slots.length:Int)\/x.2.2=0)/\(x.2.1.length:Int)<=(pb.length:Int)+1*(x.2.2-0))/\Hb b v3 v4 n7 v5 ou v6 o4 v7 pb v8 (B2 b n0) (DG b v3 v4 (B2 b n0) n1) (NK b v3 v4 n7 v5 n0 n1 n2) (Es b v3 v4 n7 v5 ou v6 (B2 b n0) (DG b v3 v4 (B2 b n0) n1) (NK b v3 v4 n7 v5 n0 n1 n2) n3) (Ft b v3 v4 n7 v5 ou v6 o4 v7 (B2 b n0) (DG b v3 v4 (B2 b n0) n1) (NK b v3 v4 n7 v5 n0 n1 n2) (Es b v3 v4 n7 v5 ou v6 (B2 b n0) (DG b v3 v4 (B2 b n0) n1) (NK b v3 v4 n7 v5 n0 n1 n2) n3) n4) x.1 x.2.1 x.2.2=F8 b) ?_ (((b.Slots.length:Int)-0).toNat+1,pb,0) ⟨lz _,⟨ax0,ax0,ax0⟩,(by rw[<- pq];simp only[Ft,h5,mi,mj])⟩;rintro n5 ⟨pm,v9⟩ hm5 ⟨pv,pt⟩
 try dsimp only at hm5 pv pt
 refine AA<|AA<|on<|kb (decide ((v9:Int)<(b.Slots.length:Int))) (fun h6=>?_) (fun h6=>?_)
 ·have g6:=oT h6;refine AP<|AE<|AA<|AJ<|oc [] [0<=(v9:Int)/\(v9:Int)<(b.Slots.length:Int),pm.length=pm.length,pm.length+1<=maxLen,(pm.length+1)*8<=140737488355328] .nil (H4 au0 rfl au2 au2)<|Ao<|AE<|AZ (Ag 105 (Ac (AU 1 eIn pm) (Ai 1 eIn ([(Rg b v9).Id]:List Int))))<|rg ⟨[(1,tP 1 0),(3,tO (.own 105 1 (pm++[(Rg b v9).Id]).length)),(9,tI (W64 (v9+1)))],[(1,Z42 b),(105,.row 1 (pm++[(Rg b v9).Id]).length (AL eIn (pm++[(Rg b v9).Id])) 3)]⟩ ?_
  (try rw[(show W64 (v9+1)=v9+1 from Ae oM au5)])
  refine AE ?_;refine⟨(n5,pm++[(Rg b v9).Id],v9+1),⟨?_,?_,(by rw[<- pt];simp only[Hb,h6,mi,mj])⟩,lz _,Cv.trans (vr 105 2000 hk0) (Az kr)⟩
  ·dsimp only;omega
  exact⟨ax0,ax0,ax0⟩
 exact Aw<|Aj<|Aj<|Ay<|AE<|AA<|on<|AO<|zy (vf 2000 hk0) (by rw[<- pt];simp only[Hb,h6,mi,mj]<;>kernel_rfl)
theorem zR(b:AC)(h0:(b.Parts.length:Int)<=1000000)(h1:(b.Tracks.length:Int)<=1000000)(h2:(b.Vias.length:Int)<=1000000)(h3:(b.Pours.length:Int)<=1000000)(h4:(b.Keeps.length:Int)<=1000000)(h5:(b.Slots.length:Int)<=1000000):OKc (dT b):=cPu<|fz b h0 h1 h2 h3 h4 h5
theorem uC(b:AC)(v3:List Int)(v4:Int)(n7:List Int)(v5:Int)(ou:List Int)(v6:Int)(o4:List Int)(v7:Int)(pb:List Int)(v8:Int)(K0:List Int->Int->List Int)(K1:List Int->Int->List Int)(K2:List Int->Int->List Int)(K3:List Int->Int->List Int)(K4:List Int->Int->List Int):∀(n:Nat) (v:List Int) (i:Int),0<=i->i<=b.Slots.length->((b.Slots.length:Int)-i).toNat<n->((Hb b v3 v4 n7 v5 ou v6 o4 v7 pb v8 K0 K1 K2 K3 K4 n v i).length:Int)=v.length+((b.Slots.length:Int)-i)
 |0,v,i,h0,h1,h2=>absurd h2 (lw _)
 |n+1,v,i,h0,h1,h2=>by
  unfold Hb
  by_cases h:i<(b.Slots.length:Int)
  ·simp only[h,ml,mi];have:=uC b v3 v4 n7 v5 ou v6 o4 v7 pb v8 K0 K1 K2 K3 K4 n (v++[(b.Slots.getD i.toNat default).Id]) (i+1) mz mz mz;rw[this];simp only[d9,j8,j9];omega
  simp only[h,mm,mj];omega
theorem uD(b:AC)(v3:List Int)(v4:Int)(n7:List Int)(v5:Int)(ou:List Int)(v6:Int)(o4:List Int)(v7:Int)(K0:List Int->Int->List Int)(K1:List Int->Int->List Int)(K2:List Int->Int->List Int)(K3:List Int->Int->List Int):∀(n:Nat) (v:List Int) (i:Int),0<=i->i<=b.Keeps.length->((b.Keeps.length:Int)-i).toNat<n->((Ft b v3 v4 n7 v5 ou v6 o4 v7 K0 K1 K2 K3 n v i).length:Int)=v.length+((b.Keeps.length:Int)-i)+(b.Slots.length:Int)
 |0,v,i,h0,h1,h2=>absurd h2 (lw _)
 |n+1,v,i,h0,h1,h2=>by
  unfold Ft
  by_cases h:i<(b.Keeps.length:Int)
  ·simp only[h,ml,mi];have:=uD b v3 v4 n7 v5 ou v6 o4 v7 K0 K1 K2 K3 n (v++[(b.Keeps.getD i.toNat default).Id]) (i+1) mz mz mz;rw[this];simp only[d9,j8,j9];omega
  simp only[h,mm,mj];rw[uC _ _ _ _ _ _ _ _ _ _ _ _ _ _ _ _ _ v 0 mz mz mz];omega
theorem uE(b:AC)(v3:List Int)(v4:Int)(n7:List Int)(v5:Int)(ou:List Int)(v6:Int)(K0:List Int->Int->List Int)(K1:List Int->Int->List Int)(K2:List Int->Int->List Int):∀(n:Nat) (v:List Int) (i:Int),0<=i->i<=b.Pours.length->((b.Pours.length:Int)-i).toNat<n->((Es b v3 v4 n7 v5 ou v6 K0 K1 K2 n v i).length:Int)=v.length+((b.Pours.length:Int)-i)+(b.Keeps.length:Int)+(b.Slots.length:Int)
 |0,v,i,h0,h1,h2=>absurd h2 (lw _)
 |n+1,v,i,h0,h1,h2=>by
  unfold Es
  by_cases h:i<(b.Pours.length:Int)
  ·simp only[h,ml,mi];have:=uE b v3 v4 n7 v5 ou v6 K0 K1 K2 n (v++[(b.Pours.getD i.toNat default).Id]) (i+1) mz mz mz;rw[this];simp only[d9,j8,j9];omega
  simp only[h,mm,mj];rw[uD _ _ _ _ _ _ _ _ _ _ _ _ _ _ v 0 mz mz mz];omega
theorem uF(b:AC)(v3:List Int)(v4:Int)(n7:List Int)(v5:Int)(K0:List Int->Int->List Int)(K1:List Int->Int->List Int):∀(n:Nat) (v:List Int) (i:Int),0<=i->i<=b.Vias.length->((b.Vias.length:Int)-i).toNat<n->((Fu b v3 v4 n7 v5 K0 K1 n v i).length:Int)=v.length+((b.Vias.length:Int)-i)+(b.Pours.length:Int)+(b.Keeps.length:Int)+(b.Slots.length:Int)
 |0,v,i,h0,h1,h2=>absurd h2 (lw _)
 |n+1,v,i,h0,h1,h2=>by
  unfold Fu
  by_cases h:i<(b.Vias.length:Int)
  ·simp only[h,ml,mi];have:=uF b v3 v4 n7 v5 K0 K1 n (v++[(b.Vias.getD i.toNat default).Id]) (i+1) mz mz mz;rw[this];simp only[d9,j8,j9];omega
  simp only[h,mm,mj];rw[uE _ _ _ _ _ _ _ _ _ _ _ v 0 mz mz mz];omega
theorem uG(b:AC)(v3:List Int)(v4:Int)(K0:List Int->Int->List Int):∀(n:Nat) (v:List Int) (i:Int),0<=i->i<=b.Tracks.length->((b.Tracks.length:Int)-i).toNat<n->((DG b v3 v4 K0 n v i).length:Int)=v.length+((b.Tracks.length:Int)-i)+(b.Vias.length:Int)+(b.Pours.length:Int)+(b.Keeps.length:Int)+(b.Slots.length:Int)
 |0,v,i,h0,h1,h2=>absurd h2 (lw _)
 |n+1,v,i,h0,h1,h2=>by
  unfold DG
  by_cases h:i<(b.Tracks.length:Int)
  ·simp only[h,ml,mi];have:=uG b v3 v4 K0 n (v++[(b.Tracks.getD i.toNat default).Id]) (i+1) mz mz mz;rw[this];simp only[d9,j8,j9];omega
  simp only[h,mm,mj];rw[uF _ _ _ _ _ _ _ _ v 0 mz mz mz];omega
theorem uH(b:AC)   : ∀(n:Nat) (v:List Int) (i:Int),0<=i->i<=b.Parts.length->((b.Parts.length:Int)-i).toNat<n->((B2 b n v i).length:Int)=v.length+((b.Parts.length:Int)-i)+(b.Tracks.length:Int)+(b.Vias.length:Int)+(b.Pours.length:Int)+(b.Keeps.length:Int)+(b.Slots.length:Int)
 |0,v,i,h0,h1,h2=>absurd h2 (lw _)
 |n+1,v,i,h0,h1,h2=>by
  unfold B2
  by_cases h:i<(b.Parts.length:Int)
  ·simp only[h,ml,mi];have:=uH b n (v++[(b.Parts.getD i.toNat default).Id]) (i+1) mz mz mz;rw[this];simp only[d9,j8,j9];omega
  simp only[h,mm,mj];rw[uG _ _ _ _ _ v 0 mz mz mz];omega
theorem gU(b:AC):((F8 b).length:Int)=(b.Parts.length:Int)+(b.Tracks.length:Int)+(b.Vias.length:Int)+(b.Pours.length:Int)+(b.Keeps.length:Int)+(b.Slots.length:Int):=by
 unfold F8;rw[uH b _ _ 0 mz mz mz];simp only[j9];omega
end
end Go.Proofs.YtheobjkgllmnmaaGreat
