/-
  No statement is proved in this text. It holds a part of what the proof of ItemsAll needs.
-/
import Derived.Test.YtheobjkgllmnmaaGreatItemsAllQc
namespace Go.Proofs.YtheobjkgllmnmaaGreat
set_option maxRecDepth 100000
set_option linter.unusedVariables false
set_option linter.unusedSimpArgs false
open Go.RowKit
section
open Go.RowKit
def Jr(x:Int):Bool:=!decide ((x:Int)=x)
variable (data' l:List AD)(x j n y:Int)
def vQ:CT:=(167,[.one (.i x)],.val [] (.av (.one (.b (Jr x)))))
theorem ff(x:Int):PuP 167 (vQ x).2.1 (tO (.b (Jr x))):=by
 refine pwf Tryz.func167 fun W0 M0=>?_;exact AA<|on<|AA<|on<|AO<|zl
theorem fW(x:Int):OKc (vQ x):=cPu<|ff x
def Dk(x:Int)(y:Int):Int:=bif Jr x then(bif Jr y then 0 else(-1))else(bif Jr y then 1 else(bif decide ((x:Int)<y)then(-1)else(bif decide ((y:Int)<x)then 1 else 0)))
def ZR:CT:=(151,[.one (.i x),.one (.i y)],.val [] (.av (.one (.i (Dk x y)))))
theorem rO(x:Int)(y:Int):PuP 151 (ZR x y).2.1 (tO (.i (Dk x y))):=by
 refine pwf Tryz.func151 fun W0 M0=>?_;refine AA<|on<|AA<|oq 8 _ (fW x)<|AE<|AA<|oq 10 _ (fW y)<|AE<|AA<|AA<|on<|kb (Jr x) (fun h1=>?_) (fun h1=>?_)
 ·refine AA<|AA<|rn ⟨[(12,tB (Jr y))],[]⟩<|BC _ rfl (fun h2=>?_) (fun h2=>?_)
  ·exact AA<|on<|AO<|Bf<|Bf<|zl (by simp only[Dk,h1,h2,mi,mj]<;>kernel_rfl)
  exact AP<|AE<|AA<|on<|AO<|Bf<|zl (by simp only[Dk,h1,h2,mi,mj]<;>kernel_rfl)
 refine AP<|AE<|AA<|AA<|on<|kb (Jr y) (fun h2=>?_) (fun h2=>?_)
 ·exact AA<|on<|AO<|Bf<|zl (by simp only[Dk,h1,h2,mi,mj]<;>kernel_rfl)
 refine AP<|AE<|AA<|AA<|on<|kb (decide ((x:Int)<y)) (fun h3=>?_) (fun h3=>?_)
 ·exact AA<|on<|AO<|Bf<|zl (by simp only[Dk,h1,h2,h3,mi,mj]<;>kernel_rfl)
 refine AP<|AE<|AA<|AA<|rn ⟨[(19,tB (decide ((y:Int)<x)))],[]⟩<|BC _ rfl (fun h4=>?_) (fun h4=>?_)
 ·exact AA<|on<|AO<|Bf<|zl (by simp only[Dk,h1,h2,h3,h4,mi,mj]<;>kernel_rfl)
 exact AP<|AE<|AA<|on<|AO<|zl (by simp only[Dk,h1,h2,h3,h4,mi,mj]<;>kernel_rfl)
theorem J5(x:Int)(y:Int):OKc (ZR x y):=cPu<|rO x y
def Qp(x:AD)(y:AD):Int:=Dk x.Id y.Id
def iJ(x:AD)(y:AD):CT:=(150,[.agg (AD.c x),.agg (AD.c y)],.val [] (.av (.one (.i (Qp x y)))))
theorem pcmpP(x:AD)(y:AD):PuP 150 (iJ x y).2.1 (tO (.i (Qp x y))):=by
 refine pwf Tryz.func150 fun W0 M0=>?_;exact AA<|on<|AA<|oq 9 _ (J5 x.Id y.Id)<|AE<|AO<|zl
theorem ii(x:AD)(y:AD):OKc (iJ x y):=cPu<|pcmpP x y
def KK(l:(List AD))(n:Int)(data:List AD)(i:Int)(K0:List AD->Int->(List AD)):Nat->List AD->Int->(List AD)
 |0,_,_=>default
 |n1+1,data',j=>bif bif decide ((0:Int)<j)then decide (((Qp (data'.getD j.toNat default) (data'.getD (j-1).toNat default)):Int)<0)else false then((KK l n data i K0 n1) ((data'.set j.toNat (data'.getD (j-1).toNat default)).set (j-1).toNat (data'.getD j.toNat default)) (j-1))else(K0 data' (i+1))
def JB(l:(List AD))(n:Int):Nat->List AD->Int->(List AD)
 |0,_,_=>default
 |n0+1,data,i=>bif decide ((i:Int)<n)then(KK l n data i (JB l n n0) (i.toNat+1) data i)else data
def Ge(l:(List AD))(n:Int):(List AD):=JB l n ((n-1).toNat+1) l 1
abbrev Io:Bool:=(decide ((0:Int)<j))
abbrev HB:=data'.getD j.toNat default
abbrev Vz:=data'.set j.toNat (data'.getD (j-1).toNat default)
abbrev Ld:Cl:=.own 1000 7 l.length
theorem au27{p:Prop}(h:p:=by first|omega|(simp only[kj];omega)|simp):p:=h
theorem pInsP(l:(List AD))(n:Int)(hn:n=(l.length:Int))(hl:l.length<20):WrR Tryz.prog 179 1000 [.one (.own 1000 7 l.length),.one (.i 0),.one (.i n),.one (.clo 150 0 dfc)] 7 l.length (AL AD.c l) 78 (.tup []) (AL AD.c (Ge l n)):=by
 refine HG Tryz.func179 rfl kr kr kr fun W0 M0 X hX=>?_;refine AA<|rn ⟨[(0,tO (Ld l)),(1,tI 0),(2,tI n),(3,.av (.one (.clo 150 0 dfc))),(8,tI 1)],[(1000,.row 7 l.length (AL AD.c l) 78)]⟩<|AJ<|lpC (κ:=List AD×Int) (fun x=>⟨[(0,tO (.own 1000 7 x.2.1.length)),(1,tI 0),(2,tI n),(3,.av (.one (.clo 150 0 dfc))),(8,tI x.2.2)],[(1000,.row 7 x.2.1.length (AL AD.c x.2.1) 78)]⟩) (fun x=>(n-x.2.2).toNat) (fun x=>(1<=x.2.2/\x.2.1.length=l.length/\1<=x.2.2/\(x.2.2<=n\/x.2.2=1))/\JB l n x.1 x.2.1 x.2.2=Ge l n) ?_ ((n-1).toNat+1,l,1) ⟨lz _,⟨ax0,ax0,ax0,ax0⟩,(by simp only[Ge,mi,mj])⟩;rintro n0 ⟨data,i⟩ nq ⟨nm,ng⟩
 try dsimp only at nq nm ng
 refine AA<|AA<|on<|kb (decide ((i:Int)<n)) (fun h1=>?_) (fun h1=>?_)
 ·have g1:=oT h1;refine AP<|AE<|AA<|AJ<|AA<|rn ⟨[(0,tO (.own 1000 7 data.length)),(1,tI 0),(2,tI n),(3,.av (.one (.clo 150 0 dfc))),(8,tI i),(9,tI i)],[(1000,.row 7 data.length (AL AD.c data) 78)]⟩<|AJ<|lpC (κ:=List AD×Int) (fun x=>⟨[(0,tO (.own 1000 7 x.2.1.length)),(1,tI 0),(2,tI n),(3,.av (.one (.clo 150 0 dfc))),(8,tI i),(9,tI x.2.2)],[(1000,.row 7 x.2.1.length (AL AD.c x.2.1) 78)]⟩) (fun x=>x.2.2.toNat) (fun x=>(0<=x.2.2/\x.2.1.length=l.length/\x.2.2<n)/\KK l n data i (JB l n n0) x.1 x.2.1 x.2.2=Ge l n) ?_ (i.toNat+1,data,i) ⟨lz _,⟨ax0,ax0,ax0⟩,(by rw[<- ng];simp only[JB,h1,mi,mj])⟩;rintro n1 ⟨data',j⟩ o0 ⟨ox,np⟩
  try dsimp only at o0 ox np
  refine AA<|AA ?_;refine dw [] [(32,iJ (HB data' j) (data'.getD (W64 (j-1)).toNat default))] (t2 (Io j) ((gk (Io j) (0<=(j:Int)/\(j:Int)<(data'.length:Int)))::(gt (Io j))::(gk (Io j) (j.toNat<data'.length))::(t3 (Io j) ((gk (Io j) (0<=(W64 (j-1):Int)/\(W64 (j-1):Int)<(data'.length:Int)))::(gt (Io j))::(gk (Io j) ((W64 (j-1)).toNat<data'.length))::(t3 (Io j) ((gk (Io j) (Cp (iJ (HB data' j) (data'.getD (W64 (j-1)).toNat default)).2.1))::(t2 (Io j) []))))))) ⟨[(0,tO (.own 1000 7 data'.length)),(1,tI 0),(2,tI n),(3,.av (.one (.clo 150 0 dfc))),(8,tI i),(9,tI j),(34,tB (bif decide ((0:Int)<j)then decide (((Qp (HB data' j) (data'.getD (W64 (j-1)).toNat default)):Int)<0)else false))],[(1000,.row 7 data'.length (AL AD.c data') 78)]⟩ (.cons (ii (HB data' j) (data'.getD (W64 (j-1)).toNat default)) .nil) (c2 (.cons (fun hG=>by first|exact au0|(simp only[ll,lm,mf,me]at hG<;>omega)|(simp at hG<;>omega)|(simp only[ll,lm]at hG;simp only[Bz];omega)) (ci (.cons (fun hG=>by first|exact au0|(simp only[ll,lm,mf,me]at hG<;>omega)|(simp at hG<;>omega)|(simp only[ll,lm]at hG;simp only[Bz];omega)) (c3 (.cons (fun hG=>by first|exact au0|(simp only[ll,lm,mf,me]at hG<;>omega)|(simp at hG<;>omega)|(simp only[ll,lm]at hG;simp only[Bz];omega)) (ci (.cons (fun hG=>by first|exact au0|(simp only[ll,lm,mf,me]at hG<;>omega)|(simp at hG<;>omega)|(simp only[ll,lm]at hG;simp only[Bz];omega)) (c3 (.cons (fun _=>rfl) (c2 .nil))))))))))) ?_
  (try rw[(show W64 (j-1)=j-1 from Ae oM oM)])
  refine AE<|BC _ rfl (fun h2=>?_) (fun h2=>?_)
  ·have g2:=Fl h2;refine AP<|AE<|AA<|AJ<|dw [] [] [0<=(W64 (j-1):Int)/\(W64 (j-1):Int)<(data'.length:Int),(W64 (j-1)).toNat<data'.length,0<=(j:Int)/\(j:Int)<(data'.length:Int),j.toNat<data'.length,0<=(j:Int)/\(j:Int)<(data'.length:Int),j.toNat<data'.length,0<=(W64 (j-1):Int)/\(W64 (j-1):Int)<(data'.length:Int),(W64 (j-1)).toNat<data'.length] ⟨[(0,tO (.own 1000 7 data'.length)),(1,tI 0),(2,tI n),(3,.av (.one (.clo 150 0 dfc))),(8,tI i),(9,tI j)],[(1000,.row 7 data'.length (fun i_ j_=>if i_=(W64 (j-1)).toNat/\0<=j_/\j_<0+7 then((AD.c (HB data' j)):List Cl).getD (j_-0) default else(fun i_ j_=>if i_=j.toNat/\0<=j_/\j_<0+7 then((AD.c (data'.getD (W64 (j-1)).toNat default)):List Cl).getD (j_-0) default else(AL AD.c data') i_ j_) i_ j_) 78)]⟩ .nil (H8 au0 au0 au0 au0 au0 au0 au0 au0) ?_
   (try rw[(show W64 (j-1)=j-1 from Ae oM oM)])
   refine Ao<|AE<|AZ (Ag 1000 (DU (l:=(AD.c (HB data' j))) (off:=0) (q:=7) (k:=(j-1).toNat) (DU (l:=(AD.c (data'.getD (j-1).toNat default))) (off:=0) (q:=7) (k:=j.toNat) (AU 7 AD.c data') au0 (data'.getD (j-1).toNat default) (Do kr)) au0 (HB data' j) (Do kr)))<|rg ⟨[(0,tO (.own 1000 7 ((Vz data' j).set (j-1).toNat (HB data' j)).length)),(1,tI 0),(2,tI n),(3,.av (.one (.clo 150 0 dfc))),(8,tI i),(9,tI (W64 (j-1)))],[(1000,.row 7 ((Vz data' j).set (j-1).toNat (HB data' j)).length (AL AD.c ((Vz data' j).set (j-1).toNat (HB data' j))) 78)]⟩ ?_
   (try rw[(show W64 (j-1)=j-1 from Ae oM oM)])
   refine AE ?_;refine⟨(n1,(Vz data' j).set (j-1).toNat (HB data' j),j-1),⟨?_,?_,(by rw[<- np];simp only[KK,h2,mi,mj])⟩,lz _,Az kr⟩
   ·dsimp only;omega
   exact⟨ax0,ax0,ax0⟩
  refine Aw<|Aj<|Aj<|Ay<|Ao<|AE<|rg ⟨[(0,tO (.own 1000 7 data'.length)),(1,tI 0),(2,tI n),(3,.av (.one (.clo 150 0 dfc))),(8,tI (W64 (i+1)))],[(1000,.row 7 data'.length (AL AD.c data') 78)]⟩ ?_
  (try rw[(show W64 (i+1)=i+1 from Ae oM oM)])
  refine AE ?_;refine⟨(n0,data',i+1),⟨?_,?_,(by rw[<- np];simp only[KK,h2,mi,mj])⟩,lz _,Az kr⟩
  ·dsimp only;omega
  exact⟨ax0,ax0,ax0,ax0⟩
 have g1:=oF h1;exact Aw<|Aj<|Aj<|Ay<|xn (.tup []) ⟨F5 rfl,.row 7 data.length (AL AD.c data) 78,by kernel_rfl,HS (c:=AD.c) (xs:=data) (by rw[<- ng];first|(simp only[JB,h1,mi,mj]<;>rfl)) au27⟩
theorem tG{p:Prop}(h:p:=by
 unfold mp0;cases l with
 |nil=>subst hn;rfl
 |cons a l =>
  have h:=jb (fun x y=>decide (mp1 x y<0)) (a::l) (mp2 (a::l) n) id (fun m d i hi=>by
   rw[mp2,lk oM,mj];rfl) (fun m i out rest x hi ho=>by
   rw[mp2,lj oM,mi];have h1:=ja (fun x y=>decide (mp1 x y<0)) (mp3 (a::l) n (out++x::rest) i (mp2 (a::l) n m)) (fun d=>mp2 (a::l) n m d ((i:Int)+1)) (fun m d j=>by
    rw[mp3,l9,show((j:Int)-1).toNat=j-1 by omega]) out rest x i ((i:Int).toNat+1) oM oM
   subst ho;rw[List.take_length,List.drop_length,kn]at h1;rw[h1];unfold W7;rw[List.append_assoc];rfl) ((a::l).length-1) ((n-1).toNat+1) 1 rfl m3 oM
  exact h):p:=h
section
 open Go.Proofs.YtheobjkgllmnmaaGreat renaming Ge→mp0,Qp→mp1,JB→mp2,KK→mp3
theorem Zk(l:List AD)(n:Int)(hn:n=(l.length:Int)):Ge l n=CY (fun x y=>decide (Qp x y<0)) l:=tG
end
theorem QM(l:List AD)(n:Int)(hn:n=(l.length:Int))(hl:l.length<20):(Ge l n).length=l.length:=by rw[Zk l n hn,Cu]
abbrev Rq:Blk:=.row 7 l.length (AL AD.c l) 78
def Z0c:CT:=(179,([.one (Ld l),.one (.i 0),.one (.i n),.one (.clo 150 0 dfc)]:List Av).map (Jy 1000 1000),wrI 1000 (Rq l) (.tup []) (.row 7 l.length (AL AD.c (Ge l n)) 78))
def VW(l:(List AD))(n:Int):(List AD):=Ge l n
theorem pStaP(l:(List AD))(n:Int)(hn:n=(l.length:Int))(hl:l.length<20):WrR Tryz.prog 166 1000 [.one (.own 1000 7 l.length),.one (.i n),.one (.clo 150 0 dfc)] 7 l.length (AL AD.c l) 78 (.tup []) (AL AD.c (VW l n)):=by
 refine HG Tryz.func166 rfl kr kr kr fun W0 M0 X hX=>?_;refine AA<|on<|AA<|rn ⟨[(0,tO (Ld l)),(1,tI n),(2,.av (.one (.clo 150 0 dfc))),(6,tI 20),(7,tI 0),(8,tI 20)],[(1000,.row 7 l.length (AL AD.c l) 78)]⟩<|AA<|AJ<|Dq 1<|Bs<|AA<|AA<|rn ⟨[(0,tO (Ld l)),(1,tI n),(2,.av (.one (.clo 150 0 dfc))),(6,tI 20),(7,tI 0),(8,tI 20),(13,tB (decide ((20:Int)<=n)))],[(1000,.row 7 l.length (AL AD.c l) 78)]⟩ ?_;have h1:(decide ((20:Int)<=n))=false:=lk oM;have g1:=oF h1;refine BC _ rfl (fun h=>absurd (h1.symm.trans h) m4) (fun _=>?_);refine Aw<|Aj<|Aj<|Ay<|AE<|AA<|rb 27 (Z0c l n) (Rq l) ⟨[(0,tO (Ld l)),(1,tI n),(2,.av (.one (.clo 150 0 dfc))),(6,tI 20)],[(1000,.row 7 l.length (AL AD.c (Ge l n)) 78)]⟩ (HR (fun _ _=>kr) kr (pInsP l n au15 au15))<|AE<|AZ (GJ (⟨[(0,tO (.own 1000 7 (Ge l n).length)),(1,tI n),(2,.av (.one (.clo 150 0 dfc))),(6,tI 20)],[(1000,.row 7 (Ge l n).length (AL AD.c (Ge l n)) 78)]⟩) 1000 (MS 7 AD.c (Ge l n) (QM l n au15 au15)))<|AJ<|Dq 1<|Bs<|AA<|AA<|rn ⟨[(0,tO (.own 1000 7 (Ge l n).length)),(1,tI n),(2,.av (.one (.clo 150 0 dfc))),(6,tI 20),(30,tB (decide ((20:Int)<n)))],[(1000,.row 7 (Ge l n).length (AL AD.c (Ge l n)) 78)]⟩ ?_;have h2:(decide ((20:Int)<n))=false:=lk oM;have g2:=oF h2;refine BC _ rfl (fun h=>absurd (h2.symm.trans h) m4) (fun _=>?_);exact Aw<|Aj<|Aj<|Ay<|xn (.tup []) ⟨F5 rfl,.row 7 (Ge l n).length (AL AD.c (Ge l n)) 78,by kernel_rfl,HS (c:=AD.c) (xs:=Ge l n) (by simp only[VW,h1,h2,mi,mj]<;>rfl) (QM l n hn hl)⟩
theorem QG(l:List AD)(n:Int)(hn:n=(l.length:Int))(hl:l.length<20):(VW l n).length=l.length:=QM l n hn hl
abbrev Rr:=(VW l (l.length:Int))
def Z0d:CT:=(166,([.one (Ld l),.one (.i (l.length:Int)),.one (.clo 150 0 dfc)]:List Av).map (Jy 1000 1000),wrI 1000 (Rq l) (.tup []) (.row 7 l.length (AL AD.c (Rr l)) 78))
def DM(l:(List AD)):(List AD):=VW l (l.length:Int)
theorem pSrtP(l:(List AD))(hl:l.length<20):WrR Tryz.prog 149 1000 [.one (.own 1000 7 l.length),.one (.clo 150 0 dfc)] 7 l.length (AL AD.c l) 78 (.tup []) (AL AD.c (DM l)):=by
 refine HG Tryz.func149 rfl kr kr kr fun W0 M0 X hX=>?_;exact rb 8 (Z0d l) (Rq l) ⟨[],[(1000,.row 7 l.length (AL AD.c (Rr l)) 78)]⟩ (HR (fun _ _=>kr) kr (pStaP l (l.length:Int) au15 au15))<|yn (Ag 1000 (MS 7 AD.c (Rr l) (QG l (l.length:Int) au15 au15))) (.tup []) ⟨F5 rfl,.row 7 (Rr l).length (AL AD.c (Rr l)) 78,by kernel_rfl,HS (c:=AD.c) (xs:=VW l (l.length:Int)) (by rfl) (QG l _ rfl hl)⟩
theorem QH(l:List AD)(hl:l.length<20):(DM l).length=l.length:=QG l _ rfl hl
theorem Ze(l:List AD):DM l=CY (fun x y=>decide (Qp x y<0)) l:=Zk l _ rfl
end
section
open Go.RowKit
def ZV(p:Bc):Prop:=(p.Shape.Edges.length:Int)<=1000000
def N4(g:BU):Prop:=(g.Legs.length:Int)<=1000000
def N3(t:AN):Prop:=(t.Pads.length:Int)<=1000000/\(t.Gates.length:Int)<=1000000/\(∀p∈t.Pads,ZV p)/\∀g∈t.Gates,N4 g
def B7(l:List AN):Prop:=(l.length:Int)<=1000000/\∀t∈l,N3 t
theorem ER{α:Type}[Inhabited α]{p:α->Prop}{l:List α}(hd:p default)(h:∀x∈l,p x)(k:Nat):p (l.getD k default):=by
 rw[aE];cases hk:l[k]? with
 |none=>exact hd
 |some x=>exact h x (mo hk)
theorem aZ{l:List AN}(h:B7 l)(k:Nat):N3 (l.getD k default):=ER (p:=N3) ⟨by decide,by decide,(fun p hp=>by cases hp),fun p hp=>by cases hp⟩ h.2 k
theorem Sq{t:AN}(h:N3 t)(k:Nat):((t.Pads.getD k default).Shape.Edges.length:Int)<=1000000:=ER (p:=ZV) (by unfold ZV;decide) h.2.2.1 k
theorem Ux{t:AN}(h:N3 t)(k:Nat):((t.Gates.getD k default).Legs.length:Int)<=1000000:=ER (p:=N4) (by unfold N4;decide) h.2.2.2 k
theorem au2{p:Prop}(h:p:=by first|(unfold maxLen;omega)|(unfold maxLen;simp only[d9,j8,j9];omega)|first|omega|(simp only[d9,j8,j9];omega)|(simp only[kG,kF,kE,Wu];omega)):p:=h
theorem i6{p:Prop}(h:p:=by
 refine DC mp0 rfl kr (Df _ _) fun W0 M0=>?_;exact AA<|on<|AA<|AA<|on<|An kr<|AP<|AE<|AA<|DE C8 [5] [] [] [2] [7] [0=0,0+l.length<=maxLen,(0+l.length)*mp1<=140737488355328] ⟨[(2,tO (.own 7 mp2 (0+l.length)))],[(7,.row mp2 (0+l.length) (fun i_ j_=>if i_<0 then(A9 mp2 0 []) i_ j_ else(AL mp3 l) (i_-0) j_) mp4)]⟩ .nil kr (.cons rfl (.cons au2 (.cons au2 .nil)))<|AE<|AZ (Ag 7 (Ac (Ai mp2 mp3 (([]:List mp5):List mp5)) (AU mp2 mp3 l)))<|AO<|xl (tO (.own 7 mp2 l.length)) (frE (c:=mp3) (xs:=l) (by rfl) kr)):p:=h
section
 open Go.Proofs.YtheobjkgllmnmaaGreat renaming kE→mp1,nn7→mp2,AK.c→mp3,nn68→mp4,AK→mp5
 open Go.Proofs.Tryz renaming func77→mp0
theorem rB(l:(List AK))(h0:(l.length:Int)<=1000000):Fr Tryz.prog 77 [.one (.list true 7 l.length (AL AK.c l))] (.row 7 l.length (AL AK.c l) 68) (fun d=>tO (.own d 7 l.length)):=i6
end
abbrev vN:Cl:=.val (.slice none 0 0)
theorem i0{p:Prop}(h:p:=by
 refine DC mp0 rfl kr (Df _ _) fun W0 M0=>?_;cases l with
 |cons a l=>cases h0
 |nil =>
 exact AA<|on<|AA<|AA<|on<|CN kr<|AA<|rn ⟨[(2,.av (.one vN))],[]⟩<|AO<|Bf<|yl (Cv.trans (vg 2000 mp1 m8 mp2 [(2,[0])] [] hk0) (Ag 2000 (Bh mp1 m8 mp3))) (tO (.own 2000 mp1 ([]:List mp4).length)) (frE (c:=mp3) (xs:=([]:List mp4)) (by rfl) kr)):p:=h
section
 open Go.Proofs.YtheobjkgllmnmaaGreat renaming nn7→mp1,nn68→mp2,AK.c→mp3,AK→mp4
 open Go.Proofs.Tryz renaming func77→mp0
theorem rC(l:(List AK))(h0:l.length=0):Fr Tryz.prog 77 [.one vN] (.row 7 l.length (AL AK.c l) 68) (fun d=>tO (.own d 7 l.length)):=i0
end
variable (m9:List AN)(name:my)(l:List AK)(ot pc:Int)(o5:List Bc)
def bm:CT:=(77,[.one (lst 7 AK.c l)],.new [] (.row 7 l.length (AL AK.c l) 68) (fun d=>.av (.one (.own d 7 l.length))))
theorem Sx(l:(List AK))(h0:(l.length:Int)<=1000000):OKc (bm l):=DQ (fun _ _=>kr) (dB (fun hz=>rC l hz) (rB l h0))
section
 open Go.Proofs.YtheobjkgllmnmaaGreat renaming kG→mp1,nn2→mp2,CF.c→mp3,dl→mp4,CF→mp5
 open Go.Proofs.Tryz renaming func78→mp0
theorem qY(l:(List CF))(h0:(l.length:Int)<=1000000):Fr Tryz.prog 78 [.one (.list true 2 l.length (AL CF.c l))] (.row 2 l.length (AL CF.c l) 183) (fun d=>tO (.own d 2 l.length)):=i6
end
section
 open Go.Proofs.YtheobjkgllmnmaaGreat renaming nn2→mp1,dl→mp2,CF.c→mp3,CF→mp4
 open Go.Proofs.Tryz renaming func78→mp0
theorem qZ(l:(List CF))(h0:l.length=0):Fr Tryz.prog 78 [.one vN] (.row 2 l.length (AL CF.c l) 183) (fun d=>tO (.own d 2 l.length)):=i0
end
section
 open Go.Proofs.YtheobjkgllmnmaaGreat renaming Wu→mp1,nn7→mp2,AD.c→mp3,nn78→mp4,AD→mp5
 open Go.Proofs.Tryz renaming func148→mp0
theorem qW(l:(List AD))(h0:(l.length:Int)<=1000000):Fr Tryz.prog 148 [.one (.list true 7 l.length (AL AD.c l))] (.row 7 l.length (AL AD.c l) 78) (fun d=>tO (.own d 7 l.length)):=i6
end
section
 open Go.Proofs.YtheobjkgllmnmaaGreat renaming nn7→mp1,nn78→mp2,AD.c→mp3,AD→mp4
 open Go.Proofs.Tryz renaming func148→mp0
theorem qX(l:(List AD))(h0:l.length=0):Fr Tryz.prog 148 [.one vN] (.row 7 l.length (AL AD.c l) 78) (fun d=>tO (.own d 7 l.length)):=i0
end
def bj(l:(List AD)):CT:=(148,[.one (lst 7 AD.c l)],.new [] (Rq l) (fun d=>.av (.one (.own d 7 l.length))))
theorem sB(l:(List AD))(h0:(l.length:Int)<=1000000):OKc (bj l):=DQ (fun _ _=>kr) (dB (fun hz=>qX l hz) (qW l h0))
def Oz(l:List CF):List CF:=l
def vR(l:List CF):CT:=(78,[.one (lst 2 CF.c l)],.val [] (.av (.one (lst 2 CF.c (Oz l)))))
theorem kB(l:List CF)(h0:(l.length:Int)<=1000000):OKc (vR l):=cPu<|Iu (dB (fun hz=>qZ l hz) (qY l h0))
def IU(t:AN)(name:my):Bool:=(t.Name.toList==name.toList)
theorem pisTy (t:AN)(name:my):G4 Tryz.prog 76 [.agg (AN.c t),.one (.eptr 1 1 (gD [.s name]) 0 0)] (tO (.b (IU t name))):=by
 refine pwf Tryz.func76 fun W0 M0=>?_;exact AA<|on<|AA<|on<|AO<|zl
def Z0e(xs:(List AN))(v8:Int)(name:my):CT:=(76,[.agg (AN.c (xs.getD v8.toNat default)),.one (.eptr 1 1 (fun _ j_=>([.s name]:List Cl).getD j_ default) 0 0)],.val [] (tB (IU (xs.getD v8.toNat default) name)))
def Hx(xs:(List AN))(name:my):Nat->Int->Int
 |0,_=>default
 |n0+1,v8=>bif decide ((v8:Int)<(xs.length:Int))then(bif IU (xs.getD v8.toNat default) name then v8 else((Hx xs name n0) (v8+1)))else(-1)
def ES(xs:(List AN))(name:my):Int:=Hx xs name (((xs.length:Int)-0).toNat+1) 0
abbrev Z1:Nat×Tv:=(1,.av (.one (.clo 76 1 (BZ [.eptr 1 1 (gD [.s name]) 0 0]))))
theorem au5{p:Prop}(h:p:=by first|omega|(simp only[List.length_drop,ki]at *;omega)):p:=h
theorem pixTy (xs:(List AN))(name:my)(hx:(xs.length:Int)<=9223372036854775807):G4 Tryz.prog 75 [.one (lst 3 AN.c xs),.one (.clo 76 1 (BZ [.eptr 1 1 (gD [.s name]) 0 0]))] (tO (.i (ES xs name))):=by
 refine pwf Tryz.func75 fun W0 M0=>?_;refine AA<|on<|AA<|AA<|rn ⟨[(0,tO (lst 3 AN.c xs)),(Z1 name),(7,tI (xs.length:Int)),(8,tI 0)],[]⟩<|AJ<|lpC (κ:=Int) (fun x=>⟨[(0,tO (lst 3 AN.c xs)),(Z1 name),(7,tI (xs.length:Int)),(8,tI x.2)],[]⟩) (fun x=>((xs.length:Int)-x.2).toNat) (fun x=>(0<=x.2/\(x.2<=(xs.length:Int)\/x.2=0))/\Hx xs name x.1 x.2=ES xs name) ?_ (((xs.length:Int)-0).toNat+1,0) ⟨lz _,⟨ax0,ax0⟩,(by simp only[ES,mi,mj])⟩;rintro n0 v8 nq ⟨nm,ng⟩
 try dsimp only at nq nm ng
 refine AA<|on<|AA<|kb (decide ((v8:Int)<(xs.length:Int))) (fun h1=>?_) (fun h1=>?_)
 ·have g1:=oT h1;refine AP<|AE<|AA<|AJ<|AA<|on<|AA<|oo [(16,(Z0e xs v8 name))] [0<=(v8:Int)/\(v8:Int)<(xs.length:Int),none] (.cons (cPu<|pisTy (m7 xs v8) name) .nil) (H1 au0)<|AE<|kb (IU (m7 xs v8) name) (fun h2=>?_) (fun h2=>?_)
  ·exact AA<|on<|AO<|Cm<|Bf<|Bf<|Cm<|Bf<|zl (by rw[<- ng];simp only[Hx,h1,h2,mi,mj]<;>kernel_rfl)
  refine AP<|Ao<|AE<|rg ⟨[(0,tO (lst 3 AN.c xs)),(Z1 name),(7,tI (xs.length:Int)),(8,tI (W64 (v8+1)))],[]⟩ ?_
  (try rw[(show W64 (v8+1)=v8+1 from Ae oM au5)])
  refine AE ?_;refine⟨(n0,v8+1),⟨?_,?_,(by rw[<- ng];simp only[Hx,h1,h2,mi,mj])⟩,lz _,Az kr⟩
  ·dsimp only;omega
  exact⟨ax0,ax0⟩
 exact Aw<|Aj<|Aj<|Ay<|AE<|AA<|on<|AO<|zl (by rw[<- ng];simp only[Hx,h1,mi,mj]<;>kernel_rfl)
theorem Tw(xs:List AN)(c:my):ES xs c=ixI (fun x=>IU x c) xs:=by
 unfold ES;have h:=ix_l0 (fun x=>IU x c) xs (Hx xs c) (fun m v=>by rw[Hx,l9]) xs.length 0 (((xs.length:Int)-0).toNat+1) rfl (lv _) mz;rw[km]at h;refine h.trans ?_;unfold ixI;cases xs.findIdx? (fun x=>IU x c)with
 |none=>rfl
 |some i=>simp
theorem i9{xs:List AN}{c:my}(h:¬ ES xs c<0):0<=ES xs c/\ES xs c<(xs.length:Int):=by
 rw[Tw]at *;exact ixI_b h
def Z0f:BU:=(m9.getD (ES m9 name).toNat default).Gates.getD pc.toNat default
def Z0g:Bc:=(m9.getD (ES m9 name).toNat default).Pads.getD ot.toNat default
def LF(m9:(List AN))(name:my)(o5:List Bc)(ot:Int)(K0:List Bc->Int->(AN×Bool)):Nat->List BU->Int->(AN×Bool)
 |0,_,_=>default
 |n1+1,pl,pc=>bif decide ((pc:Int)<((m9.getD (ES m9 name).toNat default).Gates.length:Int))then((LF m9 name o5 ot K0 n1) (pl++[BU.mk (Z0f m9 name pc).Kind (Oz (Z0f m9 name pc).Legs)]) (pc+1))else(AN.mk name o5 pl,true)
def Hi(m9:(List AN))(name:my):Nat->List Bc->Int->(AN×Bool)
 |0,_,_=>default
 |n0+1,o5,ot=>bif decide ((ot:Int)<((m9.getD (ES m9 name).toNat default).Pads.length:Int))then((Hi m9 name n0) (o5++[Bc.mk (Z0g m9 name ot).Name (AQ.mk (Z0g m9 name ot).Shape.Kind (Z0g m9 name ot).Shape.Edges (Z0g m9 name ot).Shape.R) (Z0g m9 name ot).At (Z0g m9 name ot).Drill]) (ot+1))else(LF m9 name o5 ot (Hi m9 name n0) ((((m9.getD (ES m9 name).toNat default).Gates.length:Int)-0).toNat+1) ([]:List BU) 0)
def CM(m9:(List AN))(name:my):(AN×Bool):=bif decide (((ES m9 name):Int)<0)then(AN.mk (⟨#[]⟩) [] [],false)else(Hi m9 name ((((m9.getD (ES m9 name).toNat default).Pads.length:Int)-0).toNat+1) ([]:List Bc) 0)
abbrev FT:=lst 3 AN.c m9
def cGet:CT:=(27,[.one (FT m9),.one (.s name)],.val [] (.tup [.agg (AN.c (CM m9 name).1),.one (.b (CM m9 name).2)]))
abbrev JE:=m9.getD (ES m9 name).toNat default
abbrev Xi:=[Bc.mk (Z0g m9 name ot).Name (AQ.mk (Z0g m9 name ot).Shape.Kind (Z0g m9 name ot).Shape.Edges (Z0g m9 name ot).Shape.R) (Z0g m9 name ot).At (Z0g m9 name ot).Drill]
abbrev Rk:List Cl:=[.s (⟨#[]⟩),vN,vN]
abbrev Hj:Nat×Blk:=(4,.cells Rk 82)
abbrev PY:Nat×Blk:=(2000,.row 7 o5.length (AL Bc.c o5) 102)
abbrev Rv:=[BU.mk (Z0f m9 name pc).Kind (Oz (Z0f m9 name pc).Legs)]
abbrev Vn(t_:List (Nat×Tv)):List (Nat×Tv):=(0,tO (FT m9))::(4,tP 4 0)::(6,tI (ES m9 name))::(7,tP 7 0)::(24,tO (lst 7 Bc.c (JE m9 name).Pads))::(25,tI ((JE m9 name).Pads.length:Int))::t_
abbrev nG:List (Nat×Tv):=[(0,tO (FT m9)),(4,tP 4 0),(6,tI (ES m9 name)),(7,tP 7 0),(9,tP 9 0),(24,tO (lst 7 Bc.c (JE m9 name).Pads)),(25,tI ((JE m9 name).Pads.length:Int)),(26,tI ot)]
abbrev mS:List Av:=[.agg [.s (⟨#[]⟩),lst 7 Bc.c [],lst 2 BU.c []],.one (.b false)]
abbrev Vk(t_:List (Nat×Tv)):List (Nat×Tv):=(4,tP 4 0)::(7,tP 7 0)::(47,tO (lst 2 BU.c (JE m9 name).Gates))::(48,tI ((JE m9 name).Gates.length:Int))::t_
theorem au6{p:Prop}(h:p:=by first|(exact Sq (hta _) _)|(exact Ux (hta _) _)|with_reducible assumption|omega|decide|(simp only[j8,j9,d9];omega)|assumption):p:=h
theorem au33{p:Prop}(h:p:=by first|exact i9 (by assumption)|omega):p:=h
theorem pGet(m9:(List AN))(name:my)(ht:B7 m9):PuP 27 (cGet m9 name).2.1 (.tup [.agg (AN.c (CM m9 name).1),.one (.b (CM m9 name).2)]):=by
 refine pwf Tryz.func27 fun W0 M0=>?_;have ht1:=ht.1;have hta:=aZ ht;have htp:=(hta (ES m9 name).toNat).1;have htg:=(hta (ES m9 name).toNat).2.1;refine AA<|on<|AA<|oc [(14,(75,[.one (FT m9),.one (.clo 76 1 (BZ [.ptr 3 0]))],rdI [3] [.cells [.s name] 9] (tI (ES m9 name))))] [Cp [.one (lst 3 AN.c m9),.one (.clo 76 1 (BZ [.ptr 3 0]))],wV [.cells [.s name] 9]] (.cons (lL (fun _ _=>kr) kr kr (yJ (pixTy m9 name au6) (.cons (AvE.refl _) (.cons (.one (.clo 76 1 _ _ (Do kr))) .nil)))) .nil) (H2 rfl rfl)<|AE<|AA<|AA<|on<|kb (decide (((ES m9 name):Int)<0)) (fun h1=>?_) (fun h1=>?_)
 ·exact AA<|on<|AO<|Bf<|xl (.tup [.agg Rk,.one (.b false)]) (De (y:=.tup mS) (.tup (.cons (.agg (rr (.cons (Ca 7 Bc.c) (.cons (Ca 2 BU.c) .nil)))) (.cons (AvE.refl _) .nil))) (by simp only[CM,h1,mi,mj]<;>rfl))
 have g1:=oF h1;refine AP<|AE<|AA<|on<|AA<|AA<|rc [] [0<=(ES m9 name:Int)/\(ES m9 name:Int)<(m9.length:Int)] ⟨((Vn m9 name [(26,tI 0)])),[Hj,(7,.cells [.s name,vN,vN] 82)]⟩ .nil (H1 au33)<|AE<|AJ<|AZ (Cv.trans (vg 2000 7 m8 102 [] [(7,[1])] hk0) (Cv.trans (Ag 2000 (Bh 7 m8 Bc.c)) (ck (⟨((Vn m9 name [(26,tI 0)])),[Hj,(7,.cells [.s name,.own 2000 7 ([]:List Bc).length,vN] 82),(2000,.row 7 ([]:List Bc).length (AL Bc.c ([]:List Bc)) 102)]⟩))))<|lpC (κ:=List Bc×Int) (fun x=>⟨(Vn m9 name [(26,tI x.2.2)]),[Hj,(7,.cells [.s name,.own 2000 7 x.2.1.length,vN] 82),(2000,.row 7 x.2.1.length (AL Bc.c x.2.1) 102)]⟩) (fun x=>(((m9.getD (ES m9 name).toNat default).Pads.length:Int)-x.2.2).toNat) (fun x=>(0<=x.2.2/\(x.2.2<=((m9.getD (ES m9 name).toNat default).Pads.length:Int)\/x.2.2=0)/\(x.2.1.length:Int)<=0+1*(x.2.2-0))/\Hi m9 name x.1 x.2.1 x.2.2=CM m9 name) ?_ ((((m9.getD (ES m9 name).toNat default).Pads.length:Int)-0).toNat+1,([]:List Bc),0) ⟨lz _,⟨ax0,ax0,ax0⟩,(by simp only[CM,h1,mi,mj])⟩;rintro n0 ⟨o5,ot⟩ nq ⟨nm,ng⟩
 try dsimp only at nq nm ng
 refine AA<|on<|AA<|kb (decide ((ot:Int)<((m9.getD (ES m9 name).toNat default).Pads.length:Int))) (fun h2=>?_) (fun h2=>?_)
 ·have g2:=oT h2;refine AP<|AE<|AA<|AJ<|AA<|oc [] [0<=(ot:Int)/\(ot:Int)<((m9.getD (ES m9 name).toNat default).Pads.length:Int)] .nil (H1 au33)<|AE<|AA<|rs 33 _ ⟨(nG m9 name ot),[Hj,(7,.cells [.s name,.own 2000 7 o5.length,vN] 82),(9,.cells [.s (Z0g m9 name ot).Name,.i (Z0g m9 name ot).Shape.Kind,.own 33 7 (Z0g m9 name ot).Shape.Edges.length,.i (Z0g m9 name ot).Shape.R,.i (Z0g m9 name ot).At.X,.i (Z0g m9 name ot).At.Y,.i (Z0g m9 name ot).Drill] 102),(33,.row 7 (Z0g m9 name ot).Shape.Edges.length (AL AK.c (Z0g m9 name ot).Shape.Edges) 68),(PY o5)]⟩ (Sx (Z0g m9 name ot).Shape.Edges au6)<|AE<|AZ (KD (⟨(nG m9 name ot),[Hj,(7,.cells [.s name,.own 2000 7 o5.length,vN] 82),(9,.cells (Bc.c (Z0g m9 name ot)) 102),(PY o5)]⟩) 33 hk0)<|oc [] [o5.length=o5.length,o5.length+1<=maxLen,(o5.length+1)*80<=140737488355328] .nil (H3 rfl au2 au2)<|Ao<|AE<|AZ (Ag 40 (Ac (AU 7 Bc.c o5) (Ai 7 Bc.c ([Bc.mk (Z0g m9 name ot).Name (AQ.mk (Z0g m9 name ot).Shape.Kind (Z0g m9 name ot).Shape.Edges (Z0g m9 name ot).Shape.R) (Z0g m9 name ot).At (Z0g m9 name ot).Drill]:List Bc)))) ?_;refine rg ⟨(Vn m9 name [(26,tI (W64 (ot+1)))]),[Hj,(7,.cells [.s name,.own 40 7 (o5++(Xi m9 name ot)).length,vN] 82),(40,.row 7 (o5++(Xi m9 name ot)).length (AL Bc.c (o5++(Xi m9 name ot))) 102)]⟩ ?_
  (try rw[(show W64 (ot+1)=ot+1 from Ae oM au5)])
  refine AE ?_;refine⟨(n0,o5++[Bc.mk (Z0g m9 name ot).Name (AQ.mk (Z0g m9 name ot).Shape.Kind (Z0g m9 name ot).Shape.Edges (Z0g m9 name ot).Shape.R) (Z0g m9 name ot).At (Z0g m9 name ot).Drill],ot+1),⟨?_,?_,(by rw[<- ng];simp only[Hi,h2,mi,mj])⟩,lz _,Cv.trans (vr 40 2000 hk0) (Az kr)⟩
  ·dsimp only;omega
  exact⟨ax0,ax0,ax0⟩
 have g2:=oF h2;refine Aw<|Aj<|Aj<|Ay<|AE<|AA<|AA<|rc [] [0<=(ES m9 name:Int)/\(ES m9 name:Int)<(m9.length:Int)] ⟨((Vk m9 name [(49,tI 0)])),[Hj,(7,.cells [.s name,.own 2000 7 o5.length,vN] 82),(PY o5)]⟩ .nil (H1 au33)<|AE<|AJ<|AZ (Cv.trans (vg 2001 2 m8 180 [] [(7,[2])] hk0) (Cv.trans (Ag 2001 (Bh 2 m8 BU.c)) (ck (⟨((Vk m9 name [(49,tI 0)])),[Hj,(7,.cells [.s name,.own 2000 7 o5.length,.own 2001 2 ([]:List BU).length] 82),(PY o5),(2001,.row 2 ([]:List BU).length (AL BU.c ([]:List BU)) 180)]⟩)))) ?_;refine lpC (κ:=List BU×Int) (fun x=>⟨(Vk m9 name [(49,tI x.2.2)]),[Hj,(7,.cells [.s name,.own 2000 7 o5.length,.own 2001 2 x.2.1.length] 82),(PY o5),(2001,.row 2 x.2.1.length (AL BU.c x.2.1) 180)]⟩) (fun x=>(((m9.getD (ES m9 name).toNat default).Gates.length:Int)-x.2.2).toNat) (fun x=>(0<=x.2.2/\(x.2.2<=((m9.getD (ES m9 name).toNat default).Gates.length:Int)\/x.2.2=0)/\(x.2.1.length:Int)<=0+1*(x.2.2-0))/\LF m9 name o5 ot (Hi m9 name n0) x.1 x.2.1 x.2.2=CM m9 name) ?_ ((((m9.getD (ES m9 name).toNat default).Gates.length:Int)-0).toNat+1,([]:List BU),0) ⟨lz _,⟨ax0,ax0,ax0⟩,(by rw[<- ng];simp only[Hi,h2,mi,mj])⟩;rintro n1 ⟨pl,pc⟩ o0 ⟨ox,np⟩
 try dsimp only at o0 ox np
 refine AA<|on<|AA<|kb (decide ((pc:Int)<((m9.getD (ES m9 name).toNat default).Gates.length:Int))) (fun h3=>?_) (fun h3=>?_)
 ·have g3:=oT h3;refine AP<|AE<|AA<|AJ<|AA<|oc [] [0<=(pc:Int)/\(pc:Int)<((m9.getD (ES m9 name).toNat default).Gates.length:Int)] .nil (H1 au33)<|AE<|oe [] _ [none,pl.length=pl.length,pl.length+1<=maxLen,(pl.length+1)*32<=140737488355328] (J1 59 (kB (Z0f m9 name pc).Legs (by first|assumption|exact Ux (hta _) _|exact Sq (hta _) _|omega))) (H3 rfl au2 au2)<|Ao<|AE<|AZ (Ag 62 (Ac (AU 2 BU.c pl) (Ai 2 BU.c ([BU.mk (Z0f m9 name pc).Kind (Oz (Z0f m9 name pc).Legs)]:List BU))))<|rg ⟨(Vk m9 name [(49,tI (W64 (pc+1)))]),[Hj,(7,.cells [.s name,.own 2000 7 o5.length,.own 62 2 (pl++(Rv m9 name pc)).length] 82),(62,.row 2 (pl++(Rv m9 name pc)).length (AL BU.c (pl++(Rv m9 name pc))) 180),(PY o5)]⟩ ?_
  (try rw[(show W64 (pc+1)=pc+1 from Ae oM au5)])
  refine AE ?_;refine⟨(n1,pl++[BU.mk (Z0f m9 name pc).Kind (Oz (Z0f m9 name pc).Legs)],pc+1),⟨?_,?_,(by rw[<- np];simp only[LF,h3,mi,mj])⟩,lz _,Cv.trans (vr 62 2001 hk0) (Cv.trans (vk [4,7,47,48,49] [4,7,2000,2001]) (Az kr))⟩
  ·dsimp only;omega
  exact⟨ax0,ax0,ax0⟩
 exact Aw<|Aj<|Aj<|Ay<|AE<|AA<|on<|AO<|zy (Cv.trans (vf 2000 hk0) (vf 2001 hk0)) (by rw[<- np];simp only[LF,h3,mi,mj]<;>kernel_rfl)
theorem dk(m9:(List AN))(name:my)(ht:B7 m9):OKc (cGet m9 name):=cPu<|pGet m9 name ht
def ZE(m9:List AN)(name:my):AN×Bool:=match m9.find? (fun t=>IU t name)with
 |some t=>(⟨name,t.Pads,t.Gates⟩,true)
 |none=>(⟨⟨#[]⟩,[],[]⟩,false)
theorem LG(m9:List AN)(name:my):CM m9 name=ZE m9 name:=by
 unfold CM ZE;rw[Tw];cases hc:decide ((ixI (fun x=>IU x name) m9:Int)<0)with
 |true =>
  rw[tX (oT hc)];rfl
 |false =>
  obtain⟨_,h2⟩:=tW (oF hc);rw[h2,mj];have e:=Tw m9 name;rw[<- e];generalize ht:m9.getD (ES m9 name).toNat default=t;have h1:=fun(acc0:List Bc) (v0:Int) K0=>lH t.Gates (LF m9 name acc0 v0 K0) (fun acc _=>(AN.mk name acc0 acc,true)) (fun m acc v=>by
   rw[LF];unfold Z0f Oz;rw[ht,l9]) t.Gates.length 0 ((((t.Gates.length:Int))-0).toNat+1) [] rfl (lv _) mz
  have h0:=lH t.Pads (Hi m9 name) (fun acc v=>(AN.mk name acc t.Gates,true)) (fun m acc v=>by
   rw[Hi];unfold Z0g;rw[ht,l9];have:=h1 acc v (Hi m9 name m);rw[km,kn]at this;cases decide ((v:Int)<(t.Pads.length:Int))with
   |true=>rfl
   |false=>exact this) t.Pads.length 0 ((((t.Pads.length:Int))-0).toNat+1) [] rfl (lv _) mz
  rw[km,kn]at h0;exact h0
theorem Ks{m9:List AN}(h:B7 m9)(name:my):((ZE m9 name).1.Pads.length:Int)<=1000000:=by
 unfold ZE;cases hf:m9.find? (fun t=>IU t name)with
 |none=>exact(by decide:((0:Nat):Int)<=1000000)
 |some t=>exact(h.2 t (List.mem_of_find?_eq_some hf)).1
end
theorem J6:∀x:AK,∀y∈AK.c x,NM y:=by
 intro x y hy;simp only[AK.c,kg,lg,or_false]at hy;rcases hy with rfl|rfl|rfl|rfl|rfl|rfl|rfl<;>first|exact .val _
theorem HL:∀x:AD,∀y∈AD.c x,NM y:=by
 intro x y hy;simp only[AD.c,kg,lg,or_false]at hy;rcases hy with rfl|rfl|rfl|rfl|rfl|rfl|rfl<;>first|exact .val _
theorem aa:∀x:Ab,∀y∈Ab.c x,NM y:=by
 intro x y hy;simp only[Ab.c,kg,lg,or_false]at hy;rcases hy with rfl|rfl<;>first|exact .val _
theorem Wv:∀x:A7,∀y∈A7.c x,NM y:=by
 intro x y hy;simp only[A7.c,kg,lg,or_false]at hy;rcases hy with rfl|rfl<;>first|exact .val _|exact C0 aa
theorem kH:∀x:AM,∀y∈AM.c x,NM y:=by
 intro x y hy;simp only[AM.c,kg,lg,or_false]at hy;rcases hy with rfl|rfl|rfl|rfl|rfl|rfl<;>first|exact .val _|exact C0 J6
theorem zZ:∀x:Ak,∀y∈Ak.c x,NM y:=by
 intro x y hy;simp only[Ak.c,kg,lg,or_false]at hy;rcases hy with rfl|rfl|rfl|rfl|rfl|rfl|rfl|rfl<;>first|exact .val _
theorem sQ:∀x:Al,∀y∈Al.c x,NM y:=by
 intro x y hy;simp only[Al.c,kg,lg,or_false]at hy;rcases hy with rfl|rfl|rfl|rfl<;>first|exact .val _
theorem sR:∀x:A8,∀y∈A8.c x,NM y:=by
 intro x y hy;simp only[A8.c,kg,lg,or_false]at hy;rcases hy with rfl|rfl|rfl|rfl|rfl|rfl|rfl|rfl<;>first|exact .val _|exact C0 sQ
theorem sS:∀x:BA,∀y∈BA.c x,NM y:=by
 intro x y hy;simp only[BA.c,kg,lg,or_false]at hy;rcases hy with rfl|rfl|rfl|rfl|rfl<;>first|exact .val _|exact C0 J6
theorem sP:∀x:AX,∀y∈AX.c x,NM y:=by
 intro x y hy;simp only[AX.c,kg,lg,or_false]at hy;rcases hy with rfl|rfl|rfl|rfl<;>first|exact .val _|exact C0 J6
theorem kJ:∀x:BG,∀y∈BG.c x,NM y:=by
 intro x y hy;simp only[BG.c,kg,lg,or_false]at hy;rcases hy with rfl|rfl<;>first|exact .val _|exact C0 (fun x y hy=>by rw[List.mem_singleton.1 hy];exact .val _)
theorem cN:∀x:As,∀y∈As.c x,NM y:=by
 intro x y hy;simp only[As.c,kg,lg,or_false]at hy;rcases hy with rfl|rfl|rfl<;>first|exact .val _
theorem kI:∀x:BI,∀y∈BI.c x,NM y:=by
 intro x y hy;simp only[BI.c,kg,lg,or_false]at hy;rcases hy with rfl|rfl|rfl<;>first|exact .val _|exact C0 (fun x y hy=>by rw[List.mem_singleton.1 hy];exact .val _)
theorem L1:∀x:AV,∀y∈AV.c x,NM y:=by
 intro x y hy;simp only[AV.c,kg,lg,or_false]at hy;rcases hy with rfl|rfl|rfl|rfl|rfl|rfl|rfl|rfl|rfl<;>first|exact .val _|exact C0 J6
theorem MZ:∀x:Bc,∀y∈Bc.c x,NM y:=by
 intro x y hy;simp only[Bc.c,kg,lg,or_false]at hy;rcases hy with rfl|rfl|rfl|rfl|rfl|rfl|rfl<;>first|exact .val _|exact C0 J6
theorem ab:∀x:CF,∀y∈CF.c x,NM y:=by
 intro x y hy;simp only[CF.c,kg,lg,or_false]at hy;rcases hy with rfl|rfl<;>first|exact .val _
theorem sT:∀x:BU,∀y∈BU.c x,NM y:=by
 intro x y hy;simp only[BU.c,kg,lg,or_false]at hy;rcases hy with rfl|rfl<;>first|exact .val _|exact C0 ab
theorem Sz:∀x:AN,∀y∈AN.c x,NM y:=by
 intro x y hy;simp only[AN.c,kg,lg,or_false]at hy;rcases hy with rfl|rfl|rfl<;>first|exact .val _|exact C0 sT|exact C0 MZ
section
open Go.RowKit
def IM(r:Al):AQ:=AQ.mk 2 ((([AK.mk 1 (AG.mk r.X0 r.Y0) (AG.mk r.X1 r.Y0) (AG.mk 0 0)]++[AK.mk 1 (AG.mk r.X1 r.Y0) (AG.mk r.X1 r.Y1) (AG.mk 0 0)])++[AK.mk 1 (AG.mk r.X1 r.Y1) (AG.mk r.X0 r.Y1) (AG.mk 0 0)])++[AK.mk 1 (AG.mk r.X0 r.Y1) (AG.mk r.X0 r.Y0) (AG.mk 0 0)]) 0
variable (a:AQ)(p1:List AK)(b:AQ)(p2:List AK)(k:Int)(r:Al)(nb:Int)
def Tf:CT:=(37,[.agg (Al.c r)],.val [] (.av (.agg (AQ.c (IM r)))))
abbrev DL:=[AK.mk 1 (AG.mk r.X0 r.Y0) (AG.mk r.X1 r.Y0) (AG.mk 0 0)]
abbrev EN:=[AK.mk 1 (AG.mk r.X1 r.Y0) (AG.mk r.X1 r.Y1) (AG.mk 0 0)]
abbrev G5:=[AK.mk 1 (AG.mk r.X1 r.Y1) (AG.mk r.X0 r.Y1) (AG.mk 0 0)]
abbrev N9:Nat×Blk:=(3,.cells [.i r.X0,.i r.Y0,.i r.X1,.i r.Y0,.i r.X1,.i r.Y1,.i r.X0,.i r.Y1] 199)
abbrev Na:=[AK.mk 1 (AG.mk r.X0 r.Y1) (AG.mk r.X0 r.Y0) (AG.mk 0 0)]
abbrev Kf:Nat×Blk:=(2,.cells [.i 0,vN,.i 0] 28)
theorem fk(r:Al):PuP 37 (Tf r).2.1 (.av (.agg (AQ.c (IM r)))):=by
 refine pwf Tryz.func37 fun W0 M0=>?_;refine AA<|on<|AA<|on<|AA<|on<|AA<|AA<|rn ⟨(Dd [(28,tI 0)]),[Kf,(N9 r),(4,.cells [.i 2,vN,.i 0] 28)]⟩<|AJ<|Dq 5<|Bs<|AA<|on<|AA<|CN kr<|AP<|AE<|AA<|AJ<|AA<|on<|od [] [] [0<=(0:Int)/\(0:Int)<(4:Int),(4:Int)≠0,0<=(1:Int)/\(1:Int)<(4:Int),1<=maxLen,1*56<=140737488355328] .nil (H5 m4 au11 m4 au2 au2)<|Ao<|AE<|AZ (Ag 43 (Ai 7 AK.c ((DL r):List AK)))<|rn ⟨(Dd [(28,tI 1)]),[Kf,(N9 r),(4,.cells [.i 2,.own 43 7 ((DL r).length),.i 0] 28),(43,.row 7 ((DL r).length) (AL AK.c (DL r)) 68)]⟩<|Bs<|AZ (wr (⟨(Dd [(28,tI 1)]),[Kf,(N9 r),(4,.cells [.i 2,.own 2000 7 ((DL r).length),.i 0] 28),(2000,.row 7 ((DL r).length) (AL AK.c (DL r)) 68)]⟩) 43 2000 hk0)<|AA<|on<|AA<|CN kr<|AP<|AE<|AA<|AJ<|AA<|on<|od [] [] [0<=(1:Int)/\(1:Int)<(4:Int),(4:Int)≠0,0<=(2:Int)/\(2:Int)<(4:Int),(DL r).length=(DL r).length,((DL r).length)+1<=maxLen,(((DL r).length)+1)*56<=140737488355328] .nil (H6 m4 au11 m4 rfl au2 au2)<|Ao<|AE ?_
 refine AZ (Ag 43 (Ac (AU 7 AK.c (DL r)) (Ai 7 AK.c ((EN r):List AK))))<|rn ⟨(Dd [(28,tI 2)]),[Kf,(N9 r),(4,.cells [.i 2,.own 43 7 ((DL r)++(EN r)).length,.i 0] 28),(43,.row 7 ((DL r)++(EN r)).length (AL AK.c ((DL r)++(EN r))) 68)]⟩<|Bs<|AZ (wr (⟨(Dd [(28,tI 2)]),[Kf,(N9 r),(4,.cells [.i 2,.own 2001 7 ((DL r)++(EN r)).length,.i 0] 28),(2001,.row 7 ((DL r)++(EN r)).length (AL AK.c ((DL r)++(EN r))) 68)]⟩) 43 2001 hk0)<|AA<|on<|AA<|CN kr<|AP<|AE<|AA<|AJ<|AA<|on<|od [] [] [0<=(2:Int)/\(2:Int)<(4:Int),(4:Int)≠0,0<=(3:Int)/\(3:Int)<(4:Int),((DL r)++(EN r)).length=((DL r)++(EN r)).length,((DL r)++(EN r)).length+1<=maxLen,(((DL r)++(EN r)).length+1)*56<=140737488355328] .nil (H6 m4 au11 m4 rfl au2 au2)<|Ao<|AE<|AZ (Ag 43 (Ac (AU 7 AK.c ((DL r)++(EN r))) (Ai 7 AK.c ((G5 r):List AK)))) ?_
 refine rn ⟨(Dd [(28,tI 3)]),[Kf,(N9 r),(4,.cells [.i 2,.own 43 7 (((DL r)++(EN r))++(G5 r)).length,.i 0] 28),(43,.row 7 (((DL r)++(EN r))++(G5 r)).length (AL AK.c (((DL r)++(EN r))++(G5 r))) 68)]⟩<|Bs<|AZ (wr (⟨(Dd [(28,tI 3)]),[Kf,(N9 r),(4,.cells [.i 2,.own 2002 7 (((DL r)++(EN r))++(G5 r)).length,.i 0] 28),(2002,.row 7 (((DL r)++(EN r))++(G5 r)).length (AL AK.c (((DL r)++(EN r))++(G5 r))) 68)]⟩) 43 2002 hk0)<|AA<|on<|AA<|CN kr<|AP<|AE<|AA<|AJ<|AA<|on<|od [] [] [0<=(3:Int)/\(3:Int)<(4:Int),(4:Int)≠0,0<=(0:Int)/\(0:Int)<(4:Int),(((DL r)++(EN r))++(G5 r)).length=(((DL r)++(EN r))++(G5 r)).length,(((DL r)++(EN r))++(G5 r)).length+1<=maxLen,((((DL r)++(EN r))++(G5 r)).length+1)*56<=140737488355328] .nil (H6 m4 au11 m4 rfl au2 au2)<|Ao<|AE<|AZ (Ag 43 (Ac (AU 7 AK.c (((DL r)++(EN r))++(G5 r))) (Ai 7 AK.c ((Na r):List AK)))) ?_;exact rn ⟨(Dd [(28,tI 4)]),[Kf,(N9 r),(4,.cells [.i 2,.own 43 7 ((((DL r)++(EN r))++(G5 r))++(Na r)).length,.i 0] 28),(43,.row 7 ((((DL r)++(EN r))++(G5 r))++(Na r)).length (AL AK.c ((((DL r)++(EN r))++(G5 r))++(Na r))) 68)]⟩<|Bs<|AZ (wr (⟨(Dd [(28,tI 4)]),[Kf,(N9 r),(4,.cells [.i 2,.own 2003 7 ((((DL r)++(EN r))++(G5 r))++(Na r)).length,.i 0] 28),(2003,.row 7 ((((DL r)++(EN r))++(G5 r))++(Na r)).length (AL AK.c ((((DL r)++(EN r))++(G5 r))++(Na r))) 68)]⟩) 43 2003 hk0)<|AA<|on<|AA<|An kr<|Aw<|Aj<|Aj<|Ay<|AE<|AA<|on<|AO<|zy (vf 2003 hk0)
theorem RD(r:Al):OKc (Tf r):=cPu<|fk r
def HY(p1:(List AK))(p2:(List AK)):Nat->Int->Bool
 |0,_=>default
 |n0+1,nb=>bif decide ((nb:Int)<(p1.length:Int))then(bif !(decide ((p1.getD nb.toNat default).Kind=(p2.getD nb.toNat default).Kind)&&(decide ((p1.getD nb.toNat default).A.X=(p2.getD nb.toNat default).A.X)&&(decide ((p1.getD nb.toNat default).A.Y=(p2.getD nb.toNat default).A.Y)&&(decide ((p1.getD nb.toNat default).B.X=(p2.getD nb.toNat default).B.X)&&(decide ((p1.getD nb.toNat default).B.Y=(p2.getD nb.toNat default).B.Y)&&(decide ((p1.getD nb.toNat default).C.X=(p2.getD nb.toNat default).C.X)&&(decide ((p1.getD nb.toNat default).C.Y=(p2.getD nb.toNat default).C.Y)&&true)))))))then false else((HY p1 p2 n0) (nb+1)))else true
def Mr(p1:(List AK))(p2:(List AK)):Bool:=bif !decide (((p1.length:Int):Int)=(p2.length:Int))then false else(HY p1 p2 (((p1.length:Int)-0).toNat+1) 0)
def RN:CT:=(81,[.one (lst 7 AK.c p1),.one (lst 7 AK.c p2)],.val [] (.av (.one (.b (Mr p1 p2)))))
abbrev NP:=p1.getD nb.toNat default
abbrev NO:=p2.getD nb.toNat default
abbrev Vl(t_:List (Nat×Tv)):List (Nat×Tv):=(0,tO (lst 7 AK.c p1))::(1,tO (lst 7 AK.c p2))::(12,tI (p1.length:Int))::t_
theorem yU(p1:(List AK))(p2:(List AK))(h0:(p1.length:Int)<=1000000):PuP 81 (RN p1 p2).2.1 (tO (.b (Mr p1 p2))):=by
 refine pwf Tryz.func81 fun W0 M0=>?_;refine AA<|on<|AA<|AA<|on<|kb (!decide (((p1.length:Int):Int)=(p2.length:Int))) (fun h1=>?_) (fun h1=>?_)
 ·have g1:=B8 h1;exact AA<|on<|AO<|Bf<|zl (by simp only[Mr,h1,mi,mj]<;>kernel_rfl)
 have g1:=B3 h1;refine AP<|AE<|AA<|AA<|rn ⟨(Vl p1 p2 [(13,tI 0)]),[]⟩<|AJ<|lpC (κ:=Int) (fun x=>⟨(Vl p1 p2 [(13,tI x.2)]),[]⟩) (fun x=>((p1.length:Int)-x.2).toNat) (fun x=>(0<=x.2/\(x.2<=(p1.length:Int)\/x.2=0))/\HY p1 p2 x.1 x.2=Mr p1 p2) ?_ (((p1.length:Int)-0).toNat+1,0) ⟨lz _,⟨ax0,ax0⟩,(by simp only[Mr,h1,mi,mj])⟩;rintro n0 nb nq ⟨nm,ng⟩
 try dsimp only at nq nm ng
 refine AA<|on<|AA<|kb (decide ((nb:Int)<(p1.length:Int))) (fun h2=>?_) (fun h2=>?_)
 ·have g2:=oT h2;refine AP<|AE<|AA<|AJ<|AA<|on<|AA<|dw [] [] [0<=(nb:Int)/\(nb:Int)<(p1.length:Int),0<=(nb:Int)/\(nb:Int)<(p2.length:Int)] ⟨(Vl p1 p2 [(13,tI nb),(24,tB (!(decide ((m7 p1 nb).Kind=(m7 p2 nb).Kind)&&(decide ((m7 p1 nb).A.X=(m7 p2 nb).A.X)&&(decide ((m7 p1 nb).A.Y=(m7 p2 nb).A.Y)&&(decide ((m7 p1 nb).B.X=(m7 p2 nb).B.X)&&(decide ((m7 p1 nb).B.Y=(m7 p2 nb).B.Y)&&(decide ((m7 p1 nb).C.X=(m7 p2 nb).C.X)&&(decide ((m7 p1 nb).C.Y=(m7 p2 nb).C.Y)&&true)))))))))]),[]⟩ .nil (H2 au0 au0)<|AE<|BC (!(decide ((NP p1 nb).Kind=(NO p2 nb).Kind)&&(decide ((NP p1 nb).A.X=(NO p2 nb).A.X)&&(decide ((NP p1 nb).A.Y=(NO p2 nb).A.Y)&&(decide ((NP p1 nb).B.X=(NO p2 nb).B.X)&&(decide ((NP p1 nb).B.Y=(NO p2 nb).B.Y)&&(decide ((NP p1 nb).C.X=(NO p2 nb).C.X)&&(decide ((NP p1 nb).C.Y=(NO p2 nb).C.Y)&&true)))))))) kr (fun h3=>?_) (fun h3=>?_)
  ·exact AA<|on<|AO<|Cm<|Bf<|Bf<|Cm<|Bf<|zl (by rw[<- ng];simp only[HY,h2,h3,mi,mj]<;>kernel_rfl)
  refine AP<|Ao<|AE<|rg ⟨(Vl p1 p2 [(13,tI (W64 (nb+1)))]),[]⟩ ?_
  (try rw[(show W64 (nb+1)=nb+1 from Ae oM au5)])
  refine AE ?_;refine⟨(n0,nb+1),⟨?_,?_,(by rw[<- ng];simp only[HY,h2,h3,mi,mj])⟩,lz _,Az kr⟩
  ·dsimp only;omega
  exact⟨ax0,ax0⟩
 exact Aw<|Aj<|Aj<|Ay<|AE<|AA<|on<|AO<|zl (by rw[<- ng];simp only[HY,h2,mi,mj]<;>kernel_rfl)
theorem sA(p1:(List AK))(p2:(List AK))(h0:(p1.length:Int)<=1000000):OKc (RN p1 p2):=cPu<|yU p1 p2 h0
def Xf(a:AQ)(b:AQ):Bool:=bif bif decide ((a.Kind:Int)=b.Kind)then decide ((a.R:Int)=b.R)else false then Mr a.Edges b.Edges else false
def P6:CT:=(31,[.agg (AQ.c a),.agg (AQ.c b)],.val [] (.av (.one (.b (Xf a b)))))
abbrev Z6:=(bif decide ((a.Kind:Int)=b.Kind)then decide ((a.R:Int)=b.R)else false)
theorem au22{p:Prop}(h:p:=by first|(exact bC hb _)|(exact bJ hb _)|(exact hb.parts)|(exact hb.tracks)|(exact hb.vias)|(exact hb.slots)|(exact hb.nets)|(exact hb.pins)|(exact HJ hb.parts ht)|with_reducible assumption|omega|decide|(simp only[j8,j9,d9];omega)|assumption):p:=h
theorem fh(a:AQ)(b:AQ)(h0:(a.Edges.length:Int)<=1000000)(h1:(b.Edges.length:Int)<=1000000):PuP 31 (P6 a b).2.1 (tO (.b (Xf a b))):=by
 refine pwf Tryz.func31 fun W0 M0=>?_;exact AA<|on<|AA<|oc [(22,RN a.Edges b.Edges)] (t5 (decide ((a.Kind:Int)=b.Kind)) (t4 (Z6 a b) [gk (Z6 a b) (Cp (RN a.Edges b.Edges).2.1),gt (Z6 a b)])) (.cons (sA a.Edges b.Edges au22) .nil) (c5 (c4 (.cons (fun _=>rfl) (ci .nil))))<|AE<|AO<|zl
theorem fX(a:AQ)(b:AQ)(h0:(a.Edges.length:Int)<=1000000)(h1:(b.Edges.length:Int)<=1000000):OKc (P6 a b):=cPu<|fh a b h0 h1
theorem or3_f{p q r:Prop}[Decidable p][Decidable q][Decidable r](h:(bif bif !decide p then true else !decide q then true else !decide r)=false):p/\q/\r:=by
 by_cases hp:p<;>by_cases hq:q<;>by_cases hr:r<;>simp_all
def Ga(a:AQ)(b:AQ):Nat->Int->Bool
 |0,_=>default
 |n0+1,k=>bif decide ((k:Int)<(a.Edges.length:Int))then(bif !(decide ((a.Edges.getD k.toNat default).Kind=(b.Edges.getD k.toNat default).Kind)&&(decide ((a.Edges.getD k.toNat default).A.X=(b.Edges.getD k.toNat default).A.X)&&(decide ((a.Edges.getD k.toNat default).A.Y=(b.Edges.getD k.toNat default).A.Y)&&(decide ((a.Edges.getD k.toNat default).B.X=(b.Edges.getD k.toNat default).B.X)&&(decide ((a.Edges.getD k.toNat default).B.Y=(b.Edges.getD k.toNat default).B.Y)&&(decide ((a.Edges.getD k.toNat default).C.X=(b.Edges.getD k.toNat default).C.X)&&(decide ((a.Edges.getD k.toNat default).C.Y=(b.Edges.getD k.toNat default).C.Y)&&true)))))))then false else((Ga a b n0) (k+1)))else true
def Js(a:AQ)(b:AQ):Bool:=bif bif bif !decide ((a.Kind:Int)=b.Kind)then true else !decide ((a.R:Int)=b.R)then true else !decide (((a.Edges.length:Int):Int)=(b.Edges.length:Int))then false else(Ga a b (((a.Edges.length:Int)-0).toNat+1) 0)
def P7:CT:=(59,[.agg (AQ.c a),.agg (AQ.c b)],.val [] (.av (.one (.b (Js a b)))))
abbrev Rx:List (Nat×Blk):=[(2,.cells (AQ.c a) 28),(3,.cells (AQ.c b) 28)]
abbrev NV:=a.Edges.getD k.toNat default
abbrev NU:=b.Edges.getD k.toNat default
abbrev mI:=(bif !decide ((a.Kind:Int)=b.Kind)then true else !decide ((a.R:Int)=b.R))
theorem fi(a:AQ)(b:AQ)(h0:(a.Edges.length:Int)<=1000000)(h1:(b.Edges.length:Int)<=1000000):PuP 59 (P7 a b).2.1 (tO (.b (Js a b))):=by
 refine pwf Tryz.func59 fun W0 M0=>?_;refine AA<|on<|AA<|AA<|rc [] (i5 (!decide ((a.Kind:Int)=b.Kind)) (i2 (mI a b) (i5 (mI a b) []))) ⟨[(2,tP 2 0),(3,tP 3 0),(26,tB (bif bif !decide ((a.Kind:Int)=b.Kind)then true else !decide ((a.R:Int)=b.R)then true else !decide (((a.Edges.length:Int):Int)=(b.Edges.length:Int))))],(Rx a b)⟩ .nil (c5 (c2 (c5 .nil)))<|AE<|BC _ rfl (fun h1=>?_) (fun h1=>?_)
 ·exact AA<|on<|AO<|Bf<|zl (by simp only[Js,h1,mi,mj]<;>kernel_rfl)
 refine AP<|AE<|AA<|AA<|rn ⟨[(2,tP 2 0),(3,tP 3 0),(5,tI 0)],(Rx a b)⟩<|AJ<|lpC (κ:=Int) (fun x=>⟨[(2,tP 2 0),(3,tP 3 0),(5,tI x.2)],(Rx a b)⟩) (fun x=>((a.Edges.length:Int)-x.2).toNat) (fun x=>(0<=x.2/\(x.2<=(a.Edges.length:Int)\/x.2=0))/\Ga a b x.1 x.2=Js a b) ?_ (((a.Edges.length:Int)-0).toNat+1,0) ⟨lz _,⟨ax0,ax0⟩,(by simp only[Js,h1,mi,mj])⟩;rintro n0 k nq ⟨nm,ng⟩
 try dsimp only at nq nm ng
 have hE:=(or3_f h1).2.2;refine AA<|AA<|on<|kb (decide ((k:Int)<(a.Edges.length:Int))) (fun h2=>?_) (fun h2=>?_)
 ·have g2:=oT h2;refine AP<|AE<|AA<|AJ<|AA<|dw [] [] [0<=(k:Int)/\(k:Int)<(a.Edges.length:Int),0<=(k:Int)/\(k:Int)<(b.Edges.length:Int)] ⟨[(2,tP 2 0),(3,tP 3 0),(5,tI k),(44,tB (!(decide ((m7 a.Edges k).Kind=(m7 b.Edges k).Kind)&&(decide ((m7 a.Edges k).A.X=(m7 b.Edges k).A.X)&&(decide ((m7 a.Edges k).A.Y=(m7 b.Edges k).A.Y)&&(decide ((m7 a.Edges k).B.X=(m7 b.Edges k).B.X)&&(decide ((m7 a.Edges k).B.Y=(m7 b.Edges k).B.Y)&&(decide ((m7 a.Edges k).C.X=(m7 b.Edges k).C.X)&&(decide ((m7 a.Edges k).C.Y=(m7 b.Edges k).C.Y)&&true)))))))))],(Rx a b)⟩ .nil (H2 au0 au0)<|AE<|BC (!(decide ((NV a k).Kind=(NU b k).Kind)&&(decide ((NV a k).A.X=(NU b k).A.X)&&(decide ((NV a k).A.Y=(NU b k).A.Y)&&(decide ((NV a k).B.X=(NU b k).B.X)&&(decide ((NV a k).B.Y=(NU b k).B.Y)&&(decide ((NV a k).C.X=(NU b k).C.X)&&(decide ((NV a k).C.Y=(NU b k).C.Y)&&true)))))))) kr (fun h3=>?_) (fun h3=>?_)
  ·exact AA<|on<|AO<|Cm<|Bf<|Bf<|Cm<|Bf<|zl (by rw[<- ng];simp only[Ga,h2,h3,mi,mj]<;>kernel_rfl)
  refine AP<|Ao<|AE<|rg ⟨[(2,tP 2 0),(3,tP 3 0),(5,tI (W64 (k+1)))],(Rx a b)⟩ ?_
  (try rw[(show W64 (k+1)=k+1 from Ae oM au5)])
  refine AE ?_;refine⟨(n0,k+1),⟨?_,?_,(by rw[<- ng];simp only[Ga,h2,h3,mi,mj])⟩,lz _,Az kr⟩
  ·dsimp only;omega
  exact⟨ax0,ax0⟩
 exact Aw<|Aj<|Aj<|Ay<|AE<|AA<|on<|AO<|zl (by rw[<- ng];simp only[Ga,h2,mi,mj]<;>kernel_rfl)
theorem fY(a:AQ)(b:AQ)(h0:(a.Edges.length:Int)<=1000000)(h1:(b.Edges.length:Int)<=1000000):OKc (P7 a b):=cPu<|fi a b h0 h1
end
abbrev Bj(b:AC)(t_:List Cl):List Cl:=(.i b.Layers)::(.i b.Outline.Kind)::(lst 7 AK.c b.Outline.Edges)::(.i b.Outline.R)::(lst 7 AD.c b.Parts)::(lst 2 A7.c b.Nets)::t_
abbrev DR(b:AC)(t_:List Cl):List Cl:=(lst 6 AM.c b.Tracks)::(lst 8 Ak.c b.Vias)::(lst 8 A8.c b.Pours)::(lst 5 BA.c b.Keeps)::(lst 4 AX.c b.Slots)::t_
abbrev CE(b:AC):List Cl:=(Bj b (DR b [lst 2 BG.c b.Classes,.any,lst 3 As.c b.Waivers,lst 3 BI.c b.Matches]))
theorem Pp(b:AC):∀y∈CE b,NM y:=by
 intro y hy;simp only[CE,kg,lg,or_false]at hy;rcases hy with rfl|rfl|rfl|rfl|rfl|rfl|rfl|rfl|rfl|rfl|rfl|rfl|rfl|rfl|rfl<;>first|exact .val _|exact .any|exact C0 J6|exact C0 HL|exact C0 Wv|exact C0 kH|exact C0 zZ|exact C0 sR|exact C0 sS|exact C0 sP|exact C0 kJ|exact C0 cN|exact C0 kI
def El(m9:List AN)(p:AD):List (AD×Bc):=(CM m9 p.Type').1.Pads.map fun q=>(p,q)
def BT(b:AC)(m9:List AN):List (AD×Bc):=(DM b.Parts).flatMap (El m9)
def J4(b:AC)(m9:List AN)(k:Nat):Nat:=(((DM b.Parts).take k).flatMap (El m9)).length
theorem Nn(m9:List AN)(p:AD):(El m9 p).length=(CM m9 p.Type').1.Pads.length:=ke _
theorem jT(b:AC)(m9:List AN):J4 b m9 (DM b.Parts).length=(BT b m9).length:=by unfold J4 BT;rw[List.take_length]
theorem cD(b:AC)(m9:List AN){k:Nat}(h:k<(DM b.Parts).length):J4 b m9 (k+1)=J4 b m9 k+(CM m9 ((DM b.Parts).getD k default).Type').1.Pads.length:=by
 unfold J4;rw[(FU _ k h).1,List.flatMap_append,d9,List.flatMap_singleton,Nn]
theorem rL(b:AC)(m9:List AN){k j:Nat}(h:k<(DM b.Parts).length)(hj:j<(CM m9 ((DM b.Parts).getD k default).Type').1.Pads.length) :
  J4 b m9 k+j<(BT b m9).length/\(BT b m9).getD (J4 b m9 k+j) default=((DM b.Parts).getD k default,(CM m9 ((DM b.Parts).getD k default).Type').1.Pads.getD j default):=by
 have e:BT b m9=((DM b.Parts).take k).flatMap (El m9)++(El m9 ((DM b.Parts).getD k default)++((DM b.Parts).drop (k+1)).flatMap (El m9)):=by
  unfold BT;rw[<- List.flatMap_cons,<- (FU _ k h).2,<- List.flatMap_append,List.take_append_drop]
 have hl:=Nn m9 ((DM b.Parts).getD k default);rw[e];unfold J4;constructor
 ·rw[d9,d9,hl];omega
 rw[aE,kz oM,Nat.add_sub_cancel_left,la (by rw[hl];exact hj)];unfold El;rw[ld,ea hj,aE (l:=(CM m9 _).1.Pads),ea hj];rfl
abbrev F9(m9:List AN):Nat×Tv:=(2,.av (.one (.eptr 1 1 (gD [lst 3 AN.c m9]) 0 0)))
abbrev FN(b:AC):Nat×Tv:=(17,tI ((DM b.Parts).length:Int))
abbrev FM(b:AC):Nat×Tv:=(16,tO (lst 7 AD.c (DM b.Parts)))
abbrev IC(b:AC):=AL AD.c b.Parts
theorem zA(b:AC)(m9:List AN)(hb:b.Parts.length<20)(ht:B7 m9):LM Tryz.prog 147 2 (BZ [.eptr 15 1 (gD (CE b)) 0 0,.eptr 1 1 (gD [lst 3 AN.c m9]) 0 0]) (BT b m9).length (fun x=>[.agg (AD.c ((BT b m9).getD x.val default).1),.agg (Bc.c ((BT b m9).getD x.val default).2)]):=by
 refine Yx Tryz.func147 rfl rfl kr (fun i hi=>?_) ?_
 ·match i,hi with
  |0,_=>rfl
  |1,_=>rfl
 intro Ow n0 ly JJ hO hJg hY;have hd:∀(x:List (Nat×Tv)),(∀p∈x,p.2.dv=true)->∀i u,get x i=some u->u.dv=true:=fun x h=>Ck (p:=fun u=>Tv.dv u=true) h;refine tZ hO (Ck (p:=fun u=>Tv.dv u=true) (by simp[FP,Dc,Tv.dv,Av.dv,Cl.dv,List.range,List.range.loop,BZ])) rfl fun W0 X1 M1 hX=>?_;have hp1:(b.Parts.length:Int)<=1000000:=by omega
 refine oq 13 _ (sB b.Parts au6)<|AE<|rb 15 (149,([.one (.own 1000 7 b.Parts.length),.one (.clo 150 0 dfc)]:List Av).map (Jy 1000 13),wrI 13 (.row 7 b.Parts.length (IC b) 78) (.tup []) (.row 7 b.Parts.length (AL AD.c (DM b.Parts)) 78)) (.row 7 b.Parts.length (IC b) 78) ⟨[(0,.av (.one (.val (.func (.yield ly) #[] #[])))),(F9 m9),(4,tO (.own 13 7 b.Parts.length))],[(13,.row 7 b.Parts.length (AL AD.c (DM b.Parts)) 78)]⟩ (HR (fun _ _=>kr) kr (pSrtP b.Parts au6)) ?_;refine⟨rfl,⟨[(0,.av (.one (.val (.func (.yield ly) #[] #[])))),(F9 m9),(4,tO (lst 7 AD.c (DM b.Parts)))],[]⟩,fun W2 M2=>Cv.trans (Ag 13 (MS 7 AD.c (DM b.Parts) (QH b.Parts au6))) (KD (⟨[(0,.av (.one (.val (.func (.yield ly) #[] #[])))),(F9 m9),(4,tO (lst 7 AD.c (DM b.Parts)))],[]⟩) 13 hk0),?_⟩;have hps:=QH b.Parts hb;refine ED<|EJ hO (hd _ (by simp only[lf];exact⟨rfl,rfl,rfl,fun x hx=>by cases hx⟩)) rfl fun W0 X1 M1=>?_;refine rg ⟨[(0,.av (.one (.val (.func (.yield ly) #[] #[])))),(F9 m9),(FM b),(FN b),(18,tI 0)],[]⟩<|EA<|Hq<|RH (ι:=Nat) (fun k=>⟨[(0,.av (.one (.val (.func (.yield ly) #[] #[])))),(F9 m9),(FM b),(FN b),(18,tI (k:Int))],[]⟩) (fun k=>JJ (J4 b m9 k)) (fun k=>k<=(DM b.Parts).length) (fun k=>(DM b.Parts).length-k) (fun k hk=>?_) 0 (lv _);refine ED<|EJ hO (hd _ (by simp only[lf];exact⟨rfl,rfl,rfl,rfl,rfl,fun x hx=>by cases hx⟩)) rfl fun W0 X1 M1=>?_
 refine rg ⟨[(0,.av (.one (.val (.func (.yield ly) #[] #[])))),(F9 m9),(FM b),(FN b),(18,tI (k:Int)),(19,tB (decide (((k:Int):Int)<((DM b.Parts).length:Int))))],[]⟩<|EA<|ED<|Hf (decide (((k:Int):Int)<((DM b.Parts).length:Int))) kr (fun hc=>?_) (fun hc=>?_)
 ·have hlt:k<(DM b.Parts).length:=by have:=oT hc;omega
  refine JI<|EA<|ED<|Hq<|ED<|TF [0,2,16,17,18] ⟨[(0,.av (.one (.val (.func (.yield ly) #[] #[])))),(F9 m9),(FM b),(FN b),(18,tI (k:Int))],[]⟩ kr<|EJ hO (hd _ (by simp only[lf];exact⟨rfl,rfl,rfl,rfl,rfl,fun x hx=>by cases hx⟩)) rfl fun W0 X1 M1=>?_;refine rc [] [0<=((k:Int):Int)/\((k:Int):Int)<((DM b.Parts).length:Int)] ⟨[(0,.av (.one (.val (.func (.yield ly) #[] #[])))),(F9 m9),(6,tP 6 0),(FM b),(FN b),(18,tI (k:Int))],[(6,.cells (AD.c ((DM b.Parts).getD (k:Int).toNat default)) 78)]⟩ .nil (H1 au0)<|EA<|gT (S:=⟨[(0,.av (.one (.val (.func (.yield ly) #[] #[])))),(F9 m9),(6,.av (.one (.eptr 7 1 (gD (AD.c ((DM b.Parts).getD (k:Int).toNat default))) 0 0))),(FM b),(FN b),(18,tI (k:Int))],[]⟩) hO (fun W0 M1=>Jq _ 6 (AD.c ((DM b.Parts).getD (k:Int).toNat default)) 78 hk0 kr kr kr kr) ?_;have hns:=cD b m9 hlt;have hat:=fun j hj=>rL b m9 (j:=j) hlt hj;rw[l9];generalize hp:(DM b.Parts).getD k default=p at *;refine ED ?_;have hgl:=LG m9 p.Type';have hpl:((CM m9 p.Type').1.Pads.length:Int)<=1000000:=by rw[hgl];exact Ks ht _
  refine EJ hO (hd _ (by simp only[lf];exact⟨rfl,rfl,rfl,rfl,rfl,rfl,fun x hx=>by cases hx⟩)) rfl fun W0 X1 M1=>?_;refine rs 26 _ ⟨[(0,.av (.one (.val (.func (.yield ly) #[] #[])))),(F9 m9),(6,.av (.one (.eptr 7 1 (gD (AD.c p)) 0 0))),(7,tP 7 0),(FM b),(FN b),(18,tI (k:Int))],[(7,.cells (AN.c (CM m9 p.Type').1) 82)]⟩ (dk m9 p.Type' au6)<|EA<|gT (S:=⟨[(0,.av (.one (.val (.func (.yield ly) #[] #[])))),(F9 m9),(6,.av (.one (.eptr 7 1 (gD (AD.c p)) 0 0))),(7,.av (.one (.eptr 3 1 (gD (AN.c (CM m9 p.Type').1)) 0 0))),(FM b),(FN b),(18,tI (k:Int))],[]⟩) hO (fun W0 M1=>Jq _ 7 (AN.c (CM m9 p.Type').1) 82 hk0 kr kr kr kr)<|ED<|EJ hO (hd _ (by simp only[lf];exact⟨rfl,rfl,rfl,rfl,rfl,rfl,rfl,fun x hx=>by cases hx⟩)) rfl fun W0 X1 M1=>?_;refine rg ⟨[(0,.av (.one (.val (.func (.yield ly) #[] #[])))),(F9 m9),(6,.av (.one (.eptr 7 1 (gD (AD.c p)) 0 0))),(FM b),(FN b),(18,tI (k:Int)),(30,tO (lst 7 Bc.c (CM m9 p.Type').1.Pads)),(31,tI ((CM m9 p.Type').1.Pads.length:Int)),(32,tI 0)],[]⟩<|EA<|Hq<|RH (ι:=Nat) (fun j=>⟨[(0,.av (.one (.val (.func (.yield ly) #[] #[])))),(F9 m9),(6,.av (.one (.eptr 7 1 (gD (AD.c p)) 0 0))),(FM b),(FN b),(18,tI (k:Int)),(30,tO (lst 7 Bc.c (CM m9 p.Type').1.Pads)),(31,tI ((CM m9 p.Type').1.Pads.length:Int)),(32,tI (j:Int))],[]⟩) (fun j=>JJ (J4 b m9 k+j)) (fun j=>j<=(CM m9 p.Type').1.Pads.length) (fun j=>(CM m9 p.Type').1.Pads.length-j) (fun j hj=>?_) 0 (lv _)
  refine ED<|EJ hO (hd _ (by simp only[lf];exact⟨rfl,rfl,rfl,rfl,rfl,rfl,rfl,rfl,rfl,fun x hx=>by cases hx⟩)) rfl fun W0 X1 M1=>?_;refine rg ⟨[(0,.av (.one (.val (.func (.yield ly) #[] #[])))),(F9 m9),(6,.av (.one (.eptr 7 1 (gD (AD.c p)) 0 0))),(FM b),(FN b),(18,tI (k:Int)),(30,tO (lst 7 Bc.c (CM m9 p.Type').1.Pads)),(31,tI ((CM m9 p.Type').1.Pads.length:Int)),(32,tI (j:Int)),(33,tB (decide (((j:Int):Int)<((CM m9 p.Type').1.Pads.length:Int))))],[]⟩<|EA<|ED<|Hf (decide (((j:Int):Int)<((CM m9 p.Type').1.Pads.length:Int))) kr (fun hc2=>?_) (fun hc2=>?_)
  ·have hlt2:j<(CM m9 p.Type').1.Pads.length:=by have:=oT hc2;omega
   obtain⟨hat1,hat2⟩:=hat j hlt2;refine JI<|EA<|ED<|Hq<|ED<|TF [0,2,6,16,17,18,30,31,32] ⟨[(0,.av (.one (.val (.func (.yield ly) #[] #[])))),(F9 m9),(6,.av (.one (.eptr 7 1 (gD (AD.c p)) 0 0))),(FM b),(FN b),(18,tI (k:Int)),(30,tO (lst 7 Bc.c (CM m9 p.Type').1.Pads)),(31,tI ((CM m9 p.Type').1.Pads.length:Int)),(32,tI (j:Int))],[]⟩ kr<|EJ hO (hd _ (by simp only[lf];exact⟨rfl,rfl,rfl,rfl,rfl,rfl,rfl,rfl,rfl,fun x hx=>by cases hx⟩)) rfl fun W0 X1 M1=>?_;refine rc [] [0<=((j:Int):Int)/\((j:Int):Int)<((CM m9 p.Type').1.Pads.length:Int)] ⟨[(0,.av (.one (.val (.func (.yield ly) #[] #[])))),(F9 m9),(6,.av (.one (.eptr 7 1 (gD (AD.c p)) 0 0))),(10,tP 10 0),(FM b),(FN b),(18,tI (k:Int)),(30,tO (lst 7 Bc.c (CM m9 p.Type').1.Pads)),(31,tI ((CM m9 p.Type').1.Pads.length:Int)),(32,tI (j:Int))],[(10,.cells (Bc.c ((CM m9 p.Type').1.Pads.getD (j:Int).toNat default)) 102)]⟩ .nil (H1 au0)<|EA<|gT (S:=⟨[(0,.av (.one (.val (.func (.yield ly) #[] #[])))),(F9 m9),(6,.av (.one (.eptr 7 1 (gD (AD.c p)) 0 0))),(10,.av (.one (.eptr 7 1 (gD (Bc.c ((CM m9 p.Type').1.Pads.getD (j:Int).toNat default))) 0 0))),(FM b),(FN b),(18,tI (k:Int)),(30,tO (lst 7 Bc.c (CM m9 p.Type').1.Pads)),(31,tI ((CM m9 p.Type').1.Pads.length:Int)),(32,tI (j:Int))],[]⟩) hO (fun W0 M1=>Jq _ 10 (Bc.c ((CM m9 p.Type').1.Pads.getD (j:Int).toNat default)) 102 hk0 kr kr kr kr) ?_;rw[l9];generalize hq:(CM m9 p.Type').1.Pads.getD j default=q at *
   refine ED<|Ns<|JH hO C8 3 [0,2,6,10,16,17,18,30,31,32,36,37,38] [] [(0,.av (.one (.val (.func (.yield ly) #[] #[])))),(2,.av (.one (.eptr 1 1 (gD [lst 3 AN.c m9]) 0 0))),(6,.av (.one (.eptr 7 1 (gD (AD.c p)) 0 0))),(10,.av (.one (.eptr 7 1 (gD (Bc.c q)) 0 0))),(16,tO (lst 7 AD.c (DM b.Parts))),(17,tI ((DM b.Parts).length:Int)),(18,tI (k:Int)),(30,tO (lst 7 Bc.c (CM m9 p.Type').1.Pads)),(31,tI ((CM m9 p.Type').1.Pads.length:Int)),(32,tI (j:Int)),(36,.av (.one (.val (.func (.yield ly) #[] #[])))),(37,.av (.agg (AD.c p))),(38,.av (.agg (Bc.c q)))] kr .nil (hd _ (by simp only[lf];exact⟨rfl,rfl,rfl,rfl,rfl,rfl,rfl,rfl,rfl,rfl,fun x hx=>by cases hx⟩)) rfl<|cU (ly:=ly) (d:=39) hO rfl [.agg (AD.c p),.agg (Bc.c q)] rfl rfl kr kr kr ?hvm rfl kr ?hT1 (fun A B=>hJg _ A B) (JJ (J4 b m9 k+j+1)) ?hY rfl ?ht
   case hvm =>
    intro x hx;simp only[kg,lg,or_false]at hx;rcases hx with rfl|rfl
    ·exact HL _
    exact MZ _
   case hT1=>exact Ck (p:=fun u=>Tv.dv u=true/\TvM u) (by
    simp only[lf];exact⟨⟨rfl,Bt (.val _)⟩,⟨rfl,Bt (GO (by simp only[lf];exact⟨(C0 Sz),fun x hx=>by cases hx⟩))⟩,⟨rfl,Bt (GO (HL _))⟩,⟨rfl,Bt (GO (MZ _))⟩,⟨rfl,Bt (C0 HL)⟩,⟨rfl,Bt (.val _)⟩,⟨rfl,Bt (.val _)⟩,⟨rfl,Bt (C0 MZ)⟩,⟨rfl,Bt (.val _)⟩,⟨rfl,Bt (.val _)⟩,⟨rfl,Bt (.val _)⟩,⟨rfl,(HL _)⟩,⟨rfl,(MZ _)⟩,fun x hx=>by cases hx⟩)
   case hY =>
    intro W v hW hv;refine hY _ hat1 W v hW ?_;show co (fun _=>none) Ow [.agg (AD.c ((BT b m9).getD (J4 b m9 k+j) default).1),.agg (Bc.c ((BT b m9).getD (J4 b m9 k+j) default).2)] v W;rw[hat2];exact hv
   case ht =>
    refine L7 [0,2,6,16,17,18,30,31,32,39] ⟨[(0,.av (.one (.val (.func (.yield ly) #[] #[])))),(F9 m9),(6,.av (.one (.eptr 7 1 (gD (AD.c p)) 0 0))),(FM b),(FN b),(18,tI (k:Int)),(30,tO (lst 7 Bc.c (CM m9 p.Type').1.Pads)),(31,tI ((CM m9 p.Type').1.Pads.length:Int)),(32,tI (j:Int)),(39,tB true)],[]⟩ kr<|JH hO C8 1 [0,2,6,16,17,18,30,31,32,40] [] [(0,.av (.one (.val (.func (.yield ly) #[] #[])))),(2,.av (.one (.eptr 1 1 (gD [lst 3 AN.c m9]) 0 0))),(6,.av (.one (.eptr 7 1 (gD (AD.c p)) 0 0))),(16,tO (lst 7 AD.c (DM b.Parts))),(17,tI ((DM b.Parts).length:Int)),(18,tI (k:Int)),(30,tO (lst 7 Bc.c (CM m9 p.Type').1.Pads)),(31,tI ((CM m9 p.Type').1.Pads.length:Int)),(32,tI (j:Int)),(40,tB false)] kr .nil (hd _ (by simp only[lf];exact⟨rfl,rfl,rfl,rfl,rfl,rfl,rfl,rfl,rfl,rfl,fun x hx=>by cases hx⟩)) rfl<|OY<|EA<|Hf false kr (fun h=>by cases h) (fun _=>?_);refine JI<|Y3<|EA<|EJ hO (hd _ (by simp only[lf];exact⟨rfl,rfl,rfl,rfl,rfl,rfl,rfl,rfl,rfl,rfl,fun x hx=>by cases hx⟩)) rfl fun W0 X1 M1=>?_;refine rg ⟨[(0,.av (.one (.val (.func (.yield ly) #[] #[])))),(F9 m9),(6,.av (.one (.eptr 7 1 (gD (AD.c p)) 0 0))),(FM b),(FN b),(18,tI (k:Int)),(30,tO (lst 7 Bc.c (CM m9 p.Type').1.Pads)),(31,tI ((CM m9 p.Type').1.Pads.length:Int)),(32,tI (W64 ((j:Int)+1)))],[]⟩<|EA ?_;refine⟨j+1,by omega,by omega,?_,by rw[mv],rfl⟩;rw[Ae oM oM];rfl
  have hjl:j=(CM m9 p.Type').1.Pads.length:=by have:=oF hc2;omega
  refine RI<|QY<|QY<|RJ<|Y3<|EA<|TF [0,2,16,17,18] ⟨[(0,.av (.one (.val (.func (.yield ly) #[] #[])))),(F9 m9),(FM b),(FN b),(18,tI (k:Int))],[]⟩ kr<|EJ hO (hd _ (by simp only[lf];exact⟨rfl,rfl,rfl,rfl,rfl,fun x hx=>by cases hx⟩)) rfl fun W0 X1 M1=>?_;refine rg ⟨[(0,.av (.one (.val (.func (.yield ly) #[] #[])))),(F9 m9),(FM b),(FN b),(18,tI (W64 ((k:Int)+1)))],[]⟩<|EA ?_;refine⟨k+1,by omega,by omega,?_,by rw[hjl,hns],rfl⟩;rw[Ae oM oM];rfl
 have hkl:k=(DM b.Parts).length:=by have:=oF hc;omega
 refine RI<|QY<|QY<|RJ ?_;exact⟨.inr rfl,by rw[hkl,jT]⟩
section
open Go.RowKit
section
variable (len:Nat)(g:Nat→Nat→Value)
abbrev XR:Cl:=wC false 2 len (fun i j=>.val (g i j))
theorem zY:NM (XR len g):=GO fun y hy=>by rw[List.mem_singleton.1 hy];exact .list _ _ _ _ fun i j=>.val _
abbrev ylB(ly:Nat):Tv:=.av (.one (.val (.func (.yield ly) #[] #[])))
abbrev tB1(c:Cl):Tv:=.av (.one c)
abbrev avB(k:Nat):Av:=.agg [.val (g k 0),.val (g k 1)]
theorem wI(hl:(len:Int)<=1000000)(h1:∀i j,i<len->j<2->(g i j).oneCell'=true):LM Tryz.prog 146 1 (BZ [XR len g]) len (fun x=>[.one (.i ((len:Int)-1-(x.val:Int))),avB g (len-1-x.val)]):=by
 refine Uo Tryz.func146 rfl rfl (fun x=>rfl) (fun x e he c hc=>?_) kr (fun i hi=>?_) ?_
 ·simp only[kg,lg,or_false]at he;rcases he with rfl|rfl
  ·rw[List.mem_singleton.1 hc];rfl
  simp only[Av.cells,kg,lg,or_false]at hc;have:=x.isLt;rcases hc with rfl|rfl<;>exact h1 _ _ mz m4
 ·match i,hi with
  |0,_=>rfl
 intro Ow n0 ly JJ Jx hO hJg hY;have hd:∀(x:List (Nat×Tv)),(∀p∈x,p.2.dv=true)->∀i u,get x i=some u->u.dv=true:=fun x h=>Ck (p:=fun u=>Tv.dv u=true) h;refine ED ?_;refine EJ hO (Ck (p:=fun u=>Tv.dv u=true) (by simp[FP,Dc,Tv.dv,Av.dv,Cl.dv,List.range,List.range.loop,BZ])) rfl fun W0 X1 M1=>?_;refine rg ⟨[(0,ylB ly),(1,tB1 (XR len g)),(3,tI (W64 ((len:Int)-1)))],[]⟩ ?_;refine EA ?_;refine Hq ?_;rw[show W64 ((len:Int)-1)=(len:Int)-1-((0:Nat):Int)by rw[Ae mz mz];omega];refine RH (ι:=Nat) (fun k=>⟨[(0,ylB ly),(1,tB1 (XR len g)),(3,tI ((len:Int)-1-(k:Int)))],[]⟩) (fun k=>JJ k) (fun k=>k<=len) (fun k=>len-k) (fun k hk=>?_) 0 (lv _);refine ED ?_;refine ED ?_;refine EJ hO (hd _ (by simp only[lf];exact⟨rfl,rfl,rfl,fun x hx=>by cases hx⟩)) rfl fun W0 X1 M1=>?_;refine rg ⟨[(0,ylB ly),(1,tB1 (XR len g)),(3,tI ((len:Int)-1-(k:Int))),(8,tB (decide ((0:Int)<=((len:Int)-1-(k:Int)))))],[]⟩ ?_;refine EA ?_;refine Hf (decide ((0:Int)<=((len:Int)-1-(k:Int)))) kr (fun hc=>?_) (fun hc=>?_)
 ·have hlt:k<len:=by have:=oT hc;omega
  obtain⟨m,hm⟩:∃m:Nat,(len:Int)-1-(k:Int)=(m:Int):=⟨len-1-k,by omega⟩;have pd:m=len-1-k:=by omega
  refine JI ?_;refine EA ?_;refine ED ?_;refine Hq ?_;refine ED ?_;refine Ns ?_;rw[hm];refine JH hO C8 6 [0,1,3,11,12,16] [0<=(m:Int)/\(m:Int)<((len:Nat):Int)] [(0,ylB ly),(1,tB1 (XR len g)),(3,tI (m:Int)),(11,ylB ly),(12,tI (m:Int)),(16,.av (avB g (m:Int).toNat))] kr (.cons ⟨by omega,by omega⟩ .nil) (hd _ (by simp only[lf];exact⟨rfl,rfl,rfl,rfl,fun x hx=>by cases hx⟩)) rfl ?_;rw[l9];refine cV (ly:=ly) (d:=17) hO rfl [.one (.i (m:Int)),avB g m] rfl rfl kr kr rfl rfl kr ?hT1 (fun A B=>hJg _ A B) (JJ (k+1)) (Jx (k+1)) ?hY [] ?htf rfl ?ht ?hf
  case hT1=>exact Ck (p:=fun u=>Tv.dv u=true/\TvM u) (by
   simp only[lf];exact⟨⟨rfl,Bt (.val _)⟩,⟨rfl,Bt (zY len g)⟩,⟨rfl,Bt (.val _)⟩,⟨rfl,Bt (.val _)⟩,⟨rfl,Bt (.val _)⟩,⟨rfl,fun c hc=>by
    simp only[Av.cells,kg,lg,or_false]at hc;rcases hc with rfl|rfl<;>exact .val _⟩,fun x hx=>by cases hx⟩)
  case hY =>
   intro W hW;have:=hY k hlt W hW;simp only[hm,<- pd]at this;exact this
  case htf=>exact fun i v hv=>by cases hv
  case ht =>
   refine L7 [0,1,3,17] ⟨[(0,ylB ly),(1,tB1 (XR len g)),(3,tI (m:Int)),(17,tB true)],[]⟩ kr ?_;refine JH hO C8 1 [0,1,3,18] [] [(0,ylB ly),(1,tB1 (XR len g)),(3,tI (m:Int)),(18,tB false)] kr .nil (hd _ (by simp only[lf];exact⟨rfl,rfl,rfl,rfl,fun x hx=>by cases hx⟩)) rfl ?_;refine OY ?_;refine EA ?_;refine Hf false kr (fun h=>by cases h) (fun _=>?_);refine JI ?_;refine Y3 ?_;refine EA ?_;refine EJ hO (hd _ (by simp only[lf];exact⟨rfl,rfl,rfl,rfl,fun x hx=>by cases hx⟩)) rfl fun W0 X1 M1=>?_;refine rg ⟨[(0,ylB ly),(1,tB1 (XR len g)),(3,tI (W64 ((m:Int)-1)))],[]⟩ ?_;refine EA ?_;refine⟨k+1,by omega,by omega,?_,rfl,rfl⟩;rw[Ae mz mz,show(m:Int)-1=(len:Int)-1-((k+1:Nat):Int)by omega]
  case hf =>
   refine L7 [17] ⟨[(17,tB false)],[]⟩ kr ?_;refine JH hO C8 1 [18] [] [(18,tB true)] kr .nil (hd _ (by simp only[lf];exact⟨rfl,fun x hx=>by cases hx⟩)) rfl ?_;refine OY ?_;refine EA ?_;refine Hf true kr (fun _=>?_) (fun h=>by cases h);refine tY ?_;exact⟨.inl rfl,.inr ⟨_,hlt,rfl⟩⟩
 have hkl:k=len:=by have:=oF hc;omega
 refine RI ?_;refine QY ?_;refine QY ?_;refine RJ ?_;exact⟨.inr rfl,.inl (by rw[hkl])⟩
end
theorem bv(l:List A7)(hl:(l.length:Int)<=1000000):LM Tryz.prog 146 1 (BZ [.eptr 1 1 (fun _ j=>([lst 2 A7.c l]:List Cl).getD j default) 0 0]) l.length (fun x=>[.one (.i ((l.length:Int)-1-(x.val:Int))),.agg (A7.c (l.getD (l.length-1-x.val) default))]):=by
 refine cW (t:=false) (sz:=2) (len:=l.length) (f:=fun i j=>(A7.c (l.getD i default)).getD j default) (fun g x=>[.one (.i ((l.length:Int)-1-(x.val:Int))),avB g (l.length-1-x.val)]) rfl m4 (fun g h1=>?_) (fun g x=>rfl) (fun M g x vs h2 hL=>?_)
 ·refine cX (fun i hi=>?_) (wI l.length g hl h1)
  match i,hi with
  |0,_=>rfl
 cases hL with
 |cons a1 a2 =>
  cases a2 with
  |cons a3 a4 =>
   refine .cons a1 (.cons (fun σ=>?_) a4);obtain⟨us,hu,hus⟩:=a3 σ;refine⟨us,hu,?_⟩;have hx:l.length-1-x.val<l.length:=by have:=x.isLt;omega
   cases hus with
   |cons b1 b2 =>
    cases b2 with
    |cons b3 b4 =>
     cases b4;have e1:=b1.1;have e2:=b3.1;subst e1 e2;exact .cons ((Mx rfl).2 (h2 _ 0 hx m4)) (.cons ((Mx rfl).2 (h2 _ 1 hx m4)) .nil)
end
theorem jS (l:(List A7)):G4 Tryz.prog 104 [.one (lst 2 A7.c l)] (.av (.one (.clo 146 1 (BZ [.eptr 1 1 (gD [lst 2 A7.c l]) 0 0])))):=by
 refine pwf Tryz.func104 fun W0 M0=>?_;exact AA<|on<|AA<|rn ⟨[(2,tO (.clo 146 1 (BZ [.ptr 1 0])))],[(1,.cells [lst 2 A7.c l] 30)]⟩<|AO<|zy (Jq (⟨[(2,.av (.one (.clo 146 1 (BZ [.eptr 1 1 (gD [lst 2 A7.c l]) 0 0]))))],[]⟩) 1 [lst 2 A7.c l] 30 hk0 kr kr kr kr)
def cpads(b:AC)(m9:(List AN)):CT:=(105,[.agg (CE b),.one (FT m9)],.val [] (.av (.one (.clo 147 2 (BZ [.eptr 15 1 (fun _ j_=>((CE b):List Cl).getD j_ default) 0 0,.eptr 1 1 (fun _ j_=>([lst 3 AN.c m9]:List Cl).getD j_ default) 0 0])))))
abbrev Dl(b:AC):Nat×Blk:=(2,.cells (CE b) 41)
theorem ppads(b:AC)(m9:(List AN)):PuP 105 (cpads b m9).2.1 (.av (.one (.clo 147 2 (BZ [.eptr 15 1 (gD (CE b)) 0 0,.eptr 1 1 (gD [lst 3 AN.c m9]) 0 0])))):=by
 refine pwf Tryz.func105 fun W0 M0=>?_;exact AA<|on<|AA<|rn ⟨[(4,tO (.clo 147 2 (BZ [.ptr 2 0,.ptr 3 0])))],[(Dl b),(3,.cells [lst 3 AN.c m9] 43)]⟩<|AO<|zy (Cv.trans (Jq (⟨[(4,.av (.one (.clo 147 2 (BZ [.eptr 15 1 (gD (CE b)) 0 0,.ptr 3 0]))))],[(3,.cells [lst 3 AN.c m9] 43)]⟩) 2 (CE b) 41 hk0 kr kr kr kr) (Jq (⟨[(4,.av (.one (.clo 147 2 (BZ [.eptr 15 1 (gD (CE b)) 0 0,.eptr 1 1 (gD [lst 3 AN.c m9]) 0 0]))))],[]⟩) 3 [lst 3 AN.c m9] 43 hk0 kr kr kr kr))
def HZ(s:AQ)(m:Am):Nat->List AK->Int->AQ
 |0,_,_=>default
 |n0+1,s_1,nb=>bif decide ((nb:Int)<(s.Edges.length:Int))then((HZ s m n0) (s_1.set nb.toNat (FD (s_1.getD nb.toNat default) m)) (nb+1))else(AQ.mk s.Kind s_1 s.R)
def Ha(s:AQ)(m:Am):AQ:=HZ s m (((s.Edges.length:Int)-0).toNat+1) s.Edges 0
def vS(s:AQ)(m:Am):CT:=(106,[.agg (AQ.c s),.agg (Am.c m)],.val [] (.av (.agg (AQ.c (Ha s m)))))
abbrev NL(s_1:List AK)(nb:Int):=s_1.getD nb.toNat default
abbrev Zr:Nat×Blk:=(4,.cells [.i 0,vN,.i 0] 28)
theorem fu(s:AQ)(m:Am)(h0:(s.Edges.length:Int)<=1000000):PuP 106 (vS s m).2.1 (.av (.agg (AQ.c (Ha s m)))):=by
 refine pwf Tryz.func106 fun W0 M0=>?_;refine AA<|on<|AA<|oq 8 _ (Sx s.Edges au6)<|AE<|AZ (Ag 8 (AU 7 AK.c s.Edges))<|AA<|AA<|rn ⟨(Dd [(12,tI (s.Edges.length:Int)),(13,tI 0)]),[(2,.cells [.i s.Kind,.own 8 7 s.Edges.length,.i s.R] 28),(GN m),Zr,(8,.row 7 s.Edges.length (AL AK.c s.Edges) 68)]⟩<|AJ<|lpC (κ:=List AK×Int) (fun x=>⟨(Dd [(12,tI (s.Edges.length:Int)),(13,tI x.2.2)]),[(2,.cells [.i s.Kind,.own 8 7 x.2.1.length,.i s.R] 28),(GN m),Zr,(8,.row 7 x.2.1.length (AL AK.c x.2.1) 68)]⟩) (fun x=>((s.Edges.length:Int)-x.2.2).toNat) (fun x=>(x.2.1.length=s.Edges.length/\0<=x.2.2/\(x.2.2<=(s.Edges.length:Int)\/x.2.2=0))/\HZ s m x.1 x.2.1 x.2.2=Ha s m) ?_ (((s.Edges.length:Int)-0).toNat+1,s.Edges,0) ⟨lz _,⟨ax0,ax0,ax0⟩,(by simp only[Ha,mi,mj])⟩;rintro n0 ⟨s_1,nb⟩ nq ⟨nm,ng⟩
 try dsimp only at nq nm ng
 refine AA<|on<|AA<|kb (decide ((nb:Int)<(s.Edges.length:Int))) (fun h1=>?_) (fun h1=>?_)
 ·have g1:=oT h1;refine AP<|AE<|AA<|AJ<|AA<|on<|oe [] _ [0<=(nb:Int)/\(nb:Int)<(s_1.length:Int),nb.toNat<s_1.length,none,0<=(nb:Int)/\(nb:Int)<(s_1.length:Int),nb.toNat<s_1.length] (J1 25 (im (NL s_1 nb) m)) (H4 au0 au0 au0 au0)<|Ao<|AE<|AZ (Ag 8 (DU (l:=(AK.c (FD (NL s_1 nb) m))) (off:=0) (q:=7) (k:=nb.toNat) (AU 7 AK.c s_1) au0 (FD (NL s_1 nb) m) (Do kr)))<|rg ⟨(Dd [(12,tI (s.Edges.length:Int)),(13,tI (W64 (nb+1)))]),[(2,.cells [.i s.Kind,.own 8 7 (s_1.set nb.toNat (FD (NL s_1 nb) m)).length,.i s.R] 28),(GN m),Zr,(8,.row 7 (s_1.set nb.toNat (FD (NL s_1 nb) m)).length (AL AK.c (s_1.set nb.toNat (FD (NL s_1 nb) m))) 68)]⟩ ?_
  (try rw[(show W64 (nb+1)=nb+1 from Ae oM au5)])
  refine AE ?_;refine⟨(n0,s_1.set nb.toNat (FD (NL s_1 nb) m),nb+1),⟨?_,?_,(by rw[<- ng];simp only[HZ,h1,mi,mj])⟩,lz _,Az kr⟩
  ·dsimp only;omega
  exact⟨ax0,ax0,ax0⟩
 exact Aw<|Aj<|Aj<|Ay<|AE<|AA<|on<|AO<|zy (vf 8 hk0) (by rw[<- ng];simp only[HZ,h1,mi,mj]<;>kernel_rfl)
theorem zQ(s:AQ)(m:Am)(h0:(s.Edges.length:Int)<=1000000):OKc (vS s m):=cPu<|fu s m h0
def CX(p:Ab):Value:=.agg #[.string p.Ref,.string p.Pad]
def BR(a b:Ab):Bool:=eqS a.Ref b.Ref&&eqS a.Pad b.Pad
theorem U4(a b:Ab):BR a b=true↔CX a=CX b:=by
 unfold BR CX;rw[me,dH,dH];simp
theorem ZJ(k:Ab):Gx Tryz.prog eqE 106 (CX k):=.inr ⟨_,_,_,rfl,rfl,by kernel_rfl,rfl,rfl⟩
theorem Uc{b:AC}{m9:List AN}(ht:B7 m9)(k:Nat):(((BT b m9).getD k default).2.Shape.Edges.length:Int)<=1000000:=by
 refine ER (p:=fun x:AD×Bc=>(x.2.Shape.Edges.length:Int)<=1000000) m4 (fun x hx=>?_) k;unfold BT at hx;obtain⟨p,_,hp⟩:=List.mem_flatMap.1 hx;unfold El at hp;obtain⟨q,hq,rfl⟩:=List.mem_map.1 hp;rw[LG]at hq;unfold ZE at hq;cases hf:m9.find? (fun t=>IU t p.Type')with
 |none=>rw[hf]at hq;cases hq
 |some t=>rw[hf]at hq;exact(ht.2 t (List.mem_of_find?_eq_some hf)).2.2.1 q hq
theorem HJ{b:AC}{m9:List AN}(hp:b.Parts.length<20)(ht:B7 m9):((BT b m9).length:Int)<=20000000:=by
 have key:∀l:List AD,((l.flatMap (El m9)).length:Int)<=1000000*(l.length:Int):=by
  intro l;induction l with
  |nil=>simp
  |cons p l ih =>
   rw[List.flatMap_cons,d9,Nn,LG,j8];have:=Ks ht p.Type';omega
 have h1:=key (DM b.Parts);have h2:=QH b.Parts hp;unfold BT;omega
def G1(x0:AD):Am:=Am.mk x0.At x0.Turn x0.Under
def RQ(x0:AD):CT:=(63,[.agg (AD.c x0)],.val [] (.av (.agg (Am.c (G1 x0)))))
theorem zF(x0:AD):PuP 63 (RQ x0).2.1 (.av (.agg (Am.c (G1 x0)))):=by
 refine pwf Tryz.func63 fun W0 M0=>?_;exact AA<|on<|AA<|on<|AO<|zl
theorem YZ(x0:AD):OKc (RQ x0):=cPu<|zF x0
def MO(b:AC)(p:AD):Int:=bif p.Under then b.Layers else 1
def du(b:AC)(p:AD):CT:=(86,[.agg (CE b),.agg (AD.c p)],.val [] (.av (.one (.i (MO b p)))))
theorem pside(b:AC)(p:AD):PuP 86 (du b p).2.1 (tO (.i (MO b p))):=by
 refine pwf Tryz.func86 fun W0 M0=>?_;refine AA<|on<|AA<|AA<|rn ⟨[(2,tP 2 0),(6,tB p.Under)],[(Dl b)]⟩<|BC p.Under kr (fun h1=>?_) (fun h1=>?_)
 ·exact AA<|on<|AO<|Bf<|zl (by simp only[MO,h1,mi,mj]<;>kernel_rfl)
 exact AP<|AE<|AA<|on<|AO<|zl (by simp only[MO,h1,mi,mj]<;>kernel_rfl)
theorem rX(b:AC)(p:AD):OKc (du b p):=cPu<|pside b p
section
open Go.RowKit
variable (b:AC)(m9:List AN)(x0_:Nat)(BX:List AV)(x2_:Nat)
def Z0h:CT:=(104,[.one (lst 2 A7.c b.Nets)],.val [] (.av (.one (.clo 146 1 (BZ [.eptr 1 1 (fun _ j_=>([lst 2 A7.c b.Nets]:List Cl).getD j_ default) 0 0])))))
def Z0i:CT:=(105,[.agg (CE b),.one (FT m9)],.val [] (.av (.one (.clo 147 2 (BZ [.eptr 15 1 (fun _ j_=>((CE b):List Cl).getD j_ default) 0 0,.eptr 1 1 (fun _ j_=>([lst 3 AN.c m9]:List Cl).getD j_ default) 0 0])))))
def JA(b:AC)(m9:(List AN))(AY:List (Ab×my))(x0:Nat)(K0:List (Ab×my)->(List AV)):Nat->List (Ab×my)->Int->(List AV)
 |0,_,_=>default
 |n1+1,Bb,o3=>bif decide ((o3:Int)<((b.Nets.getD (b.Nets.length-1-x0) default).Pins.length:Int))then((JA b m9 AY x0 K0 n1) (J7 BR Bb ((b.Nets.getD (b.Nets.length-1-x0) default).Pins.getD o3.toNat default) (b.Nets.getD (b.Nets.length-1-x0) default).Name) (o3+1))else(K0 Bb)
def EU(b:AC)(m9:(List AN))(AY:List (Ab×my))(K0:List (Ab×my)->(List AV)):Nat->Nat->List AV->(List AV)
 |0,_,BX=>BX
 |m+1,x,BX=>(EU b m9 AY K0 m (x+1)) (BX++[AV.mk ((BT b m9).getD x default).1.Id ((BT b m9).getD x default).2.Name 1 (bif GB BR AY (Ab.mk ((BT b m9).getD x default).1.Ref ((BT b m9).getD x default).2.Name)then(AY.getD (Ec BR AY (Ab.mk ((BT b m9).getD x default).1.Ref ((BT b m9).getD x default).2.Name)) default).2 else⟨#[]⟩) (bif decide ((((BT b m9).getD x default).2.Drill:Int)=0)then(MO b ((BT b m9).getD x default).1)else 1) (bif decide ((((BT b m9).getD x default).2.Drill:Int)=0)then(MO b ((BT b m9).getD x default).1)else b.Layers) (Ha ((BT b m9).getD x default).2.Shape (G1 ((BT b m9).getD x default).1))])
def D1(b:AC)(m9:(List AN)):Nat->Nat->List (Ab×my)->(List AV)
 |0,_,AY=>EU b m9 AY (fun _=>default) (BT b m9).length 0 ([]:List AV)
 |m+1,x,AY=>JA b m9 AY x (D1 b m9 m (x+1)) ((((b.Nets.getD (b.Nets.length-1-x) default).Pins.length:Int)-0).toNat+1) AY 0
def Ed(b:AC)(m9:(List AN)):(List AV):=D1 b m9 b.Nets.length 0 ([]:List (Ab×my))
abbrev WG:=Ab.mk ((BT b m9).getD x2_ default).1.Ref ((BT b m9).getD x2_ default).2.Name
abbrev Zq(b:AC)(m9:List AN)(x2_:Nat)(AY:List (Ab×my)):=[AV.mk ((BT b m9).getD x2_ default).1.Id ((BT b m9).getD x2_ default).2.Name 1 (bif GB BR AY (WG b m9 x2_)then(AY.getD (Ec BR AY (WG b m9 x2_)) default).2 else⟨#[]⟩) (bif decide ((((BT b m9).getD x2_ default).2.Drill:Int)=0)then(MO b ((BT b m9).getD x2_ default).1)else 1) (bif decide ((((BT b m9).getD x2_ default).2.Drill:Int)=0)then(MO b ((BT b m9).getD x2_ default).1)else b.Layers) (Ha ((BT b m9).getD x2_ default).2.Shape (G1 ((BT b m9).getD x2_ default).1))]
abbrev eW(AY:List (Ab×my))(b:AC)(m9:List AN)(x2_:Nat):=bif GB BR AY (WG b m9 x2_)then(AY.getD (Ec BR AY (WG b m9 x2_)) default).2 else⟨#[]⟩
abbrev OC:=Ab.mk ((BT b m9).getD x2_ default).1.Ref ((BT b m9).getD x2_ default).2.Name
abbrev EO:=b.Nets.getD (b.Nets.length-1-x0_) default
abbrev D8:Nat×Tv:=(1,tO (FT m9))
abbrev OA:Nat×Tv:=(34,.av (.one (.clo 147 2 (BZ [.eptr 15 1 (gD (CE b)) 0 0,.eptr 1 1 (gD [lst 3 AN.c m9]) 0 0]))))
abbrev RW:Nat×Tv:=(17,.av (.one (.clo 146 1 (BZ [.eptr 1 1 (gD [lst 2 A7.c b.Nets]) 0 0]))))
abbrev mA:=Ha ((BT b m9).getD x2_ default).2.Shape (G1 ((BT b m9).getD x2_ default).1)
abbrev Fw:Nat×Blk:=(3005,.cells [.om 3014] 211)
abbrev Pj:=MO b ((BT b m9).getD x2_ default).1
abbrev LU(t_:List (Nat×Tv)):List (Nat×Tv):=(2,tP 3002 0)::(5,tP 3005 0)::(10,tP 3010 0)::t_
abbrev WV:List (Nat×Tv):=(LU [(11,.av (.one (.eptr 7 1 (gD (AD.c ((BT b m9).getD x2_ default).1)) 0 0))),(12,.av (.one (.eptr 7 1 (gD (Bc.c ((BT b m9).getD x2_ default).2)) 0 0))),(13,tP 13 0),(OA b m9)])
abbrev EK:Nat×Blk:=(3002,.cells (CE b) 41)
abbrev aQ:Nat×Tv:=(11,.av (.one (.eptr 7 1 (gD (AD.c ((BT b m9).getD x2_ default).1)) 0 0)))
abbrev pN:Nat×Tv:=(12,.av (.one (.eptr 7 1 (gD (Bc.c ((BT b m9).getD x2_ default).2)) 0 0)))
abbrev Lm:Nat×Blk:=(2000,.row 9 BX.length (AL AV.c BX) 61)
abbrev aD:Nat×Tv:=(7,.av (.one (.eptr 2 1 (gD (A7.c (EO b x0_))) 0 0)))
abbrev Ll:Nat×Blk:=(3010,.cells [.own 2000 9 BX.length] 50)
abbrev Pa(Bb:List (Ab×my))(b:AC)(x0_:Nat)(o3:Int):=J7 BR Bb ((EO b x0_).Pins.getD o3.toNat default) (EO b x0_).Name
abbrev nJ:Nat×Tv:=(22,tI ((EO b x0_).Pins.length:Int))
abbrev nH:Nat×Tv:=(21,tO (lst 2 Ab.c (EO b x0_).Pins))
abbrev PG(t_:List Cl):List Cl:=(.i ((BT b m9).getD x2_ default).1.Id)::(.s ((BT b m9).getD x2_ default).2.Name)::(.i 1)::t_
abbrev JV(t_:List (Nat×Tv)):List (Nat×Tv):=(D8 m9)::(2,tP 3002 0)::(5,tP 3005 0)::t_
abbrev RX(t_:List (Nat×Tv)):List (Nat×Tv):=(aD b x0_)::(RW b)::(nH b x0_)::(nJ b x0_)::t_
theorem lr{p:Prop}(h:p:=by repeat (first|exact .nil|refine .cons ⟨rfl,.refl _⟩ ?_)):p:=h
theorem qPads(b:AC)(m9:(List AN))(hn:(b.Nets.length:Int)<=1000000)(hp:b.Parts.length<20)(ht:B7 m9)(hm:((BT b m9).length:Int)<=20000000)(hq:∀n∈b.Nets,(n.Pins.length:Int)<=1000000):Fr Tryz.prog 51 [.agg (CE b),.one (lst 3 AN.c m9)] (.row 9 (Ed b m9).length (AL AV.c (Ed b m9)) 61) (fun d=>tO (.own d 9 (Ed b m9).length)):=by
 refine DC Tryz.func51 rfl kr (Df _ _) fun W0 M0=>?_;refine AA<|on<|AA<|rn ⟨[(D8 m9),(2,tP 2 0),(5,tP 5 0)],[(Dl b),(5,.cells [.om 14] 211),(14,.omap false 1 0 (fun _=>undef) m8)]⟩<|AZ (DD (⟨[(D8 m9),(2,tP 2 0),(5,tP 5 0)],[(Dl b),(5,.cells [.om 14] 211),(14,.omap false 1 ([]:List (Ab×my)).length (kfG CX ([]:List (Ab×my))) (vfG (fun x=>[.s x]) ([]:List (Ab×my))))]⟩) lr (rz (rz (.cons ⟨rfl,wF (ck:=CX) (cv:=(fun x=>[.s x]))⟩ .nil))))<|AA<|AA<|rs 17 (Z0h b) ⟨[(D8 m9),(2,tP 2 0),(5,tP 5 0),(RW b)],[(Dl b),(5,.cells [.om 14] 211),(14,.omap false 1 ([]:List (Ab×my)).length (kfG CX ([]:List (Ab×my))) (vfG (fun x=>[.s x]) ([]:List (Ab×my))))]⟩ (cPu<|jS b.Nets)<|AE<|AJ<|AZ (Cv.trans (vr 2 3002 hk0) (Cv.trans (vr 5 3005 hk0) (wr (⟨(JV m9 [(RW b)]),[(EK b),Fw,(3014,.omap false 1 ([]:List (Ab×my)).length (kfG CX ([]:List (Ab×my))) (vfG (fun x=>[.s x]) ([]:List (Ab×my))))]⟩) 14 3014 hk0))) ?_
 refine N2 (ι:=List (Ab×my)) [3002,3005,3014] 299999 3002 9999 299998 (fun x=>[(3002,.cells (CE b) 41),(3005,.cells [.om 3014] 211),(3014,.omap false 1 x.length (kfG CX x) (vfG (fun x=>[.s x]) x))]) (fun x0=>[(1,tO (lst 3 AN.c m9)),(2,tP 3002 0),(5,tP 3005 0),(7,.av (.one (.eptr 2 1 (gD (A7.c (b.Nets.getD (b.Nets.length-1-x0.val) default))) 0 0))),(17,.av (.one (.clo 146 1 (BZ [.eptr 1 1 (gD [lst 2 A7.c b.Nets]) 0 0]))))]) (fun j x=>True) (fun y x=>D1 b m9 (b.Nets.length-y) y x=Ed b m9) ([]:List (Ab×my)) (fun _=>rfl) kr kr (fun _ _=>kr) (bv b.Nets oM) kr (fun _=>by kernel_rfl) (fun _=>rfl) (fun _=>rfl) (fun x=>(Ck (p:=BkN) (by simp only[lf];exact⟨VL (Pp _),VL (by simp only[lf];exact⟨(.om _),fun x hx=>by cases hx⟩),d5 (fun x y hy=>by rw[List.mem_singleton.1 hy];exact(.val _)),fun x hx=>by cases hx⟩))) (fun x0=>(Ck (p:=TvM) (by simp only[lf];exact⟨Bt (C0 Sz),Bt (.ptr _ _),Bt (.ptr _ _),Bt (GO (Wv _)),Bt (cM (by simp only[lf];exact⟨(GO (by simp only[lf];exact⟨(C0 Wv),fun x hx=>by cases hx⟩)),fun x hx=>by cases hx⟩)),fun x hx=>by cases hx⟩))) (fun _=>by kernel_rfl) ax0 (by simp only[Ed,Nat.sub_zero,mi,mj]) (fun l1 W1 M1 X1 x0 j AY hinv hPX=>?_) (fun l2 W2 M2 X2 x0 j AY hPX hj hinv=>?_) (fun AY hinv ng=>?_)
 ·have nm:True:=hinv;clear hinv;refine EG<|rg ⟨(JV m9 [(7,tP 7 0),(RW b)]),[(7,.cells (A7.c (EO b x0.val)) 120),(EK b),Fw,(3014,.omap false 1 AY.length (kfG CX AY) (vfG (fun x=>[.s x]) AY))]⟩ ?_;exact⟨_,Cv.trans (TV (⟨(JV m9 [(aD b x0.val),(RW b)]),[(EK b),Fw,(3014,.omap false 1 AY.length (kfG CX AY) (vfG (fun x=>[.s x]) AY))]⟩) 7 (A7.c (b.Nets.getD (b.Nets.length-1-x0.val) default)) 120 [3002,3005,3014] 299998 hPX kr (fun h=>by obtain⟨_,h⟩:=h;cases h) kr kr kr) (Cv.refl _),rfl,rfl⟩
 ·have nm:True:=hinv;clear hinv;obtain⟨Xb0,hXb0⟩:∃Xb,D1 b m9 (b.Nets.length-x0.val) x0.val AY=Xb:=⟨_,rfl⟩;have ng:=hXb0;rw[show b.Nets.length-x0.val=(b.Nets.length-(x0.val+1))+1 by have:=x0.isLt;omega]at ng;have hqx:=ER (p:=fun n:A7=>(n.Pins.length:Int)<=1000000) m4 hq (b.Nets.length-1-x0.val);refine EG<|AJ<|AA<|rn ⟨(JV m9 (RX b x0.val [(23,tI 0)])),[(EK b),Fw,(3014,.omap false 1 AY.length (kfG CX AY) (vfG (fun x=>[.s x]) AY))]⟩<|AJ<|lpC (κ:=List (Ab×my)×Int) (fun x=>⟨(JV m9 (RX b x0.val [(23,tI x.2.2)])),[(EK b),Fw,(3014,.omap false 1 x.2.1.length (kfG CX x.2.1) (vfG (fun x=>[.s x]) x.2.1))]⟩) (fun x=>(((b.Nets.getD (b.Nets.length-1-x0.val) default).Pins.length:Int)-x.2.2).toNat) (fun x=>(0<=x.2.2/\(x.2.2<=((b.Nets.getD (b.Nets.length-1-x0.val) default).Pins.length:Int)\/x.2.2=0))/\JA b m9 AY x0.val (D1 b m9 (b.Nets.length-(x0.val+1)) (x0.val+1)) x.1 x.2.1 x.2.2=Xb0) ?_ ((((b.Nets.getD (b.Nets.length-1-x0.val) default).Pins.length:Int)-0).toNat+1,AY,0) ⟨lz _,⟨ax0,ax0⟩,(by rw[<- ng];simp only[D1,mi,mj])⟩;rintro n1 ⟨Bb,o3⟩ o0 ⟨ox,np⟩
  try dsimp only at o0 ox np
  refine AA<|on<|AA<|kb (decide ((o3:Int)<((b.Nets.getD (b.Nets.length-1-x0.val) default).Pins.length:Int))) (fun h1=>?_) (fun h1=>?_)
  ·have g1:=oT h1;refine AP<|AE<|AA<|AJ<|AA<|rc [] [0<=(o3:Int)/\(o3:Int)<((b.Nets.getD (b.Nets.length-1-x0.val) default).Pins.length:Int)] ⟨(JV m9 [(aD b x0.val),(9,tP 9 0),(RW b),(nH b x0.val),(nJ b x0.val),(23,tI o3)]),[(9,.cells (Ab.c (m7 (EO b x0.val).Pins o3)) 106),(EK b),Fw,(3014,.omap false 1 Bb.length (kfG CX Bb) (vfG (fun x=>[.s x]) Bb))]⟩ .nil (H1 au0)<|AE ?_;refine DE C8 [] [(999999,((GB BR Bb (m7 (EO b x0.val).Pins o3)),(Ec BR Bb (m7 (EO b x0.val).Pins o3))))] [] [1,2,5,7,17,21,22,23] [3002,3005,3014] [ZW Tryz.prog eqE 106 Bb.length (kfG CX Bb) (CX (m7 (b.Nets.getD (b.Nets.length-1-x0.val) default).Pins o3)) (GB BR Bb (m7 (b.Nets.getD (b.Nets.length-1-x0.val) default).Pins o3)) (Ec BR Bb (m7 (b.Nets.getD (b.Nets.length-1-x0.val) default).Pins o3))] ⟨(JV m9 (RX b x0.val [(23,tI o3)])),[(EK b),Fw,(3014,.omap false 1 (bif GB BR Bb (m7 (EO b x0.val).Pins o3)then Bb.length else Bb.length+1) (fun j=>bif Nat.beq j (bif GB BR Bb (m7 (EO b x0.val).Pins o3)then Ec BR Bb (m7 (EO b x0.val).Pins o3)else Bb.length)then CX (m7 (EO b x0.val).Pins o3)else kfG CX Bb j) (fun j c=>bif Nat.beq j (bif GB BR Bb (m7 (EO b x0.val).Pins o3)then Ec BR Bb (m7 (EO b x0.val).Pins o3)else Bb.length)then([.s (EO b x0.val).Name]:List Cl).getD c default else vfG (fun x=>[.s x]) Bb j c))]⟩ .nil kr (.cons (Yq U4 ZJ _ _) .nil)<|Ao<|AE ?_
   refine AZ (DD (⟨(JV m9 (RX b x0.val [(23,tI o3)])),[(EK b),Fw,(3014,.omap false 1 (J7 BR Bb (m7 (EO b x0.val).Pins o3) (EO b x0.val).Name).length (kfG CX (J7 BR Bb (m7 (EO b x0.val).Pins o3) (EO b x0.val).Name)) (vfG (fun x=>[.s x]) (J7 BR Bb (m7 (EO b x0.val).Pins o3) (EO b x0.val).Name)))]⟩) lr (rz (rz (.cons ⟨rfl,wE (ck:=CX) (cv:=(fun x=>[.s x])) (eq:=BR) Bb (m7 (b.Nets.getD (b.Nets.length-1-x0.val) default).Pins o3) (b.Nets.getD (b.Nets.length-1-x0.val) default).Name [.s (b.Nets.getD (b.Nets.length-1-x0.val) default).Name] rfl⟩ .nil))))<|rg ⟨(JV m9 (RX b x0.val [(23,tI (W64 (o3+1)))])),[(EK b),Fw,(3014,.omap false 1 (J7 BR Bb (m7 (EO b x0.val).Pins o3) (EO b x0.val).Name).length (kfG CX (J7 BR Bb (m7 (EO b x0.val).Pins o3) (EO b x0.val).Name)) (vfG (fun x=>[.s x]) (J7 BR Bb (m7 (EO b x0.val).Pins o3) (EO b x0.val).Name)))]⟩ ?_
   (try rw[(show W64 (o3+1)=o3+1 from Ae oM au5)])
   refine AE ?_;refine⟨(n1,J7 BR Bb (m7 (b.Nets.getD (b.Nets.length-1-x0.val) default).Pins o3) (b.Nets.getD (b.Nets.length-1-x0.val) default).Name,o3+1),⟨?_,?_,(by rw[<- np];simp only[JA,h1,mi,mj])⟩,lz _,Az kr⟩
   ·dsimp only;omega
   exact⟨ax0,ax0⟩
  have g1:=oF h1;refine Aw<|Aj<|Aj<|Ay<|Ao ?_;refine⟨_,Cv.trans (ck (⟨(JV m9 [(RW b)]),[(EK b),Fw,(3014,.omap false 1 Bb.length (kfG CX Bb) (vfG (fun x=>[.s x]) Bb))]⟩)) (Cv.refl _),rfl,Bb,ax0,fun hk hF=>?_,fun _ _ h=>h⟩;have e0:D1 b m9 (b.Nets.length-(x0.val+1)) (x0.val+1) Bb=Xb0:=by
   rw[<- np]
   first|(simp only[JA,h1,mi,mj]<;>rfl)
  subst hk;change D1 b m9 (b.Nets.length-x0.val) x0.val AY=Ed b m9 at hF;show D1 b m9 (b.Nets.length-(x0.val+1)) (x0.val+1) Bb=Ed b m9;exact e0.trans (hXb0.symm.trans hF)
 have nm:True:=hinv;clear hinv;change D1 b m9 (b.Nets.length-b.Nets.length) b.Nets.length AY=Ed b m9 at ng;rw[mu]at ng;refine Ao<|AE<|AA<|on<|AA<|AA<|rs 34 (Z0i b m9) ⟨[(2,tP 3002 0),(5,tP 3005 0),(10,tP 10 0),(OA b m9)],[(10,.cells [vN] 50),(EK b),Fw,(3014,.omap false 1 AY.length (kfG CX AY) (vfG (fun x=>[.s x]) AY))]⟩ (cPu<|ppads b m9)<|AE<|AJ<|AZ (Cv.trans (vr 10 3010 hk0) (Cv.trans (vk [2,5,10,34] [3002,3005,3010,3014]) (Cv.trans (vg 2000 9 m8 61 [] [(3010,[0])] hk0) (GJ (⟨((LU [(OA b m9)])),[(2000,.row 9 ([]:List AV).length (AL AV.c ([]:List AV)) 61),(EK b),Fw,(3010,.cells [.own 2000 9 ([]:List AV).length] 50),(3014,.omap false 1 AY.length (kfG CX AY) (vfG (fun x=>[.s x]) AY))]⟩) 2000 (Bh 9 m8 AV.c))))) ?_
 refine N2 (ι:=List AV) [3002,3005,3010,3014] 299999 3010 0 2000 (fun x=>[(2000,.row 9 x.length (AL AV.c x) 61),(3002,.cells (CE b) 41),(3005,.cells [.om 3014] 211),(3010,.cells [.own 2000 9 x.length] 50),(3014,.omap false 1 AY.length (kfG CX AY) (vfG (fun x=>[.s x]) AY))]) (fun x2=>[(2,tP 3002 0),(5,tP 3005 0),(10,tP 3010 0),(11,.av (.one (.eptr 7 1 (gD (AD.c ((BT b m9).getD x2.val default).1)) 0 0))),(12,.av (.one (.eptr 7 1 (gD (Bc.c ((BT b m9).getD x2.val default).2)) 0 0))),(34,.av (.one (.clo 147 2 (BZ [.eptr 15 1 (gD (CE b)) 0 0,.eptr 1 1 (gD [lst 3 AN.c m9]) 0 0]))))]) (fun j x=>x.length<=j) (fun y x=>EU b m9 AY (fun _=>default) ((BT b m9).length-y) y x=Ed b m9) ([]:List AV) (fun _=>rfl) kr kr (fun _ _=>kr) (zA b m9 hp ht) kr (fun _=>by kernel_rfl) (fun _=>rfl) (fun _=>rfl) (fun x=>(Ck (p:=BkN) (by simp only[lf];exact⟨d4 L1,VL (Pp _),VL (by simp only[lf];exact⟨(.om _),fun x hx=>by cases hx⟩),VL (by simp only[lf];exact⟨(.own _ _ _),fun x hx=>by cases hx⟩),d5 (fun x y hy=>by rw[List.mem_singleton.1 hy];exact(.val _)),fun x hx=>by cases hx⟩))) (fun x2=>(Ck (p:=TvM) (by simp only[lf];exact⟨Bt (.ptr _ _),Bt (.ptr _ _),Bt (.ptr _ _),Bt (GO (HL _)),Bt (GO (MZ _)),Bt (cM (by simp only[lf];exact⟨(GO (Pp _)),(GO (by simp only[lf];exact⟨(C0 Sz),fun x hx=>by cases hx⟩)),fun x hx=>by cases hx⟩)),fun x hx=>by cases hx⟩))) (fun _=>by kernel_rfl) ax0 (by rw[<- ng];simp only[D1,Nat.sub_zero,mi,mj]) (fun l1 W1 M1 X1 x2 j BX hinv hPX=>?_) (fun l2 W2 M2 X2 x2 j BX hPX hj hinv=>?_) (fun BX hinv oy=>?_)
 ·have pg:BX.length<=j:=hinv;clear hinv;refine EG<|AA<|on<|rg ⟨(LU [(11,tP 11 0),(12,tP 12 0),(OA b m9)]),[(11,.cells (AD.c ((BT b m9).getD x2.val default).1) 78),(12,.cells (Bc.c ((BT b m9).getD x2.val default).2) 102),(Lm BX),(EK b),Fw,(Ll BX),(3014,.omap false 1 AY.length (kfG CX AY) (vfG (fun x=>[.s x]) AY))]⟩ ?_;exact⟨_,Cv.trans (TV (⟨(LU [(aQ b m9 x2.val),(12,tP 12 0),(OA b m9)]),[(12,.cells (Bc.c ((BT b m9).getD x2.val default).2) 102),(Lm BX),(EK b),Fw,(Ll BX),(3014,.omap false 1 AY.length (kfG CX AY) (vfG (fun x=>[.s x]) AY))]⟩) 11 (AD.c ((BT b m9).getD x2.val default).1) 78 [3002,3005,3010,3014] 2000 hPX kr (fun _=>⟨_,rfl⟩) kr kr kr) (TV (⟨(LU [(aQ b m9 x2.val),(pN b m9 x2.val),(OA b m9)]),[(Lm BX),(EK b),Fw,(Ll BX),(3014,.omap false 1 AY.length (kfG CX AY) (vfG (fun x=>[.s x]) AY))]⟩) 12 (Bc.c ((BT b m9).getD x2.val default).2) 102 [3002,3005,3010,3014] 2000 hPX kr (fun _=>⟨_,rfl⟩) kr kr kr),rfl,rfl⟩
 ·have pg:BX.length<=j:=hinv;clear hinv;obtain⟨Xb2,hXb2⟩:∃Xb,EU b m9 AY (fun _=>default) ((BT b m9).length-x2.val) x2.val BX=Xb:=⟨_,rfl⟩;have oy:=hXb2;rw[show(BT b m9).length-x2.val=((BT b m9).length-(x2.val+1))+1 by have:=x2.isLt;omega]at oy;have hpe:=Uc (b:=b) ht x2.val;refine EG<|AJ<|AA<|XT NA C8 [] [(47,((GB BR AY (OC b m9 x2.val)),(Ec BR AY (OC b m9 x2.val))))] [] [2,5,10,11,12,13,34] [13,2000,3002,3005,3010,3014] [ZW Tryz.prog eqE 106 AY.length (kfG CX AY) (CX (Ab.mk ((BT b m9).getD x2.val default).1.Ref ((BT b m9).getD x2.val default).2.Name)) (GB BR AY (Ab.mk ((BT b m9).getD x2.val default).1.Ref ((BT b m9).getD x2.val default).2.Name)) (Ec BR AY (Ab.mk ((BT b m9).getD x2.val default).1.Ref ((BT b m9).getD x2.val default).2.Name))] ⟨(WV b m9 x2.val),[(13,.cells (PG b m9 x2.val [.s (eW AY b m9 x2.val),.i 1,.i b.Layers,.i 0,vN,.i 0]) 61),(Lm BX),(EK b),Fw,(Ll BX),(3014,.omap false 1 AY.length (kfG CX AY) (vfG (fun x=>[.s x]) AY))]⟩ .nil kr kr (.cons (Yq U4 ZJ _ _) .nil)<|AE<|AA<|AA ?_
  refine rn ⟨(LU [(aQ b m9 x2.val),(pN b m9 x2.val),(13,tP 13 0),(OA b m9),(53,tB (decide ((((BT b m9).getD x2.val default).2.Drill:Int)=0)))]),[(13,.cells (PG b m9 x2.val [.s (eW AY b m9 x2.val),.i 1,.i b.Layers,.i 0,vN,.i 0]) 61),(Lm BX),(EK b),Fw,(Ll BX),(3014,.omap false 1 AY.length (kfG CX AY) (vfG (fun x=>[.s x]) AY))]⟩<|B4 (⟨(WV b m9 x2.val),[(13,.cells (PG b m9 x2.val [.s (bif GB BR AY (OC b m9 x2.val)then(AY.getD (Ec BR AY (OC b m9 x2.val)) default).2 else⟨#[]⟩),.i (bif decide ((((BT b m9).getD x2.val default).2.Drill:Int)=0)then(Pj b m9 x2.val)else 1),.i (bif decide ((((BT b m9).getD x2.val default).2.Drill:Int)=0)then(Pj b m9 x2.val)else b.Layers),.i 0,vN,.i 0]) 61),(Lm BX),(EK b),Fw,(Ll BX),(3014,.omap false 1 AY.length (kfG CX AY) (vfG (fun x=>[.s x]) AY))]⟩) ?_ ?_
  ·refine BC _ rfl (fun h1=>?_) (fun h1=>?_)
   ·refine dO [] _ [none,none] ⟨(WV b m9 x2.val),[(13,.cells (PG b m9 x2.val [.s (eW AY b m9 x2.val),.i (Pj b m9 x2.val),.i (Pj b m9 x2.val),.i 0,vN,.i 0]) 61),(Lm BX),(EK b),Fw,(Ll BX),(3014,.omap false 1 AY.length (kfG CX AY) (vfG (fun x=>[.s x]) AY))]⟩ (J2 56 59 (rX b ((BT b m9).getD x2.val default).1) (rX b ((BT b m9).getD x2.val default).1)) .nil<|AE<|Az ?_
    first|rfl|(simp only[h1,mi,mj]<;>rfl)
   refine AP<|AE<|Cv.trans (ck (⟨(WV b m9 x2.val),[(13,.cells (PG b m9 x2.val [.s (bif GB BR AY (OC b m9 x2.val)then(AY.getD (Ec BR AY (OC b m9 x2.val)) default).2 else⟨#[]⟩),.i 1,.i b.Layers,.i 0,vN,.i 0]) 61),(Lm BX),(EK b),Fw,(Ll BX),(3014,.omap false 1 AY.length (kfG CX AY) (vfG (fun x=>[.s x]) AY))]⟩)) (Az ?_)
   first|rfl|(simp only[h1,mi,mj]<;>rfl)
  refine AA<|oe [] _ [none,none] (J2 65 66 (YZ ((BT b m9).getD x2.val default).1) (zQ ((BT b m9).getD x2.val default).2.Shape (G1 ((BT b m9).getD x2.val default).1) au6)) .nil<|AE<|rc [] [BX.length=BX.length,BX.length+1<=maxLen,(BX.length+1)*104<=140737488355328] ⟨((LU [(OA b m9)])),[(71,.row 9 (BX.length+1) (fun i_ j_=>if i_<BX.length then(AL AV.c BX) i_ j_ else(A9 9 1 (PG b m9 x2.val [.s (eW AY b m9 x2.val),.i (bif decide ((((BT b m9).getD x2.val default).2.Drill:Int)=0)then(Pj b m9 x2.val)else 1),.i (bif decide ((((BT b m9).getD x2.val default).2.Drill:Int)=0)then(Pj b m9 x2.val)else b.Layers),.i (mA b m9 x2.val).Kind,lst 7 AK.c (mA b m9 x2.val).Edges,.i (mA b m9 x2.val).R])) (i_-BX.length) j_) 61),(EK b),Fw,(3010,.cells [.own 71 9 (BX.length+1)] 50),(3014,.omap false 1 AY.length (kfG CX AY) (vfG (fun x=>[.s x]) AY))]⟩ .nil (H3 rfl au2 au2)<|Ao ?_
  refine⟨_,Cv.trans (Ag 71 (Ac (AU 9 AV.c BX) (Ai 9 AV.c ([AV.mk ((BT b m9).getD x2.val default).1.Id ((BT b m9).getD x2.val default).2.Name 1 (bif GB BR AY (Ab.mk ((BT b m9).getD x2.val default).1.Ref ((BT b m9).getD x2.val default).2.Name)then(AY.getD (Ec BR AY (Ab.mk ((BT b m9).getD x2.val default).1.Ref ((BT b m9).getD x2.val default).2.Name)) default).2 else⟨#[]⟩) (bif decide ((((BT b m9).getD x2.val default).2.Drill:Int)=0)then(MO b ((BT b m9).getD x2.val default).1)else 1) (bif decide ((((BT b m9).getD x2.val default).2.Drill:Int)=0)then(MO b ((BT b m9).getD x2.val default).1)else b.Layers) (Ha ((BT b m9).getD x2.val default).2.Shape (G1 ((BT b m9).getD x2.val default).1))]:List AV)))) (wr (⟨((LU [(OA b m9)])),[(2000,.row 9 (BX++(Zq b m9 x2.val AY)).length (AL AV.c (BX++(Zq b m9 x2.val AY))) 61),(EK b),Fw,(3010,.cells [.own 2000 9 (BX++(Zq b m9 x2.val AY)).length] 50),(3014,.omap false 1 AY.length (kfG CX AY) (vfG (fun x=>[.s x]) AY))]⟩) 71 2000 (K:=[299999,3002,3005,3010,3014]) (fun k x h=>.inl (hPX k x h))),rfl,(BX++[AV.mk ((BT b m9).getD x2.val default).1.Id ((BT b m9).getD x2.val default).2.Name 1 (bif GB BR AY (Ab.mk ((BT b m9).getD x2.val default).1.Ref ((BT b m9).getD x2.val default).2.Name)then(AY.getD (Ec BR AY (Ab.mk ((BT b m9).getD x2.val default).1.Ref ((BT b m9).getD x2.val default).2.Name)) default).2 else⟨#[]⟩) (bif decide ((((BT b m9).getD x2.val default).2.Drill:Int)=0)then(MO b ((BT b m9).getD x2.val default).1)else 1) (bif decide ((((BT b m9).getD x2.val default).2.Drill:Int)=0)then(MO b ((BT b m9).getD x2.val default).1)else b.Layers) (Ha ((BT b m9).getD x2.val default).2.Shape (G1 ((BT b m9).getD x2.val default).1))]),ax0,fun hk hF=>?_,fun _ _ h=>h⟩
  have e0:EU b m9 AY (fun _=>default) ((BT b m9).length-(x2.val+1)) (x2.val+1) (BX++[AV.mk ((BT b m9).getD x2.val default).1.Id ((BT b m9).getD x2.val default).2.Name 1 (bif GB BR AY (Ab.mk ((BT b m9).getD x2.val default).1.Ref ((BT b m9).getD x2.val default).2.Name)then(AY.getD (Ec BR AY (Ab.mk ((BT b m9).getD x2.val default).1.Ref ((BT b m9).getD x2.val default).2.Name)) default).2 else⟨#[]⟩) (bif decide ((((BT b m9).getD x2.val default).2.Drill:Int)=0)then(MO b ((BT b m9).getD x2.val default).1)else 1) (bif decide ((((BT b m9).getD x2.val default).2.Drill:Int)=0)then(MO b ((BT b m9).getD x2.val default).1)else b.Layers) (Ha ((BT b m9).getD x2.val default).2.Shape (G1 ((BT b m9).getD x2.val default).1))])=Xb2:=by
   rw[<- oy]
   first|(simp only[EU,mi,mj]<;>rfl)
  subst hk;change EU b m9 AY (fun _=>default) ((BT b m9).length-x2.val) x2.val BX=Ed b m9 at hF;show EU b m9 AY (fun _=>default) ((BT b m9).length-(x2.val+1)) (x2.val+1) (BX++[AV.mk ((BT b m9).getD x2.val default).1.Id ((BT b m9).getD x2.val default).2.Name 1 (bif GB BR AY (Ab.mk ((BT b m9).getD x2.val default).1.Ref ((BT b m9).getD x2.val default).2.Name)then(AY.getD (Ec BR AY (Ab.mk ((BT b m9).getD x2.val default).1.Ref ((BT b m9).getD x2.val default).2.Name)) default).2 else⟨#[]⟩) (bif decide ((((BT b m9).getD x2.val default).2.Drill:Int)=0)then(MO b ((BT b m9).getD x2.val default).1)else 1) (bif decide ((((BT b m9).getD x2.val default).2.Drill:Int)=0)then(MO b ((BT b m9).getD x2.val default).1)else b.Layers) (Ha ((BT b m9).getD x2.val default).2.Shape (G1 ((BT b m9).getD x2.val default).1))])=Ed b m9;exact e0.trans (hXb2.symm.trans hF)
 have pg:BX.length<=(BT b m9).length:=hinv;clear hinv;change EU b m9 AY (fun _=>default) ((BT b m9).length-(BT b m9).length) (BT b m9).length BX=Ed b m9 at oy;rw[mu]at oy;exact Ao<|AE<|AA<|on<|AO<|xl (tO (.own 2000 9 BX.length)) (frE (c:=AV.c) (xs:=BX) (by rw[<- oy];first|(simp only[EU,mi,mj]<;>rfl)) kr)
def dx:CT:=(51,[.agg (CE b),.one (FT m9)],.new [] (.row 9 (Ed b m9).length (AL AV.c (Ed b m9)) 61) (fun d=>.av (.one (.own d 9 (Ed b m9).length))))
theorem ij(b:AC)(m9:(List AN))(hn:(b.Nets.length:Int)<=1000000)(hp:b.Parts.length<20)(ht:B7 m9)(hm:((BT b m9).length:Int)<=20000000)(hq:∀n∈b.Nets,(n.Pins.length:Int)<=1000000):OKc (dx b m9):=DQ (fun _ _=>kr) (qPads b m9 hn hp ht hm hq)
end
section
open Go.RowKit
def cj(t:AM):AM:=t
variable (data' l:List AM)(b:AC)(j n:Int)(out:List AM)(t:AM)
def casT:CT:=(108,[.agg (AM.c t)],.val [] (.av (.agg (AM.c (cj t)))))
theorem pasT(t:AM):PuP 108 (casT t).2.1 (.av (.agg (AM.c (cj t)))):=by
 refine pwf Tryz.func108 fun W0 M0=>?_;exact AA<|on<|AA<|on<|AO<|zl
theorem okasT(t:AM):OKc (casT t):=cPu<|pasT t
def lT(t:AM):Int:=t.Id
def cidT:CT:=(109,[.agg (AM.c t)],.val [] (.av (.one (.i (lT t)))))
theorem pidT(t:AM):PuP 109 (cidT t).2.1 (tO (.i (lT t))):=by
 refine pwf Tryz.func109 fun W0 M0=>?_;exact AA<|on<|AA<|on<|AO<|zl
theorem dh(t:AM):OKc (cidT t):=cPu<|pidT t
def Ov(a:AM)(b_:AM):Int:=Dk (lT a) (lT b_)
theorem pcmpT (a:AM)(b_:AM):G4 Tryz.prog 154 [.agg (AM.c a),.agg (AM.c b_),.one (.eptr 1 1 (gD [.clo 109 0 dfc]) 0 0)] (tO (.i (Ov a b_))):=by
 refine pwf Tryz.func154 fun W0 M0=>?_;exact AA<|on<|AA<|oe [] _ [none,none,none] (J3 8 11 12 (dh a) (dh b_) (J5 (lT a) (lT b_))) .nil<|AE<|AO<|zl
def Z0j:CT:=(154,[.agg (AM.c (data'.getD j.toNat default)),.agg (AM.c (data'.getD (W64 (j-1)).toNat default)),.one (.eptr 1 1 (fun _ j_=>([.clo 109 0 dfc]:List Cl).getD j_ default) 0 0)],.val [] (tI (Ov (data'.getD j.toNat default) (data'.getD (W64 (j-1)).toNat default))))
def O3(l:(List AM))(n:Int)(data:List AM)(i:Int)(K0:List AM->Int->(List AM)):Nat->List AM->Int->(List AM)
 |0,_,_=>default
 |n1+1,data',j=>bif bif decide ((0:Int)<j)then decide (((Ov (data'.getD j.toNat default) (data'.getD (j-1).toNat default)):Int)<0)else false then((O3 l n data i K0 n1) ((data'.set j.toNat (data'.getD (j-1).toNat default)).set (j-1).toNat (data'.getD j.toNat default)) (j-1))else(K0 data' (i+1))
def O4(l:(List AM))(n:Int):Nat->List AM->Int->(List AM)
 |0,_,_=>default
 |n0+1,data,i=>bif decide ((i:Int)<n)then(O3 l n data i (O4 l n n0) (i.toNat+1) data i)else data
def Qt(l:(List AM))(n:Int):(List AM):=O4 l n ((n-1).toNat+1) l 1
theorem ai{p:Prop}(h:p:=by
 refine HG mp0 rfl kr kr kr fun W0 M0 X hX=>?_;refine AA<|rn ⟨[(0,tO (.own 1000 mp1 l.length)),(1,tI 0),(2,tI n),(3,.av (.one (.clo mp2 1 (BZ [.eptr 1 1 (gD [.clo mp3 0 (fun _=>default)]) 0 0])))),(8,tI 1)],[(1000,.row mp1 l.length (AL mp4 l) mp5)]⟩<|AJ<|lpC (κ:=List mp6×Int) (fun x=>⟨[(0,tO (.own 1000 mp1 x.2.1.length)),(1,tI 0),(2,tI n),(3,.av (.one (.clo mp2 1 (BZ [.eptr 1 1 (gD [.clo mp3 0 (fun _=>default)]) 0 0])))),(8,tI x.2.2)],[(1000,.row mp1 x.2.1.length (AL mp4 x.2.1) mp5)]⟩) (fun x=>(n-x.2.2).toNat) (fun x=>(1<=x.2.2/\x.2.1.length=l.length/\1<=x.2.2/\(x.2.2<=n\/x.2.2=1))/\mp7 l n x.1 x.2.1 x.2.2=mp8 l n) ?_ ((n-1).toNat+1,l,1) ⟨lz _,⟨ax0,ax0,ax0,ax0⟩,(by simp only[mp8,mi,mj])⟩;rintro n0 ⟨data,i⟩ nq ⟨nm,ng⟩
 try dsimp only at nq nm ng
 refine AA<|AA<|on<|kb (decide ((i:Int)<n)) (fun h1=>?_) (fun h1=>?_)
 ·have g1:=oT h1;refine AP<|AE<|AA<|AJ<|AA<|rn ⟨[(0,tO (.own 1000 mp1 data.length)),(1,tI 0),(2,tI n),(3,.av (.one (.clo mp2 1 (BZ [.eptr 1 1 (gD [.clo mp3 0 (fun _=>default)]) 0 0])))),(8,tI i),(9,tI i)],[(1000,.row mp1 data.length (AL mp4 data) mp5)]⟩<|AJ<|lpC (κ:=List mp6×Int) (fun x=>⟨[(0,tO (.own 1000 mp1 x.2.1.length)),(1,tI 0),(2,tI n),(3,.av (.one (.clo mp2 1 (BZ [.eptr 1 1 (gD [.clo mp3 0 (fun _=>default)]) 0 0])))),(8,tI i),(9,tI x.2.2)],[(1000,.row mp1 x.2.1.length (AL mp4 x.2.1) mp5)]⟩) (fun x=>x.2.2.toNat) (fun x=>(0<=x.2.2/\x.2.1.length=l.length/\x.2.2<n)/\mp9 l n data i (mp7 l n n0) x.1 x.2.1 x.2.2=mp8 l n) ?_ (i.toNat+1,data,i) ⟨lz _,⟨ax0,ax0,ax0⟩,(by rw[<- ng];simp only[mp7,h1,mi,mj])⟩;rintro n1 ⟨data',j⟩ o0 ⟨ox,np⟩
  try dsimp only at o0 ox np
  refine AA<|AA ?_
  refine dw [] [(32,(mp10 data' j))] (t2 (decide ((0:Int)<j)) ((gk (decide ((0:Int)<j)) (0<=(j:Int)/\(j:Int)<(data'.length:Int)))::(gt (decide ((0:Int)<j)))::(gk (decide ((0:Int)<j)) (j.toNat<data'.length))::(t3 (decide ((0:Int)<j)) ((gk (decide ((0:Int)<j)) (0<=(W64 (j-1):Int)/\(W64 (j-1):Int)<(data'.length:Int)))::(gt (decide ((0:Int)<j)))::(gk (decide ((0:Int)<j)) ((W64 (j-1)).toNat<data'.length))::(t3 (decide ((0:Int)<j)) ((gk (decide ((0:Int)<j)) (Cp (mp10 data' j).2.1))::(t2 (decide ((0:Int)<j)) []))))))) ⟨[(0,tO (.own 1000 mp1 data'.length)),(1,tI 0),(2,tI n),(3,.av (.one (.clo mp2 1 (BZ [.eptr 1 1 (gD [.clo mp3 0 (fun _=>default)]) 0 0])))),(8,tI i),(9,tI j),(34,tB (bif decide ((0:Int)<j)then decide (((mp11 (data'.getD j.toNat default) (data'.getD (W64 (j-1)).toNat default)):Int)<0)else false))],[(1000,.row mp1 data'.length (AL mp4 data') mp5)]⟩ (.cons (cPu<|mp12 (data'.getD j.toNat default) (data'.getD (W64 (j-1)).toNat default)) .nil) (c2 (.cons (fun hG=>by first|exact au0|(simp only[ll,lm,mf,me]at hG<;>omega)|(simp at hG<;>omega)|(simp only[ll,lm]at hG;simp only[Bz];omega)) (ci (.cons (fun hG=>by first|exact au0|(simp only[ll,lm,mf,me]at hG<;>omega)|(simp at hG<;>omega)|(simp only[ll,lm]at hG;simp only[Bz];omega)) (c3 (.cons (fun hG=>by first|exact au0|(simp only[ll,lm,mf,me]at hG<;>omega)|(simp at hG<;>omega)|(simp only[ll,lm]at hG;simp only[Bz];omega)) (ci (.cons (fun hG=>by first|exact au0|(simp only[ll,lm,mf,me]at hG<;>omega)|(simp at hG<;>omega)|(simp only[ll,lm]at hG;simp only[Bz];omega)) (c3 (.cons (fun _=>rfl) (c2 .nil))))))))))) ?_
  (try rw[(show W64 (j-1)=j-1 from Ae oM oM)])
  refine AE<|BC _ rfl (fun h2=>?_) (fun h2=>?_)
  ·have g2:=Fl h2;refine AP<|AE<|AA<|AJ<|dw [] [] [0<=(W64 (j-1):Int)/\(W64 (j-1):Int)<(data'.length:Int),(W64 (j-1)).toNat<data'.length,0<=(j:Int)/\(j:Int)<(data'.length:Int),j.toNat<data'.length,0<=(j:Int)/\(j:Int)<(data'.length:Int),j.toNat<data'.length,0<=(W64 (j-1):Int)/\(W64 (j-1):Int)<(data'.length:Int),(W64 (j-1)).toNat<data'.length] ⟨[(0,tO (.own 1000 mp1 data'.length)),(1,tI 0),(2,tI n),(3,.av (.one (.clo mp2 1 (BZ [.eptr 1 1 (gD [.clo mp3 0 (fun _=>default)]) 0 0])))),(8,tI i),(9,tI j)],[(1000,.row mp1 data'.length (fun i_ j_=>if i_=(W64 (j-1)).toNat/\0<=j_/\j_<0+mp1 then((mp4 (data'.getD j.toNat default)):List Cl).getD (j_-0) default else(fun i_ j_=>if i_=j.toNat/\0<=j_/\j_<0+mp1 then((mp4 (data'.getD (W64 (j-1)).toNat default)):List Cl).getD (j_-0) default else(AL mp4 data') i_ j_) i_ j_) mp5)]⟩ .nil (H8 au0 au0 au0 au0 au0 au0 au0 au0) ?_
   (try rw[(show W64 (j-1)=j-1 from Ae oM oM)])
   refine Ao<|AE<|AZ (Ag 1000 (DU (l:=(mp4 (data'.getD j.toNat default))) (off:=0) (q:=mp1) (k:=(j-1).toNat) (DU (l:=(mp4 (data'.getD (j-1).toNat default))) (off:=0) (q:=mp1) (k:=j.toNat) (AU mp1 mp4 data') au0 (data'.getD (j-1).toNat default) (Do kr)) au0 (data'.getD j.toNat default) (Do kr)))<|rg ⟨[(0,tO (.own 1000 mp1 ((data'.set j.toNat (data'.getD (j-1).toNat default)).set (j-1).toNat (data'.getD j.toNat default)).length)),(1,tI 0),(2,tI n),(3,.av (.one (.clo mp2 1 (BZ [.eptr 1 1 (gD [.clo mp3 0 (fun _=>default)]) 0 0])))),(8,tI i),(9,tI (W64 (j-1)))],[(1000,.row mp1 ((data'.set j.toNat (data'.getD (j-1).toNat default)).set (j-1).toNat (data'.getD j.toNat default)).length (AL mp4 ((data'.set j.toNat (data'.getD (j-1).toNat default)).set (j-1).toNat (data'.getD j.toNat default))) mp5)]⟩ ?_
   (try rw[(show W64 (j-1)=j-1 from Ae oM oM)])
   refine AE ?_;refine⟨(n1,(data'.set j.toNat (data'.getD (j-1).toNat default)).set (j-1).toNat (data'.getD j.toNat default),j-1),⟨?_,?_,(by rw[<- np];simp only[mp9,h2,mi,mj])⟩,lz _,Az kr⟩
   ·dsimp only;omega
   exact⟨ax0,ax0,ax0⟩
  refine Aw<|Aj<|Aj<|Ay<|Ao<|AE<|rg ⟨[(0,tO (.own 1000 mp1 data'.length)),(1,tI 0),(2,tI n),(3,.av (.one (.clo mp2 1 (BZ [.eptr 1 1 (gD [.clo mp3 0 (fun _=>default)]) 0 0])))),(8,tI (W64 (i+1)))],[(1000,.row mp1 data'.length (AL mp4 data') mp5)]⟩ ?_
  (try rw[(show W64 (i+1)=i+1 from Ae oM oM)])
  refine AE ?_;refine⟨(n0,data',i+1),⟨?_,?_,(by rw[<- np];simp only[mp9,h2,mi,mj])⟩,lz _,Az kr⟩
  ·dsimp only;omega
  exact⟨ax0,ax0,ax0,ax0⟩
 have g1:=oF h1;exact Aw<|Aj<|Aj<|Ay<|xn (.tup []) ⟨F5 rfl,.row mp1 data.length (AL mp4 data) mp5,by kernel_rfl,HS (c:=mp4) (xs:=data) (by rw[<- ng];first|(simp only[mp7,h1,mi,mj]<;>rfl)) au27⟩):p:=h
section
 open Go.Proofs.YtheobjkgllmnmaaGreat renaming nn6→mp1,Ue→mp2,sO→mp3,AM.c→mp4,gG→mp5,AM→mp6,O4→mp7,Qt→mp8,O3→mp9,Z0j→mp10,Ov→mp11,pcmpT→mp12
 open Go.Proofs.Tryz renaming func181→mp0
theorem pInsT(l:(List AM))(n:Int)(hn:n=(l.length:Int))(hl:l.length<20):WrR Tryz.prog 181 1000 [.one (.own 1000 6 l.length),.one (.i 0),.one (.i n),.one (.clo 154 1 (BZ [.eptr 1 1 (gD [.clo 109 0 dfc]) 0 0]))] 6 l.length (AL AM.c l) 150 (.tup []) (AL AM.c (Qt l n)):=ai
end
section
 open Go.Proofs.YtheobjkgllmnmaaGreat renaming Qt→mp0,Ov→mp1,O4→mp2,O3→mp3
theorem Zh(l:List AM)(n:Int)(hn:n=(l.length:Int)):Qt l n=CY (fun x y=>decide (Ov x y<0)) l:=tG
end
theorem VY(l:List AM)(n:Int)(hn:n=(l.length:Int))(hl:l.length<20):(Qt l n).length=l.length:=by rw[Zh l n hn,Cu]
def Z0k:CT:=(181,([.one (.own 1000 6 l.length),.one (.i 0),.one (.i n),.one (.clo 154 1 (BZ [.eptr 1 1 (fun _ j_=>([.clo 109 0 dfc]:List Cl).getD j_ default) 0 0]))]:List Av).map (Jy 1000 1000),wrI 1000 (.row 6 l.length (AL AM.c l) 150) (.tup []) (.row 6 l.length (AL AM.c (Qt l n)) 150))
def VR(l:(List AM))(n:Int):(List AM):=Qt l n
theorem ah{p:Prop}(h:p:=by
 refine HG mp0 rfl kr kr kr fun W0 M0 X hX=>?_;refine AA<|on<|AA<|rn ⟨[(0,tO (.own 1000 mp1 l.length)),(1,tI n),(2,.av (.one (.clo mp2 1 (BZ [.eptr 1 1 (gD [.clo mp3 0 (fun _=>default)]) 0 0])))),(6,tI 20),(7,tI 0),(8,tI 20)],[(1000,.row mp1 l.length (AL mp4 l) mp5)]⟩<|AA<|AJ<|Dq 1<|Bs<|AA<|AA<|rn ⟨[(0,tO (.own 1000 mp1 l.length)),(1,tI n),(2,.av (.one (.clo mp2 1 (BZ [.eptr 1 1 (gD [.clo mp3 0 (fun _=>default)]) 0 0])))),(6,tI 20),(7,tI 0),(8,tI 20),(13,tB (decide ((20:Int)<=n)))],[(1000,.row mp1 l.length (AL mp4 l) mp5)]⟩ ?_;have h1:(decide ((20:Int)<=n))=false:=lk oM;have g1:=oF h1;refine BC _ rfl (fun h=>absurd (h1.symm.trans h) m4) (fun _=>?_);refine Aw<|Aj<|Aj<|Ay<|AE<|AA<|rb 27 (mp6 l n) (.row mp1 l.length (AL mp4 l) mp5) ⟨[(0,tO (.own 1000 mp1 l.length)),(1,tI n),(2,.av (.one (.clo mp2 1 (BZ [.eptr 1 1 (gD [.clo mp3 0 (fun _=>default)]) 0 0])))),(6,tI 20)],[(1000,.row mp1 l.length (AL mp4 (mp7 l n)) mp5)]⟩ (HR (fun _ _=>kr) kr (mp8 l n au6 au6))<|AE<|AZ (GJ (⟨[(0,tO (.own 1000 mp1 (mp7 l n).length)),(1,tI n),(2,.av (.one (.clo mp2 1 (BZ [.eptr 1 1 (gD [.clo mp3 0 (fun _=>default)]) 0 0])))),(6,tI 20)],[(1000,.row mp1 (mp7 l n).length (AL mp4 (mp7 l n)) mp5)]⟩) 1000 (MS mp1 mp4 (mp7 l n) (mp9 l n au6 au6)))<|AJ<|Dq 1<|Bs<|AA<|AA<|rn ⟨[(0,tO (.own 1000 mp1 (mp7 l n).length)),(1,tI n),(2,.av (.one (.clo mp2 1 (BZ [.eptr 1 1 (gD [.clo mp3 0 (fun _=>default)]) 0 0])))),(6,tI 20),(30,tB (decide ((20:Int)<n)))],[(1000,.row mp1 (mp7 l n).length (AL mp4 (mp7 l n)) mp5)]⟩ ?_
 have h2:(decide ((20:Int)<n))=false:=lk oM;have g2:=oF h2;refine BC _ rfl (fun h=>absurd (h2.symm.trans h) m4) (fun _=>?_);exact Aw<|Aj<|Aj<|Ay<|xn (.tup []) ⟨F5 rfl,.row mp1 (mp7 l n).length (AL mp4 (mp7 l n)) mp5,by kernel_rfl,HS (c:=mp4) (xs:=mp7 l n) (by simp only[mp10,h1,h2,mi,mj]<;>rfl) (mp9 l n hn hl)⟩):p:=h
section
 open Go.Proofs.YtheobjkgllmnmaaGreat renaming nn6→mp1,Ue→mp2,sO→mp3,AM.c→mp4,gG→mp5,Z0k→mp6,Qt→mp7,pInsT→mp8,VY→mp9,VR→mp10
 open Go.Proofs.Tryz renaming func168→mp0
theorem pStaT(l:(List AM))(n:Int)(hn:n=(l.length:Int))(hl:l.length<20):WrR Tryz.prog 168 1000 [.one (.own 1000 6 l.length),.one (.i n),.one (.clo 154 1 (BZ [.eptr 1 1 (gD [.clo 109 0 dfc]) 0 0]))] 6 l.length (AL AM.c l) 150 (.tup []) (AL AM.c (VR l n)):=ah
end
theorem VQ(l:List AM)(n:Int)(hn:n=(l.length:Int))(hl:l.length<20):(VR l n).length=l.length:=VY l n hn hl
def Z0l:CT:=(168,([.one (.own 1000 6 l.length),.one (.i (l.length:Int)),.one (.clo 154 1 (BZ [.eptr 1 1 (fun _ j_=>([.clo 109 0 dfc]:List Cl).getD j_ default) 0 0]))]:List Av).map (Jy 1000 1000),wrI 1000 (.row 6 l.length (AL AM.c l) 150) (.tup []) (.row 6 l.length (AL AM.c (VR l (l.length:Int))) 150))
def Tz(l:(List AM)):(List AM):=VR l (l.length:Int)
theorem af{p:Prop}(h:p:=by
 refine HG mp0 rfl kr kr kr fun W0 M0 X hX=>?_;exact rb 8 (mp1 l) (.row mp2 l.length (AL mp3 l) mp4) ⟨[],[(1000,.row mp2 l.length (AL mp3 (mp5 l (l.length:Int))) mp4)]⟩ (HR (fun _ _=>kr) kr (mp6 l (l.length:Int) au6 au6))<|yn (Ag 1000 (MS mp2 mp3 (mp5 l (l.length:Int)) (mp7 l (l.length:Int) au6 au6))) (.tup []) ⟨F5 rfl,.row mp2 (mp5 l (l.length:Int)).length (AL mp3 (mp5 l (l.length:Int))) mp4,by kernel_rfl,HS (c:=mp3) (xs:=mp5 l (l.length:Int)) (by rfl) (mp7 l _ rfl hl)⟩):p:=h
section
 open Go.Proofs.YtheobjkgllmnmaaGreat renaming Z0l→mp1,nn6→mp2,AM.c→mp3,gG→mp4,VR→mp5,pStaT→mp6,VQ→mp7
 open Go.Proofs.Tryz renaming func153→mp0
theorem pSrtT(l:(List AM))(hl:l.length<20):WrR Tryz.prog 153 1000 [.one (.own 1000 6 l.length),.one (.clo 154 1 (BZ [.eptr 1 1 (gD [.clo 109 0 dfc]) 0 0]))] 6 l.length (AL AM.c l) 150 (.tup []) (AL AM.c (Tz l)):=af
end
theorem lX(l:List AM)(hl:l.length<20):(Tz l).length=l.length:=VQ l _ rfl hl
theorem xB(l:List AM):Tz l=CY (fun x y=>decide (Ov x y<0)) l:=Zh l _ rfl
def Z0m:CT:=(153,([.one (.own 1000 6 out.length),.one (.clo 154 1 (BZ [.eptr 1 1 (fun _ j_=>([.clo 109 0 dfc]:List Cl).getD j_ default) 0 0]))]:List Av).map (Jy 1000 2000),wrI 2000 (.row 6 out.length (AL AM.c out) 150) (.tup []) (.row 6 out.length (AL AM.c (Tz out)) 150))
def Hu(l:(List AM)):Nat->List AM->Int->(List AM)
 |0,_,_=>default
 |n0+1,out,nt=>bif decide ((nt:Int)<(l.length:Int))then((Hu l n0) (out++[cj (l.getD nt.toNat default)]) (nt+1))else(Tz out)
def FA(l:(List AM)):(List AM):=Hu l (((l.length:Int)-0).toNat+1) ([]:List AM) 0
theorem ae{p:Prop}(h:p:=by
 refine DC mp0 rfl kr (Df _ _) fun W0 M0=>?_;refine AA<|on<|AA<|on<|AA<|AA<|rn ⟨[(1,.av (.one (.clo mp1 0 (fun _=>default)))),(5,tP 5 0),(7,.av (.one vN)),(10,tO (lst mp2 mp3 l)),(11,tI (l.length:Int)),(12,tI 0)],[(5,.cells [.clo mp4 0 (fun _=>default)] mp5)]⟩<|AJ<|AZ (Cv.trans (vg 2000 mp2 m8 mp6 [(7,[0])] [] hk0) (Cv.trans (Ag 2000 (Bh mp2 m8 mp3)) (ck (⟨[(1,.av (.one (.clo mp1 0 (fun _=>default)))),(5,tP 5 0),(7,tO (.own 2000 mp2 ([]:List mp7).length)),(10,tO (lst mp2 mp3 l)),(11,tI (l.length:Int)),(12,tI 0)],[(5,.cells [.clo mp4 0 (fun _=>default)] mp5),(2000,.row mp2 ([]:List mp7).length (AL mp3 ([]:List mp7)) mp6)]⟩))))<|lpC (κ:=List mp7×Int) (fun x=>⟨[(1,.av (.one (.clo mp1 0 (fun _=>default)))),(5,tP 5 0),(7,tO (.own 2000 mp2 x.2.1.length)),(10,tO (lst mp2 mp3 l)),(11,tI (l.length:Int)),(12,tI x.2.2)],[(5,.cells [.clo mp4 0 (fun _=>default)] mp5),(2000,.row mp2 x.2.1.length (AL mp3 x.2.1) mp6)]⟩) (fun x=>((l.length:Int)-x.2.2).toNat) (fun x=>(0<=x.2.2/\(x.2.2<=(l.length:Int)\/x.2.2=0)/\(x.2.1.length:Int)<=0+1*(x.2.2-0))/\mp8 l x.1 x.2.1 x.2.2=mp9 l) ?_ (((l.length:Int)-0).toNat+1,([]:List mp7),0) ⟨lz _,⟨ax0,ax0,ax0⟩,(by simp only[mp9,mi,mj])⟩;rintro n0 ⟨out,nt⟩ nq ⟨nm,ng⟩
 try dsimp only at nq nm ng
 refine AA<|on<|AA<|kb (decide ((nt:Int)<(l.length:Int))) (fun h1=>?_) (fun h1=>?_)
 ·have g1:=oT h1;refine AP<|AE<|AA<|AJ<|AA<|oc [] [0<=(nt:Int)/\(nt:Int)<(l.length:Int)] .nil (H1 au0)<|AE<|oo _ [none,out.length=out.length,out.length+1<=maxLen,(out.length+1)*mp10<=140737488355328] (J1 19 (mp11 (l.getD nt.toNat default))) (H3 rfl au2 au2)<|Ao<|AE<|AZ (Ag 21 (Ac (AU mp2 mp3 out) (Ai mp2 mp3 ([mp12 (l.getD nt.toNat default)]:List mp7))))<|rg ⟨[(1,.av (.one (.clo mp1 0 (fun _=>default)))),(5,tP 5 0),(7,tO (.own 21 mp2 (out++[mp12 (l.getD nt.toNat default)]).length)),(10,tO (lst mp2 mp3 l)),(11,tI (l.length:Int)),(12,tI (W64 (nt+1)))],[(5,.cells [.clo mp4 0 (fun _=>default)] mp5),(21,.row mp2 (out++[mp12 (l.getD nt.toNat default)]).length (AL mp3 (out++[mp12 (l.getD nt.toNat default)])) mp6)]⟩ ?_
  (try rw[(show W64 (nt+1)=nt+1 from Ae oM au5)])
  refine AE ?_;refine⟨(n0,out++[mp12 (l.getD nt.toNat default)],nt+1),⟨?_,?_,(by rw[<- ng];simp only[mp8,h1,mi,mj])⟩,lz _,Cv.trans (vr 21 2000 hk0) (Az kr)⟩
  ·dsimp only;omega
  exact⟨ax0,ax0,ax0⟩
 have g1:=oF h1;exact Aw<|Aj<|Aj<|Ay<|AE<|AA<|AZ (Jq (⟨[(1,.av (.one (.clo mp1 0 (fun _=>default)))),(5,.av (.one (.eptr 1 1 (gD [.clo mp4 0 (fun _=>default)]) 0 0))),(7,tO (.own 2000 mp2 out.length)),(10,tO (lst mp2 mp3 l)),(11,tI (l.length:Int)),(12,tI nt),(13,tB (decide ((nt:Int)<(l.length:Int))))],[(2000,.row mp2 out.length (AL mp3 out) mp6)]⟩) 5 [.clo mp4 0 (fun _=>default)] mp5 hk0 kr kr kr kr)<|rb 25 (mp13 out) (.row mp2 out.length (AL mp3 out) mp6) ⟨[(7,tO (.own 2000 mp2 out.length))],[(2000,.row mp2 out.length (AL mp3 (mp14 out)) mp6)]⟩ (HR (fun _ _=>kr) kr (mp15 out au6))<|AE<|AZ (Ag 2000 (MS mp2 mp3 (mp14 out) (mp16 out au6)))<|AA<|on<|AO<|xl (tO (.own 2000 mp2 (mp14 out).length)) (frE (c:=mp3) (xs:=mp14 out) (by rw[<- ng];first|(simp only[mp8,h1,mi,mj]<;>rfl)) kr)):p:=h
section
 open Go.Proofs.YtheobjkgllmnmaaGreat renaming nn108→mp1,nn6→mp2,AM.c→mp3,sO→mp4,nn220→mp5,gG→mp6,AM→mp7,Hu→mp8,FA→mp9,Wu→mp10,okasT→mp11,cj→mp12,Z0m→mp13,Tz→mp14,pSrtT→mp15,lX→mp16
 open Go.Proofs.Tryz renaming func107→mp0
theorem qT(l:(List AM))(hl:l.length<20):Fr Tryz.prog 107 [.one (lst 6 AM.c l),.one (.clo 108 0 dfc),.one (.clo 109 0 dfc)] (.row 6 (FA l).length (AL AM.c (FA l)) 150) (fun d=>tO (.own d 6 (FA l).length)):=ae
end
def Z0n:CT:=(107,[.one (lst 6 AM.c b.Tracks),.one (.clo 108 0 dfc),.one (.clo 109 0 dfc)],.new [] (.row 6 (FA b.Tracks).length (AL AM.c (FA b.Tracks)) 150) (fun d=>.av (.one (.own d 6 (FA b.Tracks).length))))
def Bv(b:AC):(List AM):=FA b.Tracks
theorem yB(b:AC)(hl:b.Tracks.length<20):Fr Tryz.prog 52 [.agg (AC.c b)] (.row 6 (Bv b).length (AL AM.c (Bv b)) 150) (fun d=>tO (.own d 6 (Bv b).length)):=by
 refine DC Tryz.func52 rfl kr (Df _ _) fun W0 M0=>?_;exact AA<|on<|AA<|oq 5 (Z0n b) (DQ (fun _ _=>kr) (qT b.Tracks au6))<|AE<|AO<|xl (tO (.own 5 6 (FA b.Tracks).length)) (frE (c:=AM.c) (xs:=FA b.Tracks) (by rfl) kr)
def bg:CT:=(52,[.agg (AC.c b)],.new [] (.row 6 (Bv b).length (AL AM.c (Bv b)) 150) (fun d=>.av (.one (.own d 6 (Bv b).length))))
theorem rU(b:AC)(hl:b.Tracks.length<20):OKc (bg b):=DQ (fun _ _=>kr) (yB b hl)
theorem ZZ(l:List AM):FA l=CY (fun x y=>decide (Ov x y<0)) l:=by
 unfold FA;have h:=lH l (Hu l) (fun acc _=>Tz acc) (fun m acc v=>by
  rw[Hu,l9];rfl) l.length 0 ((((l.length:Int))-0).toNat+1) [] rfl (lv _) mz
 rw[km,kn]at h;exact h.trans (xB l)
theorem N5(b:AC):Bv b=CY (fun x y=>decide (Ov x y<0)) b.Tracks:=ZZ _
theorem Qm{b:AC}{x:AM}:x∈Bv b↔x∈b.Tracks:=by rw[N5];exact Kr _ _ _
theorem Qn(b:AC):(Bv b).length=b.Tracks.length:=by rw[N5];exact Cu _ _
def ch(t:Ak):Ak:=t
def casV(t:Ak):CT:=(111,[.agg (Ak.c t)],.val [] (.av (.agg (Ak.c (ch t)))))
theorem pasV(t:Ak):PuP 111 (casV t).2.1 (.av (.agg (Ak.c (ch t)))):=by
 refine pwf Tryz.func111 fun W0 M0=>?_;exact AA<|on<|AA<|on<|AO<|zl
theorem okasV(t:Ak):OKc (casV t):=cPu<|pasV t
def lS(t:Ak):Int:=t.Id
def cidV(t:Ak):CT:=(112,[.agg (Ak.c t)],.val [] (.av (.one (.i (lS t)))))
theorem pidV(t:Ak):PuP 112 (cidV t).2.1 (tO (.i (lS t))):=by
 refine pwf Tryz.func112 fun W0 M0=>?_;exact AA<|on<|AA<|on<|AO<|zl
theorem dg(t:Ak):OKc (cidV t):=cPu<|pidV t
def Ou(a:Ak)(b_:Ak):Int:=Dk (lS a) (lS b_)
theorem pcmpV (a:Ak)(b_:Ak):G4 Tryz.prog 156 [.agg (Ak.c a),.agg (Ak.c b_),.one (.eptr 1 1 (gD [.clo 112 0 dfc]) 0 0)] (tO (.i (Ou a b_))):=by
 refine pwf Tryz.func156 fun W0 M0=>?_;exact AA<|on<|AA<|oe [] _ [none,none,none] (J3 8 11 12 (dg a) (dg b_) (J5 (lS a) (lS b_))) .nil<|AE<|AO<|zl
def Z0o(data':List Ak)(j:Int):CT:=(156,[.agg (Ak.c (data'.getD j.toNat default)),.agg (Ak.c (data'.getD (W64 (j-1)).toNat default)),.one (.eptr 1 1 (fun _ j_=>([.clo 112 0 dfc]:List Cl).getD j_ default) 0 0)],.val [] (tI (Ou (data'.getD j.toNat default) (data'.getD (W64 (j-1)).toNat default))))
def O1(l:(List Ak))(n:Int)(data:List Ak)(i:Int)(K0:List Ak->Int->(List Ak)):Nat->List Ak->Int->(List Ak)
 |0,_,_=>default
 |n1+1,data',j=>bif bif decide ((0:Int)<j)then decide (((Ou (data'.getD j.toNat default) (data'.getD (j-1).toNat default)):Int)<0)else false then((O1 l n data i K0 n1) ((data'.set j.toNat (data'.getD (j-1).toNat default)).set (j-1).toNat (data'.getD j.toNat default)) (j-1))else(K0 data' (i+1))
def O2(l:(List Ak))(n:Int):Nat->List Ak->Int->(List Ak)
 |0,_,_=>default
 |n0+1,data,i=>bif decide ((i:Int)<n)then(O1 l n data i (O2 l n n0) (i.toNat+1) data i)else data
def Qs(l:(List Ak))(n:Int):(List Ak):=O2 l n ((n-1).toNat+1) l 1
section
 open Go.Proofs.YtheobjkgllmnmaaGreat renaming nn8→mp1,dn→mp2,sN→mp3,Ak.c→mp4,Ue→mp5,Ak→mp6,O2→mp7,Qs→mp8,O1→mp9,Z0o→mp10,Ou→mp11,pcmpV→mp12
 open Go.Proofs.Tryz renaming func183→mp0
theorem pInsV(l:(List Ak))(n:Int)(hn:n=(l.length:Int))(hl:l.length<20):WrR Tryz.prog 183 1000 [.one (.own 1000 8 l.length),.one (.i 0),.one (.i n),.one (.clo 156 1 (BZ [.eptr 1 1 (gD [.clo 112 0 dfc]) 0 0]))] 8 l.length (AL Ak.c l) 154 (.tup []) (AL Ak.c (Qs l n)):=ai
end
section
 open Go.Proofs.YtheobjkgllmnmaaGreat renaming Qs→mp0,Ou→mp1,O2→mp2,O1→mp3
theorem Zg(l:List Ak)(n:Int)(hn:n=(l.length:Int)):Qs l n=CY (fun x y=>decide (Ou x y<0)) l:=tG
end
theorem VX(l:List Ak)(n:Int)(hn:n=(l.length:Int))(hl:l.length<20):(Qs l n).length=l.length:=by rw[Zg l n hn,Cu]
def Z0p(l:(List Ak))(n:Int):CT:=(183,([.one (.own 1000 8 l.length),.one (.i 0),.one (.i n),.one (.clo 156 1 (BZ [.eptr 1 1 (fun _ j_=>([.clo 112 0 dfc]:List Cl).getD j_ default) 0 0]))]:List Av).map (Jy 1000 1000),wrI 1000 (.row 8 l.length (AL Ak.c l) 154) (.tup []) (.row 8 l.length (AL Ak.c (Qs l n)) 154))
def VP(l:(List Ak))(n:Int):(List Ak):=Qs l n
section
 open Go.Proofs.YtheobjkgllmnmaaGreat renaming nn8→mp1,dn→mp2,sN→mp3,Ak.c→mp4,Ue→mp5,Z0p→mp6,Qs→mp7,pInsV→mp8,VX→mp9,VP→mp10
 open Go.Proofs.Tryz renaming func169→mp0
theorem pStaV(l:(List Ak))(n:Int)(hn:n=(l.length:Int))(hl:l.length<20):WrR Tryz.prog 169 1000 [.one (.own 1000 8 l.length),.one (.i n),.one (.clo 156 1 (BZ [.eptr 1 1 (gD [.clo 112 0 dfc]) 0 0]))] 8 l.length (AL Ak.c l) 154 (.tup []) (AL Ak.c (VP l n)):=ah
end
theorem VO(l:List Ak)(n:Int)(hn:n=(l.length:Int))(hl:l.length<20):(VP l n).length=l.length:=VX l n hn hl
def Z0q(l:(List Ak)):CT:=(169,([.one (.own 1000 8 l.length),.one (.i (l.length:Int)),.one (.clo 156 1 (BZ [.eptr 1 1 (fun _ j_=>([.clo 112 0 dfc]:List Cl).getD j_ default) 0 0]))]:List Av).map (Jy 1000 1000),wrI 1000 (.row 8 l.length (AL Ak.c l) 154) (.tup []) (.row 8 l.length (AL Ak.c (VP l (l.length:Int))) 154))
def Tx(l:(List Ak)):(List Ak):=VP l (l.length:Int)
section
 open Go.Proofs.YtheobjkgllmnmaaGreat renaming Z0q→mp1,nn8→mp2,Ak.c→mp3,Ue→mp4,VP→mp5,pStaV→mp6,VO→mp7
 open Go.Proofs.Tryz renaming func155→mp0
theorem pSrtV(l:(List Ak))(hl:l.length<20):WrR Tryz.prog 155 1000 [.one (.own 1000 8 l.length),.one (.clo 156 1 (BZ [.eptr 1 1 (gD [.clo 112 0 dfc]) 0 0]))] 8 l.length (AL Ak.c l) 154 (.tup []) (AL Ak.c (Tx l)):=af
end
theorem lW(l:List Ak)(hl:l.length<20):(Tx l).length=l.length:=VO l _ rfl hl
theorem xA(l:List Ak):Tx l=CY (fun x y=>decide (Ou x y<0)) l:=Zg l _ rfl
def Z0r(out:List Ak):CT:=(155,([.one (.own 1000 8 out.length),.one (.clo 156 1 (BZ [.eptr 1 1 (fun _ j_=>([.clo 112 0 dfc]:List Cl).getD j_ default) 0 0]))]:List Av).map (Jy 1000 2000),wrI 2000 (.row 8 out.length (AL Ak.c out) 154) (.tup []) (.row 8 out.length (AL Ak.c (Tx out)) 154))
def Ht(l:(List Ak)):Nat->List Ak->Int->(List Ak)
 |0,_,_=>default
 |n0+1,out,nt=>bif decide ((nt:Int)<(l.length:Int))then((Ht l n0) (out++[ch (l.getD nt.toNat default)]) (nt+1))else(Tx out)
def E9(l:(List Ak)):(List Ak):=Ht l (((l.length:Int)-0).toNat+1) ([]:List Ak) 0
section
 open Go.Proofs.YtheobjkgllmnmaaGreat renaming nn111→mp1,nn8→mp2,Ak.c→mp3,sN→mp4,nn224→mp5,Ue→mp6,Ak→mp7,Ht→mp8,E9→mp9,Wu→mp10,okasV→mp11,ch→mp12,Z0r→mp13,Tx→mp14,pSrtV→mp15,lW→mp16
 open Go.Proofs.Tryz renaming func110→mp0
theorem qS(l:(List Ak))(hl:l.length<20):Fr Tryz.prog 110 [.one (lst 8 Ak.c l),.one (.clo 111 0 dfc),.one (.clo 112 0 dfc)] (.row 8 (E9 l).length (AL Ak.c (E9 l)) 154) (fun d=>tO (.own d 8 (E9 l).length)):=ae
end
def Z0s:CT:=(110,[.one (lst 8 Ak.c b.Vias),.one (.clo 111 0 dfc),.one (.clo 112 0 dfc)],.new [] (.row 8 (E9 b.Vias).length (AL Ak.c (E9 b.Vias)) 154) (fun d=>.av (.one (.own d 8 (E9 b.Vias).length))))
def BL(b:AC):(List Ak):=E9 b.Vias
theorem qvias(b:AC)(hl:b.Vias.length<20):Fr Tryz.prog 54 [.agg (AC.c b)] (.row 8 (BL b).length (AL Ak.c (BL b)) 154) (fun d=>tO (.own d 8 (BL b).length)):=by
 refine DC Tryz.func54 rfl kr (Df _ _) fun W0 M0=>?_;exact AA<|on<|AA<|oq 5 (Z0s b) (DQ (fun _ _=>kr) (qS b.Vias au6))<|AE<|AO<|xl (tO (.own 5 8 (E9 b.Vias).length)) (frE (c:=Ak.c) (xs:=E9 b.Vias) (by rfl) kr)
def cvias:CT:=(54,[.agg (AC.c b)],.new [] (.row 8 (BL b).length (AL Ak.c (BL b)) 154) (fun d=>.av (.one (.own d 8 (BL b).length))))
theorem rS(b:AC)(hl:b.Vias.length<20):OKc (cvias b):=DQ (fun _ _=>kr) (qvias b hl)
theorem ZY(l:List Ak):E9 l=CY (fun x y=>decide (Ou x y<0)) l:=by
 unfold E9;have h:=lH l (Ht l) (fun acc _=>Tx acc) (fun m acc v=>by
  rw[Ht,l9];rfl) l.length 0 ((((l.length:Int))-0).toNat+1) [] rfl (lv _) mz
 rw[km,kn]at h;exact h.trans (xA l)
theorem ZX(b:AC):BL b=CY (fun x y=>decide (Ou x y<0)) b.Vias:=ZY _
theorem Mp(b:AC):(BL b).length=b.Vias.length:=by rw[ZX];exact Cu _ _
def cn(t:AD):AD:=t
def casQ(t:AD):CT:=(116,[.agg (AD.c t)],.val [] (.av (.agg (AD.c (cn t)))))
theorem pasQ(t:AD):PuP 116 (casQ t).2.1 (.av (.agg (AD.c (cn t)))):=by
 refine pwf Tryz.func116 fun W0 M0=>?_;exact AA<|on<|AA<|on<|AO<|zl
theorem okasQ(t:AD):OKc (casQ t):=cPu<|pasQ t
def lV(t:AD):Int:=t.Id
def cidQ(t:AD):CT:=(117,[.agg (AD.c t)],.val [] (.av (.one (.i (lV t)))))
theorem pidQ(t:AD):PuP 117 (cidQ t).2.1 (tO (.i (lV t))):=by
 refine pwf Tryz.func117 fun W0 M0=>?_;exact AA<|on<|AA<|on<|AO<|zl
theorem dj(t:AD):OKc (cidQ t):=cPu<|pidQ t
def Oy(a:AD)(b_:AD):Int:=Dk (lV a) (lV b_)
theorem pcmpQ (a:AD)(b_:AD):G4 Tryz.prog 160 [.agg (AD.c a),.agg (AD.c b_),.one (.eptr 1 1 (gD [.clo 117 0 dfc]) 0 0)] (tO (.i (Oy a b_))):=by
 refine pwf Tryz.func160 fun W0 M0=>?_;exact AA<|on<|AA<|oe [] _ [none,none,none] (J3 8 11 12 (dj a) (dj b_) (J5 (lV a) (lV b_))) .nil<|AE<|AO<|zl
def Z0t(data':List AD)(j:Int):CT:=(160,[.agg (AD.c (HB data' j)),.agg (AD.c (data'.getD (W64 (j-1)).toNat default)),.one (.eptr 1 1 (fun _ j_=>([.clo 117 0 dfc]:List Cl).getD j_ default) 0 0)],.val [] (tI (Oy (HB data' j) (data'.getD (W64 (j-1)).toNat default))))
def O7(l:(List AD))(n:Int)(data:List AD)(i:Int)(K0:List AD->Int->(List AD)):Nat->List AD->Int->(List AD)
 |0,_,_=>default
 |n1+1,data',j=>bif bif decide ((0:Int)<j)then decide (((Oy (data'.getD j.toNat default) (data'.getD (j-1).toNat default)):Int)<0)else false then((O7 l n data i K0 n1) ((data'.set j.toNat (data'.getD (j-1).toNat default)).set (j-1).toNat (data'.getD j.toNat default)) (j-1))else(K0 data' (i+1))
def O8(l:(List AD))(n:Int):Nat->List AD->Int->(List AD)
 |0,_,_=>default
 |n0+1,data,i=>bif decide ((i:Int)<n)then(O7 l n data i (O8 l n n0) (i.toNat+1) data i)else data
def Qv(l:(List AD))(n:Int):(List AD):=O8 l n ((n-1).toNat+1) l 1
section
 open Go.Proofs.YtheobjkgllmnmaaGreat renaming nn7→mp1,Ud→mp2,sM→mp3,AD.c→mp4,Ud→mp5,AD→mp6,O8→mp7,Qv→mp8,O7→mp9,Z0t→mp10,Oy→mp11,pcmpQ→mp12
 open Go.Proofs.Tryz renaming func185→mp0
theorem pInsQ(l:(List AD))(n:Int)(hn:n=(l.length:Int))(hl:l.length<20):WrR Tryz.prog 185 1000 [.one (.own 1000 7 l.length),.one (.i 0),.one (.i n),.one (.clo 160 1 (BZ [.eptr 1 1 (gD [.clo 117 0 dfc]) 0 0]))] 7 l.length (AL AD.c l) 160 (.tup []) (AL AD.c (Qv l n)):=ai
end
section
 open Go.Proofs.YtheobjkgllmnmaaGreat renaming Qv→mp0,Oy→mp1,O8→mp2,O7→mp3
theorem Zj(l:List AD)(n:Int)(hn:n=(l.length:Int)):Qv l n=CY (fun x y=>decide (Oy x y<0)) l:=tG
end
theorem Va(l:List AD)(n:Int)(hn:n=(l.length:Int))(hl:l.length<20):(Qv l n).length=l.length:=by rw[Zj l n hn,Cu]
def Z0u(l:(List AD))(n:Int):CT:=(185,([.one (Ld l),.one (.i 0),.one (.i n),.one (.clo 160 1 (BZ [.eptr 1 1 (fun _ j_=>([.clo 117 0 dfc]:List Cl).getD j_ default) 0 0]))]:List Av).map (Jy 1000 1000),wrI 1000 (.row 7 l.length (AL AD.c l) 160) (.tup []) (.row 7 l.length (AL AD.c (Qv l n)) 160))
def VV(l:(List AD))(n:Int):(List AD):=Qv l n
section
 open Go.Proofs.YtheobjkgllmnmaaGreat renaming nn7→mp1,Ud→mp2,sM→mp3,AD.c→mp4,Ud→mp5,Z0u→mp6,Qv→mp7,pInsQ→mp8,Va→mp9,VV→mp10
 open Go.Proofs.Tryz renaming func170→mp0
theorem pStaQ(l:(List AD))(n:Int)(hn:n=(l.length:Int))(hl:l.length<20):WrR Tryz.prog 170 1000 [.one (.own 1000 7 l.length),.one (.i n),.one (.clo 160 1 (BZ [.eptr 1 1 (gD [.clo 117 0 dfc]) 0 0]))] 7 l.length (AL AD.c l) 160 (.tup []) (AL AD.c (VV l n)):=ah
end
theorem VU(l:List AD)(n:Int)(hn:n=(l.length:Int))(hl:l.length<20):(VV l n).length=l.length:=Va l n hn hl
def Z0v(l:(List AD)):CT:=(170,([.one (Ld l),.one (.i (l.length:Int)),.one (.clo 160 1 (BZ [.eptr 1 1 (fun _ j_=>([.clo 117 0 dfc]:List Cl).getD j_ default) 0 0]))]:List Av).map (Jy 1000 1000),wrI 1000 (.row 7 l.length (AL AD.c l) 160) (.tup []) (.row 7 l.length (AL AD.c (VV l (l.length:Int))) 160))
def T3(l:(List AD)):(List AD):=VV l (l.length:Int)
section
 open Go.Proofs.YtheobjkgllmnmaaGreat renaming Z0v→mp1,nn7→mp2,AD.c→mp3,Ud→mp4,VV→mp5,pStaQ→mp6,VU→mp7
 open Go.Proofs.Tryz renaming func159→mp0
theorem pSrtQ(l:(List AD))(hl:l.length<20):WrR Tryz.prog 159 1000 [.one (.own 1000 7 l.length),.one (.clo 160 1 (BZ [.eptr 1 1 (gD [.clo 117 0 dfc]) 0 0]))] 7 l.length (AL AD.c l) 160 (.tup []) (AL AD.c (T3 l)):=af
end
theorem lZ(l:List AD)(hl:l.length<20):(T3 l).length=l.length:=VU l _ rfl hl
theorem xD(l:List AD):T3 l=CY (fun x y=>decide (Oy x y<0)) l:=Zj l _ rfl
def Z0w(out:List AD):CT:=(159,([.one (.own 1000 7 out.length),.one (.clo 160 1 (BZ [.eptr 1 1 (fun _ j_=>([.clo 117 0 dfc]:List Cl).getD j_ default) 0 0]))]:List Av).map (Jy 1000 2000),wrI 2000 (.row 7 out.length (AL AD.c out) 160) (.tup []) (.row 7 out.length (AL AD.c (T3 out)) 160))
def Hw(l:(List AD)):Nat->List AD->Int->(List AD)
 |0,_,_=>default
 |n0+1,out,nt=>bif decide ((nt:Int)<(l.length:Int))then((Hw l n0) (out++[cn (l.getD nt.toNat default)]) (nt+1))else(T3 out)
def FC(l:(List AD)):(List AD):=Hw l (((l.length:Int)-0).toNat+1) ([]:List AD) 0
section
 open Go.Proofs.YtheobjkgllmnmaaGreat renaming nn116→mp1,nn7→mp2,AD.c→mp3,sM→mp4,nn228→mp5,Ud→mp6,AD→mp7,Hw→mp8,FC→mp9,Wu→mp10,okasQ→mp11,cn→mp12,Z0w→mp13,T3→mp14,pSrtQ→mp15,lZ→mp16
 open Go.Proofs.Tryz renaming func115→mp0
theorem qV(l:(List AD))(hl:l.length<20):Fr Tryz.prog 115 [.one (lst 7 AD.c l),.one (.clo 116 0 dfc),.one (.clo 117 0 dfc)] (.row 7 (FC l).length (AL AD.c (FC l)) 160) (fun d=>tO (.own d 7 (FC l).length)):=ae
end
def Z0x:CT:=(115,[.one (lst 7 AD.c b.Parts),.one (.clo 116 0 dfc),.one (.clo 117 0 dfc)],.new [] (.row 7 (FC b.Parts).length (AL AD.c (FC b.Parts)) 160) (fun d=>.av (.one (.own d 7 (FC b.Parts).length))))
def Bd(b:AC):(List AD):=FC b.Parts
theorem fa(b:AC)(hl:b.Parts.length<20):Fr Tryz.prog 61 [.agg (AC.c b)] (.row 7 (Bd b).length (AL AD.c (Bd b)) 160) (fun d=>tO (.own d 7 (Bd b).length)):=by
 refine DC Tryz.func61 rfl kr (Df _ _) fun W0 M0=>?_;exact AA<|on<|AA<|oq 5 (Z0x b) (DQ (fun _ _=>kr) (qV b.Parts au6))<|AE<|AO<|xl (tO (.own 5 7 (FC b.Parts).length)) (frE (c:=AD.c) (xs:=FC b.Parts) (by rfl) kr)
def jl:CT:=(61,[.agg (AC.c b)],.new [] (.row 7 (Bd b).length (AL AD.c (Bd b)) 160) (fun d=>.av (.one (.own d 7 (Bd b).length))))
theorem zN(b:AC)(hl:b.Parts.length<20):OKc (jl b):=DQ (fun _ _=>kr) (fa b hl)
theorem Zb(l:List AD):FC l=CY (fun x y=>decide (Oy x y<0)) l:=by
 unfold FC;have h:=lH l (Hw l) (fun acc _=>T3 acc) (fun m acc v=>by
  rw[Hw,l9];rfl) l.length 0 ((((l.length:Int))-0).toNat+1) [] rfl (lv _) mz
 rw[km,kn]at h;exact h.trans (xD l)
theorem QF(b:AC):Bd b=CY (fun x y=>decide (Oy x y<0)) b.Parts:=Zb _
theorem eG(b:AC):(Bd b).length=b.Parts.length:=by rw[QF];exact Cu _ _
def cm(t:AX):AX:=t
def casS(t:AX):CT:=(121,[.agg (AX.c t)],.val [] (.av (.agg (AX.c (cm t)))))
theorem pasS(t:AX):PuP 121 (casS t).2.1 (.av (.agg (AX.c (cm t)))):=by
 refine pwf Tryz.func121 fun W0 M0=>?_;exact AA<|on<|AA<|on<|AO<|zl
theorem okasS(t:AX):OKc (casS t):=cPu<|pasS t
def lU(t:AX):Int:=t.Id
def cidS(t:AX):CT:=(122,[.agg (AX.c t)],.val [] (.av (.one (.i (lU t)))))
theorem pidS(t:AX):PuP 122 (cidS t).2.1 (tO (.i (lU t))):=by
 refine pwf Tryz.func122 fun W0 M0=>?_;exact AA<|on<|AA<|on<|AO<|zl
theorem di(t:AX):OKc (cidS t):=cPu<|pidS t
def Ox(a:AX)(b_:AX):Int:=Dk (lU a) (lU b_)
theorem pcmpS (a:AX)(b_:AX):G4 Tryz.prog 162 [.agg (AX.c a),.agg (AX.c b_),.one (.eptr 1 1 (gD [.clo 122 0 dfc]) 0 0)] (tO (.i (Ox a b_))):=by
 refine pwf Tryz.func162 fun W0 M0=>?_;exact AA<|on<|AA<|oe [] _ [none,none,none] (J3 8 11 12 (di a) (di b_) (J5 (lU a) (lU b_))) .nil<|AE<|AO<|zl
def Z0y(data':List AX)(j:Int):CT:=(162,[.agg (AX.c (data'.getD j.toNat default)),.agg (AX.c (data'.getD (W64 (j-1)).toNat default)),.one (.eptr 1 1 (fun _ j_=>([.clo 122 0 dfc]:List Cl).getD j_ default) 0 0)],.val [] (tI (Ox (data'.getD j.toNat default) (data'.getD (W64 (j-1)).toNat default))))
def O5(l:(List AX))(n:Int)(data:List AX)(i:Int)(K0:List AX->Int->(List AX)):Nat->List AX->Int->(List AX)
 |0,_,_=>default
 |n1+1,data',j=>bif bif decide ((0:Int)<j)then decide (((Ox (data'.getD j.toNat default) (data'.getD (j-1).toNat default)):Int)<0)else false then((O5 l n data i K0 n1) ((data'.set j.toNat (data'.getD (j-1).toNat default)).set (j-1).toNat (data'.getD j.toNat default)) (j-1))else(K0 data' (i+1))
def O6(l:(List AX))(n:Int):Nat->List AX->Int->(List AX)
 |0,_,_=>default
 |n0+1,data,i=>bif decide ((i:Int)<n)then(O5 l n data i (O6 l n n0) (i.toNat+1) data i)else data
def Qu(l:(List AX))(n:Int):(List AX):=O6 l n ((n-1).toNat+1) l 1
section
 open Go.Proofs.YtheobjkgllmnmaaGreat renaming nn4→mp1,dm→mp2,sL→mp3,AX.c→mp4,gF→mp5,AX→mp6,O6→mp7,Qu→mp8,O5→mp9,Z0y→mp10,Ox→mp11,pcmpS→mp12
 open Go.Proofs.Tryz renaming func187→mp0
theorem pInsS(l:(List AX))(n:Int)(hn:n=(l.length:Int))(hl:l.length<20):WrR Tryz.prog 187 1000 [.one (.own 1000 4 l.length),.one (.i 0),.one (.i n),.one (.clo 162 1 (BZ [.eptr 1 1 (gD [.clo 122 0 dfc]) 0 0]))] 4 l.length (AL AX.c l) 165 (.tup []) (AL AX.c (Qu l n)):=ai
end
section
 open Go.Proofs.YtheobjkgllmnmaaGreat renaming Qu→mp0,Ox→mp1,O6→mp2,O5→mp3
theorem Zi(l:List AX)(n:Int)(hn:n=(l.length:Int)):Qu l n=CY (fun x y=>decide (Ox x y<0)) l:=tG
end
theorem VZ(l:List AX)(n:Int)(hn:n=(l.length:Int))(hl:l.length<20):(Qu l n).length=l.length:=by rw[Zi l n hn,Cu]
def Z0z(l:(List AX))(n:Int):CT:=(187,([.one (.own 1000 4 l.length),.one (.i 0),.one (.i n),.one (.clo 162 1 (BZ [.eptr 1 1 (fun _ j_=>([.clo 122 0 dfc]:List Cl).getD j_ default) 0 0]))]:List Av).map (Jy 1000 1000),wrI 1000 (.row 4 l.length (AL AX.c l) 165) (.tup []) (.row 4 l.length (AL AX.c (Qu l n)) 165))
def VT(l:(List AX))(n:Int):(List AX):=Qu l n
section
 open Go.Proofs.YtheobjkgllmnmaaGreat renaming nn4→mp1,dm→mp2,sL→mp3,AX.c→mp4,gF→mp5,Z0z→mp6,Qu→mp7,pInsS→mp8,VZ→mp9,VT→mp10
 open Go.Proofs.Tryz renaming func171→mp0
theorem pStaS(l:(List AX))(n:Int)(hn:n=(l.length:Int))(hl:l.length<20):WrR Tryz.prog 171 1000 [.one (.own 1000 4 l.length),.one (.i n),.one (.clo 162 1 (BZ [.eptr 1 1 (gD [.clo 122 0 dfc]) 0 0]))] 4 l.length (AL AX.c l) 165 (.tup []) (AL AX.c (VT l n)):=ah
end
theorem VS(l:List AX)(n:Int)(hn:n=(l.length:Int))(hl:l.length<20):(VT l n).length=l.length:=VZ l n hn hl
def Z0A(l:(List AX)):CT:=(171,([.one (.own 1000 4 l.length),.one (.i (l.length:Int)),.one (.clo 162 1 (BZ [.eptr 1 1 (fun _ j_=>([.clo 122 0 dfc]:List Cl).getD j_ default) 0 0]))]:List Av).map (Jy 1000 1000),wrI 1000 (.row 4 l.length (AL AX.c l) 165) (.tup []) (.row 4 l.length (AL AX.c (VT l (l.length:Int))) 165))
def T0(l:(List AX)):(List AX):=VT l (l.length:Int)
section
 open Go.Proofs.YtheobjkgllmnmaaGreat renaming Z0A→mp1,nn4→mp2,AX.c→mp3,gF→mp4,VT→mp5,pStaS→mp6,VS→mp7
 open Go.Proofs.Tryz renaming func161→mp0
theorem pSrtS(l:(List AX))(hl:l.length<20):WrR Tryz.prog 161 1000 [.one (.own 1000 4 l.length),.one (.clo 162 1 (BZ [.eptr 1 1 (gD [.clo 122 0 dfc]) 0 0]))] 4 l.length (AL AX.c l) 165 (.tup []) (AL AX.c (T0 l)):=af
end
theorem lY(l:List AX)(hl:l.length<20):(T0 l).length=l.length:=VS l _ rfl hl
theorem xC(l:List AX):T0 l=CY (fun x y=>decide (Ox x y<0)) l:=Zi l _ rfl
def Z0B(out:List AX):CT:=(161,([.one (.own 1000 4 out.length),.one (.clo 162 1 (BZ [.eptr 1 1 (fun _ j_=>([.clo 122 0 dfc]:List Cl).getD j_ default) 0 0]))]:List Av).map (Jy 1000 2000),wrI 2000 (.row 4 out.length (AL AX.c out) 165) (.tup []) (.row 4 out.length (AL AX.c (T0 out)) 165))
def Hv(l:(List AX)):Nat->List AX->Int->(List AX)
 |0,_,_=>default
 |n0+1,out,nt=>bif decide ((nt:Int)<(l.length:Int))then((Hv l n0) (out++[cm (l.getD nt.toNat default)]) (nt+1))else(T0 out)
def FB(l:(List AX)):(List AX):=Hv l (((l.length:Int)-0).toNat+1) ([]:List AX) 0
section
 open Go.Proofs.YtheobjkgllmnmaaGreat renaming nn121→mp1,nn4→mp2,AX.c→mp3,sL→mp4,nn233→mp5,gF→mp6,AX→mp7,Hv→mp8,FB→mp9,kF→mp10,okasS→mp11,cm→mp12,Z0B→mp13,T0→mp14,pSrtS→mp15,lY→mp16
 open Go.Proofs.Tryz renaming func120→mp0
theorem qU(l:(List AX))(hl:l.length<20):Fr Tryz.prog 120 [.one (lst 4 AX.c l),.one (.clo 121 0 dfc),.one (.clo 122 0 dfc)] (.row 4 (FB l).length (AL AX.c (FB l)) 165) (fun d=>tO (.own d 4 (FB l).length)):=ae
end
def Z0C:CT:=(120,[.one (lst 4 AX.c b.Slots),.one (.clo 121 0 dfc),.one (.clo 122 0 dfc)],.new [] (.row 4 (FB b.Slots).length (AL AX.c (FB b.Slots)) 165) (fun d=>.av (.one (.own d 4 (FB b.Slots).length))))
def CO(b:AC):(List AX):=FB b.Slots
theorem e9(b:AC)(hl:b.Slots.length<20):Fr Tryz.prog 64 [.agg (AC.c b)] (.row 4 (CO b).length (AL AX.c (CO b)) 165) (fun d=>tO (.own d 4 (CO b).length)):=by
 refine DC Tryz.func64 rfl kr (Df _ _) fun W0 M0=>?_;exact AA<|on<|AA<|oq 5 (Z0C b) (DQ (fun _ _=>kr) (qU b.Slots au6))<|AE<|AO<|xl (tO (.own 5 4 (FB b.Slots).length)) (frE (c:=AX.c) (xs:=FB b.Slots) (by rfl) kr)
def jj:CT:=(64,[.agg (AC.c b)],.new [] (.row 4 (CO b).length (AL AX.c (CO b)) 165) (fun d=>.av (.one (.own d 4 (CO b).length))))
theorem zM(b:AC)(hl:b.Slots.length<20):OKc (jj b):=DQ (fun _ _=>kr) (e9 b hl)
theorem Za(l:List AX):FB l=CY (fun x y=>decide (Ox x y<0)) l:=by
 unfold FB;have h:=lH l (Hv l) (fun acc _=>T0 acc) (fun m acc v=>by
  rw[Hv,l9];rfl) l.length 0 ((((l.length:Int))-0).toNat+1) [] rfl (lv _) mz
 rw[km,kn]at h;exact h.trans (xC l)
theorem QE(b:AC):CO b=CY (fun x y=>decide (Ox x y<0)) b.Slots:=Za _
theorem Tq{b:AC}{x:AX}:x∈CO b↔x∈b.Slots:=by rw[QE];exact Kr _ _ _
theorem Tr(b:AC):(CO b).length=b.Slots.length:=by rw[QE];exact Cu _ _
end
section
open Go.RowKit
def xJ(q r:Loc)(b:Nat):Prop:=only q b\/only r b
def WrA(P:Program)(f:FuncId)(vs:List Av)(sz len:Nat)(F:Nat->Nat->Cl)(tyr tyq:TypeId)(len':Nat)(F':Nat->Nat->Cl):Prop :=
 ∀(M:m5) (σ:Nat->Loc) (w:World) (args:List Value),(∀b o,M b=some o->w.heap[b]? = some o)->Bl M σ w (σ 1000) (.cells [.own 1001 sz len] tyq)->M (σ 1000).b=none->Bl M σ w (σ 1001) (.row sz len F tyr)->((σ 1001).nil=true\/M (σ 1001).b=none)->((σ 1001).nil=true\/(σ 1000).b≠(σ 1001).b)->L2 (RA M σ) (vs++[.one (.ptr 1000 0)]) args ->
  Calls P f args.toArray w fun en w'=>∃U,en=.returned U/\∃M' x,Gk w w' M M' (xJ (σ 1000) (σ 1001))/\(x.nil=true\/((only (σ 1001) x.b\/w.heap.size<=x.b)/\M' x.b=none/\x.b≠(σ 1000).b)) /\
   (∀(σ':Nat->Loc) d,σ' d=x->Bl M' σ' w' (σ 1000) (.cells [.own d sz len'] tyq))/\∀σ',Bl M' σ' w' x (.row sz len' F' tyr)
section
variable {P:Program}
theorem RK{q r:Nat}{bq br:Blk}(hqr:q≠r){n:Nat}{b:Blk}(h:get [(q,bq),(r,br)] n=some b):(n=q/\b=bq)\/(n=r/\b=br):=by
 simp only[get,Cb]at h
 by_cases h1:q=n
 ·simp[h1]at h;exact .inl ⟨h1.symm,h.symm⟩
 by_cases h2:r=n
 ·simp[h1,h2]at h;exact .inr ⟨h2.symm,h.symm⟩
 simp[h1,h2]at h
theorem aX{f:FuncId}{fn:Func}{c:Code}(hf:P.funcs[f]? = some fn)(hb:fn.body=some c){vs:List Av}{sz len len':Nat}{F F':Nat->Nat->Cl}{tyr tyq:TypeId}(hN:Nat.ble (vs.length+1) fn.ntmps=true)(hK:Nat.ble fn.ntmps 1000=true)
 (h:∀(W0:World) (M0:m5) (X:m6),DJ X W0 [1000,1001]->AWp P none fn.ntmps W0 X M0 c (My P fn.ntmps W0 X M0 fn fun r' s'=>∃d b,Nat.beq d 1000=false/\get s'.h 1000=some (.cells [.own d sz len'] tyq)/\get s'.h d=some b/\Ic b (.row sz len' F' tyr)) ⟨FP 0 (vs++[.one (.ptr 1000 0)]),[(1000,.cells [.own 1001 sz len] tyq),(1001,.row sz len F tyr)]⟩):WrA P f vs sz len F tyr tyq len' F':=by
 intro M σ w args himm hbq hMq hbr hMr hne hargs;have hK':=mr hK;have hN':(vs++[Av.one (.ptr 1000 0)]).length<=fn.ntmps:=by have:=mr hN;simpa using this
 have hqn:(σ 1000).nil=false:=hbq.1;obtain⟨X,hX⟩:∃X:m6,X=fun k=>bif Nat.beq k 1000 then some (σ 1000)else bif Nat.beq k 1001 && !(σ 1001).nil then some (σ 1001)else none:=⟨_,rfl⟩;have hX0:X 1000=some (σ 1000):=by rw[hX];rfl
 have pins:∀n x,X n=some x->(n=1000/\x=σ 1000)\/(n=1001/\(σ 1001).nil=false/\x=σ 1001):=fun n x hx=>by
  rw[hX]at hx;simp only at hx;cases h1:Nat.beq n 1000 with
  |true=>rw[h1]at hx;simp at hx;exact .inl ⟨lx h1,hx.symm⟩
  |false =>
   rw[h1]at hx;cases h2:Nat.beq n 1001 with
   |false=>rw[h2]at hx;simp at hx
   |true =>
    rw[h2]at hx;cases h3:(σ 1001).nil with
    |true=>rw[h3]at hx;simp at hx
    |false=>rw[h3]at hx;simp at hx;exact .inr ⟨lx h2,rfl,hx.symm⟩
 have hX1:(σ 1001).nil=false->X 1001=some (σ 1001):=fun h3=>by rw[hX];simp[h3];rfl
 have hXK:∀k x,X k=some x->A6 [1000,1001] k=true:=fun k x hk=>by
  rcases pins k x hk with ⟨rfl,_⟩|⟨rfl,_⟩<;>rfl
 have hin:∀b,inX X b->xJ (σ 1000) (σ 1001) b:=fun b ⟨n,x,h1,h2⟩=>by
  rcases pins n x h1 with ⟨_,rfl⟩|⟨_,h3,rfl⟩
  ·exact .inl ⟨hqn,h2.symm⟩
  exact .inr ⟨h3,h2.symm⟩
 refine Ew (X:=X) (σ:=σ) (h0:=[(1000,.cells [.own 1001 sz len] tyq),(1001,.row sz len F tyr)]) hf hb hN' himm hargs (fun n b hn=>?_) (fun n b hn=>?_) (fun n x hx=>?_) (fun n m b c hn hm hnm=>?_) (EG (h w M X fun k x hk=>.inl (hXK k x hk))) ?_
 ·rcases RK m4 hn with ⟨rfl,rfl⟩|⟨rfl,rfl⟩
  ·exact hbq
  exact hbr
 ·rcases RK m4 hn with ⟨rfl,rfl⟩|⟨rfl,rfl⟩
  ·exact .inr ⟨hMq,1000,_,hX0,rfl⟩
  cases h3:(σ 1001).nil with
  |true=>exact .inl rfl
  |false =>
   rcases hMr with h4|h4
   ·rw[h3]at h4;cases h4
   exact .inr ⟨h4,1001,_,hX1 h3,rfl⟩
 ·rcases pins n x hx with ⟨rfl,rfl⟩|⟨rfl,_,rfl⟩
  ·exact⟨hK',rfl⟩
  exact⟨by omega,rfl⟩
 ·rcases RK m4 hn with ⟨rfl,rfl⟩|⟨rfl,rfl⟩<;>rcases RK m4 hm with ⟨rfl,rfl⟩|⟨rfl,rfl⟩
  ·exact absurd rfl hnm
  ·rcases hne with h4|h4
   ·exact .inr (.inl h4)
   exact .inr (.inr h4)
  ·rcases hne with h4|h4
   ·exact .inl h4
   exact .inr (.inr (Ne.symm h4))
  exact absurd rfl hnm
 rintro r' s' M' σ' a' w' U ⟨d,b,hd,h1,h2,h3⟩ hs hR;have hdn:d≠1000:=fun e=>by subst e;rw[Nat.beq_refl]at hd;cases hd
 have hp:=(hs.pin 1000 _ hX0).2;refine⟨U,rfl,M',σ' d,⟨hs.os,hs.tape,hs.output,hs.size,fun b hb hx=>hs.old b hb fun h4=>hx (hin b h4),hs.sub,hs.new,hs.imm⟩,?_,fun σ2 d2 e2=>?_,fun σ2=>(JR h3 (hs.blk d b h2):Bl M' σ' w' (σ' d) (.row sz len' F' tyr))⟩
 ·cases hnil:(σ' d).nil with
  |true=>exact .inl rfl
  |false =>
   have hq:(σ' d).b≠(σ 1000).b:=by
    rcases hs.inj d 1000 b _ h2 h1 hdn with h4|h4|h4
    ·rw[hnil]at h4;cases h4
    ·rw[hp,hqn]at h4;cases h4
    rw[hp]at h4;exact h4
   rcases hs.loc d b h2 with h4|⟨h4,h5⟩
   ·rw[hnil]at h4;cases h4
   refine .inr ⟨?_,h4,hq⟩;rcases h5 with h5|h5
   ·exact .inr h5
   rcases hin _ h5 with h6|h6
   ·exact absurd h6.2 hq
   exact .inl h6
 have hb1:=hs.blk 1000 _ h1;rw[hp]at hb1;obtain⟨g0,cc,g1,g2⟩:=hb1;refine⟨g0,cc,g1,?_⟩;cases g2 with
 |cons g3 g4 =>
  cases g4;refine .cons ?_ .nil;unfold R at g3 ⊢;rw[e2];exact g3
section
variable {V:Env P}{rd:Option Nat}{N:Nat}{W0:World}{X:m6}{M0 M:m5}{σ:Nat→Loc}{w:World}{a:Act}{Q:Exit→AS→Prop}{s:AS}
def RO(q r:Nat)(dst:Option Nat)(s:AS):Bool:=!Nat.beq q r&&s.t.all (fun p=>p.2.no r&&(match dst with|some d=>!Nat.beq p.1 d|none=>true))&&s.h.all fun p=>Nat.beq p.1 q||p.2.no r
def X4(q r:Nat)(bq br:Blk)(s:AS):AS:=⟨s.t,put (put s.h q bq) r br⟩
theorem jF{K:List Nat}{q r:Nat}{dst:Option Nat}{sz len len':Nat}{F F':Nat->Nat->Cl}{tyr tyq:TypeId}{x:Loc}{M':m5}{w':World}{U:Value}(hX:∀k x,X k=some x->A6 K k=true)(hK:LR K r=true)(hok:RO q r dst s=true)(hq:get s.h q=some (.cells [.own r sz len] tyq))(hr:get s.h r=some (.row sz len F tyr))
 (hs:Sim N W0 X M0 M σ (get s.t) (get s.h) a w)(hk:Gk w w' M M' (xJ (σ q) (σ r)))(hx:x.nil=true\/((only (σ r) x.b\/w.heap.size<=x.b)/\M' x.b=none/\x.b≠(σ q).b))(hbq:∀(σ':Nat->Loc) d,σ' d=x->Bl M' σ' w' (σ q) (.cells [.own d sz len'] tyq))(hbr:∀σ',Bl M' σ' w' x (.row sz len' F' tyr)) :
  Sim N W0 X M0 M' (upd σ r x) (get (X4 q r (.cells [.own r sz len'] tyq) (.row sz len' F' tyr) s).t) (get (X4 q r (.cells [.own r sz len'] tyq) (.row sz len' F' tyr) s).h) (a.put dst U) w':=by
 unfold RO at hok;simp only[me,Bool.not_eq_true']at hok;obtain⟨⟨hqr',ht⟩,hh⟩:=hok;have hqr:q≠r:=fun e=>by subst e;rw[Nat.beq_refl]at hqr';cases hqr'
 have hqn:(σ q).nil=false:=(hs.blk q _ hq).1;have ht':∀i v,get s.t i=some v->v.no r=true/\(∀d,dst=some d->i≠d):=fun i v hv=>by
  have h1:=List.all_eq_true.1 ht (i,v) (DH hv);simp only[me]at h1;refine⟨h1.1,fun d hd e=>?_⟩;subst hd e;have:=h1.2;simp[Nat.beq_refl]at this
 have hh':∀n b,get s.h n=some b->n≠q->b.no r=true:=fun n b hb hn=>by
  have h1:=List.all_eq_true.1 hh (n,b) (DH hb);simp only[mg]at h1;rcases h1 with h1|h1
  ·exact absurd (lx h1) hn
  exact h1
 have hXr:∀k u,X k=some u->k≠r:=fun k u hk' e=>by
  subst e;unfold LR at hK;simp only[me]at hK;have h1:=List.all_eq_true.1 hK.1 k (FZ (hX k u hk'));simp[Nat.beq_refl]at h1
 have hg:∀n,get (X4 q r (.cells [.own r sz len'] tyq) (.row sz len' F' tyr) s).h n=if r=n then some (.row sz len' F' tyr)else if q=n then some (.cells [.own r sz len'] tyq)else get s.h n:=fun n=>by
  show get (put (put s.h q _) r _) n=_;rw[JK,JK]
 have hlt:∀n b,get s.h n=some b->(σ n).nil=false->(σ n).b<w.heap.size:=fun n b hb hn=>(hs.blk n b hb).lt hn;have hup:∀n,n≠r->upd σ r x n=σ n:=fun n hn=>CW _ _ hn;have hMn:∀b,b<w.heap.size->M b=none->M' b=none:=fun b hb h0=>by
  cases h1:M' b with
  |none=>rfl
  |some o=>have:=hk.new b o h1 h0;omega
 have hsame:∀n b,get s.h n=some b->n≠q->n≠r->(σ n).nil=false->w'.heap[(σ n).b]? = w.heap[(σ n).b]? := fun n b hb h1 h2 hn=>hk.old _ (hlt n b hb hn) fun h3=>by
  rcases h3 with h3|h3
  ·rcases hs.inj n q b _ hb hq h1 with h4|h4|h4
   ·rw[hn]at h4;cases h4
   ·rw[hqn]at h4;cases h4
   exact h4 h3.2
  rcases hs.inj n r b _ hb hr h2 with h4|h4|h4
  ·rw[hn]at h4;cases h4
  ·rw[h3.1]at h4;cases h4
  exact h4 h3.2
 refine⟨hk.os.trans hs.os,hk.tape.trans hs.tape,hk.output.trans hs.output,ln hs.size hk.size,fun b hb hnx=>?_,fun b o h=>hk.sub b o (hs.sub b o h),fun b o h h0=>?_,fun n u hu=>⟨(hs.pin n u hu).1,by rw[hup n (hXr n u hu)];exact(hs.pin n u hu).2⟩,?_,?_,fun i v hv=>?_,hk.imm,fun n b hb=>?_,fun n b hb=>?_,fun n m b c hb hc hnm=>?_⟩
 ·refine(hk.old b (lp hb hs.size) fun h3=>?_).trans (hs.old b hb hnx);rcases h3 with h3|h3
  ·rcases hs.loc q _ hq with h4|⟨_,h4|h4⟩
   ·rw[hqn]at h4;cases h4
   ·rw[<- h3.2]at h4;omega
   rw[<- h3.2]at h4;exact hnx h4
  rcases hs.loc r _ hr with h4|⟨_,h4|h4⟩
  ·rw[h3.1]at h4;cases h4
  ·rw[<- h3.2]at h4;omega
  rw[<- h3.2]at h4;exact hnx h4
 ·cases h1:M b with
  |some o'=>exact hs.new b o' h1 h0
  |none=>exact ln hs.size (hk.new b o h h1)
 ·have:=hs.defers.mono hk.sub;cases dst<;>exact this
 ·cases dst with
  |none=>exact hs.room
  |some d=>simpa [Act.put]using hs.room
 ·have h1:=ht' i v hv;have h2:(a.put dst U).tmps.getD i undef=a.tmps.getD i undef:=by
   cases dst with
   |none=>rfl
   |some d=>simp[Act.put,l6,l5,Ne.symm (h1.2 d rfl)]
  rw[h2];exact D6 hk.sub (fun d hd=>hup d fun e=>by subst e;rw[h1.1]at hd;cases hd) (hs.tmps i v hv)
 ·rw[hg]at hb
  by_cases h1:r=n
  ·subst h1;simp only[if_true,l7]at hb;subst hb;rw[BH];exact hbr _
  simp only[if_neg h1]at hb;rw[hup n (Ne.symm h1)]
  by_cases h2:q=n
  ·subst h2;simp only[if_true,l7]at hb;subst hb;exact hbq _ r (BH _ _ _)
  simp only[if_neg h2]at hb;exact(hs.blk n b hb).mono hk.sub (fun d hd=>hup d fun e=>by subst e;rw[hh' n b hb (Ne.symm h2)]at hd;cases hd) (hsame n b hb (Ne.symm h2) (Ne.symm h1))
 ·rw[hg]at hb
  by_cases h1:r=n
  ·subst h1;rw[BH];rcases hx with h3|⟨h3,h4,h5⟩
   ·exact .inl h3
   refine .inr ⟨h4,?_⟩;rcases h3 with h3|h3
   ·rcases hs.loc r _ hr with h6|⟨_,h6⟩
    ·rw[h3.1]at h6;cases h6
    rw[h3.2];exact h6
   exact .inl (ln hs.size h3)
  rw[hup n (Ne.symm h1)];obtain⟨b0,hb0⟩:∃b0,get s.h n=some b0:=by
   simp only[if_neg h1]at hb
   by_cases h2:q=n
   ·subst h2;exact⟨_,hq⟩
   simp only[if_neg h2]at hb;exact⟨_,hb⟩
  cases hn:(σ n).nil with
  |true=>exact .inl rfl
  |false =>
   rcases hs.loc n b0 hb0 with h6|⟨h6,h7⟩
   ·rw[hn]at h6;cases h6
   exact .inr ⟨hMn _ (hlt n b0 hb0 hn) h6,h7⟩
 have hold:∀n b,get (X4 q r (.cells [.own r sz len'] tyq) (.row sz len' F' tyr) s).h n=some b->n≠r->∃b0,get s.h n=some b0:=fun n b hb h1=>by
  rw[hg]at hb;simp only[if_neg (Ne.symm h1)]at hb
  by_cases h2:q=n
  ·subst h2;exact⟨_,hq⟩
  simp only[if_neg h2]at hb;exact⟨_,hb⟩
 have hrm:∀m b0,get s.h m=some b0->m≠r->x.nil=true\/(σ m).nil=true\/x.b≠(σ m).b:=fun m b0 hb0 hm=>by
  rcases hx with h3|⟨h3,h4,h5⟩
  ·exact .inl h3
  cases hn:(σ m).nil with
  |true=>exact .inr (.inl rfl)
  |false =>
   refine .inr (.inr ?_);rcases h3 with h3|h3
   ·rcases hs.inj m r b0 _ hb0 hr hm with h6|h6|h6
    ·rw[hn]at h6;cases h6
    ·rw[h3.1]at h6;cases h6
    rw[h3.2];exact Ne.symm h6
   have:=hlt m b0 hb0 hn;omega
 by_cases h1:n=r
 ·subst h1;obtain⟨c0,hc0⟩:=hold m c hc (Ne.symm hnm);rw[BH,hup m (Ne.symm hnm)];exact hrm m c0 hc0 (Ne.symm hnm)
 obtain⟨b0,hb0⟩:=hold n b hb h1;rw[hup n h1]
 by_cases h2:m=r
 ·subst h2;rw[BH];rcases hrm n b0 hb0 h1 with h3|h3|h3
  ·exact .inr (.inl h3)
  ·exact .inl h3
  exact .inr (.inr (Ne.symm h3))
 obtain⟨c0,hc0⟩:=hold m c hc h2;rw[hup m h2];exact hs.inj n m b0 c0 hb0 hc0 hnm
end
end
end
section
open Go.RowKit Go.MapKept
section
variable {P:Program}{V:Env P}{rd:Option Nat}{N:Nat}{W0:World}{X:m6}{M0 M:m5}{σ:Nat→Loc}{w:World}{a:Act}{Q:Exit→AS→Prop}{s:AS}
structure xF (P:Program) (o:Oper) (s:AS) (q r sz len:Nat) (F:Nat->Nat->Cl) (tyr tyq:TypeId) (len':Nat) (F':Nat->Nat->Cl):Prop where
 op:∃ c f g k caps vs,o.op=.call c/\c.callee=.value f/\evT (get s.t) f=some (.av (.one (.clo g k caps)))/\Dc k caps=[.one (.ptr q 0)]/\FQ (evT (get s.t)) c.args.toList=some vs/\vs.all Av.dv=true/\(∀ args w,(callFunc g args).run P w=.ok (.enter g args) w)/\WrA P g vs sz len F tyr tyq len' F'
 gd:o.guard=none
 ok:RO q r o.dst s=true
 hq:get s.h q=some (.cells [.own r sz len] tyq)
 hr:get s.h r=some (.row sz len F tyr)
theorem ZP{K:List Nat}{o:Oper}{q r sz len len':Nat}{F F':Nat->Nat->Cl}{tyr tyq:TypeId}(hX:∀k x,X k=some x->A6 K k=true)(hK:LR K r=true)(hc:xF P o s q r sz len F tyr tyq len' F')(hs:Sim N W0 X M0 M σ (get s.t) (get s.h) a w){Kk:Act->World->Prop}{Q':Exit->Act->World->Prop}
 (h:∀M' σ' a' w',Sim N W0 X M0 M' σ' (get (X4 q r (.cells [.own r sz len'] tyq) (.row sz len' F' tyr) s).t) (get (X4 q r (.cells [.own r sz len'] tyq) (.row sz len' F' tyr) s).h) a' w'->Kk a' w'):o.wpIn (FW rd) 0 P a w Kk Q':=by
 obtain⟨⟨c,f,g,k,caps,vs,ho,hcf,hf,hcl,hxs,hdv,heg,hW⟩,hgd,hok,hq,hr⟩:=hc;have hqn:(σ q).nil=false:=(hs.blk q _ hq).1;have hqr:q≠r:=fun e=>by
  unfold RO at hok;subst e;simp[Nat.beq_refl]at hok
 have hev:∀x v,evT (get s.t) x=some v->RT M σ v (a.eval x):=fun x v hv=>HQ hs.tmps hv;obtain⟨caps',hfv,hsz,hcaps⟩:=hev f _ hf;have hargs:=JO hev _ _ hxs;have hcl2:L2 (RA M σ) (Dc k caps) caps'.toList:=by
  refine L2.of (by simp[Dc,hsz]) fun i x y hx hy=>?_;have hi:i<k:=by have:=(List.getElem?_eq_some_iff.1 hx).1;simpa [Dc]using this
  have:=hcaps i hi;simp only[Dc,ld,lc hi,Option.map_some,l7]at hx;subst hx;have hy':caps'.getD i undef=y:=by
   simp only[l6];rw[<- Array.getElem?_toList,hy];rfl
  rw[hy']at this;exact this
 rw[hcl]at hcl2;have hmap:c.args.map a.eval=(c.args.toList.map a.eval).toArray:=by apply Array.ext';simp
 have happ:(c.args.toList.map a.eval).toArray++caps'=(c.args.toList.map a.eval++caps'.toList).toArray:=by apply Array.ext';simp
 have hres:(resolve a.eval c o.type).run P w=.ok { target:=.fn (.func g) caps',args:=(c.args.toList.map a.eval).toArray } w:=by
  simp only[resolve,hcf,hfv,Deferred.ofValue,hmap];simp
 let σ2:Nat->Loc:=upd (upd σ 1000 (σ q)) 1001 (σ r)
 have e0:σ2 1000=σ q:=by show upd (upd σ 1000 (σ q)) 1001 (σ r) 1000=_;rw[CW _ _ m4,BH]
 have e1:σ2 1001=σ r:=BH _ _ _;have hbq:=hs.blk q _ hq;have hbq2:Bl M σ2 w (σ2 1000) (.cells [.own 1001 sz len] tyq):=by
  rw[e0];obtain⟨g0,cc,g1,g2⟩:=hbq;refine⟨g0,cc,g1,?_⟩;cases g2 with
  |cons g3 g4 =>
   cases g4;refine .cons ?_ .nil;unfold R at g3 ⊢;rw[e1];exact g3
 have hMq:M (σ2 1000).b=none:=by
  rw[e0];rcases hs.loc q _ hq with h1|h1
  ·rw[hqn]at h1;cases h1
  exact h1.1
 have hMr:(σ2 1001).nil=true\/M (σ2 1001).b=none:=by
  rw[e1];exact(hs.loc r _ hr).imp id And.left
 have hne:(σ2 1001).nil=true\/(σ2 1000).b≠(σ2 1001).b:=by
  rw[e0,e1];rcases hs.inj q r _ _ hq hr hqr with h1|h1|h1
  ·rw[hqn]at h1;cases h1
  ·exact .inl h1
  exact .inr h1
 have hL:L2 (RA M σ2) (vs++[.one (.ptr 1000 0)]) (c.args.toList.map a.eval++caps'.toList):=by
  refine L2.append (hargs.mono fun x hx u hu=>IL (r:=.av x) (List.all_eq_true.1 hdv x hx) hu) ?_;generalize caps'.toList=cl at hcl2;cases hcl2 with
  |cons h1 h2 =>
   cases h2;refine .cons ?_ .nil;have h1:_=Value.pointer (some ⟨(σ q).b,0,none⟩):=h1;subst h1;show Value.pointer (some ⟨(σ q).b,0,none⟩)=Value.pointer (some ⟨(σ2 1000).b,0,none⟩);rw[e0]
 have hd:Zl P o a w fun U w'=>∃M' x,Gk w w' M M' (xJ (σ q) (σ r))/\(x.nil=true\/((only (σ r) x.b\/w.heap.size<=x.b)/\M' x.b=none/\x.b≠(σ q).b))/\(∀(σ':Nat->Loc) d,σ' d=x->Bl M' σ' w' (σ q) (.cells [.own d sz len'] tyq))/\∀σ',Bl M' σ' w' x (.row sz len' F' tyr):=by
  refine .inr (.inr ⟨g,(c.args.toList.map a.eval++caps'.toList).toArray,?_,?_⟩)
  ·simp only[execOp,ho,Sem.run_bind,hres,Result.andThen_ok,invoke,happ];exact heg _ _
  refine(hW M σ2 w _ hs.imm hbq2 hMq (by rw[e1];exact hs.blk r _ hr) hMr hne hL).mono ?_;rintro en w' ⟨U,rfl,M',x,h1,h2,h3,h4⟩;rw[e0,e1]at h1 h2;rw[e0]at h3;exact⟨U,rfl,M',x,h1,h2,h3,h4⟩
 refine hd.wp (fun U w' ⟨M',x,h1,h2,h3,h4⟩=>h M' _ _ w' (jF hX hK hok hq hr hs h1 h2 h3 h4)) (fun c' hc'=>by rw[ho]at hc';cases hc')
theorem lO{K:List Nat}{ops:Array Oper}{o:Oper}{l:List Oper}{Kk:AS->Prop}{q r sz len len':Nat}{F F':Nat->Nat->Cl}{tyr tyq:TypeId}(S:AS)(hX:∀k x,X k=some x->A6 K k=true)(hK:LR K r=true)(hc:xF P o s q r sz len F tyr tyq len' F')(hS:X4 q r (.cells [.own r sz len'] tyq) (.row sz len' F' tyr) s=S)
 (h:AWL P rd N W0 X M0 ops l Kk S):AWL P rd N W0 X M0 ops (o::l) Kk s:=by
 subst hS;intro M σ a w hs Q' hQ';refine wpListIn_step fun K0 hK' => ?_;rw[if_pos (by simp[Region.wanted,hc.gd])];exact ZP hX hK hc hs fun M' σ' a' w' h1=>hK' _ _ (h M' σ' a' w' h1 Q' hQ')
theorem XU{K:List Nat}(hm:P.follows .mixedOrders=true){E:TypeId->Option (List Kd)}(hE:LS P ⟨fun _=>none,E,fun _=>false,fun _=>none⟩){id:Nat}{l:List Oper}(k:Nat){o:Oper}(ho1:l[k]? = some o)(hk1:Nat.beq (k+1) l.length=true)(ow:List Nat)(qs:List (Nat×(Bool×Nat)))(tbl:List (Nat×FuncId×List Av×Ef))(ts ns:List Nat)(cs:List Prop)(S1 S:AS)(htbl:FR P tbl)
 (hr1:Nm P ⟨EE tbl,E,A6 ow,get qs⟩ N (l.take k) ts ns s=some (cs,S1))(hd:Qf P ⟨EE tbl,E,A6 ow,get qs⟩ N (l.take k) s=true)(hc:CI cs)(hms:dr (l.take k) o []=true){q r sz len len':Nat}{F F':Nat->Nat->Cl}{tyr tyq:TypeId}(hX:∀k x,X k=some x->A6 K k=true)(hK:LR K r=true)(hca:xF P o S1 q r sz len F tyr tyq len' F')
 (hS:X4 q r (.cells [.own r sz len'] tyq) (.row sz len' F' tyr) S1=S)(h:Q .normal S):AWp P rd N W0 X M0 (.region id l.toArray true) Q s:=by
 have hl:l=l.take k++[o]:=by
  obtain⟨hk,ho2⟩:=List.getElem?_eq_some_iff.1 ho1;have hk2:=lx hk1;have h3:l.drop (k+1)=[]:=List.drop_eq_nil_of_le mz;have h4:=List.take_append_drop k l;rw[List.drop_eq_getElem_cons hk,h3,ho2]at h4;exact h4.symm
 clear ho1 hk1;generalize hl1:l.take k=l1 at *;subst hl hS;have hV:=htbl.env (O:=A6 ow) (q:=get qs) hE;simp only[dr,me]at hms;obtain⟨⟨⟨hback,hk⟩,hlt⟩,hgs⟩:=hms;have hguard:∀x∈l1++[o],x.guard=none:=fun x hx=>by
  have:=List.all_eq_true.1 hgs x hx;cases hg:x.guard with
  |none=>rfl
  |some _=>rw[hg]at this;cases this
 intro M σ a w hs;unfold Nm at hr1;split at hr1
 ·rename_i cs1 s1 h1;simp only[l7,l8]at hr1;obtain⟨rfl,rfl⟩:=hr1;obtain⟨e1,hruns⟩:=Nk (s0:=s) l1 0 s s1 cs1 (fun j=>by rw[mw]) rfl h1 hc;simp only[mw]at e1 hruns;obtain⟨hback1,hord⟩:=Sr hd;have hrep:∀(n j:Nat),(Array.replicate n false).getD j false=false:=fun n j=>by
   by_cases hj':j<n
   ·simp[hj']
   simp[hj']
  have hs0:Sim N W0 X M0 M σ (get s.t) (get s.h) a { w with drawn:=w.drawn+1 }:=⟨hs.os,hs.tape,hs.output,hs.size,hs.old,hs.sub,hs.new,hs.pin,hs.defers,hs.room,hs.tmps,hs.imm,fun n b hb=>(hs.blk n b hb).mono (fun _ _ h=>h) (fun _ _=>rfl) (fun _=>rfl),hs.loc,hs.inj⟩;have hinv:eF P ⟨EE tbl,E,A6 ow,get qs⟩ N W0 X M0 l1 s (Array.replicate (l1++[o]).toArray.size false) a { w with drawn:=w.drawn+1 } :=
   ⟨M,σ,get s.t,get s.h,hs0,fun x=>⟨0,lv _,fun j o hj hd=>⟨fun hh=>(by rw[hrep]at hh;cases hh),fun hh=>absurd hh mz⟩,rfl⟩,fun m=>⟨0,lv _,fun j o hj hd=>⟨fun hh=>(by rw[hrep]at hh;cases hh),fun hh=>absurd hh mz⟩,rfl⟩⟩
  refine wpIn_region_any hm (uJ (l2:=[]) hV hruns hback1 hord hback (fun j hj=>List.all_eq_true.1 hk j (List.mem_range.2 hj)) (fun i h3 h4=>by simp at h4;omega) (fun x hx=>hguard x (List.mem_append_left _ hx)) (fun f L a1 w1 hsz hall hcnt hsim=>?_) _ _ a _ m3 (fun j oj _ hd=>by rw[hrep]at hd;cases hd) (fun j _=>hrep _ j) (ln List.countP_le_length m3) hinv);obtain⟨M1,σ1,hs2⟩:=hsim;rw[<- e1]at hs2;have hs2:=Gs hs2 ts ns;have hok:(l1++[o]).toArray[l1.length]? = some o:=by simp
  unfold wpOpIn;rw[hok];have hw:∀ys,Region.wanted o ys=true:=fun ys=>by simp[Region.wanted,hguard o m3]
  simp only[hw,if_true];refine ZP hX hK hca hs2 fun M' σ' a' w' h5=>?_;exact qE hback m3 hsz hall hcnt (fun x hx=>by cases hx) (fun _=>⟨_,M',σ',h,h5⟩) (fun u hu=>by cases hu)
 cases hr1
end
end
section
open Go.RowKit
structure Fg (b:AC):Prop where
 parts:b.Parts.length<20
 tracks:b.Tracks.length<20
 vias:b.Vias.length<20
 slots:b.Slots.length<20
 nets:(b.Nets.length:Int)<=1000000
 pins:∀ n∈b.Nets,(n.Pins.length:Int)<=1000000
 ted:∀ t∈b.Tracks,(t.Shape.Edges.length:Int)<=1000000
 sed:∀ s∈b.Slots,(s.Shape.Edges.length:Int)<=1000000
theorem bC{b:AC}(h:Fg b)(k:Nat):(((Bv b).getD k default).Shape.Edges.length:Int)<=1000000:=ER (p:=fun t:AM=>(t.Shape.Edges.length:Int)<=1000000) m4 (fun x hx=>h.ted x (Qm.1 hx)) k
theorem bJ{b:AC}(h:Fg b)(k:Nat):(((CO b).getD k default).Shape.Edges.length:Int)<=1000000:=ER (p:=fun t:AX=>(t.Shape.Edges.length:Int)<=1000000) m4 (fun x hx=>h.sed x (Tq.1 hx)) k
theorem ND{m9:List AN}(h:B7 m9)(name:my):((CM m9 name).1.Pads.length:Int)<=1000000:=by rw[LG];exact Ks h name
def Iz(b:AC)(v:List (Ab×my))(x:AD×Bc):AV:=AV.mk x.1.Id x.2.Name 1 (bif GB BR v (Ab.mk x.1.Ref x.2.Name)then(v.getD (Ec BR v (Ab.mk x.1.Ref x.2.Name)) default).2 else⟨#[]⟩) (bif decide (x.2.Drill=0)then MO b x.1 else 1) (bif decide (x.2.Drill=0)then MO b x.1 else b.Layers) (Ha x.2.Shape (G1 x.1))
def sV(v:List (Ab×my))(n:A7):List (Ab×my):=n.Pins.foldl (fun v p=>J7 BR v p n.Name) v
def M8(b:AC):List (Ab×my):=b.Nets.reverse.foldl sV []
theorem T4(b:AC)(m9:List AN):Ed b m9=(BT b m9).map (Iz b (M8 b)):=by
 have h2:∀v K0,EU b m9 v K0 (BT b m9).length 0 []=(BT b m9).map (Iz b v):=fun v K0=>by
  have:=uT (BT b m9) (fun acc x=>acc++[Iz b v x]) (EU b m9 v K0) id (fun x acc=>by rw[EU];rfl) (fun m x acc hx=>by rw[EU];rfl) (BT b m9).length 0 [] mz;rw[this,km,En,kn];rfl
 have hrev:∀x,x<b.Nets.reverse.length->b.Nets.getD (b.Nets.length-1-x) default=b.Nets.reverse.getD x default:=fun x hx=>by
  rw[kq]at hx;rw[aE,aE,List.getElem?_reverse hx]
 unfold Ed;have:=uT b.Nets.reverse sV (D1 b m9) (fun v=>(BT b m9).map (Iz b v)) (fun x acc=>by rw[D1];exact h2 _ _) (fun m x acc hx=>by
  rw[D1,hrev x hx];have h1:=F7 (b.Nets.reverse.getD x default).Pins (fun v p=>J7 BR v p (b.Nets.reverse.getD x default).Name) (JA b m9 acc x (D1 b m9 m (x+1))) (fun v _=>D1 b m9 m (x+1) v) (fun m v k=>by rw[JA,hrev x hx,l9]) (b.Nets.reverse.getD x default).Pins.length 0 ((((b.Nets.reverse.getD x default).Pins.length:Int)-0).toNat+1) acc rfl (lv _) mz;rw[km]at h1;exact h1) b.Nets.length 0 [] (by rw[kq];omega)
 rw[this,km];rfl
theorem QI(b:AC)(m9:List AN):(Ed b m9).length=(BT b m9).length:=by rw[T4,ke]
def JP(s:AQ):AQ:=s
variable (b:AC)(n6:List Ad)(m9:List AN)(nh:Int)(p:AG)(r:Int)(s:AQ)(nr o6 ol pf:Int)
def iK:CT:=(53,[.agg (AQ.c s)],.val [] (.av (.agg (AQ.c (JP s)))))
theorem yZ(s:AQ)(h0:(s.Edges.length:Int)<=1000000):PuP 53 (iK s).2.1 (.av (.agg (AQ.c (JP s)))):=by
 refine pwf Tryz.func53 fun W0 M0=>?_;exact AA<|on<|AA<|oq 5 _ (Sx s.Edges au6)<|AE<|AZ (Ag 5 (AU 7 AK.c s.Edges))<|AA<|on<|AO<|zy (vf 5 hk0)
theorem YY(s:AQ)(h0:(s.Edges.length:Int)<=1000000):OKc (iK s):=cPu<|yZ s h0
def D7(p:AG)(r:Int):AQ:=AQ.mk 1 [AK.mk 1 p p (AG.mk 0 0)] r
def vV:CT:=(38,[.agg (AG.c p),.one (.i r)],.val [] (.av (.agg (AQ.c (D7 p r)))))
theorem f5(p:AG)(r:Int):PuP 38 (vV p r).2.1 (.av (.agg (AQ.c (D7 p r)))):=by
 refine pwf Tryz.func38 fun W0 M0=>?_;exact AA<|on<|AA<|on<|AO<|xl (.av (.agg [.i 1,.list true 7 1 (A9 7 1 [.i 1,.i p.X,.i p.Y,.i p.X,.i p.Y,.i 0,.i 0]),.i r])) (De (y:=.av (.agg [.i 1,lst 7 AK.c [AK.mk 1 p p (AG.mk 0 0)],.i r])) (.av (.agg (rr (.cons (BO true (BN (c:=AK.c) (xs:=([AK.mk 1 p p (AG.mk 0 0)]:List AK)) rfl kr)) (rr .nil))))) (by rfl))
theorem MV(p:AG)(r:Int):OKc (vV p r):=cPu<|f5 p r
def Z0D:AQ:=D7 ((BL b).getD o6.toNat default).At ((BL b).getD o6.toNat default).R
def Z0E:AQ:=((Bv b).getD nr.toNat default).Shape
def JQ(b:AC)(m9:(List AN))(out:List AV)(nr:Int)(K0:List AV->Int->(List AV)):Nat->List AV->Int->(List AV)
 |0,_,_=>default
 |n1+1,out',o6=>bif decide ((o6:Int)<((BL b).length:Int))then((JQ b m9 out nr K0 n1) (out'++[AV.mk ((BL b).getD o6.toNat default).Id (⟨#[]⟩) 3 ((BL b).getD o6.toNat default).Net ((BL b).getD o6.toNat default).From ((BL b).getD o6.toNat default).To (Z0D b o6)]) (o6+1))else out'
def Ib(b:AC)(m9:(List AN)):Nat->List AV->Int->(List AV)
 |0,_,_=>default
 |n0+1,out,nr=>bif decide ((nr:Int)<((Bv b).length:Int))then((Ib b m9 n0) (out++[AV.mk ((Bv b).getD nr.toNat default).Id (⟨#[]⟩) 2 ((Bv b).getD nr.toNat default).Net ((Bv b).getD nr.toNat default).Layer ((Bv b).getD nr.toNat default).Layer (JP (Z0E b nr))]) (nr+1))else(JQ b m9 out nr (Ib b m9 n0) ((((BL b).length:Int)-0).toNat+1) out 0)
def GG(b:AC)(m9:(List AN)):(List AV):=Ib b m9 ((((Bv b).length:Int)-0).toNat+1) (Ed b m9) 0
abbrev Xl:=[AV.mk ((Bv b).getD nr.toNat default).Id (⟨#[]⟩) 2 ((Bv b).getD nr.toNat default).Net ((Bv b).getD nr.toNat default).Layer ((Bv b).getD nr.toNat default).Layer (JP (Z0E b nr))]
abbrev Xj:=[AV.mk ((BL b).getD o6.toNat default).Id (⟨#[]⟩) 3 ((BL b).getD o6.toNat default).Net ((BL b).getD o6.toNat default).From ((BL b).getD o6.toNat default).To (Z0D b o6)]
abbrev DT:Nat×Blk:=(2,.cells (AC.c b) 41)
abbrev Zx:Nat×Blk:=(14,.row 6 (Bv b).length (AL AM.c (Bv b)) 150)
abbrev Zw:Nat×Blk:=(37,.row 8 (BL b).length (AL Ak.c (BL b)) 154)
theorem qAll(b:AC)(m9:(List AN))(hb:Fg b)(ht:B7 m9):Fr Tryz.prog 14 [.agg (AC.c b),.one (lst 3 AN.c m9)] (.row 9 (GG b m9).length (AL AV.c (GG b m9)) 61) (fun d=>tO (.own d 9 (GG b m9).length)):=by
 refine DC Tryz.func14 rfl kr (Df _ _) fun W0 M0=>?_;have hpl:=HJ hb.parts ht;have hp1:=QI b m9;have ht1:=Qn b;have hv1:=Mp b;have hb1:=hb.tracks;have hb2:=hb.vias;refine AA<|on<|AA<|oq 12 (ceI [.agg (AC.c b),.one (FT m9)] (dx b m9)) (Cq (ij b m9 au22 au22 au22 au22 au22) (.cons (.agg (rr9 (rr3 (rA (rr (rr .nil)))))) (.cons (AvE.refl _) .nil)))<|AE<|AA<|AA<|rs 14 _ ⟨[(2,tP 2 0),(5,tO (.own 12 9 (Ed b m9).length)),(14,tO (.own 14 6 (Bv b).length)),(15,tI ((Bv b).length:Int)),(16,tI 0)],[(DT b),(12,.row 9 (Ed b m9).length (AL AV.c (Ed b m9)) 61),(Zx b)]⟩ (rU b au22)<|AE<|AJ<|lpC (κ:=List AV×Int) (fun x=>⟨[(2,tP 2 0),(5,tO (.own 12 9 x.2.1.length)),(14,tO (.own 14 6 (Bv b).length)),(15,tI ((Bv b).length:Int)),(16,tI x.2.2)],[(DT b),(12,.row 9 x.2.1.length (AL AV.c x.2.1) 61),(Zx b)]⟩) (fun x=>(((Bv b).length:Int)-x.2.2).toNat) (fun x=>(0<=x.2.2/\(x.2.2<=((Bv b).length:Int)\/x.2.2=0)/\(x.2.1.length:Int)<=((Ed b m9).length:Int)+1*(x.2.2-0))/\Ib b m9 x.1 x.2.1 x.2.2=GG b m9) ?_ ((((Bv b).length:Int)-0).toNat+1,Ed b m9,0) ⟨lz _,⟨ax0,ax0,ax0⟩,(by simp only[GG,mi,mj])⟩;rintro n0 ⟨out,nr⟩ nq ⟨nm,ng⟩
 try dsimp only at nq nm ng
 refine AA<|on<|AA<|kb (decide ((nr:Int)<((Bv b).length:Int))) (fun h1=>?_) (fun h1=>?_)
 ·have g1:=oT h1;refine AP<|AE<|AA<|AJ<|AA<|oc [] [0<=(nr:Int)/\(nr:Int)<((Bv b).length:Int),nr.toNat<(Bv b).length] .nil (H2 au0 au0)<|AE<|oe [] _ [none,out.length=out.length,out.length+1<=maxLen,(out.length+1)*104<=140737488355328] (J1 31 (YY (Z0E b nr) au22)) (H3 rfl au2 au2)<|Ao<|AE<|AZ (Ag 34 (Ac (AU 9 AV.c out) (Ai 9 AV.c ((Xl b nr):List AV))))<|rg ⟨[(2,tP 2 0),(5,tO (.own 34 9 (out++(Xl b nr)).length)),(14,tO (.own 14 6 (Bv b).length)),(15,tI ((Bv b).length:Int)),(16,tI (W64 (nr+1)))],[(DT b),(Zx b),(34,.row 9 (out++(Xl b nr)).length (AL AV.c (out++(Xl b nr))) 61)]⟩ ?_
  (try rw[(show W64 (nr+1)=nr+1 from Ae oM au5)])
  refine AE ?_;refine⟨(n0,out++(Xl b nr),nr+1),⟨?_,?_,(by rw[<- ng];simp only[Ib,h1,mi,mj])⟩,lz _,Cv.trans (vr 34 12 hk0) (Cv.trans (vk [2,5,14,15,16] [2,12,14]) (Az kr))⟩
  ·dsimp only;omega
  exact⟨ax0,ax0,ax0⟩
 have g1:=oF h1;refine Aw<|Aj<|Aj<|Ay<|AE<|AA<|AA<|rs 37 _ ⟨[(5,tO (.own 12 9 out.length)),(37,tO (.own 37 8 (BL b).length)),(38,tI ((BL b).length:Int)),(39,tI 0)],[(12,.row 9 out.length (AL AV.c out) 61),(Zw b)]⟩ (rS b au22)<|AE<|AJ<|lpC (κ:=List AV×Int) (fun x=>⟨[(5,tO (.own 12 9 x.2.1.length)),(37,tO (.own 37 8 (BL b).length)),(38,tI ((BL b).length:Int)),(39,tI x.2.2)],[(12,.row 9 x.2.1.length (AL AV.c x.2.1) 61),(Zw b)]⟩) (fun x=>(((BL b).length:Int)-x.2.2).toNat) (fun x=>(0<=x.2.2/\(x.2.2<=((BL b).length:Int)\/x.2.2=0)/\(x.2.1.length:Int)<=(out.length:Int)+1*(x.2.2-0))/\JQ b m9 out nr (Ib b m9 n0) x.1 x.2.1 x.2.2=GG b m9) ?_ ((((BL b).length:Int)-0).toNat+1,out,0) ⟨lz _,⟨ax0,ax0,ax0⟩,(by rw[<- ng];simp only[Ib,h1,mi,mj])⟩;rintro n1 ⟨out',o6⟩ o0 ⟨ox,np⟩
 try dsimp only at o0 ox np
 refine AA<|on<|AA<|kb (decide ((o6:Int)<((BL b).length:Int))) (fun h2=>?_) (fun h2=>?_)
 ·have g2:=oT h2;refine AP<|AE<|AA<|AJ<|AA<|oc [] [0<=(o6:Int)/\(o6:Int)<((BL b).length:Int),o6.toNat<(BL b).length] .nil (H2 au0 au0)<|AE<|oe [] _ [none,out'.length=out'.length,out'.length+1<=maxLen,(out'.length+1)*104<=140737488355328] (J1 56 (MV (m7 (BL b) o6).At (m7 (BL b) o6).R)) (H3 rfl au2 au2)<|Ao<|AE<|AZ (Ag 59 (Ac (AU 9 AV.c out') (Ai 9 AV.c ((Xj b o6):List AV))))<|rg ⟨[(5,tO (.own 59 9 (out'++(Xj b o6)).length)),(37,tO (.own 37 8 (BL b).length)),(38,tI ((BL b).length:Int)),(39,tI (W64 (o6+1)))],[(Zw b),(59,.row 9 (out'++(Xj b o6)).length (AL AV.c (out'++(Xj b o6))) 61)]⟩ ?_
  (try rw[(show W64 (o6+1)=o6+1 from Ae oM au5)])
  refine AE ?_;refine⟨(n1,out'++(Xj b o6),o6+1),⟨?_,?_,(by rw[<- np];simp only[JQ,h2,mi,mj])⟩,lz _,Cv.trans (vr 59 12 hk0) (Cv.trans (vk [5,37,38,39] [12,37]) (Az kr))⟩
  ·dsimp only;omega
  exact⟨ax0,ax0,ax0⟩
 exact Aw<|Aj<|Aj<|Ay<|AE<|AA<|on<|AO<|xl (tO (.own 12 9 out'.length)) (frE (c:=AV.c) (xs:=out') (by rw[<- np];first|(simp only[JQ,h2,mi,mj]<;>rfl)) kr)
def Gy(l:(List Ad))(at_:AG)(drill:Int)(from_:Int)(to_:Int):(List Ad):=l++[Ad.mk (D7 at_ (W64 (Int.tdiv drill 2))) from_ to_ true]
theorem fP(l:(List Ad))(at_:AG)(drill:Int)(from_:Int)(to_:Int)(hl:l.length<30000000):WrA Tryz.prog 60 [.agg (AG.c at_),.one (.i drill),.one (.i from_),.one (.i to_)] 6 l.length (AL Ad.c l) 70 53 (Gy l at_ drill from_ to_).length (AL Ad.c (Gy l at_ drill from_ to_)):=by
 refine aX Tryz.func60 rfl kr kr fun W0 M0 X hX=>?_;exact AA<|on<|oe [] _ [(2:Int)≠0,none,l.length=l.length,l.length+1<=maxLen,(l.length+1)*64<=140737488355328] (J1 13 (MV at_ (W64 (Int.tdiv drill 2)))) (H4 au11 rfl au2 au2)<|yn (Ag 18 (Ac (AU 6 Ad.c l) (Ai 6 Ad.c ([Ad.mk (D7 at_ (W64 (Int.tdiv drill 2))) from_ to_ true]:List Ad)))) (.tup []) ⟨18,.row 6 (l++[Ad.mk (D7 at_ (W64 (Int.tdiv drill 2))) from_ to_ true]).length (AL Ad.c (l++[Ad.mk (D7 at_ (W64 (Int.tdiv drill 2))) from_ to_ true])) 70,by kernel_rfl,by kernel_rfl,by kernel_rfl,Ea (by rfl)⟩
theorem Qo(l:List Ad)(a:AG)(x f t:Int):(Gy l a x f t).length=l.length+1:=by unfold Gy;rw[d9];rfl
theorem Km(c:Bool)(l:List Ad)(a:AG)(x f t:Int):((bif c then Gy l a x f t else l).length:Int)<=(l.length:Int)+1:=by
 cases c with
 |true=>rw[mi,Qo];omega
 |false=>rw[mj];omega
theorem MT(l:List Ad)(a:AG)(x f t:Int):((Gy l a x f t).length:Int)<=(l.length:Int)+1:=by rw[Qo];omega
def Gg(b:AC)(m9:(List AN))(o8:List Ad)(nh:Int)(K0:List Ad->Int->(List Ad)):Nat->List Ad->Int->(List Ad)
 |0,_,_=>default
 |n1+1,n6,oh=>bif decide ((oh:Int)<((CM m9 ((Bd b).getD nh.toNat default).Type').1.Pads.length:Int))then((Gg b m9 o8 nh K0 n1) (bif !decide ((((CM m9 ((Bd b).getD nh.toNat default).Type').1.Pads.getD oh.toNat default).Drill:Int)=0)then(Gy n6 (BV (G1 ((Bd b).getD nh.toNat default)) ((CM m9 ((Bd b).getD nh.toNat default).Type').1.Pads.getD oh.toNat default).At) ((CM m9 ((Bd b).getD nh.toNat default).Type').1.Pads.getD oh.toNat default).Drill 1 b.Layers)else n6) (oh+1))else(K0 n6 (nh+1))
def Gf(b:AC)(m9:(List AN))(o8:List Ad)(nh:Int)(n6:List Ad)(ol:Int)(K0:List Ad->Int->(List Ad))(K1:List Ad->Int->(List Ad)):Nat->List Ad->Int->(List Ad)
 |0,_,_=>default
 |n3+1,pj,pf=>bif decide ((pf:Int)<((CO b).length:Int))then((Gf b m9 o8 nh n6 ol K0 K1 n3) (pj++[Ad.mk (JP ((CO b).getD pf.toNat default).Shape) 1 b.Layers false]) (pf+1))else pj
def FI(b:AC)(m9:(List AN))(o8:List Ad)(nh:Int)(K0:List Ad->Int->(List Ad)):Nat->List Ad->Int->(List Ad)
 |0,_,_=>default
 |n2+1,n6,ol=>bif decide ((ol:Int)<((BL b).length:Int))then((FI b m9 o8 nh K0 n2) (Gy n6 ((BL b).getD ol.toNat default).At ((BL b).getD ol.toNat default).Drill ((BL b).getD ol.toNat default).From ((BL b).getD ol.toNat default).To) (ol+1))else(Gf b m9 o8 nh n6 ol K0 (FI b m9 o8 nh K0 n2) ((((CO b).length:Int)-0).toNat+1) n6 0)
def EM(b:AC)(m9:(List AN)):Nat->List Ad->Int->(List Ad)
 |0,_,_=>default
 |n0+1,o8,nh=>bif decide ((nh:Int)<((Bd b).length:Int))then(Gg b m9 o8 nh (EM b m9 n0) ((((CM m9 ((Bd b).getD nh.toNat default).Type').1.Pads.length:Int)-0).toNat+1) o8 0)else(FI b m9 o8 nh (EM b m9 n0) ((((BL b).length:Int)-0).toNat+1) o8 0)
def DA(b:AC)(m9:(List AN)):(List Ad):=EM b m9 ((((Bd b).length:Int)-0).toNat+1) ([]:List Ad) 0
abbrev GW(m9:List AN)(b:AC)(nh:Int):=CM m9 ((Bd b).getD nh.toNat default).Type'
abbrev Lv(n6:List Ad)(b:AC)(nh:Int)(m9:List AN)(oh:Int):=Gy n6 (BV (G1 ((Bd b).getD nh.toNat default)) ((GW m9 b nh).1.Pads.getD oh.toNat default).At) ((GW m9 b nh).1.Pads.getD oh.toNat default).Drill 1 b.Layers
abbrev nD(n6:List Ad)(b:AC)(ol:Int):=Gy n6 ((BL b).getD ol.toNat default).At ((BL b).getD ol.toNat default).Drill ((BL b).getD ol.toNat default).From ((BL b).getD ol.toNat default).To
abbrev cu:Cl:=.clo 60 1 (BZ [.ptr 5 0])
abbrev IG:Nat×Blk:=(19,.row 7 (Bd b).length (AL AD.c (Bd b)) 160)
abbrev KP(t_:List (Nat×Tv)):List (Nat×Tv):=(D8 m9)::(2,tP 2 0)::(5,tP 5 0)::(6,tO cu)::t_
abbrev Nd:Nat×Tv:=(19,tO (.own 19 7 (Bd b).length))
abbrev Nf:Nat×Tv:=(20,tI ((Bd b).length:Int))
abbrev Rb(m9:List AN)(b:AC)(nh:Int):Nat×Tv:=(33,tO (lst 7 Bc.c (GW m9 b nh).1.Pads))
abbrev Rf(m9:List AN)(b:AC)(nh:Int):Nat×Tv:=(34,tI ((GW m9 b nh).1.Pads.length:Int))
abbrev aU(m9:List AN)(b:AC)(nh:Int)(oh:Int):List (Nat×Tv):=(KP m9 [(8,tP 8 0),(Nd b),(Nf b),(21,tI nh),(Rb m9 b nh),(Rf m9 b nh),(35,tI oh)])
abbrev SF:=[Ad.mk (JP ((CO b).getD pf.toNat default).Shape) 1 b.Layers false]
abbrev Ve(t_:List (Nat×Tv)):List (Nat×Tv):=(2,tP 2 0)::(5,tP 5 0)::(6,tO cu)::((56,tO (.own 56 8 (BL b).length)))::((57,tI ((BL b).length:Int)))::t_
abbrev pR:List (Nat×Tv):=(Ve b [(58,tI ol),(62,tO cu),(64,.av (.agg (AG.c ((BL b).getD ol.toNat default).At))),(66,tI ((BL b).getD ol.toNat default).Drill),(68,tI ((BL b).getD ol.toNat default).From),(70,tI ((BL b).getD ol.toNat default).To)])
abbrev Ln:Nat×Blk:=(8,.cells (AD.c ((Bd b).getD nh.toNat default)) 160)
abbrev WM:Nat×Blk:=(56,.row 8 (BL b).length (AL Ak.c (BL b)) 154)
abbrev aJ:List (Nat×Blk):=[(DT b),(5,.cells [.own 2000 6 (nD n6 b ol).length] 53),(WM b),(2000,.row 6 (nD n6 b ol).length (AL Ad.c (nD n6 b ol)) 70)]
abbrev PX:Nat×Blk:=(2000,.row 6 n6.length (AL Ad.c n6) 70)
abbrev PW:Nat×Blk:=(5,.cells [.own 2000 6 n6.length] 53)
abbrev Zv:Nat×Blk:=(74,.row 4 (CO b).length (AL AX.c (CO b)) 165)
abbrev Zo(t_:List (Nat×Tv)):List (Nat×Tv):=(2,tP 2 0)::(5,tP 5 0)::(74,tO (.own 74 4 (CO b).length))::(75,tI ((CO b).length:Int))::t_
theorem fb(b:AC)(m9:(List AN))(hb:Fg b)(ht:B7 m9):Fr Tryz.prog 17 [.agg (AC.c b),.one (lst 3 AN.c m9)] (.row 6 (DA b m9).length (AL Ad.c (DA b m9)) 70) (fun d=>tO (.own d 6 (DA b m9).length)):=by
 refine DC Tryz.func17 rfl kr (Df _ _) fun W0 M0=>?_;have ht1:=eG b;have hv1:=Mp b;have hs1:=Tr b;have hb1:=hb.parts;have hb2:=hb.vias;have hb3:=hb.slots;refine AA<|on<|AA<|on<|AA<|on<|AA<|AA<|rs 19 _ ⟨(KP m9 [(Nd b),(Nf b),(21,tI 0)]),[(DT b),(5,.cells [vN] 53),(IG b)]⟩ (zN b au22)<|AE<|AJ<|AZ (Cv.trans (vg 2000 6 m8 70 [] [(5,[0])] hk0) (Cv.trans (Ag 2000 (Bh 6 m8 Ad.c)) (ck (⟨(KP m9 [(Nd b),(Nf b),(21,tI 0)]),[(DT b),(5,.cells [.own 2000 6 ([]:List Ad).length] 53),(IG b),(2000,.row 6 ([]:List Ad).length (AL Ad.c ([]:List Ad)) 70)]⟩))))<|lpC (κ:=List Ad×Int) (fun x=>⟨(KP m9 [(Nd b),(Nf b),(21,tI x.2.2)]),[(DT b),(5,.cells [.own 2000 6 x.2.1.length] 53),(IG b),(2000,.row 6 x.2.1.length (AL Ad.c x.2.1) 70)]⟩) (fun x=>(((Bd b).length:Int)-x.2.2).toNat) (fun x=>((x.2.1.length:Int)<=1000000*x.2.2/\0<=x.2.2/\(x.2.2<=((Bd b).length:Int)\/x.2.2=0))/\EM b m9 x.1 x.2.1 x.2.2=DA b m9) ?_ ((((Bd b).length:Int)-0).toNat+1,([]:List Ad),0) ⟨lz _,⟨ax0,ax0,ax0⟩,(by simp only[DA,mi,mj])⟩;rintro n0 ⟨o8,nh⟩ nq ⟨nm,ng⟩
 try dsimp only at nq nm ng
 refine AA<|on<|AA<|kb (decide ((nh:Int)<((Bd b).length:Int))) (fun h1=>?_) (fun h1=>?_)
 ·have g1:=oT h1;refine AP<|AE<|AA<|AJ<|AA<|oc [] [0<=(nh:Int)/\(nh:Int)<((Bd b).length:Int),nh.toNat<(Bd b).length] .nil (H2 au0 au0)<|AE<|AA<|oq 29 _ (dk m9 (m7 (Bd b) nh).Type' au22)<|AE<|AA<|rn ⟨(KP m9 [(8,tP 8 0),(Nd b),(Nf b),(21,tI nh),(Rb m9 b nh),(Rf m9 b nh),(35,tI 0)]),[(DT b),(5,.cells [.own 2000 6 o8.length] 53),(Ln b nh),(IG b),(2000,.row 6 o8.length (AL Ad.c o8) 70)]⟩<|AJ ?_;refine lpC (κ:=List Ad×Int) (fun x=>⟨(KP m9 [(8,tP 8 0),(Nd b),(Nf b),(21,tI nh),(Rb m9 b nh),(Rf m9 b nh),(35,tI x.2.2)]),[(DT b),(5,.cells [.own 2000 6 x.2.1.length] 53),(Ln b nh),(IG b),(2000,.row 6 x.2.1.length (AL Ad.c x.2.1) 70)]⟩) (fun x=>(((CM m9 (m7 (Bd b) nh).Type').1.Pads.length:Int)-x.2.2).toNat) (fun x=>((x.2.1.length:Int)<=1000000*nh+x.2.2/\0<=x.2.2/\(x.2.2<=((CM m9 (m7 (Bd b) nh).Type').1.Pads.length:Int)\/x.2.2=0))/\Gg b m9 o8 nh (EM b m9 n0) x.1 x.2.1 x.2.2=DA b m9) ?_ ((((CM m9 (m7 (Bd b) nh).Type').1.Pads.length:Int)-0).toNat+1,o8,0) ⟨lz _,⟨ax0,ax0,ax0⟩,(by rw[<- ng];simp only[EM,h1,mi,mj])⟩;rintro n1 ⟨n6,oh⟩ o0 ⟨ox,np⟩
  try dsimp only at o0 ox np
  have hpp:=ND ht (m7 (Bd b) nh).Type';refine AA<|on<|AA<|kb (decide ((oh:Int)<((CM m9 (m7 (Bd b) nh).Type').1.Pads.length:Int))) (fun h2=>?_) (fun h2=>?_)
  ·have g2:=oT h2;refine AP<|AE<|AA<|B4 (⟨(aU m9 b nh oh),[(DT b),(5,.cells [.own 2000 6 (bif !decide (((m7 (GW m9 b nh).1.Pads oh).Drill:Int)=0)then(Lv n6 b nh m9 oh)else n6).length] 53),(Ln b nh),(IG b),(2000,.row 6 (bif !decide (((m7 (GW m9 b nh).1.Pads oh).Drill:Int)=0)then(Lv n6 b nh m9 oh)else n6).length (AL Ad.c (bif !decide (((m7 (GW m9 b nh).1.Pads oh).Drill:Int)=0)then(Lv n6 b nh m9 oh)else n6)) 70)]⟩) ?_ ?_
   ·refine AJ<|AA<|oc [] [0<=(oh:Int)/\(oh:Int)<((CM m9 (m7 (Bd b) nh).Type').1.Pads.length:Int)] .nil (H1 au0)<|AE<|AA<|on<|kb (!decide ((((CM m9 (m7 (Bd b) nh).Type').1.Pads.getD oh.toNat default).Drill:Int)=0)) (fun h3=>?_) (fun h3=>?_)
    ·have g3:=B8 h3
     refine XU (q:=5) (r:=2000) NA C8 10 rfl kr [] [] [(44,RQ (m7 (Bd b) nh)),(47,Ig (G1 (m7 (Bd b) nh)) (m7 (GW m9 b nh).1.Pads oh).At)] [1,2,5,6,8,19,20,21,33,34,35,42,47,49,51] [2,5,8,19,2000] [Cp (RQ (m7 (Bd b) nh)).2.1,Cp (Ig (G1 (m7 (Bd b) nh)) ((CM m9 (m7 (Bd b) nh).Type').1.Pads.getD oh.toNat default).At).2.1] ⟨(KP m9 [(8,tP 8 0),(Nd b),(Nf b),(21,tI nh),(Rb m9 b nh),(Rf m9 b nh),(35,tI oh),(42,tO cu),(47,.av (.agg (AG.c (BV (G1 (m7 (Bd b) nh)) (m7 (GW m9 b nh).1.Pads oh).At)))),(49,tI (m7 (GW m9 b nh).1.Pads oh).Drill),(51,tI b.Layers)]),[(DT b),(PW n6),(Ln b nh),(IG b),(PX n6)]⟩ ⟨(KP m9 [(8,tP 8 0),(Nd b),(Nf b),(21,tI nh),(Rb m9 b nh),(Rf m9 b nh),(35,tI oh),(42,tO cu),(47,.av (.agg (AG.c (BV (G1 (m7 (Bd b) nh)) (m7 (GW m9 b nh).1.Pads oh).At)))),(49,tI (m7 (GW m9 b nh).1.Pads oh).Drill),(51,tI b.Layers)]),[(DT b),(5,.cells [.own 2000 6 (Lv n6 b nh m9 oh).length] 53),(Ln b nh),(IG b),(2000,.row 6 (Lv n6 b nh m9 oh).length (AL Ad.c (Lv n6 b nh m9 oh)) 70)]⟩ (.cons (YZ (m7 (Bd b) nh)) (.cons (EW (G1 (m7 (Bd b) nh)) ((CM m9 (m7 (Bd b) nh).Type').1.Pads.getD oh.toNat default).At) .nil)) kr kr (.cons rfl (.cons rfl .nil)) kr hk1 kr ⟨⟨_,_,60,1,BZ [.ptr 5 0],[.agg (AG.c (BV (G1 (m7 (Bd b) nh)) ((CM m9 (m7 (Bd b) nh).Type').1.Pads.getD oh.toNat default).At)),.one (.i ((CM m9 (m7 (Bd b) nh).Type').1.Pads.getD oh.toNat default).Drill),.one (.i 1),.one (.i b.Layers)],rfl,rfl,by kernel_rfl,rfl,by kernel_rfl,by kernel_rfl,fun _ _=>by kernel_rfl,fP n6 (BV (G1 (m7 (Bd b) nh)) ((CM m9 (m7 (Bd b) nh).Type').1.Pads.getD oh.toNat default).At) ((CM m9 (m7 (Bd b) nh).Type').1.Pads.getD oh.toNat default).Drill 1 b.Layers au22⟩,rfl,by kernel_rfl,by kernel_rfl,by kernel_rfl⟩ kr<|Ao<|AE ?_
     refine Cv.trans (ck (⟨(aU m9 b nh oh),[(DT b),(5,.cells [.own 2000 6 (Lv n6 b nh m9 oh).length] 53),(Ln b nh),(IG b),(2000,.row 6 (Lv n6 b nh m9 oh).length (AL Ad.c (Lv n6 b nh m9 oh)) 70)]⟩)) (Az ?_)
     first|rfl|(simp only[h3,mi,mj]<;>rfl)
    have g3:=B3 h3;refine AP<|Ao<|AE<|Cv.trans (ck (⟨(aU m9 b nh oh),[(DT b),(PW n6),(Ln b nh),(IG b),(PX n6)]⟩)) (Az ?_)
    first|rfl|(simp only[h3,mi,mj]<;>rfl)
   refine rg ⟨(KP m9 [(8,tP 8 0),(Nd b),(Nf b),(21,tI nh),(Rb m9 b nh),(Rf m9 b nh),(35,tI (W64 (oh+1)))]),[(DT b),(5,.cells [.own 2000 6 (bif !decide (((m7 (GW m9 b nh).1.Pads oh).Drill:Int)=0)then(Lv n6 b nh m9 oh)else n6).length] 53),(Ln b nh),(IG b),(2000,.row 6 (bif !decide (((m7 (GW m9 b nh).1.Pads oh).Drill:Int)=0)then(Lv n6 b nh m9 oh)else n6).length (AL Ad.c (bif !decide (((m7 (GW m9 b nh).1.Pads oh).Drill:Int)=0)then(Lv n6 b nh m9 oh)else n6)) 70)]⟩ ?_
   (try rw[(show W64 (oh+1)=oh+1 from Ae oM au5)])
   refine AE ?_;refine⟨(n1,bif !decide ((((CM m9 (m7 (Bd b) nh).Type').1.Pads.getD oh.toNat default).Drill:Int)=0)then(Gy n6 (BV (G1 (m7 (Bd b) nh)) ((CM m9 (m7 (Bd b) nh).Type').1.Pads.getD oh.toNat default).At) ((CM m9 (m7 (Bd b) nh).Type').1.Pads.getD oh.toNat default).Drill 1 b.Layers)else n6,oh+1),⟨?_,?_,(by rw[<- np];simp only[Gg,h2,mi,mj])⟩,lz _,Az kr⟩
   ·dsimp only;omega
   exact(by dsimp only;(first|(refine⟨?_,by omega,by omega⟩)|skip);first|omega|(refine Int.le_trans (Km _ _ _ _ _ _) ?_;omega)|(refine Int.le_trans (MT _ _ _ _ _) ?_;omega)|exact at0)
  have g2:=oF h2;refine Aw<|Aj<|Aj<|Ay<|Ao<|AE<|rg ⟨(KP m9 [(Nd b),(Nf b),(21,tI (W64 (nh+1)))]),[(DT b),(PW n6),(IG b),(PX n6)]⟩ ?_
  (try rw[(show W64 (nh+1)=nh+1 from Ae oM au5)])
  refine AE ?_;refine⟨(n0,n6,nh+1),⟨?_,?_,(by rw[<- np];simp only[Gg,h2,mi,mj])⟩,lz _,Az kr⟩
  ·dsimp only;omega
  exact(by dsimp only;(first|(refine⟨?_,by omega,by omega⟩)|skip);first|omega|(refine Int.le_trans (Km _ _ _ _ _ _) ?_;omega)|(refine Int.le_trans (MT _ _ _ _ _) ?_;omega)|exact at0)
 have g1:=oF h1;refine Aw<|Aj<|Aj<|Ay<|AE<|AA<|AA<|rs 56 _ ⟨(Ve b [(58,tI 0)]),[(DT b),(5,.cells [.own 2000 6 o8.length] 53),(WM b),(2000,.row 6 o8.length (AL Ad.c o8) 70)]⟩ (rS b au22)<|AE<|AJ<|lpC (κ:=List Ad×Int) (fun x=>⟨(Ve b [(58,tI x.2.2)]),[(DT b),(5,.cells [.own 2000 6 x.2.1.length] 53),(WM b),(2000,.row 6 x.2.1.length (AL Ad.c x.2.1) 70)]⟩) (fun x=>(((BL b).length:Int)-x.2.2).toNat) (fun x=>((x.2.1.length:Int)<=20000000+x.2.2/\0<=x.2.2/\(x.2.2<=((BL b).length:Int)\/x.2.2=0))/\FI b m9 o8 nh (EM b m9 n0) x.1 x.2.1 x.2.2=DA b m9) ?_ ((((BL b).length:Int)-0).toNat+1,o8,0) ⟨lz _,⟨ax0,ax0,ax0⟩,(by rw[<- ng];simp only[EM,h1,mi,mj])⟩;rintro n2 ⟨n6,ol⟩ pd ⟨pg,oy⟩
 try dsimp only at pd pg oy
 refine AA<|on<|AA<|kb (decide ((ol:Int)<((BL b).length:Int))) (fun h2=>?_) (fun h2=>?_)
 ·have g2:=oT h2;refine AP<|AE<|AA<|AJ<|AA<|rc [] [0<=(ol:Int)/\(ol:Int)<((BL b).length:Int),ol.toNat<(BL b).length] ⟨[(2,tP 2 0),(5,tP 5 0),(6,tO cu),(14,tP 14 0),((56,tO (.own 56 8 (BL b).length))),((57,tI ((BL b).length:Int))),(58,tI ol)],[(DT b),(PW n6),(14,.cells (Ak.c (m7 (BL b) ol)) 154),(WM b),(PX n6)]⟩ .nil (H2 au0 au0)<|AE<|DZ<|Fk C8 9 [] [] [] [2,5,6,56,57,58,62,64,66,68,70] [2,5,56,2000] [] ⟨(pR b ol),[(DT b),(PW n6),(WM b),(PX n6)]⟩ .nil kr .nil<|lO (q:=5) (r:=2000) (⟨(pR b ol),(aJ b n6 ol)⟩) hk1 kr ⟨⟨_,_,60,1,BZ [.ptr 5 0],[.agg (AG.c (m7 (BL b) ol).At),.one (.i (m7 (BL b) ol).Drill),.one (.i (m7 (BL b) ol).From),.one (.i (m7 (BL b) ol).To)],rfl,rfl,by kernel_rfl,rfl,by kernel_rfl,by kernel_rfl,fun _ _=>by kernel_rfl,fP n6 (m7 (BL b) ol).At (m7 (BL b) ol).Drill (m7 (BL b) ol).From (m7 (BL b) ol).To au22⟩,rfl,by kernel_rfl,by kernel_rfl,by kernel_rfl⟩ kr ?_;refine Er C8 [] [] [] [2,5,6,56,57,58] [2,5,56,2000] [] ⟨(Ve b [(58,tI ol)]),(aJ b n6 ol)⟩ .nil kr .nil<|Ao<|AE<|rg ⟨(Ve b [(58,tI (W64 (ol+1)))]),(aJ b n6 ol)⟩ ?_
  (try rw[(show W64 (ol+1)=ol+1 from Ae oM au5)])
  refine AE ?_;refine⟨(n2,Gy n6 (m7 (BL b) ol).At (m7 (BL b) ol).Drill (m7 (BL b) ol).From (m7 (BL b) ol).To,ol+1),⟨?_,?_,(by rw[<- oy];simp only[FI,h2,mi,mj])⟩,lz _,Az kr⟩
  ·dsimp only;omega
  exact(by dsimp only;(first|(refine⟨?_,by omega,by omega⟩)|skip);first|omega|(refine Int.le_trans (Km _ _ _ _ _ _) ?_;omega)|(refine Int.le_trans (MT _ _ _ _ _) ?_;omega)|exact at0)
 have g2:=oF h2;refine Aw<|Aj<|Aj<|Ay<|AE<|AA<|AA<|rs 74 _ ⟨(Zo b [(76,tI 0)]),[(DT b),(PW n6),(Zv b),(PX n6)]⟩ (zM b au22)<|AE<|AJ<|lpC (κ:=List Ad×Int) (fun x=>⟨(Zo b [(76,tI x.2.2)]),[(DT b),(5,.cells [.own 2000 6 x.2.1.length] 53),(Zv b),(2000,.row 6 x.2.1.length (AL Ad.c x.2.1) 70)]⟩) (fun x=>(((CO b).length:Int)-x.2.2).toNat) (fun x=>((x.2.1.length:Int)<=20000020+x.2.2/\0<=x.2.2/\(x.2.2<=((CO b).length:Int)\/x.2.2=0)/\(x.2.1.length:Int)<=(n6.length:Int)+1*(x.2.2-0))/\Gf b m9 o8 nh n6 ol (EM b m9 n0) (FI b m9 o8 nh (EM b m9 n0) n2) x.1 x.2.1 x.2.2=DA b m9) ?_ ((((CO b).length:Int)-0).toNat+1,n6,0) ⟨lz _,⟨ax0,ax0,ax0,ax0⟩,(by rw[<- oy];simp only[FI,h2,mi,mj])⟩;rintro n3 ⟨pj,pf⟩ pn ⟨po,ph⟩
 try dsimp only at pn po ph
 refine AA<|on<|AA<|kb (decide ((pf:Int)<((CO b).length:Int))) (fun h3=>?_) (fun h3=>?_)
 ·have g3:=oT h3;refine AP<|AE<|AA<|AJ<|AA<|oc [] [0<=(pf:Int)/\(pf:Int)<((CO b).length:Int),pf.toNat<(CO b).length] .nil (H2 au0 au0)<|AE<|oe [] _ [none,pj.length=pj.length,pj.length+1<=maxLen,(pj.length+1)*64<=140737488355328] (J1 83 (YY (m7 (CO b) pf).Shape au22)) (H3 rfl au2 au2)<|Ao<|AE<|AZ (Ag 88 (Ac (AU 6 Ad.c pj) (Ai 6 Ad.c ([Ad.mk (JP (m7 (CO b) pf).Shape) 1 b.Layers false]:List Ad))))<|rg ⟨(Zo b [(76,tI (W64 (pf+1)))]),[(DT b),(5,.cells [.own 88 6 (pj++(SF b pf)).length] 53),(Zv b),(88,.row 6 (pj++(SF b pf)).length (AL Ad.c (pj++(SF b pf))) 70)]⟩ ?_
  (try rw[(show W64 (pf+1)=pf+1 from Ae oM au5)])
  refine AE ?_;refine⟨(n3,pj++[Ad.mk (JP (m7 (CO b) pf).Shape) 1 b.Layers false],pf+1),⟨?_,?_,(by rw[<- ph];simp only[Gf,h3,mi,mj])⟩,lz _,Cv.trans (vr 88 2000 hk0) (Az kr)⟩
  ·dsimp only;omega
  exact(by dsimp only;(first|(refine⟨?_,by omega,by omega⟩)|skip);first|omega|(refine Int.le_trans (Km _ _ _ _ _ _) ?_;omega)|(refine Int.le_trans (MT _ _ _ _ _) ?_;omega)|exact at0)
 exact Aw<|Aj<|Aj<|Ay<|AE<|AA<|on<|AO<|xl (tO (.own 2000 6 pj.length)) (frE (c:=Ad.c) (xs:=pj) (by rw[<- ph];first|(simp only[Gf,h3,mi,mj]<;>rfl)) kr)
end
section
open Go.RowKit
def lyP(l:List AV)(layer:Int)(k:Nat):Bool:=bif decide ((l.getD k default).From<=layer)then decide (layer<=(l.getD k default).To)else false
def lyC(l:List AV)(layer:Int)(k:Nat):Nat:=((List.range k).filter (lyP l layer)).length
def lyL(l:List AV)(layer:Int):List Int:=((List.range l.length).filter (lyP l layer)).map Int.ofNat
theorem aj(l:List AV)(layer:Int):(lyL l layer).length<=l.length:=by
 unfold lyL;rw[ke];exact ln (List.length_filter_le _ _) (by rw[List.length_range];exact lu _)
theorem am(l:List AV)(layer:Int):lyC l layer l.length=(lyL l layer).length:=by unfold lyC lyL;rw[ke]
theorem tJ(p:Nat->Bool)(k n:Nat)(h:k<n)(hp:p k=true):∃r,(List.range n).filter p=(List.range k).filter p++k::r:=by
 obtain⟨m,rfl⟩:∃m,n=k+(m+1):=⟨n-k-1,by omega⟩;rw[List.range_add,List.filter_append,List.range_succ_eq_map,List.map_cons,Nat.add_zero,List.filter_cons_of_pos hp];exact⟨_,rfl⟩
theorem ak{l:List AV}{layer:Int}{k:Nat}(hp:lyP l layer k=true):lyC l layer (k+1)=lyC l layer k+1:=by
 unfold lyC;rw[List.range_succ,List.filter_append,List.filter_cons_of_pos hp];simp
theorem i8{l:List AV}{layer:Int}{k:Nat}(hp:lyP l layer k=false):lyC l layer (k+1)=lyC l layer k:=by
 unfold lyC;rw[List.range_succ,List.filter_append,List.filter_cons_of_neg (by rw[hp];decide)];simp
theorem ly_at{l:List AV}{layer:Int}{k:Nat}(h:k<l.length)(hp:lyP l layer k=true):lyC l layer k<(lyL l layer).length/\(lyL l layer).getD (lyC l layer k) 0=k:=by
 obtain⟨r,hr⟩:=tJ (lyP l layer) k l.length h hp;unfold lyL lyC;rw[hr];constructor
 ·simp
 rw[aE,List.map_append,kz m3];simp
abbrev GE(l:List AV):Cl:=.eptr 1 1 (fun _ j=>([lst 9 AV.c l]:List Cl).getD j default) 0 0
abbrev GD(n:Int):Cl:=.eptr 1 1 (fun _ j=>([.i n]:List Cl).getD j default) 0 0
abbrev iQ(x:AV):Cl:=.eptr 9 1 (fun _ j=>(AV.c x:List Cl).getD j default) 0 0
abbrev ylY(ly:Nat):Tv:=.av (.one (.val (.func (.yield ly) #[] #[])))
abbrev tOY(c:Cl):Tv:=.av (.one c)
theorem zX(l:List AV):NM (GE l):=GO fun y hy=>by rw[List.mem_singleton.1 hy];exact C0 L1
theorem zW(n:Int):NM (GD n):=GO fun y hy=>by rw[List.mem_singleton.1 hy];exact .val _
section
variable (l:List AV)(layer:Int)
theorem tH(hl:(l.length:Int)<=1000000):LM Tryz.prog 126 2 (BZ [GE l,GD layer]) (lyL l layer).length (fun x=>[.one (.i ((lyL l layer).getD x.val 0))]):=by
 refine Uo Tryz.func126 rfl rfl (fun x=>rfl) (fun x e he c hc=>?_) kr (fun i hi=>?_) ?_
 ·rw[List.mem_singleton.1 he]at hc;rw[List.mem_singleton.1 hc];rfl
 ·match i,hi with
  |0,_=>rfl
  |1,_=>rfl
 intro Ow n0 ly JJ Jx hO hJg hY;refine ED ?_;refine EJ hO (Ck (p:=fun u=>Tv.dv u=true) (by simp[FP,Dc,Tv.dv,Av.dv,Cl.dv,List.range,List.range.loop,BZ])) rfl fun W0 X1 M1=>?_;refine rg ⟨[(0,ylY ly),(1,tOY (GE l)),(2,tOY (GD layer)),(6,tOY (lst 9 AV.c l)),(7,tI (l.length:Int)),(8,tI 0)],[]⟩ ?_;refine EA ?_;refine Hq ?_;refine RH (ι:=Nat) (fun k=>⟨[(0,ylY ly),(1,tOY (GE l)),(2,tOY (GD layer)),(6,tOY (lst 9 AV.c l)),(7,tI (l.length:Int)),(8,tI (k:Int))],[]⟩) (fun k=>JJ (lyC l layer k)) (fun k=>k<=l.length) (fun k=>l.length-k) (fun k hk=>?_) 0 (lv _);have hd:∀(x:List (Nat×Tv)),(∀p∈x,p.2.dv=true)->∀i u,get x i=some u->u.dv=true:=fun x h=>Ck (p:=fun u=>Tv.dv u=true) h;refine ED ?_;refine EJ hO (hd _ (by simp only[lf];exact⟨rfl,rfl,rfl,rfl,rfl,rfl,fun x hx=>by cases hx⟩)) rfl fun W0 X1 M1=>?_;refine rg ⟨[(0,ylY ly),(1,tOY (GE l)),(2,tOY (GD layer)),(6,tOY (lst 9 AV.c l)),(7,tI (l.length:Int)),(8,tI (k:Int)),(9,tB (decide ((k:Int)<(l.length:Int))))],[]⟩ ?_;refine EA ?_;refine ED ?_;refine Hf (decide ((k:Int)<(l.length:Int))) kr (fun hc=>?_) (fun hc=>?_)
 ·have hlt:k<l.length:=by have:=oT hc;omega
  refine JI ?_;refine EA ?_;refine ED ?_;refine Hq ?_;refine ED ?_;refine EJ hO (hd _ (by simp only[lf];exact⟨rfl,rfl,rfl,rfl,rfl,rfl,rfl,fun x hx=>by cases hx⟩)) rfl fun W0 X1 M1=>?_;refine rc [] [0<=(k:Int)/\(k:Int)<(l.length:Int)] ⟨[(0,ylY ly),(1,tOY (GE l)),(2,tOY (GD layer)),(4,tI (k:Int)),(5,tP 5 0),(6,tOY (lst 9 AV.c l)),(7,tI (l.length:Int)),(8,tI (k:Int))],[(5,.cells (AV.c (l.getD (k:Int).toNat default)) 61)]⟩ .nil (H1 ⟨by omega,by omega⟩) ?_;refine EA ?_;rw[l9];generalize hx:l.getD k default=x;refine gT (S:=⟨[(0,ylY ly),(1,tOY (GE l)),(2,tOY (GD layer)),(4,tI (k:Int)),(5,tOY (iQ x)),(6,tOY (lst 9 AV.c l)),(7,tI (l.length:Int)),(8,tI (k:Int))],[]⟩) hO (fun W0 M1=>Jq _ 5 (AV.c x) 61 (K:=[]) (fun k x h=>by cases h) kr kr kr kr) ?_;refine ED ?_;cases hp:lyP l layer k with
  |true =>
   have hG:((bif decide (x.From<=layer)then decide (layer<=x.To)else false)=true):=by unfold lyP at hp;rw[hx]at hp;exact hp
   obtain⟨hc1,hc2⟩:=ly_at hlt hp;refine Ns ?_;refine JH hO C8 11 [0,1,2,4,5,6,7,8,23] [(decide (x.From<=layer)=true)->(decide (x.From<=layer)=true),(decide (x.From<=layer)=true)->(decide (x.From<=layer)=true),(decide (x.From<=layer)=true)->(decide (x.From<=layer)=true),(decide (x.From<=layer)=true)->(decide (x.From<=layer)=true)] [(0,ylY ly),(1,tOY (GE l)),(2,tOY (GD layer)),(4,tI (k:Int)),(5,tOY (iQ x)),(6,tOY (lst 9 AV.c l)),(7,tI (l.length:Int)),(8,tI (k:Int)),(23,tB (bif decide (x.From<=layer)then decide (layer<=x.To)else false))] kr (.cons id (.cons id (.cons id (.cons id .nil)))) (hd _ (by simp only[lf];exact⟨rfl,rfl,rfl,rfl,rfl,rfl,rfl,rfl,fun x hx=>by cases hx⟩)) rfl ?_;refine OX hO C8 10 true ((bif decide (x.From<=layer)then decide (layer<=x.To)else false)=true) [] ([(0,ylY ly),(1,tOY (GE l)),(2,tOY (GD layer)),(4,tI (k:Int)),(5,tOY (iQ x)),(6,tOY (lst 9 AV.c l)),(7,tI (l.length:Int)),(8,tI (k:Int)),(23,tB (bif decide (x.From<=layer)then decide (layer<=x.To)else false))]++[(24,ylY ly)]) rfl rfl hG kr .nil (hd _ (by simp only[lf];exact⟨rfl,rfl,rfl,rfl,rfl,rfl,rfl,rfl,rfl,fun x hx=>by cases hx⟩)) rfl ?_
   refine OX hO C8 10 true ((bif decide (x.From<=layer)then decide (layer<=x.To)else false)=true) [] ([(0,ylY ly),(1,tOY (GE l)),(2,tOY (GD layer)),(4,tI (k:Int)),(5,tOY (iQ x)),(6,tOY (lst 9 AV.c l)),(7,tI (l.length:Int)),(8,tI (k:Int)),(23,tB (bif decide (x.From<=layer)then decide (layer<=x.To)else false))]++[(24,ylY ly),(25,tI (k:Int))]) rfl rfl hG kr .nil (hd _ (by simp only[List.cons_append,kn,lf];exact⟨rfl,rfl,rfl,rfl,rfl,rfl,rfl,rfl,rfl,rfl,fun x hx=>by cases hx⟩)) rfl ?_;refine kZ (ly:=ly) (d:=26) hO 10 true ((bif decide (x.From<=layer)then decide (layer<=x.To)else false)=true) rfl rfl hG [.one (.i (k:Int))] rfl rfl kr kr rfl rfl kr ?hT1 (fun A B=>hJg _ A B) (JJ (lyC l layer k+1)) (Jx (lyC l layer k+1)) ?hY [23] ?htf rfl ?ht ?hf
   case hT1=>exact Ck (p:=fun u=>Tv.dv u=true/\TvM u) (by
    simp only[List.cons_append,kn,lf];exact⟨⟨rfl,Bt (.val _)⟩,⟨rfl,Bt (zX l)⟩,⟨rfl,Bt (zW layer)⟩,⟨rfl,Bt (.val _)⟩,⟨rfl,Bt (GO (L1 x))⟩,⟨rfl,Bt (C0 L1)⟩,⟨rfl,Bt (.val _)⟩,⟨rfl,Bt (.val _)⟩,⟨rfl,Bt (.val _)⟩,⟨rfl,Bt (.val _)⟩,⟨rfl,Bt (.val _)⟩,fun x hx=>by cases hx⟩)
   case hY =>
    intro W hW;have:=hY (lyC l layer k) hc1 W hW;simp only[hc2]at this;exact this
   case htf =>
    show ∀i v,get [(23,tB (bif decide (x.From<=layer)then decide (layer<=x.To)else false))] i=some v->_;exact Ck (p:=fun v=>∃u,v=Tv.av (.one (.val u))) (by simp only[lf];exact⟨⟨_,rfl⟩,fun x hx=>by cases hx⟩)
   case ht =>
    refine L7 [0,1,2,6,7,8,23,26] ⟨[(0,ylY ly),(1,tOY (GE l)),(2,tOY (GD layer)),(6,tOY (lst 9 AV.c l)),(7,tI (l.length:Int)),(8,tI (k:Int)),(23,tB (bif decide (x.From<=layer)then decide (layer<=x.To)else false)),(26,tB true)],[]⟩ kr ?_;refine OX hO C8 10 true ((bif decide (x.From<=layer)then decide (layer<=x.To)else false)=true) [] [(0,ylY ly),(1,tOY (GE l)),(2,tOY (GD layer)),(6,tOY (lst 9 AV.c l)),(7,tI (l.length:Int)),(8,tI (k:Int)),(23,tB (bif decide (x.From<=layer)then decide (layer<=x.To)else false)),(26,tB true),(27,tB false)] rfl rfl hG kr .nil (hd _ (by simp only[lf];exact⟨rfl,rfl,rfl,rfl,rfl,rfl,rfl,rfl,fun x hx=>by cases hx⟩)) rfl ?_;refine JH hO C8 1 [0,1,2,6,7,8,28] [] [(0,ylY ly),(1,tOY (GE l)),(2,tOY (GD layer)),(6,tOY (lst 9 AV.c l)),(7,tI (l.length:Int)),(8,tI (k:Int)),(28,tB (bif (bif decide (x.From<=layer)then decide (layer<=x.To)else false)then false else false))] kr .nil (hd _ (by simp only[lf];exact⟨rfl,rfl,rfl,rfl,rfl,rfl,rfl,rfl,rfl,fun x hx=>by cases hx⟩)) rfl ?_;refine OY ?_;refine EA ?_;refine Hf (bif (bif decide (x.From<=layer)then decide (layer<=x.To)else false)then false else false) kr (fun h=>by rw[hG]at h;cases h) (fun _=>?_);refine JI ?_;refine Y3 ?_;refine EA ?_;refine EJ hO (hd _ (by simp only[lf];exact⟨rfl,rfl,rfl,rfl,rfl,rfl,rfl,fun x hx=>by cases hx⟩)) rfl fun W0 X1 M1=>?_;refine rg ⟨[(0,ylY ly),(1,tOY (GE l)),(2,tOY (GD layer)),(6,tOY (lst 9 AV.c l)),(7,tI (l.length:Int)),(8,tI (W64 ((k:Int)+1)))],[]⟩ ?_;refine EA ?_
    refine⟨k+1,by omega,by omega,?_,by rw[ak hp],rfl⟩;rw[Ae mz mz];rfl
   case hf =>
    refine L7 [23,26] ⟨[(23,tB (bif decide (x.From<=layer)then decide (layer<=x.To)else false)),(26,tB false)],[]⟩ kr ?_;refine OX hO C8 10 true ((bif decide (x.From<=layer)then decide (layer<=x.To)else false)=true) [] [(23,tB (bif decide (x.From<=layer)then decide (layer<=x.To)else false)),(26,tB false),(27,tB true)] rfl rfl hG kr .nil (hd _ (by simp only[lf];exact⟨rfl,rfl,fun x hx=>by cases hx⟩)) rfl ?_;refine JH hO C8 1 [28] [] [(28,tB (bif (bif decide (x.From<=layer)then decide (layer<=x.To)else false)then true else false))] kr .nil (hd _ (by simp only[lf];exact⟨rfl,rfl,rfl,fun x hx=>by cases hx⟩)) rfl ?_;refine OY ?_;refine EA ?_;refine Hf (bif (bif decide (x.From<=layer)then decide (layer<=x.To)else false)then true else false) kr (fun _=>?_) (fun h=>by rw[hG]at h;cases h);refine tY ?_;exact⟨.inl rfl,.inr ⟨_,hc1,rfl⟩⟩
  |false =>
   have hG:(bif decide (x.From<=layer)then decide (layer<=x.To)else false)=false:=by unfold lyP at hp;rw[hx]at hp;exact hp
   refine EJ hO (hd _ (by simp only[lf];exact⟨rfl,rfl,rfl,rfl,rfl,rfl,rfl,rfl,fun x hx=>by cases hx⟩)) rfl fun W0 X1 M1=>?_;refine DZ ?_;refine Fk C8 11 [] [] [] [0,1,2,6,7,8,23] [] [(decide (x.From<=layer)=true)->(decide (x.From<=layer)=true),(decide (x.From<=layer)=true)->(decide (x.From<=layer)=true),(decide (x.From<=layer)=true)->(decide (x.From<=layer)=true),(decide (x.From<=layer)=true)->(decide (x.From<=layer)=true)] ⟨[(0,ylY ly),(1,tOY (GE l)),(2,tOY (GD layer)),(6,tOY (lst 9 AV.c l)),(7,tI (l.length:Int)),(8,tI (k:Int)),(23,tB (bif decide (x.From<=layer)then decide (layer<=x.To)else false))],[]⟩ .nil kr (.cons id (.cons id (.cons id (.cons id .nil)))) ?_;refine I6 10 true ((bif decide (x.From<=layer)then decide (layer<=x.To)else false)=true) ⟨[(0,ylY ly),(1,tOY (GE l)),(2,tOY (GD layer)),(6,tOY (lst 9 AV.c l)),(7,tI (l.length:Int)),(8,tI (k:Int)),(23,tB (bif decide (x.From<=layer)then decide (layer<=x.To)else false)),(24,.grd ((bif decide (x.From<=layer)then decide (layer<=x.To)else false)=true) (.one (.val (.bool false))))],[]⟩ rfl rfl (fun e=>by rw[hG]at e;cases e) kr kr ?_
   refine I6 10 true ((bif decide (x.From<=layer)then decide (layer<=x.To)else false)=true) ⟨[(0,ylY ly),(1,tOY (GE l)),(2,tOY (GD layer)),(6,tOY (lst 9 AV.c l)),(7,tI (l.length:Int)),(8,tI (k:Int)),(23,tB (bif decide (x.From<=layer)then decide (layer<=x.To)else false)),(24,.grd ((bif decide (x.From<=layer)then decide (layer<=x.To)else false)=true) (.one (.val (.bool false)))),(25,.grd ((bif decide (x.From<=layer)then decide (layer<=x.To)else false)=true) (.one (.val (.bool false))))],[]⟩ rfl rfl (fun e=>by rw[hG]at e;cases e) kr kr ?_;refine I6 10 true ((bif decide (x.From<=layer)then decide (layer<=x.To)else false)=true) ⟨[(0,ylY ly),(1,tOY (GE l)),(2,tOY (GD layer)),(6,tOY (lst 9 AV.c l)),(7,tI (l.length:Int)),(8,tI (k:Int)),(23,tB (bif decide (x.From<=layer)then decide (layer<=x.To)else false)),(24,.grd ((bif decide (x.From<=layer)then decide (layer<=x.To)else false)=true) (.one (.val (.bool false)))),(25,.grd ((bif decide (x.From<=layer)then decide (layer<=x.To)else false)=true) (.one (.val (.bool false)))),(26,.grd ((bif decide (x.From<=layer)then decide (layer<=x.To)else false)=true) (.one (.val (.bool false))))],[]⟩ rfl rfl (fun e=>by rw[hG]at e;cases e) kr kr ?_
   refine I6 10 true ((bif decide (x.From<=layer)then decide (layer<=x.To)else false)=true) ⟨[(0,ylY ly),(1,tOY (GE l)),(2,tOY (GD layer)),(6,tOY (lst 9 AV.c l)),(7,tI (l.length:Int)),(8,tI (k:Int)),(23,tB (bif decide (x.From<=layer)then decide (layer<=x.To)else false)),(24,.grd ((bif decide (x.From<=layer)then decide (layer<=x.To)else false)=true) (.one (.val (.bool false)))),(25,.grd ((bif decide (x.From<=layer)then decide (layer<=x.To)else false)=true) (.one (.val (.bool false)))),(26,.grd ((bif decide (x.From<=layer)then decide (layer<=x.To)else false)=true) (.one (.val (.bool false)))),(27,.grd ((bif decide (x.From<=layer)then decide (layer<=x.To)else false)=true) (.one (.val (.bool false))))],[]⟩ rfl rfl (fun e=>by rw[hG]at e;cases e) kr kr ?_;refine Er C8 [] [] [] [0,1,2,6,7,8,28] [] [((bif decide (x.From<=layer)then decide (layer<=x.To)else false)=true)->((bif decide (x.From<=layer)then decide (layer<=x.To)else false)=true)] ⟨[(0,ylY ly),(1,tOY (GE l)),(2,tOY (GD layer)),(6,tOY (lst 9 AV.c l)),(7,tI (l.length:Int)),(8,tI (k:Int)),(28,tB (bif (bif decide (x.From<=layer)then decide (layer<=x.To)else false)then false else false))],[]⟩ .nil kr (.cons id .nil) ?_;refine EA ?_;refine Hf (bif (bif decide (x.From<=layer)then decide (layer<=x.To)else false)then false else false) kr (fun h=>by rw[hG]at h;cases h) (fun _=>?_);refine JI ?_;refine Y3 ?_;refine EA ?_
   refine EJ hO (hd _ (by simp only[lf];exact⟨rfl,rfl,rfl,rfl,rfl,rfl,rfl,fun x hx=>by cases hx⟩)) rfl fun W0 X1 M1=>?_;refine rg ⟨[(0,ylY ly),(1,tOY (GE l)),(2,tOY (GD layer)),(6,tOY (lst 9 AV.c l)),(7,tI (l.length:Int)),(8,tI (W64 ((k:Int)+1)))],[]⟩ ?_;refine EA ?_;refine⟨k+1,by omega,by omega,?_,by rw[i8 hp],rfl⟩;rw[Ae mz mz];rfl
 have hge:¬ k<l.length:=by have:=oF hc;omega
 have hkl:k=l.length:=by omega
 refine RI ?_;refine QY ?_;refine QY ?_;refine RJ ?_;exact⟨.inr rfl,.inl (by rw[hkl,am])⟩
end
end
def Z0F(l:(List AV))(layer:Int):CT:=(69,[.one (lst 9 AV.c l),.one (.i layer)],.val [] (.av (.one (.clo 126 2 (BZ [.eptr 1 1 (fun _ j_=>([lst 9 AV.c l]:List Cl).getD j_ default) 0 0,.eptr 1 1 (fun _ j_=>([.i layer]:List Cl).getD j_ default) 0 0])))))
def Ju(l:(List AV))(layer:Int):Nat->Nat->List Int->(List Int)
 |0,_,AY=>AY
 |m+1,x,AY=>(Ju l layer m (x+1)) (AY++[((lyL l layer).getD x 0)])
def FOn(l:(List AV))(layer:Int):(List Int):=Ju l layer (lyL l layer).length 0 ([]:List Int)
def cOn(l:(List AV))(layer:Int):CT:=(20,[.one (lst 9 AV.c l),.one (.i layer)],.val [] (.av (.one (lst 1 eIn (FOn l layer)))))
abbrev SE(l:List AV)(layer:Int):Nat×Tv:=(9,.av (.one (.clo 126 2 (BZ [.eptr 1 1 (gD [lst 9 AV.c l]) 0 0,.eptr 1 1 (gD [.i layer]) 0 0]))))
theorem pOn(l:(List AV))(layer:Int)(hl:(l.length:Int)<=1000000):PuP 20 (cOn l layer).2.1 (tO (lst 1 eIn (FOn l layer))):=by
 refine pwf Tryz.func20 fun W0 M0=>?_;refine AA<|on<|AA<|on<|AA<|AA<|rs 9 (Z0F l layer) ⟨[(5,tP 5 0),(SE l layer)],[(5,.cells [vN] 57)]⟩ (cPu<|fe l layer)<|AE<|AJ<|AZ (Cv.trans (vr 5 3005 hk0) (Cv.trans (vg 2000 1 m8 3 [] [(3005,[0])] hk0) (GJ (⟨[(5,tP 3005 0),(SE l layer)],[(2000,.row 1 ([]:List Int).length (AL eIn ([]:List Int)) 3),(3005,.cells [.own 2000 1 ([]:List Int).length] 57)]⟩) 2000 (Bh 1 m8 eIn)))) ?_
 refine N2 (ι:=List Int) [3005] 299999 3005 0 2000 (fun x=>[(2000,.row 1 x.length (AL eIn x) 3),(3005,.cells [.own 2000 1 x.length] 57)]) (fun x0=>[(5,tP 3005 0),(6,tI ((lyL l layer).getD x0.val 0)),(9,.av (.one (.clo 126 2 (BZ [.eptr 1 1 (gD [lst 9 AV.c l]) 0 0,.eptr 1 1 (gD [.i layer]) 0 0]))))]) (fun j x=>x.length<=j) (fun y x=>Ju l layer ((lyL l layer).length-y) y x=FOn l layer) ([]:List Int) (fun _=>rfl) kr kr (fun _ _=>kr) (tH l layer oM) kr (fun _=>by kernel_rfl) (fun _=>rfl) (fun _=>rfl) (fun x=>(Ck (p:=BkN) (by simp only[lf];exact⟨d4 (fun x y hy=>by rw[List.mem_singleton.1 hy];exact(.val _)),VL (by simp only[lf];exact⟨(.own _ _ _),fun x hx=>by cases hx⟩),fun x hx=>by cases hx⟩))) (fun x0=>(Ck (p:=TvM) (by simp only[lf];exact⟨Bt (.ptr _ _),Bt (.val _),Bt (cM (by simp only[lf];exact⟨(GO (by simp only[lf];exact⟨(C0 L1),fun x hx=>by cases hx⟩)),(GO (by simp only[lf];exact⟨(.val _),fun x hx=>by cases hx⟩)),fun x hx=>by cases hx⟩)),fun x hx=>by cases hx⟩))) (fun _=>by kernel_rfl) ax0 (by simp only[FOn,Nat.sub_zero,mi,mj]) (fun l1 W1 M1 X1 x0 j AY hinv hPX=>?_) (fun l2 W2 M2 X2 x0 j AY hPX hj hinv=>?_) (fun AY hinv ng=>?_)
 ·have nm:AY.length<=j:=hinv;clear hinv;refine EG<|rg ⟨[(5,tP 3005 0),(6,tI ((lyL l layer).getD x0.val 0)),(SE l layer)],[(2000,.row 1 AY.length (AL eIn AY) 3),(3005,.cells [.own 2000 1 AY.length] 57)]⟩ ?_;exact⟨_,Cv.refl _,rfl,rfl⟩
 ·have nm:AY.length<=j:=hinv;clear hinv;obtain⟨Xb0,hXb0⟩:∃Xb,Ju l layer ((lyL l layer).length-x0.val) x0.val AY=Xb:=⟨_,rfl⟩;have ng:=hXb0;rw[show(lyL l layer).length-x0.val=((lyL l layer).length-(x0.val+1))+1 by have:=x0.isLt;omega]at ng;have hly:=aj l layer;refine EG<|AJ<|rc [] [AY.length=AY.length,AY.length+1<=maxLen,(AY.length+1)*8<=140737488355328] ⟨[(5,tP 3005 0),(SE l layer)],[(14,.row 1 (AY.length+1) (fun i_ j_=>if i_<AY.length then(AL eIn AY) i_ j_ else(A9 1 1 [.i ((lyL l layer).getD x0.val 0)]) (i_-AY.length) j_) 3),(3005,.cells [.own 14 1 (AY.length+1)] 57)]⟩ .nil (H3 rfl au2 au2)<|Ao ?_;refine⟨_,Cv.trans (Ag 14 (Ac (AU 1 eIn AY) (Ai 1 eIn ([((lyL l layer).getD x0.val 0)]:List Int)))) (wr (⟨[(5,tP 3005 0),(SE l layer)],[(2000,.row 1 (AY++[((lyL l layer).getD x0.val 0)]).length (AL eIn (AY++[((lyL l layer).getD x0.val 0)])) 3),(3005,.cells [.own 2000 1 (AY++[((lyL l layer).getD x0.val 0)]).length] 57)]⟩) 14 2000 (K:=[299999,3005]) (fun k x h=>.inl (hPX k x h))),rfl,(AY++[((lyL l layer).getD x0.val 0)]),ax0,fun hk hF=>?_,fun _ _ h=>h⟩;have e0:Ju l layer ((lyL l layer).length-(x0.val+1)) (x0.val+1) (AY++[((lyL l layer).getD x0.val 0)])=Xb0:=by
   rw[<- ng]
   first|(simp only[Ju,mi,mj]<;>rfl)
  subst hk;change Ju l layer ((lyL l layer).length-x0.val) x0.val AY=FOn l layer at hF;show Ju l layer ((lyL l layer).length-(x0.val+1)) (x0.val+1) (AY++[((lyL l layer).getD x0.val 0)])=FOn l layer;exact e0.trans (hXb0.symm.trans hF)
 have nm:AY.length<=(lyL l layer).length:=hinv;clear hinv;change Ju l layer ((lyL l layer).length-(lyL l layer).length) (lyL l layer).length AY=FOn l layer at ng;rw[mu]at ng;exact Ao<|AE<|AA<|on<|AO<|zy (vf 2000 hk0) (by rw[<- ng];simp only[Ju,mi,mj]<;>kernel_rfl)
theorem ik(l:(List AV))(layer:Int)(hl:(l.length:Int)<=1000000):OKc (cOn l layer):=cPu<|pOn l layer hl
end Go.Proofs.YtheobjkgllmnmaaGreat
