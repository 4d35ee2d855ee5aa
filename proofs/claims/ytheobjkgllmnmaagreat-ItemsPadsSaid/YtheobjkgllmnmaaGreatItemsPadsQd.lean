/-
  No statement is proved in this text. It holds a part of what the proof of ItemsPads needs.
-/
import Derived.Test.YtheobjkgllmnmaaGreatItemsPadsQc
namespace Go.Proofs.YtheobjkgllmnmaaGreat
set_option maxRecDepth 100000
set_option linter.unusedVariables false
set_option linter.unusedSimpArgs false
open Go.RowKit
section
open Go.RowKit
def Fy (x:Int):Bool := !decide ((x:Int)=x)
variable (data' l:List AE) (x j n y:Int)
def Uj:CT:=(167,[.one (.i x)],.val [] (.av (.one (.b (Fy x)))))
theorem uV (x:Int):PuP 167 (Uj x).2.1 (tO (.b (Fy x))):=by
 refine pwf Tryz.func167 fun W0 M0 => ?_
 refine AB<|rn ⟨[(0,tI x)],[]⟩<|AB ?_
 refine rn ⟨[(2,tB (!decide ((x:Int)=x)))],[]⟩<|AW ?_
 exact xl (tO (.b (!decide ((x:Int)=x)))) (Aa (by rfl))
theorem Zf (x:Int):OKc (Uj x):=cPu<|uV x
def CB (x:Int) (y:Int):Int:=bif Fy x then (bif Fy y then 0 else (-1)) else (bif Fy y then 1 else (bif decide ((x:Int)<y) then (-1) else (bif decide ((y:Int)<x) then 1 else 0)))
def KZ:CT:=(151,[.one (.i x),.one (.i y)],.val [] (.av (.one (.i (CB x y)))))
theorem jF (x:Int) (y:Int):PuP 151 (KZ x y).2.1 (tO (.i (CB x y))):=by
 refine pwf Tryz.func151 fun W0 M0 => ?_
 refine AB<|rn ⟨[(0,tI x),(1,tI y)],[]⟩<|AB ?_
 refine rs 8 (Uj x) ⟨[(0,tI x),(1,tI y),(5,tB (Fy x))],[]⟩ (Zf x)<|AG<|AB ?_
 refine rs 10 (Uj y) ⟨[(0,tI x),(1,tI y),(5,tB (Fy x)),(6,tB (Fy y))],[]⟩ (Zf y)<|AG ?_
 refine AB<|AB ?_
 refine rn ⟨[(0,tI x),(1,tI y),(6,tB (Fy y)),(11,tB (Fy x))],[]⟩ ?_
 refine AV _ rfl (fun h1 => ?_) (fun h1 => ?_)
 ·refine AB<|AB ?_
  refine rn ⟨[(12,tB (Fy y))],[]⟩ ?_
  refine AV _ rfl (fun h2 => ?_) (fun h2 => ?_)
  ·refine AB<|rn ⟨[(4,tI 0)],[]⟩ ?_
   refine AW<|A7<|A7 ?_
   exact xl (tO (.i 0)) (Aa (by simp only [CB,h1,h2,cond_true,cond_false] <;> rfl))
  refine AY<|AG<|AB ?_
  refine rn ⟨[(4,tI (-1))],[]⟩ ?_
  refine AW<|A7 ?_
  exact xl (tO (.i (-1))) (Aa (by simp only [CB,h1,h2,cond_true,cond_false] <;> rfl))
 refine AY<|AG ?_
 refine AB<|AB ?_
 refine rn ⟨[(0,tI x),(1,tI y),(13,tB (Fy y))],[]⟩ ?_
 refine AV _ rfl (fun h2 => ?_) (fun h2 => ?_)
 ·refine AB<|rn ⟨[(4,tI 1)],[]⟩ ?_
  refine AW<|A7 ?_
  exact xl (tO (.i 1)) (Aa (by simp only [CB,h1,h2,cond_true,cond_false] <;> rfl))
 refine AY<|AG ?_
 refine AB<|AB ?_
 refine rn ⟨[(0,tI x),(1,tI y),(16,tB (decide ((x:Int)<y)))],[]⟩ ?_
 refine AV _ rfl (fun h3 => ?_) (fun h3 => ?_)
 ·refine AB<|rn ⟨[(4,tI (-1))],[]⟩ ?_
  refine AW<|A7 ?_
  exact xl (tO (.i (-1))) (Aa (by simp only [CB,h1,h2,h3,cond_true,cond_false] <;> rfl))
 refine AY<|AG ?_
 refine AB<|AB ?_
 refine rn ⟨[(19,tB (decide ((y:Int)<x)))],[]⟩ ?_
 refine AV _ rfl (fun h4 => ?_) (fun h4 => ?_)
 ·refine AB<|rn ⟨[(4,tI 1)],[]⟩ ?_
  refine AW<|A7 ?_
  exact xl (tO (.i 1)) (Aa (by simp only [CB,h1,h2,h3,h4,cond_true,cond_false] <;> rfl))
 refine AY<|AG<|AB ?_
 refine rn ⟨[(4,tI 0)],[]⟩<|AW ?_
 exact xl (tO (.i 0)) (Aa (by simp only [CB,h1,h2,h3,h4,cond_true,cond_false] <;> rfl))
theorem R6 (x:Int) (y:Int):OKc (KZ x y):=cPu<|jF x y
def RX (x:AE) (y:AE):Int:=CB x.Id y.Id
def aN (x:AE) (y:AE):CT:=(150,[.agg (AE.c x),.agg (AE.c y)],.val [] (.av (.one (.i (RX x y)))))
theorem pcmpP (x:AE) (y:AE):PuP 150 (aN x y).2.1 (tO (.i (RX x y))):=by
 refine pwf Tryz.func150 fun W0 M0 => ?_
 refine AB<|rn ⟨Ga,[(2,.cells (AE.c x) 78),(3,.cells (AE.c y) 78)]⟩<|AB ?_
 refine rs 9 (KZ x.Id y.Id) ⟨[(4,tI (CB x.Id y.Id))],[]⟩ (R6 x.Id y.Id)<|AG<|AW ?_
 exact xl (tO (.i (CB x.Id y.Id))) (Aa (by rfl))
theorem vV (x:AE) (y:AE):OKc (aN x y):=cPu<|pcmpP x y
def Il (l:(List AE)) (n:Int) (data:List AE) (i:Int) (K0:List AE->Int->(List AE)):Nat->List AE->Int->(List AE)
 | 0,_,_=>default
 | n1+1,data',j=>bif bif decide ((0:Int)<j) then decide (((RX (data'.getD j.toNat default) (data'.getD (j-1).toNat default)):Int)<0) else false then ((Il l n data i K0 n1) ((data'.set j.toNat (data'.getD (j-1).toNat default)).set (j-1).toNat (data'.getD j.toNat default)) (j-1)) else (K0 data' (i+1))
def HZ (l:(List AE)) (n:Int):Nat->List AE->Int->(List AE)
 | 0,_,_=>default
 | n0+1,data,i=>bif decide ((i:Int)<n) then (Il l n data i (HZ l n n0) (i.toNat+1) data i) else data
def FU (l:(List AE)) (n:Int):(List AE):=HZ l n ((n-1).toNat+1) l 1
abbrev TO:=data'.set j.toNat (data'.getD (j-1).toNat default)
abbrev Lc:=data'.getD j.toNat default
abbrev gA:Nat×Blk:=(1000,.row 7 ((TO data' j).set (j-1).toNat (Lc data' j)).length (AO AE.c ((TO data' j).set (j-1).toNat (Lc data' j))) 78)
abbrev HA:Bool:=(decide ((0:Int)<j))
abbrev I1:Cl:=.own 1000 7 l.length
abbrev TL:Nat×Blk:=(1000,.row 7 l.length (AO AE.c l) 78)
theorem au2 {p:Prop} (h:p:=by first | (simp;done) | (simp;omega)):p:=h
theorem lr {p:Prop} (h:p:=by repeat (first | exact .nil | refine .cons ⟨rfl,.refl _⟩ ?_)):p:=h
theorem au18 {p:Prop} (h:p:=by first | omega | (simp only [List.length_set];omega) | simp):p:=h
theorem pInsP (l:(List AE)) (n:Int) (hn:n=(l.length:Int)) (hl:l.length<20):WrR Tryz.prog 179 1000 [.one (.own 1000 7 l.length),.one (.i 0),.one (.i n),.one (.clo 150 0 dfc)] 7 l.length (AO AE.c l) 78 (.tup []) (AO AE.c (FU l n)):=by
 refine Fh Tryz.func179 rfl kr kr kr fun W0 M0 X hX => ?_
 refine AB<|rn ⟨[(0,tO (I1 l)),(1,tI 0),(2,tI n),(3,.av (.one (.clo 150 0 dfc))),(8,tI 1)],[(TL l)]⟩<|AR ?_
 refine BB (ι:=Nat×List AE×Int) (fun x=>⟨[(0,tO (.own 1000 7 x.2.1.length)),(1,tI 0),(2,tI n),(3,.av (.one (.clo 150 0 dfc))),(8,tI x.2.2)],[(1000,.row 7 x.2.1.length (AO AE.c x.2.1) 78)]⟩) (fun x=>(n-x.2.2).toNat<x.1/\(1<=x.2.2/\x.2.1.length=l.length/\1<=x.2.2/\(x.2.2<=n\/x.2.2=1))/\HZ l n x.1 x.2.1 x.2.2=FU l n) (fun x=>x.1) ?_ ((n-1).toNat+1,l,1) ⟨Nat.lt_succ_self _,⟨ax0,ax0,ax0,ax0⟩,(by simp only [FU,cond_true,cond_false])⟩
 rintro ⟨n0,data,i⟩ ⟨hm0,hinv0,hF0⟩
 try dsimp only at hm0 hinv0 hF0
 cases n0 with | zero=>exact nz hm0 | succ n0 => ?_
 refine AB<|AB ?_
 refine rn ⟨[(0,tO (.own 1000 7 data.length)),(1,tI 0),(2,tI n),(3,.av (.one (.clo 150 0 dfc))),(8,tI i),(14,tB (decide ((i:Int)<n)))],[(1000,.row 7 data.length (AO AE.c data) 78)]⟩ ?_
 refine AV _ rfl (fun h1 => ?_) (fun h1 => ?_)
 ·have g1:=oT h1
  refine AY<|AG ?_
  refine AB<|AR<|AB ?_
  refine rn ⟨[(0,tO (.own 1000 7 data.length)),(1,tI 0),(2,tI n),(3,.av (.one (.clo 150 0 dfc))),(8,tI i),(9,tI i)],[(1000,.row 7 data.length (AO AE.c data) 78)]⟩<|AR ?_
  refine BB (ι:=Nat×List AE×Int) (fun x=>⟨[(0,tO (.own 1000 7 x.2.1.length)),(1,tI 0),(2,tI n),(3,.av (.one (.clo 150 0 dfc))),(8,tI i),(9,tI x.2.2)],[(1000,.row 7 x.2.1.length (AO AE.c x.2.1) 78)]⟩) (fun x=>x.2.2.toNat<x.1/\(0<=x.2.2/\x.2.1.length=l.length/\x.2.2<n)/\Il l n data i (HZ l n n0) x.1 x.2.1 x.2.2=FU l n) (fun x=>x.1) ?_ (i.toNat+1,data,i) ⟨Nat.lt_succ_self _,⟨ax0,ax0,ax0⟩,(by rw [<- hF0];simp only [HZ,h1,cond_true,cond_false])⟩
  rintro ⟨n1,data',j⟩ ⟨hm1,hinv1,hF1⟩
  try dsimp only at hm1 hinv1 hF1
  cases n1 with | zero=>exact nz hm1 | succ n1 => ?_
  refine AB<|AB ?_
  refine dw [] [(32,aN (Lc data' j) (data'.getD (W64 (j-1)).toNat default))] (t2 (HA j) ((gk (HA j) (0<=(j:Int)/\(j:Int)<((data'.length:Nat):Int)))::(gt (HA j))::(gk (HA j) (j.toNat<data'.length))::(t3 (HA j) ((gk (HA j) (0<=(W64 (j-1):Int)/\(W64 (j-1):Int)<((data'.length:Nat):Int)))::(gt (HA j))::(gk (HA j) ((W64 (j-1)).toNat<data'.length))::(t3 (HA j) ((gk (HA j) (Ap (aN (data'.getD j.toNat default) (data'.getD (W64 (j-1)).toNat default)).2.1))::(t2 (HA j) []))))))) ⟨[(0,tO (.own 1000 7 data'.length)),(1,tI 0),(2,tI n),(3,.av (.one (.clo 150 0 dfc))),(8,tI i),(9,tI j),(34,tB (bif decide ((0:Int)<j) then decide (((RX (Lc data' j) (data'.getD (W64 (j-1)).toNat default)):Int)<0) else false))],[(1000,.row 7 data'.length (AO AE.c data') 78)]⟩ (.cons (vV (data'.getD j.toNat default) (data'.getD (W64 (j-1)).toNat default)) .nil) (c2 (.cons (fun hG=>by first | exact au0 | (simp only [decide_eq_true_eq,decide_eq_false_iff_not,Bool.not_eq_true,Bool.and_eq_true] at hG <;> omega) | (simp at hG <;> omega) | (simp only [decide_eq_true_eq,decide_eq_false_iff_not] at hG;simp only [Bx];omega)) (ci (.cons (fun hG=>by first | exact au0 | (simp only [decide_eq_true_eq,decide_eq_false_iff_not,Bool.not_eq_true,Bool.and_eq_true] at hG <;> omega) | (simp at hG <;> omega) | (simp only [decide_eq_true_eq,decide_eq_false_iff_not] at hG;simp only [Bx];omega)) (c3 (.cons (fun hG=>by first | exact au0 | (simp only [decide_eq_true_eq,decide_eq_false_iff_not,Bool.not_eq_true,Bool.and_eq_true] at hG <;> omega) | (simp at hG <;> omega) | (simp only [decide_eq_true_eq,decide_eq_false_iff_not] at hG;simp only [Bx];omega)) (ci (.cons (fun hG=>by first | exact au0 | (simp only [decide_eq_true_eq,decide_eq_false_iff_not,Bool.not_eq_true,Bool.and_eq_true] at hG <;> omega) | (simp at hG <;> omega) | (simp only [decide_eq_true_eq,decide_eq_false_iff_not] at hG;simp only [Bx];omega)) (c3 (.cons (fun _=>rfl) (c2 .nil))))))))))) ?_
  (try rw [(show W64 (j-1)=j-1 from Af oM oM)])
  refine AG ?_
  refine AV _ rfl (fun h2 => ?_) (fun h2 => ?_)
  ·have g2:=Pd h2
   refine AY<|AG ?_
   refine AB<|AR ?_
   refine dw [] [] [0<=(W64 (j-1):Int)/\(W64 (j-1):Int)<((data'.length:Nat):Int),(W64 (j-1)).toNat<data'.length,0<=(j:Int)/\(j:Int)<((data'.length:Nat):Int),j.toNat<data'.length,0<=(j:Int)/\(j:Int)<((data'.length:Nat):Int),j.toNat<data'.length,0<=(W64 (j-1):Int)/\(W64 (j-1):Int)<((data'.length:Nat):Int),(W64 (j-1)).toNat<data'.length] ⟨[(0,tO (.own 1000 7 data'.length)),(1,tI 0),(2,tI n),(3,.av (.one (.clo 150 0 dfc))),(8,tI i),(9,tI j)],[(1000,.row 7 data'.length (fun i_ j_=>if i_=(W64 (j-1)).toNat/\0<=j_/\j_<0+7 then ((AE.c (Lc data' j)):List Cl).getD (j_-0) default else (fun i_ j_=>if i_=j.toNat/\0<=j_/\j_<0+7 then ((AE.c (data'.getD (W64 (j-1)).toNat default)):List Cl).getD (j_-0) default else (AO AE.c data') i_ j_) i_ j_) 78)]⟩ .nil (.cons au0 (.cons au0 (.cons au0 (.cons au0 (.cons au0 (.cons au0 (.cons au0 (.cons au0 .nil)))))))) ?_
   (try rw [(show W64 (j-1)=j-1 from Af oM oM)])
   refine BN<|AG ?_
   refine BS (Cv.trans (BM (⟨[(0,tO (.own 1000 7 ((TO data' j).set (j-1).toNat (Lc data' j)).length)),(1,tI 0),(2,tI n),(3,.av (.one (.clo 150 0 dfc))),(8,tI i),(9,tI j)],[(gA data' j)]⟩) (.cons ⟨rfl,.av (.one (.own _ _ au2))⟩ lr) (.cons ⟨rfl,Am 78 (KM (l:=(AE.c (data'.getD j.toNat default))) (off:=0) (q:=7) (k:=(j-1).toNat) (KM (l:=(AE.c (data'.getD (j-1).toNat default))) (off:=0) (q:=7) (k:=j.toNat) (BI 7 AE.c data') au0 (data'.getD (j-1).toNat default) (F7 kr)) au0 (data'.getD j.toNat default) (F7 kr))⟩ .nil)) (Cv.refl _)) ?_
   refine rg ⟨[(0,tO (.own 1000 7 ((TO data' j).set (j-1).toNat (Lc data' j)).length)),(1,tI 0),(2,tI n),(3,.av (.one (.clo 150 0 dfc))),(8,tI i),(9,tI (W64 (j-1)))],[(gA data' j)]⟩ ?_
   (try rw [(show W64 (j-1)=j-1 from Af oM oM)])
   refine AG ?_
   refine ⟨(n1,(data'.set j.toNat (data'.getD (j-1).toNat default)).set (j-1).toNat (data'.getD j.toNat default),j-1),⟨?_,?_,(by rw [<- hF1];simp only [Il,h2,cond_true,cond_false])⟩,Nat.lt_succ_self _,Ay kr⟩
   ·show (j-1).toNat<n1;omega
   exact ⟨ax0,ax0,ax0⟩
  refine BF<|A3 ?_
  refine A3<|BG ?_
  refine BN<|AG ?_
  refine rg ⟨[(0,tO (.own 1000 7 data'.length)),(1,tI 0),(2,tI n),(3,.av (.one (.clo 150 0 dfc))),(8,tI (W64 (i+1)))],[(1000,.row 7 data'.length (AO AE.c data') 78)]⟩ ?_
  (try rw [(show W64 (i+1)=i+1 from Af oM oM)])
  refine AG ?_
  refine ⟨(n0,data',i+1),⟨?_,?_,(by rw [<- hF1];simp only [Il,h2,cond_true,cond_false])⟩,Nat.lt_succ_self _,Ay kr⟩
  ·show (n-(i+1)).toNat<n0;omega
  exact ⟨ax0,ax0,ax0,ax0⟩
 have g1:=oF h1
 refine BF<|A3 ?_
 refine A3<|BG ?_
 exact xn (.tup []) ⟨Aa rfl,.row 7 data.length (AO AE.c data) 78,by kernel_rfl,Fv (c:=AE.c) (xs:=data) (by rw [<- hF0];first | (simp only [HZ,h1,cond_true,cond_false] <;> rfl)) au18⟩
theorem kJ {p:Prop} (h:p:=by
 unfold mp0
 cases l with
 | nil=>subst hn;rfl
 | cons a l =>
  have h:=wU (fun x y=>decide (mp1 x y<0)) (a::l) (mp2 (a::l) n) id (fun m d i hi=>by
   rw [mp2,decide_eq_false oM,cond_false];rfl) (fun m i out rest x hi ho=>by
   rw [mp2,decide_eq_true oM,cond_true]
   have h1:=wT (fun x y=>decide (mp1 x y<0)) (mp3 (a::l) n (out++x::rest) i (mp2 (a::l) n m)) (fun d=>mp2 (a::l) n m d ((i:Int)+1)) (fun m d j=>by
    rw [mp3,Int.toNat_natCast,show ((j:Int)-1).toNat=j-1 by omega]) out rest x i ((i:Int).toNat+1) oM oM
   subst ho
   rw [List.take_length,List.drop_length,List.nil_append] at h1
   rw [h1]
   unfold WA
   rw [List.append_assoc];rfl) ((a::l).length-1) ((n-1).toNat+1) 1 rfl (by simp) oM
  exact h):p:=h
section
 open Go.Proofs.YtheobjkgllmnmaaGreat renaming FU→mp0,RX→mp1,HZ→mp2,Il→mp3
theorem Wv (l:List AE) (n:Int) (hn:n=(l.length:Int)):FU l n=Cd (fun x y=>decide (RX x y<0)) l:=kJ
end
theorem K9 (l:List AE) (n:Int) (hn:n=(l.length:Int)) (hl:l.length<20):(FU l n).length=l.length:=by rw [Wv l n hn,Di]
abbrev P3:Blk:=.row 7 l.length (AO AE.c l) 78
def Z0i:CT:=(179,([.one (I1 l),.one (.i 0),.one (.i n),.one (.clo 150 0 dfc)]:List Av).map (IP 1000 1000),wrI 1000 (P3 l) (.tup []) (.row 7 l.length (AO AE.c (FU l n)) 78))
def O7 (l:(List AE)) (n:Int):(List AE):=FU l n
theorem pStaP (l:(List AE)) (n:Int) (hn:n=(l.length:Int)) (hl:l.length<20):WrR Tryz.prog 166 1000 [.one (.own 1000 7 l.length),.one (.i n),.one (.clo 150 0 dfc)] 7 l.length (AO AE.c l) 78 (.tup []) (AO AE.c (O7 l n)):=by
 refine Fh Tryz.func166 rfl kr kr kr fun W0 M0 X hX => ?_
 refine AB<|rn ⟨[(0,tO (I1 l)),(1,tI n),(2,.av (.one (.clo 150 0 dfc))),(6,tI 20)],[(TL l)]⟩<|AB ?_
 refine rn ⟨[(0,tO (I1 l)),(1,tI n),(2,.av (.one (.clo 150 0 dfc))),(6,tI 20),(7,tI 0),(8,tI 20)],[(TL l)]⟩ ?_
 refine AB<|AR ?_
 refine G0 1 ?_
 refine DZ<|AB<|AB ?_
 refine rn ⟨[(0,tO (I1 l)),(1,tI n),(2,.av (.one (.clo 150 0 dfc))),(6,tI 20),(7,tI 0),(8,tI 20),(13,tB (decide ((20:Int)<=n)))],[(TL l)]⟩ ?_
 have h1:(decide ((20:Int)<=n))=false:=decide_eq_false oM
 have g1:=oF h1
 refine AV _ rfl (fun h=>absurd (h1.symm.trans h) (by decide)) (fun _ => ?_)
 refine BF<|A3 ?_
 refine A3<|BG ?_
 refine AG<|AB ?_
 refine rb 27 (Z0i l n) (P3 l) ⟨[(0,tO (I1 l)),(1,tI n),(2,.av (.one (.clo 150 0 dfc))),(6,tI 20)],[(1000,.row 7 l.length (AO AE.c (FU l n)) 78)]⟩ (Fu (fun _ _=>kr) kr (pInsP l n au10 au10))<|AG ?_
 refine BS (Cv.trans (BM (⟨[(0,tO (.own 1000 7 (FU l n).length)),(1,tI n),(2,.av (.one (.clo 150 0 dfc))),(6,tI 20)],[(1000,.row 7 (FU l n).length (AO AE.c (FU l n)) 78)]⟩) (.cons ⟨rfl,.av (.one (.own _ _ (K9 l n au10 au10).symm))⟩ lr) (.cons ⟨rfl,Am 78 (⟨(K9 l n au10 au10).symm,fun _ _ _ _=>.refl _⟩)⟩ .nil)) (Cv.refl _))<|AR ?_
 refine G0 1 ?_
 refine DZ<|AB<|AB ?_
 refine rn ⟨[(0,tO (.own 1000 7 (FU l n).length)),(1,tI n),(2,.av (.one (.clo 150 0 dfc))),(6,tI 20),(30,tB (decide ((20:Int)<n)))],[(1000,.row 7 (FU l n).length (AO AE.c (FU l n)) 78)]⟩ ?_
 have h2:(decide ((20:Int)<n))=false:=decide_eq_false oM
 have g2:=oF h2
 refine AV _ rfl (fun h=>absurd (h2.symm.trans h) (by decide)) (fun _ => ?_)
 refine BF<|A3 ?_
 refine A3<|BG ?_
 exact xn (.tup []) ⟨Aa rfl,.row 7 (FU l n).length (AO AE.c (FU l n)) 78,by kernel_rfl,Fv (c:=AE.c) (xs:=FU l n) (by simp only [O7,h1,h2,cond_true,cond_false] <;> rfl) (K9 l n hn hl)⟩
theorem Oe (l:List AE) (n:Int) (hn:n=(l.length:Int)) (hl:l.length<20):(O7 l n).length=l.length:=K9 l n hn hl
abbrev TK:=(O7 l ((l.length:Nat):Int))
def Z0j:CT:=(166,([.one (I1 l),.one (.i ((l.length:Nat):Int)),.one (.clo 150 0 dfc)]:List Av).map (IP 1000 1000),wrI 1000 (P3 l) (.tup []) (.row 7 l.length (AO AE.c (TK l)) 78))
def CI (l:(List AE)):(List AE):=O7 l ((l.length:Nat):Int)
theorem pSrtP (l:(List AE)) (hl:l.length<20):WrR Tryz.prog 149 1000 [.one (.own 1000 7 l.length),.one (.clo 150 0 dfc)] 7 l.length (AO AE.c l) 78 (.tup []) (AO AE.c (CI l)):=by
 refine Fh Tryz.func149 rfl kr kr kr fun W0 M0 X hX => ?_
 refine rb 8 (Z0j l) (P3 l) ⟨[],[(1000,.row 7 l.length (AO AE.c (TK l)) 78)]⟩ (Fu (fun _ _=>kr) kr (pStaP l ((l.length:Nat):Int) au10 au10)) ?_
 exact yn (Cv.trans (BM (⟨[],[(1000,.row 7 (TK l).length (AO AE.c (TK l)) 78)]⟩) .nil (.cons ⟨rfl,Am 78 (⟨(Oe l ((l.length:Nat):Int) au10 au10).symm,fun _ _ _ _=>.refl _⟩)⟩ .nil)) (Cv.refl _)) (.tup []) ⟨Aa rfl,.row 7 (O7 l ((l.length:Nat):Int)).length (AO AE.c (O7 l ((l.length:Nat):Int))) 78,by kernel_rfl,Fv (c:=AE.c) (xs:=O7 l ((l.length:Nat):Int)) (by rfl) (Oe l _ rfl hl)⟩
theorem K8 (l:List AE) (hl:l.length<20):(CI l).length=l.length:=Oe l _ rfl hl
theorem nV (l:List AE):CI l=Cd (fun x y=>decide (RX x y<0)) l:=Wv l _ rfl
end
section
open Go.RowKit
def Wd (p:A1):Prop:=(p.Shape.Edges.length:Int)<=1000000
def MT (g:A5):Prop:=(g.Legs.length:Int)<=1000000
def MP (t:AQ):Prop:=(t.Pads.length:Int)<=1000000/\(t.Gates.length:Int)<=1000000/\(∀ p∈t.Pads,Wd p)/\∀ g∈t.Gates,MT g
def CP (l:List AQ):Prop:=(l.length:Int)<=1000000/\∀ t∈l,MP t
theorem Gq {α:Type} [Inhabited α] {p:α->Prop} {l:List α} (hd:p default) (h:∀ x∈l,p x) (k:Nat):p (l.getD k default):=by
 rw [List.getD_eq_getElem?_getD]
 cases hk:l[k]? with
 | none=>exact hd
 | some x=>exact h x (List.mem_of_getElem? hk)
theorem Xh {l:List AQ} (h:CP l) (k:Nat):MP (l.getD k default):=Gq (p:=MP) ⟨by decide,by decide,(fun p hp=>by cases hp),fun p hp=>by cases hp⟩ h.2 k
theorem Qd {t:AQ} (h:MP t) (k:Nat):((t.Pads.getD k default).Shape.Edges.length:Int)<=1000000:=Gq (p:=Wd) (by unfold Wd;decide) h.2.2.1 k
theorem SV {t:AQ} (h:MP t) (k:Nat):((t.Gates.getD k default).Legs.length:Int)<=1000000:=Gq (p:=MT) (by unfold MT;decide) h.2.2.2 k
theorem au3 {p:Prop} (h:p:=by first | (unfold maxLen;omega) | (unfold maxLen;simp only [List.length_append,List.length_cons,List.length_nil];omega) | first | omega | (simp only [List.length_append,List.length_cons,List.length_nil];omega) | (simp only [qP,qO,qN,YM];omega)):p:=h
theorem wJ {p:Prop} (h:p:=by
 refine ED mp0 rfl kr (Er _ _) fun W0 M0 => ?_
 refine AB<|rn ⟨[(0,.av (.one (.list true mp1 l.length (AO mp2 l))))],[]⟩ ?_
 refine AB<|AB ?_
 refine rn ⟨[(0,.av (.one (.list true mp1 l.length (AO mp2 l)))),(4,tB false)],[]⟩ ?_
 refine FC kr<|AY ?_
 refine AG<|AB ?_
 refine Cu C2 [5] [] [] [2] [7] [0=0,0+l.length<=maxLen,(0+l.length)*mp3<=140737488355328] ⟨[(2,tO (.own 7 mp1 (0+l.length)))],[(7,.row mp1 (0+l.length) (fun i_ j_=>if i_<0 then (As mp1 0 []) i_ j_ else (AO mp2 l) (i_-0) j_) mp4)]⟩ .nil kr (.cons rfl (.cons au3 (.cons au3 .nil)))<|AG ?_
 refine BS (Cv.trans (BM (⟨[(2,tO (.own 7 mp1 l.length))],[(7,.row mp1 l.length (AO mp2 l) mp4)]⟩) (.cons ⟨rfl,.av (.one (.own _ _ au2))⟩ .nil) (.cons ⟨rfl,Am mp4 (BR (Aq (c:=mp2) (xs:=(([]:List mp5):List mp5)) rfl kr) (BI mp1 mp2 l))⟩ .nil)) (Cv.refl _))<|AW ?_
 exact xl (tO (.own 7 mp1 l.length)) (frE (c:=mp2) (xs:=l) (by rfl) kr)):p:=h
section
 open Go.Proofs.YtheobjkgllmnmaaGreat renaming nn7→mp1,AF.c→mp2,qN→mp3,nn68→mp4,AF→mp5
 open Go.Proofs.Tryz renaming func77→mp0
theorem iO (l:(List AF)) (h0:(l.length:Int)<=1000000):Fr Tryz.prog 77 [.one (.list true 7 l.length (AO AF.c l))] (.row 7 l.length (AO AF.c l) 68) (fun d=>tO (.own d 7 l.length)):=wJ
end
abbrev vN:Cl:=.val (.slice none 0 0)
theorem wI {p:Prop} (h:p:=by
 refine ED mp0 rfl kr (Er _ _) fun W0 M0 => ?_
 cases l with
 | cons a l=>cases h0
 | nil =>
 refine AB<|rn ⟨[(0,.av (.one vN))],[]⟩ ?_
 refine AB<|AB ?_
 refine rn ⟨[(0,.av (.one vN)),(4,tB true)],[]⟩ ?_
 refine Cw kr<|AB ?_
 refine rn ⟨[(2,.av (.one vN))],[]⟩ ?_
 refine AW<|A7 ?_
 exact yl (Cv.trans (wg (⟨[(2,tO (.own 100000 mp1 0))],[(100000,.row mp1 0 (fun _ _=>default) mp2)]⟩) 100000 mp1 (fun _ _=>default) mp2 [(2,[0])] [] hk0) (Cv.trans (BM (⟨[(2,tO (.own 100000 mp1 ([]:List mp3).length))],[(100000,.row mp1 ([]:List mp3).length (AO mp4 ([]:List mp3)) mp2)]⟩) (.cons ⟨rfl,.av (.one (.own _ _ au2))⟩ .nil) (.cons ⟨rfl,Am mp2 (Cb mp1 (fun _ _=>default) mp4)⟩ .nil)) (Cv.refl _))) (tO (.own 100000 mp1 ([]:List mp3).length)) (frE (c:=mp4) (xs:=([]:List mp3)) (by rfl) kr)):p:=h
section
 open Go.Proofs.YtheobjkgllmnmaaGreat renaming nn7→mp1,nn68→mp2,AF→mp3,AF.c→mp4
 open Go.Proofs.Tryz renaming func77→mp0
theorem iP (l:(List AF)) (h0:l.length=0):Fr Tryz.prog 77 [.one vN] (.row 7 l.length (AO AF.c l) 68) (fun d=>tO (.own d 7 l.length)):=wI
end
variable (types:List AQ) (name:ByteArray) (v7_1:List A1) (l:List AF) (pad:ByteArray) (pin:Ag) (v26 v49:Int) (xs:List AQ)
def ND:CT:=(77,[.one (lst 7 AF.c l)],.new [] (.row 7 l.length (AO AF.c l) 68) (fun d=>.av (.one (.own d 7 l.length))))
theorem Ms (l:(List AF)) (h0:(l.length:Int)<=1000000):OKc (ND l):=Dy (fun _ _=>kr) (Yd (fun hz=>iP l hz) (iO l h0))
section
 open Go.Proofs.YtheobjkgllmnmaaGreat renaming nn2→mp1,Bm.c→mp2,qP→mp3,tM→mp4,Bm→mp5
 open Go.Proofs.Tryz renaming func78→mp0
theorem iM (l:(List Bm)) (h0:(l.length:Int)<=1000000):Fr Tryz.prog 78 [.one (.list true 2 l.length (AO Bm.c l))] (.row 2 l.length (AO Bm.c l) 183) (fun d=>tO (.own d 2 l.length)):=wJ
end
section
 open Go.Proofs.YtheobjkgllmnmaaGreat renaming nn2→mp1,tM→mp2,Bm→mp3,Bm.c→mp4
 open Go.Proofs.Tryz renaming func78→mp0
theorem iN (l:(List Bm)) (h0:l.length=0):Fr Tryz.prog 78 [.one vN] (.row 2 l.length (AO Bm.c l) 183) (fun d=>tO (.own d 2 l.length)):=wI
end
section
 open Go.Proofs.YtheobjkgllmnmaaGreat renaming nn7→mp1,AE.c→mp2,YM→mp3,wC→mp4,AE→mp5
 open Go.Proofs.Tryz renaming func148→mp0
theorem iK (l:(List AE)) (h0:(l.length:Int)<=1000000):Fr Tryz.prog 148 [.one (.list true 7 l.length (AO AE.c l))] (.row 7 l.length (AO AE.c l) 78) (fun d=>tO (.own d 7 l.length)):=wJ
end
section
 open Go.Proofs.YtheobjkgllmnmaaGreat renaming nn7→mp1,wC→mp2,AE→mp3,AE.c→mp4
 open Go.Proofs.Tryz renaming func148→mp0
theorem iL (l:(List AE)) (h0:l.length=0):Fr Tryz.prog 148 [.one vN] (.row 7 l.length (AO AE.c l) 78) (fun d=>tO (.own d 7 l.length)):=wI
end
def aO (l:(List AE)):CT:=(148,[.one (lst 7 AE.c l)],.new [] (P3 l) (fun d=>.av (.one (.own d 7 l.length))))
theorem jO (l:(List AE)) (h0:(l.length:Int)<=1000000):OKc (aO l):=Dy (fun _ _=>kr) (Yd (fun hz=>iL l hz) (iK l h0))
def HW (l:List Bm):List Bm:=l
def RE (l:List Bm):CT:=(78,[.one (lst 2 Bm.c l)],.val [] (.av (.one (lst 2 Bm.c (HW l)))))
theorem cK (l:List Bm) (h0:(l.length:Int)<=1000000):OKc (RE l):=cPu<|L0 (Yd (fun hz=>iN l hz) (iM l h0))
def HV (t:AQ) (name:ByteArray):Bool:=(t.Name.toList==name.toList)
theorem pisTy  (t:AQ) (name:ByteArray):E5 Tryz.prog 76 [.agg (AQ.c t),.one (.eptr 1 1 (gD [.s name]) 0 0)] (tO (.b (HV t name))):=by
 refine pwf Tryz.func76 fun W0 M0 => ?_
 refine AB<|rn ⟨[(1,.av (.one (.eptr 1 1 (gD [.s name]) 0 0))),(2,tP 2 0)],[(2,.cells (AQ.c t) 82)]⟩<|AB ?_
 refine rn ⟨[(3,tB (t.Name.toList==name.toList))],[]⟩<|AW ?_
 exact xl (tO (.b (t.Name.toList==name.toList))) (Aa (by rfl))
def Z0k (xs:(List AQ)) (v8:Int) (name:ByteArray):CT:=(76,[.agg (AQ.c (xs.getD v8.toNat default)),.one (.eptr 1 1 (fun _ j_=>([.s name]:List Cl).getD j_ default) 0 0)],.val [] (tB (HV (xs.getD v8.toNat default) name)))
def GQ (xs:(List AQ)) (name:ByteArray):Nat->Int->Int
 | 0,_=>default
 | n0+1,v8=>bif decide ((v8:Int)<(xs.length:Int)) then (bif HV (xs.getD v8.toNat default) name then v8 else ((GQ xs name n0) (v8+1))) else (-1)
def CN (xs:(List AQ)) (name:ByteArray):Int:=GQ xs name (((xs.length:Int)-0).toNat+1) 0
abbrev Lu:Nat×Tv:=(1,.av (.one (.clo 76 1 (Aw [.eptr 1 1 (gD [.s name]) 0 0]))))
abbrev LU:Nat×Tv:=(0,tO (lst 3 AQ.c xs))
abbrev Ns:Nat×Tv:=(7,tI (xs.length:Int))
theorem au5 {p:Prop} (h:p:=by first | omega | (simp only [List.length_drop,List.length_take] at *;omega)):p:=h
theorem pixTy  (xs:(List AQ)) (name:ByteArray) (hx:(xs.length:Int)<=9223372036854775807):E5 Tryz.prog 75 [.one (lst 3 AQ.c xs),.one (.clo 76 1 (Aw [.eptr 1 1 (gD [.s name]) 0 0]))] (tO (.i (CN xs name))):=by
 refine pwf Tryz.func75 fun W0 M0 => ?_
 refine AB<|rn ⟨[(LU xs),(Lu name)],[]⟩ ?_
 refine AB<|AB ?_
 refine rn ⟨[(LU xs),(Lu name),(Ns xs),(8,tI 0)],[]⟩<|AR ?_
 refine BB (ι:=Nat×Int) (fun x=>⟨[(LU xs),(Lu name),(Ns xs),(8,tI x.2)],[]⟩) (fun x=>((xs.length:Int)-x.2).toNat<x.1/\(0<=x.2/\(x.2<=(xs.length:Int)\/x.2=0))/\GQ xs name x.1 x.2=CN xs name) (fun x=>x.1) ?_ (((xs.length:Int)-0).toNat+1,0) ⟨Nat.lt_succ_self _,⟨ax0,ax0⟩,(by simp only [CN,cond_true,cond_false])⟩
 rintro ⟨n0,v8⟩ ⟨hm0,hinv0,hF0⟩
 try dsimp only at hm0 hinv0 hF0
 cases n0 with | zero=>exact nz hm0 | succ n0 => ?_
 refine AB<|rn ⟨[(LU xs),(Lu name),(Ns xs),(8,tI v8),(9,tB (decide ((v8:Int)<(xs.length:Int))))],[]⟩<|AB ?_
 refine AV _ rfl (fun h1 => ?_) (fun h1 => ?_)
 ·have g1:=oT h1
  refine AY<|AG ?_
  refine AB<|AR<|AB ?_
  refine rn ⟨[(LU xs),(Lu name),(5,tI v8),(Ns xs),(8,tI v8)],[]⟩<|AB ?_
  refine rc [(16,(Z0k xs v8 name))] [0<=(v8:Int)/\(v8:Int)<((xs.length:Nat):Int),Ap (Z0k xs v8 name).2.1] ⟨[(LU xs),(Lu name),(5,tI v8),(Ns xs),(8,tI v8),(16,tB (HV (xs.getD v8.toNat default) name))],[]⟩ (.cons (cPu<|pisTy (xs.getD v8.toNat default) name) .nil) (.cons au0 (.cons rfl .nil))<|AG ?_
  refine AV _ rfl (fun h2 => ?_) (fun h2 => ?_)
  ·refine AB<|rn ⟨[(4,tI v8)],[]⟩ ?_
   refine AW<|Bo ?_
   refine A7<|A7 ?_
   refine Bo<|A7 ?_
   exact xl (tO (.i v8)) (Aa (by rw [<- hF0];first | (simp only [GQ,h1,h2,cond_true,cond_false] <;> rfl)))
  refine AY<|BN<|AG ?_
  refine rg ⟨[(LU xs),(Lu name),(Ns xs),(8,tI (W64 (v8+1)))],[]⟩ ?_
  (try rw [(show W64 (v8+1)=v8+1 from Af oM au5)])
  refine AG ?_
  refine ⟨(n0,v8+1),⟨?_,?_,(by rw [<- hF0];simp only [GQ,h1,h2,cond_true,cond_false])⟩,Nat.lt_succ_self _,Ay kr⟩
  ·show ((xs.length:Int)-(v8+1)).toNat<n0;omega
  exact ⟨ax0,ax0⟩
 refine BF<|A3 ?_
 refine A3<|BG ?_
 refine AG<|AB ?_
 refine rn ⟨[(4,tI (-1))],[]⟩<|AW ?_
 exact xl (tO (.i (-1))) (Aa (by rw [<- hF0];first | (simp only [GQ,h1,cond_true,cond_false] <;> rfl)))
def RW (p:A1) (pad:ByteArray):Bool:=(p.Name.toList==pad.toList)
theorem pisPd  (p:A1) (pad:ByteArray):E5 Tryz.prog 134 [.agg (A1.c p),.one (.eptr 1 1 (gD [.s pad]) 0 0)] (tO (.b (RW p pad))):=by
 refine pwf Tryz.func134 fun W0 M0 => ?_
 refine AB<|rn ⟨[(1,.av (.one (.eptr 1 1 (gD [.s pad]) 0 0))),(2,tP 2 0)],[(2,.cells (A1.c p) 102)]⟩<|AB ?_
 refine rn ⟨[(3,tB (p.Name.toList==pad.toList))],[]⟩<|AW ?_
 exact xl (tO (.b (p.Name.toList==pad.toList))) (Aa (by rfl))
def Z0l (xs:(List A1)) (v8:Int) (pad:ByteArray):CT:=(134,[.agg (A1.c (xs.getD v8.toNat default)),.one (.eptr 1 1 (fun _ j_=>([.s pad]:List Cl).getD j_ default) 0 0)],.val [] (tB (RW (xs.getD v8.toNat default) pad)))
def GS (xs:(List A1)) (pad:ByteArray):Nat->Int->Int
 | 0,_=>default
 | n0+1,v8=>bif decide ((v8:Int)<(xs.length:Int)) then (bif RW (xs.getD v8.toNat default) pad then v8 else ((GS xs pad n0) (v8+1))) else (-1)
def Fe (xs:(List A1)) (pad:ByteArray):Int:=GS xs pad (((xs.length:Int)-0).toNat+1) 0
abbrev Lv:Nat×Tv:=(1,.av (.one (.clo 134 1 (Aw [.eptr 1 1 (gD [.s pad]) 0 0]))))
abbrev LT (xs:List A1):Nat×Tv:=(0,tO (lst 7 A1.c xs))
abbrev Nr (xs:List A1):Nat×Tv:=(7,tI (xs.length:Int))
theorem pixPd  (xs:(List A1)) (pad:ByteArray) (hx:(xs.length:Int)<=9223372036854775807):E5 Tryz.prog 133 [.one (lst 7 A1.c xs),.one (.clo 134 1 (Aw [.eptr 1 1 (gD [.s pad]) 0 0]))] (tO (.i (Fe xs pad))):=by
 refine pwf Tryz.func133 fun W0 M0 => ?_
 refine AB<|rn ⟨[(LT xs),(Lv pad)],[]⟩ ?_
 refine AB<|AB ?_
 refine rn ⟨[(LT xs),(Lv pad),(Nr xs),(8,tI 0)],[]⟩<|AR ?_
 refine BB (ι:=Nat×Int) (fun x=>⟨[(LT xs),(Lv pad),(Nr xs),(8,tI x.2)],[]⟩) (fun x=>((xs.length:Int)-x.2).toNat<x.1/\(0<=x.2/\(x.2<=(xs.length:Int)\/x.2=0))/\GS xs pad x.1 x.2=Fe xs pad) (fun x=>x.1) ?_ (((xs.length:Int)-0).toNat+1,0) ⟨Nat.lt_succ_self _,⟨ax0,ax0⟩,(by simp only [Fe,cond_true,cond_false])⟩
 rintro ⟨n0,v8⟩ ⟨hm0,hinv0,hF0⟩
 try dsimp only at hm0 hinv0 hF0
 cases n0 with | zero=>exact nz hm0 | succ n0 => ?_
 refine AB<|rn ⟨[(LT xs),(Lv pad),(Nr xs),(8,tI v8),(9,tB (decide ((v8:Int)<(xs.length:Int))))],[]⟩<|AB ?_
 refine AV _ rfl (fun h1 => ?_) (fun h1 => ?_)
 ·have g1:=oT h1
  refine AY<|AG ?_
  refine AB<|AR<|AB ?_
  refine rn ⟨[(LT xs),(Lv pad),(5,tI v8),(Nr xs),(8,tI v8)],[]⟩<|AB ?_
  refine rc [(16,(Z0l xs v8 pad))] [0<=(v8:Int)/\(v8:Int)<((xs.length:Nat):Int),Ap (Z0l xs v8 pad).2.1] ⟨[(LT xs),(Lv pad),(5,tI v8),(Nr xs),(8,tI v8),(16,tB (RW (xs.getD v8.toNat default) pad))],[]⟩ (.cons (cPu<|pisPd (xs.getD v8.toNat default) pad) .nil) (.cons au0 (.cons rfl .nil))<|AG ?_
  refine AV _ rfl (fun h2 => ?_) (fun h2 => ?_)
  ·refine AB<|rn ⟨[(4,tI v8)],[]⟩ ?_
   refine AW<|Bo ?_
   refine A7<|A7 ?_
   refine Bo<|A7 ?_
   exact xl (tO (.i v8)) (Aa (by rw [<- hF0];first | (simp only [GS,h1,h2,cond_true,cond_false] <;> rfl)))
  refine AY<|BN<|AG ?_
  refine rg ⟨[(LT xs),(Lv pad),(Nr xs),(8,tI (W64 (v8+1)))],[]⟩ ?_
  (try rw [(show W64 (v8+1)=v8+1 from Af oM au5)])
  refine AG ?_
  refine ⟨(n0,v8+1),⟨?_,?_,(by rw [<- hF0];simp only [GS,h1,h2,cond_true,cond_false])⟩,Nat.lt_succ_self _,Ay kr⟩
  ·show ((xs.length:Int)-(v8+1)).toNat<n0;omega
  exact ⟨ax0,ax0⟩
 refine BF<|A3 ?_
 refine A3<|BG ?_
 refine AG<|AB ?_
 refine rn ⟨[(4,tI (-1))],[]⟩<|AW ?_
 exact xl (tO (.i (-1))) (Aa (by rw [<- hF0];first | (simp only [GS,h1,cond_true,cond_false] <;> rfl)))
def RV (x:AE) (pin:Ag):Bool:=(x.Ref.toList==pin.Ref.toList)
theorem pisPl  (x:AE) (pin:Ag):E5 Tryz.prog 84 [.agg (AE.c x),.one (.eptr 2 1 (gD (Ag.c pin)) 0 0)] (tO (.b (RV x pin))):=by
 refine pwf Tryz.func84 fun W0 M0 => ?_
 refine AB<|rn ⟨[(1,.av (.one (.eptr 2 1 (gD (Ag.c pin)) 0 0))),(2,tP 2 0)],[(2,.cells (AE.c x) 78)]⟩<|AB ?_
 refine rn ⟨[(3,tB (x.Ref.toList==pin.Ref.toList))],[]⟩<|AW ?_
 exact xl (tO (.b (x.Ref.toList==pin.Ref.toList))) (Aa (by rfl))
def Z0m (xs:(List AE)) (v8:Int) (pin:Ag):CT:=(84,[.agg (AE.c (xs.getD v8.toNat default)),.one (.eptr 2 1 (fun _ j_=>((Ag.c pin):List Cl).getD j_ default) 0 0)],.val [] (tB (RV (xs.getD v8.toNat default) pin)))
def GR (xs:(List AE)) (pin:Ag):Nat->Int->Int
 | 0,_=>default
 | n0+1,v8=>bif decide ((v8:Int)<(xs.length:Int)) then (bif RV (xs.getD v8.toNat default) pin then v8 else ((GR xs pin n0) (v8+1))) else (-1)
def Dr (xs:(List AE)) (pin:Ag):Int:=GR xs pin (((xs.length:Int)-0).toNat+1) 0
abbrev Lw:Nat×Tv:=(1,.av (.one (.clo 84 1 (Aw [.eptr 2 1 (gD (Ag.c pin)) 0 0]))))
abbrev LS (xs:List AE):Nat×Tv:=(0,tO (lst 7 AE.c xs))
abbrev Nq (xs:List AE):Nat×Tv:=(7,tI (xs.length:Int))
theorem pixPl  (xs:(List AE)) (pin:Ag) (hx:(xs.length:Int)<=9223372036854775807):E5 Tryz.prog 83 [.one (lst 7 AE.c xs),.one (.clo 84 1 (Aw [.eptr 2 1 (gD (Ag.c pin)) 0 0]))] (tO (.i (Dr xs pin))):=by
 refine pwf Tryz.func83 fun W0 M0 => ?_
 refine AB<|rn ⟨[(LS xs),(Lw pin)],[]⟩ ?_
 refine AB<|AB ?_
 refine rn ⟨[(LS xs),(Lw pin),(Nq xs),(8,tI 0)],[]⟩<|AR ?_
 refine BB (ι:=Nat×Int) (fun x=>⟨[(LS xs),(Lw pin),(Nq xs),(8,tI x.2)],[]⟩) (fun x=>((xs.length:Int)-x.2).toNat<x.1/\(0<=x.2/\(x.2<=(xs.length:Int)\/x.2=0))/\GR xs pin x.1 x.2=Dr xs pin) (fun x=>x.1) ?_ (((xs.length:Int)-0).toNat+1,0) ⟨Nat.lt_succ_self _,⟨ax0,ax0⟩,(by simp only [Dr,cond_true,cond_false])⟩
 rintro ⟨n0,v8⟩ ⟨hm0,hinv0,hF0⟩
 try dsimp only at hm0 hinv0 hF0
 cases n0 with | zero=>exact nz hm0 | succ n0 => ?_
 refine AB<|rn ⟨[(LS xs),(Lw pin),(Nq xs),(8,tI v8),(9,tB (decide ((v8:Int)<(xs.length:Int))))],[]⟩<|AB ?_
 refine AV _ rfl (fun h1 => ?_) (fun h1 => ?_)
 ·have g1:=oT h1
  refine AY<|AG ?_
  refine AB<|AR<|AB ?_
  refine rn ⟨[(LS xs),(Lw pin),(5,tI v8),(Nq xs),(8,tI v8)],[]⟩<|AB ?_
  refine rc [(16,(Z0m xs v8 pin))] [0<=(v8:Int)/\(v8:Int)<((xs.length:Nat):Int),Ap (Z0m xs v8 pin).2.1] ⟨[(LS xs),(Lw pin),(5,tI v8),(Nq xs),(8,tI v8),(16,tB (RV (xs.getD v8.toNat default) pin))],[]⟩ (.cons (cPu<|pisPl (xs.getD v8.toNat default) pin) .nil) (.cons au0 (.cons rfl .nil))<|AG ?_
  refine AV _ rfl (fun h2 => ?_) (fun h2 => ?_)
  ·refine AB<|rn ⟨[(4,tI v8)],[]⟩ ?_
   refine AW<|Bo ?_
   refine A7<|A7 ?_
   refine Bo<|A7 ?_
   exact xl (tO (.i v8)) (Aa (by rw [<- hF0];first | (simp only [GR,h1,h2,cond_true,cond_false] <;> rfl)))
  refine AY<|BN<|AG ?_
  refine rg ⟨[(LS xs),(Lw pin),(Nq xs),(8,tI (W64 (v8+1)))],[]⟩ ?_
  (try rw [(show W64 (v8+1)=v8+1 from Af oM au5)])
  refine AG ?_
  refine ⟨(n0,v8+1),⟨?_,?_,(by rw [<- hF0];simp only [GR,h1,h2,cond_true,cond_false])⟩,Nat.lt_succ_self _,Ay kr⟩
  ·show ((xs.length:Int)-(v8+1)).toNat<n0;omega
  exact ⟨ax0,ax0⟩
 refine BF<|A3 ?_
 refine A3<|BG ?_
 refine AG<|AB ?_
 refine rn ⟨[(4,tI (-1))],[]⟩<|AW ?_
 exact xl (tO (.i (-1))) (Aa (by rw [<- hF0];first | (simp only [GR,h1,cond_true,cond_false] <;> rfl)))
theorem RU (xs:List AQ) (c:ByteArray):CN xs c=ixI (fun x=>HV x c) xs:=by
 unfold CN
 have h:=kQ (fun x=>HV x c) xs (GQ xs c) (fun m v=>by rw [GQ,Int.toNat_natCast]) xs.length 0 (((xs.length:Int)-0).toNat+1) rfl (Nat.zero_le _) (by omega)
 rw [List.drop_zero] at h
 refine h.trans ?_
 unfold ixI
 cases xs.findIdx? (fun x=>HV x c) with
 | none=>rfl
 | some i=>simp
theorem wP {xs:List AQ} {c:ByteArray} (h:¬ CN xs c<0):0<=CN xs c/\CN xs c<(xs.length:Int):=by
 rw [RU] at *
 exact kT h
theorem Wn (xs:List A1) (c:ByteArray):Fe xs c=ixI (fun x=>RW x c) xs:=by
 unfold Fe
 have h:=kQ (fun x=>RW x c) xs (GS xs c) (fun m v=>by rw [GS,Int.toNat_natCast]) xs.length 0 (((xs.length:Int)-0).toNat+1) rfl (Nat.zero_le _) (by omega)
 rw [List.drop_zero] at h
 refine h.trans ?_
 unfold ixI
 cases xs.findIdx? (fun x=>RW x c) with
 | none=>rfl
 | some i=>simp
theorem wR {xs:List A1} {c:ByteArray} (h:¬ Fe xs c<0):0<=Fe xs c/\Fe xs c<(xs.length:Int):=by
 rw [Wn] at *
 exact kT h
theorem Wm (xs:List AE) (c:Ag):Dr xs c=ixI (fun x=>RV x c) xs:=by
 unfold Dr
 have h:=kQ (fun x=>RV x c) xs (GR xs c) (fun m v=>by rw [GR,Int.toNat_natCast]) xs.length 0 (((xs.length:Int)-0).toNat+1) rfl (Nat.zero_le _) (by omega)
 rw [List.drop_zero] at h
 refine h.trans ?_
 unfold ixI
 cases xs.findIdx? (fun x=>RV x c) with
 | none=>rfl
 | some i=>simp
theorem wQ {xs:List AE} {c:Ag} (h:¬ Dr xs c<0):0<=Dr xs c/\Dr xs c<(xs.length:Int):=by
 rw [Wm] at *
 exact kT h
def Z0n:A5:=(types.getD (CN types name).toNat default).Gates.getD v49.toNat default
def Z0o:A1:=(types.getD (CN types name).toNat default).Pads.getD v26.toNat default
def Jk (types:(List AQ)) (name:ByteArray) (v7_1:List A1) (v26:Int) (K0:List A1->Int->(AQ×Bool)):Nat->List A5->Int->(AQ×Bool)
 | 0,_,_=>default
 | n1+1,v7_2,v49=>bif decide ((v49:Int)<((types.getD (CN types name).toNat default).Gates.length:Int)) then ((Jk types name v7_1 v26 K0 n1) (v7_2++[A5.mk (Z0n types name v49).Kind (HW (Z0n types name v49).Legs)]) (v49+1)) else (AQ.mk name v7_1 v7_2,true)
def GB (types:(List AQ)) (name:ByteArray):Nat->List A1->Int->(AQ×Bool)
 | 0,_,_=>default
 | n0+1,v7_1,v26=>bif decide ((v26:Int)<((types.getD (CN types name).toNat default).Pads.length:Int)) then ((GB types name n0) (v7_1++[A1.mk (Z0o types name v26).Name (AP.mk (Z0o types name v26).Shape.Kind (Z0o types name v26).Shape.Edges (Z0o types name v26).Shape.R) (Z0o types name v26).At (Z0o types name v26).Drill]) (v26+1)) else (Jk types name v7_1 v26 (GB types name n0) ((((types.getD (CN types name).toNat default).Gates.length:Int)-0).toNat+1) ([]:List A5) 0)
def BQ (types:(List AQ)) (name:ByteArray):(AQ×Bool):=bif decide (((CN types name):Int)<0) then (AQ.mk (⟨#[]⟩) [] [],false) else (GB types name ((((types.getD (CN types name).toNat default).Pads.length:Int)-0).toNat+1) ([]:List A1) 0)
abbrev Gl:=lst 3 AQ.c types
def dQ:CT:=(27,[.one (Gl types),.one (.s name)],.val [] (.tup [.agg (AQ.c (BQ types name).1),.one (.b (BQ types name).2)]))
abbrev Oh:=types.getD (CN types name).toNat default
abbrev Py:List Cl:=[.s (⟨#[]⟩),vN,vN]
abbrev Cs:Nat×Blk:=(4,.cells Py 82)
abbrev Rt (v7_1:List A1) (types:List AQ) (name:ByteArray) (v26:Int):=v7_1++[A1.mk (Z0o types name v26).Name (AP.mk (Z0o types name v26).Shape.Kind (Z0o types name v26).Shape.Edges (Z0o types name v26).Shape.R) (Z0o types name v26).At (Z0o types name v26).Drill]
abbrev G5:Nat×Blk:=(100000,.row 7 v7_1.length (AO A1.c v7_1) 102)
abbrev G8:Nat×Tv:=(0,tO (Gl types))
abbrev W7:Nat×Tv:=(24,tO (lst 7 A1.c (Oh types name).Pads))
abbrev uJ:Nat×Tv:=(25,tI ((Oh types name).Pads.length:Int))
abbrev Po (t_:List (Nat×Tv)):List (Nat×Tv):=(G8 types)::(4,tP 4 0)::(6,tI (CN types name))::(7,tP 7 0)::(W7 types name)::(uJ types name)::t_
abbrev Tn:List (Nat×Tv):=(Po types name [(26,tI 0)])
abbrev gB:Nat×Tv:=(47,tO (lst 2 A5.c (Oh types name).Gates))
abbrev gG:Nat×Tv:=(48,tI ((Oh types name).Gates.length:Int))
abbrev Pj (t_:List (Nat×Tv)):List (Nat×Tv):=(4,tP 4 0)::(7,tP 7 0)::(gB types name)::(gG types name)::t_
abbrev Tk:List (Nat×Tv):=(Pj types name [(49,tI 0)])
abbrev XY:List (Nat×Tv):=[(G8 types),(4,tP 4 0),(6,tI (CN types name)),(7,tP 7 0),(9,tP 9 0),(W7 types name),(uJ types name),(26,tI v26)]
abbrev N5 (v7_2:List A5) (types:List AQ) (name:ByteArray) (v49:Int):=v7_2++[A5.mk (Z0n types name v49).Kind (HW (Z0n types name v49).Legs)]
abbrev P7:Nat×Blk:=(7,.cells [.s name,.own 100000 7 v7_1.length,vN] 82)
abbrev fE:List Av:=[.agg [.s (⟨#[]⟩),lst 7 A1.c [],lst 2 A5.c []],.one (.b false)]
abbrev fD:Nat×Blk:=(100000,.row 7 ([]:List A1).length (AO A1.c ([]:List A1)) 102)
abbrev fC:Nat×Blk:=(100001,.row 2 ([]:List A5).length (AO A5.c ([]:List A5)) 180)
abbrev Ww:List Cl:=[.s name,.own 100000 7 ([]:List A1).length,vN]
theorem au4 {p:Prop} (h:p:=by first | (exact Qd (hta _) _) | (exact SV (hta _) _) | with_reducible assumption | omega | decide | (simp only [List.length_cons,List.length_nil,List.length_append];omega) | assumption):p:=h
theorem au22 {p:Prop} (h:p:=by first | exact wP (by assumption) | omega):p:=h
theorem pGet (types:(List AQ)) (name:ByteArray) (ht:CP types):PuP 27 (dQ types name).2.1 (.tup [.agg (AQ.c (BQ types name).1),.one (.b (BQ types name).2)]):=by
 refine pwf Tryz.func27 fun W0 M0 => ?_
 have ht1:=ht.1
 have hta:=Xh ht
 have htp:=(hta (CN types name).toNat).1
 have htg:=(hta (CN types name).toNat).2.1
 refine AB<|rn ⟨[(G8 types),(3,tP 3 0),(4,tP 4 0)],[(3,.cells [.s name] 9),Cs]⟩<|AB ?_
 refine rc [(14,(75,[.one (Gl types),.one (.clo 76 1 (Aw [.ptr 3 0]))],rdI [3] [.cells [.s name] 9] (tI (CN types name))))] [Ap [.one (lst 3 AQ.c types),.one (.clo 76 1 (Aw [.ptr 3 0]))],RJ [.cells [.s name] 9]] ⟨[(G8 types),(3,tP 3 0),(4,tP 4 0),(6,tI (CN types name))],[(3,.cells [.s name] 9),Cs]⟩ (.cons (Kw (fun _ _=>kr) kr kr (PR (pixTy types name au4) (.cons (AvE.refl _) (.cons (.one (.clo 76 1 _ _ (F7 kr))) .nil)))) .nil) (.cons rfl (.cons rfl .nil))<|AG ?_
 refine AB<|AB ?_
 refine rn ⟨[(G8 types),(3,tP 3 0),(4,tP 4 0),(6,tI (CN types name)),(16,tB (decide (((CN types name):Int)<0)))],[(3,.cells [.s name] 9),Cs]⟩ ?_
 refine AV _ rfl (fun h1 => ?_) (fun h1 => ?_)
 ·refine AB<|rn ⟨[(4,tP 4 0),(5,tB false)],[Cs]⟩ ?_
  refine AW<|A7 ?_
  exact xl (.tup [.agg Py,.one (.b false)]) (Du (y:=.tup fE) (.tup (.cons (.agg (rr (.cons (Cf 7 A1.c) (.cons (Cf 2 A5.c) .nil)))) (.cons (AvE.refl _) .nil))) (by simp only [BQ,h1,cond_true,cond_false] <;> rfl))
 have g1:=oF h1
 refine AY<|AG<|AB ?_
 refine rn ⟨[(G8 types),(4,tP 4 0),(6,tI (CN types name)),(7,tP 7 0)],[Cs,(7,.cells [.s name,vN,vN] 82)]⟩ ?_
 refine AB<|AB ?_
 refine rc [] [0<=(CN types name:Int)/\(CN types name:Int)<((types.length:Nat):Int)] ⟨(Tn types name),[Cs,(7,.cells [.s name,vN,vN] 82)]⟩ .nil (.cons au22 .nil)<|AG<|AR ?_
 refine BS (Cv.trans (wg (⟨(Tn types name),[(100000,.row 7 0 (fun _ _=>default) 102),Cs,(7,.cells [.s name,.own 100000 7 0,vN] 82)]⟩) 100000 7 (fun _ _=>default) 102 [] [(7,[1])] hk0) (Cv.trans (BM (⟨(Tn types name),[fD,Cs,(7,.cells (Ww name) 82)]⟩) lr (.cons ⟨rfl,Am 102 (Cb 7 (fun _ _=>default) A1.c)⟩ (.cons ⟨rfl,.refl _⟩ (.cons ⟨rfl,.cells _ (rr (.cons (.own _ _ au2) (rr .nil)))⟩ .nil)))) (Cv.trans (ck (⟨(Tn types name),[Cs,(7,.cells (Ww name) 82),fD]⟩)) (Cv.refl _)))) ?_
 refine BB (ι:=Nat×List A1×Int) (fun x=>⟨(Po types name [(26,tI x.2.2)]),[Cs,(7,.cells [.s name,.own 100000 7 x.2.1.length,vN] 82),(100000,.row 7 x.2.1.length (AO A1.c x.2.1) 102)]⟩) (fun x=>(((types.getD (CN types name).toNat default).Pads.length:Int)-x.2.2).toNat<x.1/\(0<=x.2.2/\(x.2.2<=((types.getD (CN types name).toNat default).Pads.length:Int)\/x.2.2=0)/\(x.2.1.length:Int)<=0+1*(x.2.2-0))/\GB types name x.1 x.2.1 x.2.2=BQ types name) (fun x=>x.1) ?_ ((((types.getD (CN types name).toNat default).Pads.length:Int)-0).toNat+1,([]:List A1),0) ⟨Nat.lt_succ_self _,⟨ax0,ax0,ax0⟩,(by simp only [BQ,h1,cond_true,cond_false])⟩
 rintro ⟨n0,v7_1,v26⟩ ⟨hm0,hinv0,hF0⟩
 try dsimp only at hm0 hinv0 hF0
 cases n0 with | zero=>exact nz hm0 | succ n0 => ?_
 refine AB<|rn ⟨(Po types name [(26,tI v26),(27,tB (decide ((v26:Int)<((types.getD (CN types name).toNat default).Pads.length:Int))))]),[Cs,(P7 name v7_1),(G5 v7_1)]⟩<|AB ?_
 refine AV _ rfl (fun h2 => ?_) (fun h2 => ?_)
 ·have g2:=oT h2
  refine AY<|AG ?_
  refine AB<|AR<|AB ?_
  refine rc [] [0<=(v26:Int)/\(v26:Int)<(((types.getD (CN types name).toNat default).Pads.length:Nat):Int)] ⟨(XY types name v26),[Cs,(P7 name v7_1),(9,.cells (A1.c (Z0o types name v26)) 102),(G5 v7_1)]⟩ .nil (.cons au22 .nil)<|AG<|AB ?_
  refine rs 33 (ND (Z0o types name v26).Shape.Edges) ⟨(XY types name v26),[Cs,(P7 name v7_1),(9,.cells [.s (Z0o types name v26).Name,.i (Z0o types name v26).Shape.Kind,.own 33 7 (Z0o types name v26).Shape.Edges.length,.i (Z0o types name v26).Shape.R,.i (Z0o types name v26).At.X,.i (Z0o types name v26).At.Y,.i (Z0o types name v26).Drill] 102),(33,.row 7 (Z0o types name v26).Shape.Edges.length (AO AF.c (Z0o types name v26).Shape.Edges) 68),(G5 v7_1)]⟩ (Ms (Z0o types name v26).Shape.Edges au4)<|AG ?_
  refine BS (Cv.trans (wf (⟨(XY types name v26),[Cs,(P7 name v7_1),(9,.cells (A1.c (Z0o types name v26)) 102),(G5 v7_1)]⟩) 33 7 (Z0o types name v26).Shape.Edges.length (AO AF.c (Z0o types name v26).Shape.Edges) 68 hk0 (.cons ⟨rfl,rfl⟩ .nil)) (Cv.refl _)) ?_
  refine rc [] [v7_1.length=v7_1.length,v7_1.length+1<=maxLen,(v7_1.length+1)*80<=140737488355328] ⟨(Po types name [(26,tI v26)]),[Cs,(7,.cells [.s name,.own 40 7 (v7_1.length+1),vN] 82),(40,.row 7 (v7_1.length+1) (fun i_ j_=>if i_<v7_1.length then (AO A1.c v7_1) i_ j_ else (As 7 1 (A1.c (Z0o types name v26))) (i_-v7_1.length) j_) 102)]⟩ .nil (.cons rfl (.cons au3 (.cons au3 .nil)))<|BN<|AG ?_
  refine BS (Cv.trans (BM (⟨(Po types name [(26,tI v26)]),[Cs,(7,.cells [.s name,.own 40 7 (Rt v7_1 types name v26).length,vN] 82),(40,.row 7 (Rt v7_1 types name v26).length (AO A1.c (Rt v7_1 types name v26)) 102)]⟩) lr (.cons ⟨rfl,.refl _⟩ (.cons ⟨rfl,.cells _ (rr (.cons (.own _ _ au2) (rr .nil)))⟩ (.cons ⟨rfl,Am 102 (BR (BI 7 A1.c v7_1) (Aq (c:=A1.c) (xs:=([A1.mk (Z0o types name v26).Name (AP.mk (Z0o types name v26).Shape.Kind (Z0o types name v26).Shape.Edges (Z0o types name v26).Shape.R) (Z0o types name v26).At (Z0o types name v26).Drill]:List A1)) rfl kr))⟩ .nil)))) (Cv.refl _)) ?_
  refine rg ⟨(Po types name [(26,tI (W64 (v26+1)))]),[Cs,(7,.cells [.s name,.own 40 7 (Rt v7_1 types name v26).length,vN] 82),(40,.row 7 (Rt v7_1 types name v26).length (AO A1.c (Rt v7_1 types name v26)) 102)]⟩ ?_
  (try rw [(show W64 (v26+1)=v26+1 from Af oM au5)])
  refine AG ?_
  refine ⟨(n0,v7_1++[A1.mk (Z0o types name v26).Name (AP.mk (Z0o types name v26).Shape.Kind (Z0o types name v26).Shape.Edges (Z0o types name v26).Shape.R) (Z0o types name v26).At (Z0o types name v26).Drill],v26+1),⟨?_,?_,(by rw [<- hF0];simp only [GB,h2,cond_true,cond_false])⟩,Nat.lt_succ_self _,Cv.trans (vr 40 100000 hk0) (Ay kr)⟩
  ·show (((types.getD (CN types name).toNat default).Pads.length:Int)-(v26+1)).toNat<n0;omega
  exact ⟨ax0,ax0,ax0⟩
 have g2:=oF h2
 refine BF<|A3 ?_
 refine A3<|BG ?_
 refine AG<|AB<|AB ?_
 refine rc [] [0<=(CN types name:Int)/\(CN types name:Int)<((types.length:Nat):Int)] ⟨(Tk types name),[Cs,(P7 name v7_1),(G5 v7_1)]⟩ .nil (.cons au22 .nil)<|AG<|AR ?_
 refine BS (Cv.trans (wg (⟨(Tk types name),[(100001,.row 2 0 (fun _ _=>default) 180),Cs,(7,.cells [.s name,.own 100000 7 v7_1.length,.own 100001 2 0] 82),(G5 v7_1)]⟩) 100001 2 (fun _ _=>default) 180 [] [(7,[2])] hk0) (Cv.trans (BM (⟨(Tk types name),[fC,Cs,(7,.cells [.s name,.own 100000 7 v7_1.length,.own 100001 2 ([]:List A5).length] 82),(G5 v7_1)]⟩) lr (.cons ⟨rfl,Am 180 (Cb 2 (fun _ _=>default) A5.c)⟩ (.cons ⟨rfl,.refl _⟩ (.cons ⟨rfl,.cells _ (rr2 (.cons (.own _ _ au2) .nil))⟩ lr)))) (Cv.trans (ck (⟨(Tk types name),[Cs,(7,.cells [.s name,.own 100000 7 v7_1.length,.own 100001 2 ([]:List A5).length] 82),(G5 v7_1),fC]⟩)) (Cv.refl _)))) ?_
 refine BB (ι:=Nat×List A5×Int) (fun x=>⟨(Pj types name [(49,tI x.2.2)]),[Cs,(7,.cells [.s name,.own 100000 7 v7_1.length,.own 100001 2 x.2.1.length] 82),(G5 v7_1),(100001,.row 2 x.2.1.length (AO A5.c x.2.1) 180)]⟩) (fun x=>(((types.getD (CN types name).toNat default).Gates.length:Int)-x.2.2).toNat<x.1/\(0<=x.2.2/\(x.2.2<=((types.getD (CN types name).toNat default).Gates.length:Int)\/x.2.2=0)/\(x.2.1.length:Int)<=0+1*(x.2.2-0))/\Jk types name v7_1 v26 (GB types name n0) x.1 x.2.1 x.2.2=BQ types name) (fun x=>x.1) ?_ ((((types.getD (CN types name).toNat default).Gates.length:Int)-0).toNat+1,([]:List A5),0) ⟨Nat.lt_succ_self _,⟨ax0,ax0,ax0⟩,(by rw [<- hF0];simp only [GB,h2,cond_true,cond_false])⟩
 rintro ⟨n1,v7_2,v49⟩ ⟨hm1,hinv1,hF1⟩
 try dsimp only at hm1 hinv1 hF1
 cases n1 with | zero=>exact nz hm1 | succ n1 => ?_
 refine AB<|rn ⟨(Pj types name [(49,tI v49),(50,tB (decide ((v49:Int)<((types.getD (CN types name).toNat default).Gates.length:Int))))]),[Cs,(7,.cells [.s name,.own 100000 7 v7_1.length,.own 100001 2 v7_2.length] 82),(G5 v7_1),(100001,.row 2 v7_2.length (AO A5.c v7_2) 180)]⟩<|AB ?_
 refine AV _ rfl (fun h3 => ?_) (fun h3 => ?_)
 ·have g3:=oT h3
  refine AY<|AG ?_
  refine AB<|AR<|AB ?_
  refine rc [] [0<=(v49:Int)/\(v49:Int)<(((types.getD (CN types name).toNat default).Gates.length:Nat):Int)] ⟨[(4,tP 4 0),(7,tP 7 0),(11,tP 11 0),(gB types name),(gG types name),(49,tI v49)],[Cs,(7,.cells [.s name,.own 100000 7 v7_1.length,.own 100001 2 v7_2.length] 82),(11,.cells (A5.c (Z0n types name v49)) 180),(G5 v7_1),(100001,.row 2 v7_2.length (AO A5.c v7_2) 180)]⟩ .nil (.cons au22 .nil)<|AG ?_
  refine dw [] [(59,RE (Z0n types name v49).Legs)] [Ap (RE (Z0n types name v49).Legs).2.1,v7_2.length=v7_2.length,v7_2.length+1<=maxLen,(v7_2.length+1)*32<=140737488355328] ⟨(Pj types name [(49,tI v49)]),[Cs,(7,.cells [.s name,.own 100000 7 v7_1.length,.own 62 2 (v7_2.length+1)] 82),(62,.row 2 (v7_2.length+1) (fun i_ j_=>if i_<v7_2.length then (AO A5.c v7_2) i_ j_ else (As 2 1 [.i (Z0n types name v49).Kind,lst 2 Bm.c (HW (Z0n types name v49).Legs)]) (i_-v7_2.length) j_) 180),(G5 v7_1)]⟩ (.cons (cK (Z0n types name v49).Legs (by first | assumption | exact SV (hta _) _ | exact Qd (hta _) _ | omega)) .nil) (.cons rfl (.cons rfl (.cons au3 (.cons au3 .nil))))<|BN<|AG ?_
  refine BS (Cv.trans (BM (⟨(Pj types name [(49,tI v49)]),[Cs,(7,.cells [.s name,.own 100000 7 v7_1.length,.own 62 2 (N5 v7_2 types name v49).length] 82),(62,.row 2 (N5 v7_2 types name v49).length (AO A5.c (N5 v7_2 types name v49)) 180),(G5 v7_1)]⟩) lr (.cons ⟨rfl,.refl _⟩ (.cons ⟨rfl,.cells _ (rr2 (.cons (.own _ _ au2) .nil))⟩ (.cons ⟨rfl,Am 180 (BR (BI 2 A5.c v7_2) (Aq (c:=A5.c) (xs:=([A5.mk (Z0n types name v49).Kind (HW (Z0n types name v49).Legs)]:List A5)) rfl kr))⟩ lr)))) (Cv.refl _)) ?_
  refine rg ⟨(Pj types name [(49,tI (W64 (v49+1)))]),[Cs,(7,.cells [.s name,.own 100000 7 v7_1.length,.own 62 2 (N5 v7_2 types name v49).length] 82),(62,.row 2 (N5 v7_2 types name v49).length (AO A5.c (N5 v7_2 types name v49)) 180),(G5 v7_1)]⟩ ?_
  (try rw [(show W64 (v49+1)=v49+1 from Af oM au5)])
  refine AG ?_
  refine ⟨(n1,v7_2++[A5.mk (Z0n types name v49).Kind (HW (Z0n types name v49).Legs)],v49+1),⟨?_,?_,(by rw [<- hF1];simp only [Jk,h3,cond_true,cond_false])⟩,Nat.lt_succ_self _,Cv.trans (vr 62 100001 hk0) (Cv.trans (vk [4,7,47,48,49] [4,7,100000,100001]) (Ay kr))⟩
  ·show (((types.getD (CN types name).toNat default).Gates.length:Int)-(v49+1)).toNat<n1;omega
  exact ⟨ax0,ax0,ax0⟩
 refine BF<|A3 ?_
 refine A3<|BG ?_
 refine AG<|AB ?_
 refine rn ⟨[(4,tP 4 0),(5,tB true)],[(4,.cells [.s name,.own 100000 7 v7_1.length,.own 100001 2 v7_2.length] 82),(G5 v7_1),(100001,.row 2 v7_2.length (AO A5.c v7_2) 180)]⟩<|AW ?_
 exact yl (Cv.trans (vf 100000 7 v7_1.length (AO A1.c v7_1) 102 hk0 (.cons ⟨rfl,rfl⟩ .nil)) (Cv.trans (vf 100001 2 v7_2.length (AO A5.c v7_2) 180 hk0 (.cons ⟨rfl,rfl⟩ .nil)) (Cv.refl _))) (.tup [.agg [.s name,lst 7 A1.c v7_1,lst 2 A5.c v7_2],.one (.b true)]) (Aa (by rw [<- hF1];first | (simp only [Jk,h3,cond_true,cond_false] <;> rfl)))
theorem jT (types:(List AQ)) (name:ByteArray) (ht:CP types):OKc (dQ types name):=cPu<|pGet types name ht
def Yc (types:List AQ) (name:ByteArray):AQ×Bool:=match types.find? (fun t=>HV t name) with
 | some t=>(⟨name,t.Pads,t.Gates⟩,true)
 | none=>(⟨⟨#[]⟩,[],[]⟩,false)
theorem LA (types:List AQ) (name:ByteArray):BQ types name=Yc types name:=by
 unfold BQ Yc
 rw [RU]
 cases hc:decide ((ixI (fun x=>HV x name) types:Int)<0) with
 | true =>
  rw [kS (oT hc)]
  rfl
 | false =>
  obtain ⟨_,h2⟩:=kR (oF hc)
  rw [h2,cond_false]
  have e:=RU types name
  rw [<- e]
  generalize ht:types.getD (CN types name).toNat default=t
  have h1:=fun (acc0:List A1) (v0:Int) K0=>dI t.Gates (Jk types name acc0 v0 K0) (fun acc _=>(AQ.mk name acc0 acc,true)) (fun m acc v=>by
   rw [Jk]
   unfold Z0n HW
   rw [ht,Int.toNat_natCast]) t.Gates.length 0 ((((t.Gates.length:Int))-0).toNat+1) [] rfl (Nat.zero_le _) (by omega)
  have h0:=dI t.Pads (GB types name) (fun acc v=>(AQ.mk name acc t.Gates,true)) (fun m acc v=>by
   rw [GB]
   unfold Z0o
   rw [ht,Int.toNat_natCast]
   have:=h1 acc v (GB types name m)
   rw [List.drop_zero,List.nil_append] at this
   cases decide ((v:Int)<(t.Pads.length:Int)) with
   | true=>rfl
   | false=>exact this) t.Pads.length 0 ((((t.Pads.length:Int))-0).toNat+1) [] rfl (Nat.zero_le _) (by omega)
  rw [List.drop_zero,List.nil_append] at h0
  exact h0
theorem JP {types:List AQ} (h:CP types) (name:ByteArray):((Yc types name).1.Pads.length:Int)<=1000000:=by
 unfold Yc
 cases hf:types.find? (fun t=>HV t name) with
 | none=>exact (by decide:((0:Nat):Int)<=1000000)
 | some t=>exact (h.2 t (List.mem_of_find?_eq_some hf)).1
end
theorem Es:∀ x:AF,∀ y∈AF.c x,NM y:=by
 intro x y hy
 simp only [AF.c,List.mem_cons,List.not_mem_nil,or_false] at hy
 rcases hy with rfl | rfl | rfl | rfl | rfl | rfl | rfl <;> first | exact .val _
theorem cN:∀ x:AP,∀ y∈AP.c x,NM y:=by
 intro x y hy
 simp only [AP.c,List.mem_cons,List.not_mem_nil,or_false] at hy
 rcases hy with rfl | rfl | rfl <;> first | exact .val _ | exact B5 Es
theorem Fk:∀ x:AE,∀ y∈AE.c x,NM y:=by
 intro x y hy
 simp only [AE.c,List.mem_cons,List.not_mem_nil,or_false] at hy
 rcases hy with rfl | rfl | rfl | rfl | rfl | rfl | rfl <;> first | exact .val _
theorem qU:∀ x:Ag,∀ y∈Ag.c x,NM y:=by
 intro x y hy
 simp only [Ag.c,List.mem_cons,List.not_mem_nil,or_false] at hy
 rcases hy with rfl | rfl <;> first | exact .val _
theorem UM:∀ x:Bf,∀ y∈Bf.c x,NM y:=by
 intro x y hy
 simp only [Bf.c,List.mem_cons,List.not_mem_nil,or_false] at hy
 rcases hy with rfl | rfl <;> first | exact .val _ | exact B5 qU
theorem cM:∀ x:Ab,∀ y∈Ab.c x,NM y:=by
 intro x y hy
 simp only [Ab.c,List.mem_cons,List.not_mem_nil,or_false] at hy
 rcases hy with rfl | rfl | rfl | rfl | rfl | rfl <;> first | exact .val _ | exact B5 Es
theorem qT:∀ x:A4,∀ y∈A4.c x,NM y:=by
 intro x y hy
 simp only [A4.c,List.mem_cons,List.not_mem_nil,or_false] at hy
 rcases hy with rfl | rfl | rfl | rfl | rfl | rfl | rfl | rfl <;> first | exact .val _
theorem kC:∀ x:Ak,∀ y∈Ak.c x,NM y:=by
 intro x y hy
 simp only [Ak.c,List.mem_cons,List.not_mem_nil,or_false] at hy
 rcases hy with rfl | rfl | rfl | rfl <;> first | exact .val _
theorem kD:∀ x:Be,∀ y∈Be.c x,NM y:=by
 intro x y hy
 simp only [Be.c,List.mem_cons,List.not_mem_nil,or_false] at hy
 rcases hy with rfl | rfl | rfl | rfl | rfl | rfl | rfl | rfl <;> first | exact .val _ | exact B5 kC
theorem kE:∀ x:C8,∀ y∈C8.c x,NM y:=by
 intro x y hy
 simp only [C8.c,List.mem_cons,List.not_mem_nil,or_false] at hy
 rcases hy with rfl | rfl | rfl | rfl | rfl <;> first | exact .val _ | exact B5 Es
theorem kB:∀ x:Ar,∀ y∈Ar.c x,NM y:=by
 intro x y hy
 simp only [Ar.c,List.mem_cons,List.not_mem_nil,or_false] at hy
 rcases hy with rfl | rfl | rfl | rfl <;> first | exact .val _ | exact B5 Es
theorem cP:∀ x:Cj,∀ y∈Cj.c x,NM y:=by
 intro x y hy
 simp only [Cj.c,List.mem_cons,List.not_mem_nil,or_false] at hy
 rcases hy with rfl | rfl <;> first | exact .val _ | exact B5 (fun x y hy=>by rw [List.mem_singleton.1 hy];exact .val _)
theorem YN:∀ x:CQ,∀ y∈CQ.c x,NM y:=by
 intro x y hy
 simp only [CQ.c,List.mem_cons,List.not_mem_nil,or_false] at hy
 rcases hy with rfl | rfl | rfl <;> first | exact .val _
theorem cO:∀ x:Dz,∀ y∈Dz.c x,NM y:=by
 intro x y hy
 simp only [Dz.c,List.mem_cons,List.not_mem_nil,or_false] at hy
 rcases hy with rfl | rfl | rfl <;> first | exact .val _ | exact B5 (fun x y hy=>by rw [List.mem_singleton.1 hy];exact .val _)
theorem KP:∀ x:Ad,∀ y∈Ad.c x,NM y:=by
 intro x y hy
 simp only [Ad.c,List.mem_cons,List.not_mem_nil,or_false] at hy
 rcases hy with rfl | rfl | rfl | rfl | rfl | rfl | rfl | rfl | rfl <;> first | exact .val _ | exact B5 Es
theorem Kl:∀ x:A1,∀ y∈A1.c x,NM y:=by
 intro x y hy
 simp only [A1.c,List.mem_cons,List.not_mem_nil,or_false] at hy
 rcases hy with rfl | rfl | rfl | rfl | rfl | rfl | rfl <;> first | exact .val _ | exact B5 Es
theorem qV:∀ x:Bm,∀ y∈Bm.c x,NM y:=by
 intro x y hy
 simp only [Bm.c,List.mem_cons,List.not_mem_nil,or_false] at hy
 rcases hy with rfl | rfl <;> first | exact .val _
theorem kF:∀ x:A5,∀ y∈A5.c x,NM y:=by
 intro x y hy
 simp only [A5.c,List.mem_cons,List.not_mem_nil,or_false] at hy
 rcases hy with rfl | rfl <;> first | exact .val _ | exact B5 qV
theorem Qk:∀ x:AQ,∀ y∈AQ.c x,NM y:=by
 intro x y hy
 simp only [AQ.c,List.mem_cons,List.not_mem_nil,or_false] at hy
 rcases hy with rfl | rfl | rfl <;> first | exact .val _ | exact B5 kF | exact B5 Kl
section
open Go.RowKit
theorem rX {l:Nat} {b c:Bool} (h:(bif b then b else (bif decide (((l:Nat):Int)=0) then decide (((l:Nat):Int)=0) else c))=false):1<=l:=by
 cases b with
 | true=>cases h
 | false =>
  by_cases e:((l:Nat):Int)=0
  ·rw [decide_eq_true e] at h;cases h
  omega
variable (s:AP)
abbrev D9:Bool:=(decide ((s.Kind:Int)=2))
abbrev E3:=lst 7 AF.c s.Edges
abbrev J6:List Cl:=[lst 7 AF.c s.Edges]
def Z0p:CT:=(80,[.one (E3 s),.one (.b (D9 s))],.val [] (.av (.one (.clo 132 2 (Aw [.eptr 1 1 (fun _ j=>((J6 s):List Cl).getD j default) 0 0,.eptr 1 1 (fun _ j=>([.b (D9 s)]:List Cl).getD j default) 0 0])))))
def Cn (s:AP) (v39:Int) (K0:Int->Int):Nat->Nat->Int
 | 0,_=>bif bif bif bif decide ((s.Kind:Int)=2) then !decide ((s.R:Int)=0) else false then true else decide ((s.R:Int)<0) then true else decide ((4194304:Int)<s.R) then 3 else 0
 | m+1,x=>bif !(decide ((jnA s.Edges x).B.X=(jnB s.Edges x).A.X)&&(decide ((jnA s.Edges x).B.Y=(jnB s.Edges x).A.Y)&&true)) then 12 else (Cn s v39 K0 m (x+1))
def Cc (s:AP):Nat->Int->Int
 | 0,_=>default
 | n0+1,v39=>bif decide ((v39:Int)<(s.Edges.length:Int)) then (bif !decide (((D8 (s.Edges.getD v39.toNat default)):Int)=0) then (D8 (s.Edges.getD v39.toNat default)) else ((Cc s n0) (v39+1))) else (Cn s v39 (Cc s n0) (jnN s.Edges (decide ((s.Kind:Int)=2))) 0)
def Cx (s:AP):Int:=bif bif bif !decide ((s.Kind:Int)=1) then !(decide ((s.Kind:Int)=2)) else false then (bif !decide ((s.Kind:Int)=1) then !(decide ((s.Kind:Int)=2)) else false) else (bif decide (((s.Edges.length:Int):Int)=0) then (decide (((s.Edges.length:Int):Int)=0)) else (bif decide ((s.Kind:Int)=2) then decide (((s.Edges.length:Int):Int)<2) else false)) then 12 else (bif decide ((40:Int)<(s.Edges.length:Int)) then 2 else (Cc s (((s.Edges.length:Int)-0).toNat+1) 0))
def Pc:CT:=(28,[.agg (AP.c s)],.val [] (.av (.one (.i (Cx s)))))
abbrev Rr:Nat×Tv:=(3,tB (decide ((s.Kind:Int)=2)))
abbrev IF:Nat×Blk:=(1,.cells (AP.c s) 28)
abbrev Hd:List (Nat×Blk):=[(IF s),(2,.cells [.i 0] 85)]
abbrev Fg:List (Nat×Tv):=[(1,tP 1 0),(2,tP 2 0)]
abbrev KI:Nat×Blk:=(200002,.cells [.i 0] 85)
abbrev Lf:Nat×Tv:=(38,tI (s.Edges.length:Int))
abbrev Nz:Nat×Blk:=(200001,.cells (AP.c s) 28)
abbrev Iq (t_:List (Nat×Tv)):List (Nat×Tv):=(1,tP 1 0)::(2,tP 2 0)::(3,tB (D9 s))::t_
abbrev Pm (t_:List (Nat×Tv)):List (Nat×Tv):=(1,tP 200001 0)::(2,tP 200002 0)::(3,tB (D9 s))::t_
theorem pQ (s:AP) (hl:(s.Edges.length:Int)<=9223372036854775807):E5 Tryz.prog 28 (Pc s).2.1 (tO (.i (Cx s))):=by
 refine VN Tryz.func28 rfl kr kr fun W0 M0 => ?_
 refine AB<|rn ⟨[(1,tP 1 0),(2,tP 2 0)],[(1,.cells (AP.c s) 28),(2,.cells [.i 0] 85)]⟩<|AB ?_
 refine rn ⟨[(1,tP 1 0),(2,tP 2 0),(3,tB (decide ((s.Kind:Int)=2)))],[(1,.cells (AP.c s) 28),(2,.cells [.i 0] 85)]⟩ ?_
 refine AB<|AR ?_
 refine AB<|AB ?_
 refine rc [] (t2 (!decide ((s.Kind:Int)=1)) []) ⟨[(1,tP 1 0),(2,tP 2 0),(3,tB (decide ((s.Kind:Int)=2))),(12,tB (bif !decide ((s.Kind:Int)=1) then !(decide ((s.Kind:Int)=2)) else false))],[(1,.cells (AP.c s) 28),(2,.cells [.i 0] 85)]⟩ .nil (c2 .nil)<|AG ?_
 refine Bd (⟨[(1,tP 1 0),(2,tP 2 0),(3,tB (decide ((s.Kind:Int)=2))),(12,tB (bif bif !decide ((s.Kind:Int)=1) then !(decide ((s.Kind:Int)=2)) else false then (bif !decide ((s.Kind:Int)=1) then !(decide ((s.Kind:Int)=2)) else false) else (bif decide (((s.Edges.length:Int):Int)=0) then (decide (((s.Edges.length:Int):Int)=0)) else (bif decide ((s.Kind:Int)=2) then decide (((s.Edges.length:Int):Int)<2) else false))))],[(1,.cells (AP.c s) 28),(2,.cells [.i 0] 85)]⟩) ?_ ?_
 ·refine AV _ rfl (fun h1 => ?_) (fun h1 => ?_)
  ·refine AY<|AG ?_
   refine Ay ?_
   first | rfl | (simp only [h1,cond_true,cond_false] <;> rfl)
  ·refine AB<|rn ⟨[(1,tP 1 0),(2,tP 2 0),(3,tB (decide ((s.Kind:Int)=2))),(12,tB (decide (((s.Edges.length:Int):Int)=0)))],[(1,.cells (AP.c s) 28),(2,.cells [.i 0] 85)]⟩ ?_
   refine AV _ rfl (fun h2 => ?_) (fun h2 => ?_)
   ·have g2:=oT h2
    refine AY<|AG ?_
    refine Ay ?_
    first | rfl | (simp only [h1,h2,cond_true,cond_false] <;> rfl)
   ·have g2:=oF h2
    refine rc [] (t4 (decide ((s.Kind:Int)=2)) []) ⟨[(1,tP 1 0),(2,tP 2 0),(3,tB (decide ((s.Kind:Int)=2))),(12,tB (bif decide ((s.Kind:Int)=2) then decide (((s.Edges.length:Int):Int)<2) else false))],[(1,.cells (AP.c s) 28),(2,.cells [.i 0] 85)]⟩ .nil (c4 .nil)<|AG ?_
    refine Ay ?_
    first | rfl | (simp only [h1,h2,cond_true,cond_false] <;> rfl)
 refine AV _ rfl (fun h1 => ?_) (fun h1 => ?_)
 ·refine AB<|rn ⟨[(2,tP 2 0)],[(2,.cells [.i 12] 85)]⟩ ?_
  refine AW<|Bo<|A7 ?_
  exact xl (tO (.i 12)) (Aa (by first | (simp only [Cx,h1,cond_true,cond_false] <;> rfl)))
 ·refine AB<|rn ⟨[(1,tP 1 0),(2,tP 2 0),(3,tB (decide ((s.Kind:Int)=2))),(31,tB (decide ((40:Int)<(s.Edges.length:Int))))],[(1,.cells (AP.c s) 28),(2,.cells [.i 0] 85)]⟩ ?_
  refine AV _ rfl (fun h2 => ?_) (fun h2 => ?_)
  ·have g2:=oT h2
   refine AB<|rn ⟨[(2,tP 2 0)],[(2,.cells [.i 2] 85)]⟩ ?_
   refine AW<|Bo<|A7 ?_
   exact xl (tO (.i 2)) (Aa (by first | (simp only [Cx,h1,h2,cond_true,cond_false] <;> rfl)))
  ·have g2:=oF h2
   refine AY<|BN ?_
   refine AG<|AB<|AB ?_
   refine rn ⟨[(1,tP 1 0),(2,tP 2 0),(3,tB (decide ((s.Kind:Int)=2))),(37,tO (lst 7 AF.c s.Edges)),(38,tI (s.Edges.length:Int)),(39,tI 0)],[(1,.cells (AP.c s) 28),(2,.cells [.i 0] 85)]⟩<|AR ?_
   refine BB (ι:=Nat×Int) (fun x=>⟨[(1,tP 1 0),(2,tP 2 0),(3,tB (decide ((s.Kind:Int)=2))),(37,tO (lst 7 AF.c s.Edges)),(38,tI (s.Edges.length:Int)),(39,tI x.2)],[(1,.cells (AP.c s) 28),(2,.cells [.i 0] 85)]⟩) (fun x=>((s.Edges.length:Int)-x.2).toNat<x.1/\(0<=x.2/\(x.2<=(s.Edges.length:Int)\/x.2=0))/\Cc s x.1 x.2=Cx s) (fun x=>x.1) ?_ (((s.Edges.length:Int)-0).toNat+1,0) ⟨Nat.lt_succ_self _,⟨ax0,ax0⟩,(by simp only [Cx,h1,h2,cond_true,cond_false])⟩
   rintro ⟨n0,v39⟩ ⟨hn,hinv,hF⟩
   have hm0:=hn;have hinv0:=hinv;have hF0:=hF;try dsimp only at hm0 hinv0 hF0
   clear hn hinv hF
   cases n0 with
   | zero=>exact absurd hm0 (Nat.not_lt_zero _)
   | succ n0 =>
    refine AB<|rn ⟨[(1,tP 1 0),(2,tP 2 0),(3,tB (decide ((s.Kind:Int)=2))),(37,tO (lst 7 AF.c s.Edges)),(38,tI (s.Edges.length:Int)),(39,tI v39),(40,tB (decide ((v39:Int)<(s.Edges.length:Int))))],[(1,.cells (AP.c s) 28),(2,.cells [.i 0] 85)]⟩<|AB ?_
    refine AV _ rfl (fun h3 => ?_) (fun h3 => ?_)
    ·have g3:=oT h3
     refine AY<|AG ?_
     refine AB<|AR<|AB ?_
     refine rc [] [0<=(v39:Int)/\(v39:Int)<((s.Edges.length:Nat):Int)] ⟨[(1,tP 1 0),(2,tP 2 0),(3,tB (decide ((s.Kind:Int)=2))),(5,tP 5 0),(37,tO (lst 7 AF.c s.Edges)),(38,tI (s.Edges.length:Int)),(39,tI v39)],[(1,.cells (AP.c s) 28),(2,.cells [.i 0] 85),(5,.cells (AF.c (s.Edges.getD v39.toNat default)) 68)]⟩ .nil (.cons au0 .nil)<|AG<|AB ?_
     refine rs 44 (Yu (s.Edges.getD v39.toNat default)) ⟨[(1,tP 1 0),(2,tP 2 0),(3,tB (decide ((s.Kind:Int)=2))),(6,tI (D8 (s.Edges.getD v39.toNat default))),(37,tO (lst 7 AF.c s.Edges)),(38,tI (s.Edges.length:Int)),(39,tI v39)],[(1,.cells (AP.c s) 28),(2,.cells [.i 0] 85)]⟩ (qJ (s.Edges.getD v39.toNat default))<|AG<|AB ?_
     refine rn ⟨[(1,tP 1 0),(2,tP 2 0),(3,tB (decide ((s.Kind:Int)=2))),(6,tI (D8 (s.Edges.getD v39.toNat default))),(37,tO (lst 7 AF.c s.Edges)),(38,tI (s.Edges.length:Int)),(39,tI v39),(46,tB (!decide (((D8 (s.Edges.getD v39.toNat default)):Int)=0)))],[(1,.cells (AP.c s) 28),(2,.cells [.i 0] 85)]⟩ ?_
     refine AV _ rfl (fun h4 => ?_) (fun h4 => ?_)
     ·have g4:=Bt h4
      refine AB<|rn ⟨[(2,tP 2 0)],[(2,.cells [.i (D8 (s.Edges.getD v39.toNat default))] 85)]⟩ ?_
      refine AW<|Bo ?_
      refine A7<|A7 ?_
      refine Bo<|A7 ?_
      exact xl (tO (.i (D8 (s.Edges.getD v39.toNat default)))) (Aa (by rw [<- hF0];first | (simp only [Cc,h3,h4,cond_true,cond_false] <;> rfl)))
     ·have g4:=Bl h4
      refine AY<|BN<|AG ?_
      refine rg ⟨[(1,tP 1 0),(2,tP 2 0),(3,tB (decide ((s.Kind:Int)=2))),(37,tO (lst 7 AF.c s.Edges)),(38,tI (s.Edges.length:Int)),(39,tI (W64 (v39+1)))],[(1,.cells (AP.c s) 28),(2,.cells [.i 0] 85)]⟩ ?_
      (try rw [(show W64 (v39+1)=v39+1 from Af (by omega) au5)])
      refine AG ?_
      refine ⟨(n0,v39+1),⟨?_,?_,(by rw [<- hF0];simp only [Cc,h3,h4,cond_true,cond_false])⟩,Nat.lt_succ_self _,Ay kr⟩
      ·show ((s.Edges.length:Int)-(v39+1)).toNat<n0;omega
      ·exact ⟨ax0,ax0⟩
    ·have g3:=oF h3
     refine BF<|A3 ?_
     refine A3<|BG ?_
     refine AG<|AB<|AB ?_
     refine rs 52 (Z0p s) ⟨[(1,tP 1 0),(2,tP 2 0),(3,tB (decide ((s.Kind:Int)=2))),(52,.av (.one (.clo 132 2 (Aw [.eptr 1 1 (fun _ j=>([lst 7 AF.c s.Edges]:List Cl).getD j default) 0 0,.eptr 1 1 (fun _ j=>([.b (decide ((s.Kind:Int)=2))]:List Cl).getD j default) 0 0]))))],[(1,.cells (AP.c s) 28),(2,.cells [.i 0] 85)]⟩ (WW (fun _ _=>kr) fun _=>pD s.Edges (decide ((s.Kind:Int)=2)))<|AG<|AR ?_
     refine BS (Cv.trans (vr 1 200001 (K:=[]) (fun k x h=>by cases h)) (Cv.trans (wr (⟨[(1,tP 200001 0),(2,tP 200002 0),(3,tB (decide ((s.Kind:Int)=2))),(52,.av (.one (.clo 132 2 (Aw [.eptr 1 1 (fun _ j=>([lst 7 AF.c s.Edges]:List Cl).getD j default) 0 0,.eptr 1 1 (fun _ j=>([.b (decide ((s.Kind:Int)=2))]:List Cl).getD j default) 0 0]))))],[(200001,.cells (AP.c s) 28),(200002,.cells [.i 0] 85)]⟩) 2 200002 (K:=[]) (fun k x h=>by cases h)) (Cv.refl _))) ?_
     refine dU [200001,200002] 299999 200001 (fun x1=>[(1,tP 200001 0),(2,tP 200002 0),(3,tB (decide ((s.Kind:Int)=2))),(7,.av (.one (.eptr 7 1 (gD (AF.c (jnA s.Edges x1.val))) 0 0))),(8,.av (.one (.eptr 7 1 (gD (AF.c (jnB s.Edges x1.val))) 0 0))),(52,.av (.one (.clo 132 2 (Aw [.eptr 1 1 (fun _ j=>([lst 7 AF.c s.Edges]:List Cl).getD j default) 0 0,.eptr 1 1 (fun _ j=>([.b (decide ((s.Kind:Int)=2))]:List Cl).getD j default) 0 0]))))]) (fun y=>Cn s v39 (Cc s n0) (jnN s.Edges (decide ((s.Kind:Int)=2))-y) y=Cx s) (fun _=>rfl) kr kr (fun _ _=>kr) (cW s.Edges (decide ((s.Kind:Int)=2)) (fun _=>rX h1) (by omega)) kr (fun _=>rfl) (fun _=>rfl) (BO (p:=BkM) (by simp only [List.forall_mem_cons];exact ⟨bkM (cN _),bkM (by simp only [List.forall_mem_cons];exact ⟨(.val _),fun x hx=>by cases hx⟩),fun x hx=>by cases hx⟩)) (fun x1=>(BO (p:=TvM) (by simp only [List.forall_mem_cons];exact ⟨A8 (.ptr _ _),A8 (.ptr _ _),A8 (.val _),A8 (Dg (Es _)),A8 (Dg (Es _)),A8 (UJ (by simp only [List.forall_mem_cons];exact ⟨(Dg (by simp only [List.forall_mem_cons];exact ⟨(B5 Es),fun x hx=>by cases hx⟩)),(Dg (by simp only [List.forall_mem_cons];exact ⟨(.val _),fun x hx=>by cases hx⟩)),fun x hx=>by cases hx⟩)),fun x hx=>by cases hx⟩))) (by rw [<- hF0];simp only [Cc,h3,Nat.sub_zero,cond_true,cond_false]) (fun l1 W1 M1 X1 x1 hPX => ?_) (fun l2 W2 M2 X2 x1 hPX => ?_) (fun hF1 => ?_)
     ·refine DH<|AB ?_
      refine rn ⟨[(1,tP 200001 0),(2,tP 200002 0),(3,tB (decide ((s.Kind:Int)=2))),(7,tP 7 0),(52,.av (.one (.clo 132 2 (Aw [.eptr 1 1 (fun _ j=>([lst 7 AF.c s.Edges]:List Cl).getD j default) 0 0,.eptr 1 1 (fun _ j=>([.b (decide ((s.Kind:Int)=2))]:List Cl).getD j default) 0 0])))),(54,.av (.agg (AF.c (jnB s.Edges x1.val))))],[(7,.cells (AF.c (jnA s.Edges x1.val)) 68),(200001,.cells (AP.c s) 28),(200002,.cells [.i 0] 85)]⟩ ?_
      refine rg ⟨[(1,tP 200001 0),(2,tP 200002 0),(3,tB (decide ((s.Kind:Int)=2))),(7,tP 7 0),(8,tP 8 0),(52,.av (.one (.clo 132 2 (Aw [.eptr 1 1 (fun _ j=>([lst 7 AF.c s.Edges]:List Cl).getD j default) 0 0,.eptr 1 1 (fun _ j=>([.b (decide ((s.Kind:Int)=2))]:List Cl).getD j default) 0 0]))))],[(7,.cells (AF.c (jnA s.Edges x1.val)) 68),(8,.cells (AF.c (jnB s.Edges x1.val)) 68),(200001,.cells (AP.c s) 28),(200002,.cells [.i 0] 85)]⟩ ?_
      exact ⟨_,Cv.trans (aK (⟨[(1,tP 200001 0),(2,tP 200002 0),(3,tB (decide ((s.Kind:Int)=2))),(7,.av (.one (.eptr 7 1 (gD (AF.c (jnA s.Edges x1.val))) 0 0))),(8,tP 8 0),(52,.av (.one (.clo 132 2 (Aw [.eptr 1 1 (fun _ j=>([lst 7 AF.c s.Edges]:List Cl).getD j default) 0 0,.eptr 1 1 (fun _ j=>([.b (decide ((s.Kind:Int)=2))]:List Cl).getD j default) 0 0]))))],[(8,.cells (AF.c (jnB s.Edges x1.val)) 68),(200001,.cells (AP.c s) 28),(200002,.cells [.i 0] 85)]⟩) 7 (AF.c (jnA s.Edges x1.val)) 68 [200001,200002] hPX kr kr kr kr) (Cv.trans (aK (⟨[(1,tP 200001 0),(2,tP 200002 0),(3,tB (decide ((s.Kind:Int)=2))),(7,.av (.one (.eptr 7 1 (gD (AF.c (jnA s.Edges x1.val))) 0 0))),(8,.av (.one (.eptr 7 1 (gD (AF.c (jnB s.Edges x1.val))) 0 0))),(52,.av (.one (.clo 132 2 (Aw [.eptr 1 1 (fun _ j=>([lst 7 AF.c s.Edges]:List Cl).getD j default) 0 0,.eptr 1 1 (fun _ j=>([.b (decide ((s.Kind:Int)=2))]:List Cl).getD j default) 0 0]))))],[(200001,.cells (AP.c s) 28),(200002,.cells [.i 0] 85)]⟩) 8 (AF.c (jnB s.Edges x1.val)) 68 [200001,200002] hPX kr kr kr kr) (Cv.refl _)),rfl,rfl⟩
     ·refine DH<|AR<|AB ?_
      refine rn ⟨[(1,tP 200001 0),(2,tP 200002 0),(3,tB (decide ((s.Kind:Int)=2))),(52,.av (.one (.clo 132 2 (Aw [.eptr 1 1 (fun _ j=>([lst 7 AF.c s.Edges]:List Cl).getD j default) 0 0,.eptr 1 1 (fun _ j=>([.b (decide ((s.Kind:Int)=2))]:List Cl).getD j default) 0 0])))),(59,tB (!(decide ((jnA s.Edges x1.val).B.X=(jnB s.Edges x1.val).A.X)&&(decide ((jnA s.Edges x1.val).B.Y=(jnB s.Edges x1.val).A.Y)&&true))))],[(200001,.cells (AP.c s) 28),(200002,.cells [.i 0] 85)]⟩ ?_
      refine AV _ rfl (fun h4 => ?_) (fun h4 => ?_)
      ·refine AB<|rn ⟨[(2,tP 200002 0)],[(200002,.cells [.i 12] 85)]⟩ ?_
       refine AW<|Bo ?_
       refine ⟨_,Cv.refl _,(BO (p:=BkM) (by simp only [List.forall_mem_cons];exact ⟨bkM (by simp only [List.forall_mem_cons];exact ⟨(.val _),fun x hx=>by cases hx⟩),fun x hx=>by cases hx⟩)),fun hF1 => ?_⟩
       change Cn s v39 (Cc s n0) (jnN s.Edges (decide ((s.Kind:Int)=2))-x1.val) x1.val=Cx s at hF1
       rw [show jnN s.Edges (decide ((s.Kind:Int)=2))-x1.val=(jnN s.Edges (decide ((s.Kind:Int)=2))-(x1.val+1))+1 by have:=x1.isLt;omega] at hF1
       refine Bo<|A7 ?_
       exact xl (tO (.i 12)) (Aa (by rw [<- hF1];first | (simp only [Cn,h4,cond_true,cond_false] <;> rfl)))
      ·refine AY<|BN ?_
       refine ⟨_,Cv.refl _,fun _ _ h=>h,fun hF => ?_⟩
       change Cn s v39 (Cc s n0) (jnN s.Edges (decide ((s.Kind:Int)=2))-x1.val) x1.val=Cx s at hF
       rw [show jnN s.Edges (decide ((s.Kind:Int)=2))-x1.val=(jnN s.Edges (decide ((s.Kind:Int)=2))-(x1.val+1))+1 by have:=x1.isLt;omega] at hF
       show Cn s v39 (Cc s n0) (jnN s.Edges (decide ((s.Kind:Int)=2))-(x1.val+1)) (x1.val+1)=Cx s
       rw [<- hF]
       first | (simp only [Cn,h4,cond_true,cond_false] <;> rfl)
     ·change Cn s v39 (Cc s n0) (jnN s.Edges (decide ((s.Kind:Int)=2))-(jnN s.Edges (decide ((s.Kind:Int)=2)))) (jnN s.Edges (decide ((s.Kind:Int)=2)))=Cx s at hF1
      rw [Nat.sub_self] at hF1
      refine BN<|AG ?_
      refine AB<|AB ?_
      refine rc [] (t3 (decide ((s.Kind:Int)=2)) (i3 (bif decide ((s.Kind:Int)=2) then !decide ((s.R:Int)=0) else false) (i3 (bif bif decide ((s.Kind:Int)=2) then !decide ((s.R:Int)=0) else false then true else decide ((s.R:Int)<0)) []))) ⟨[(2,tP 200002 0),(75,tB (bif bif bif decide ((s.Kind:Int)=2) then !decide ((s.R:Int)=0) else false then true else decide ((s.R:Int)<0) then true else decide ((4194304:Int)<s.R)))],[(200002,.cells [.i 0] 85)]⟩ .nil (c3 (c3 (c3 .nil)))<|AG ?_
      refine AV _ rfl (fun h4 => ?_) (fun h4 => ?_)
      ·refine AB<|rn ⟨[(2,tP 200002 0)],[(200002,.cells [.i 3] 85)]⟩ ?_
       refine AW<|A7 ?_
       exact xl (tO (.i 3)) (Aa (by rw [<- hF1];first | (simp only [Cn,h4,cond_true,cond_false] <;> rfl)))
      ·refine AY<|AG<|AB ?_
       refine rn ⟨[(2,tP 200002 0)],[(200002,.cells [.i 0] 85)]⟩<|AW ?_
       exact xl (tO (.i 0)) (Aa (by rw [<- hF1];first | (simp only [Cn,h4,cond_true,cond_false] <;> rfl)))
theorem jU (s:AP) (hl:(s.Edges.length:Int)<=9223372036854775807):OKc (Pc s):=cPu<|pQ s hl
end
section
open Go.RowKit
def DN (r:Ak):AP:=AP.mk 2 ((([AF.mk 1 (AC.mk r.X0 r.Y0) (AC.mk r.X1 r.Y0) (AC.mk 0 0)]++[AF.mk 1 (AC.mk r.X1 r.Y0) (AC.mk r.X1 r.Y1) (AC.mk 0 0)])++[AF.mk 1 (AC.mk r.X1 r.Y1) (AC.mk r.X0 r.Y1) (AC.mk 0 0)])++[AF.mk 1 (AC.mk r.X0 r.Y1) (AC.mk r.X0 r.Y0) (AC.mk 0 0)]) 0
variable (a:AP) (v3:Ak) (s:AP) (p1:List AF) (b:AP) (p2:List AF) (r:Ak) (v21:Int)
def Jg:CT:=(37,[.agg (Ak.c r)],.val [] (.av (.agg (AP.c (DN r)))))
abbrev yC:=AC.mk r.X0 r.Y0
abbrev DT:=[AF.mk 1 (yC r) (AC.mk r.X1 r.Y0) (AC.mk 0 0)]
abbrev E1:=[AF.mk 1 (AC.mk r.X1 r.Y0) (AC.mk r.X1 r.Y1) (AC.mk 0 0)]
abbrev FV:Nat×Blk:=(3,.cells [.i r.X0,.i r.Y0,.i r.X1,.i r.Y0,.i r.X1,.i r.Y1,.i r.X0,.i r.Y1] 199)
abbrev yA:=AC.mk r.X0 r.Y1
abbrev GC:=[AF.mk 1 (AC.mk r.X1 r.Y1) (yA r) (AC.mk 0 0)]
abbrev C7:Nat×Blk:=(2,.cells [.i 0,vN,.i 0] 28)
abbrev N9:=[AF.mk 1 (yA r) (yC r) (AC.mk 0 0)]
abbrev DC (t_:List (Nat×Tv)):List (Nat×Tv):=(2,tP 2 0)::(3,tP 3 0)::(4,tP 4 0)::t_
abbrev Lo:List (Nat×Tv):=(DC [])
abbrev XM:=AO AF.c (((DT r)++(E1 r))++(GC r))
abbrev XN:Nat×Blk:=(100002,.row 7 (((DT r)++(E1 r))++(GC r)).length (XM r) 68)
abbrev TZ:List (Nat×Tv):=(DC [(28,tI 1)])
abbrev TY:List (Nat×Tv):=(DC [(28,tI 2)])
abbrev TX:List (Nat×Tv):=(DC [(28,tI 3)])
abbrev XL:Nat×Blk:=(4,.cells [.i 2,.own 100002 7 (((DT r)++(E1 r))++(GC r)).length,.i 0] 28)
abbrev XI:Nat×Blk:=(100001,.row 7 ((DT r)++(E1 r)).length (AO AF.c ((DT r)++(E1 r))) 68)
abbrev XG:Nat×Blk:=(4,.cells [.i 2,.own 100001 7 ((DT r)++(E1 r)).length,.i 0] 28)
abbrev XD:List (Nat×Tv):=(DC [(28,tI 0)])
abbrev XC:Nat×Blk:=(4,.cells [.i 2,.own 100000 7 ((DT r).length),.i 0] 28)
abbrev W9:Nat×Blk:=(100003,.row 7 ((((DT r)++(E1 r))++(GC r))++(N9 r)).length (AO AF.c ((((DT r)++(E1 r))++(GC r))++(N9 r))) 68)
abbrev W8:List Cl:=[.i 2,.own 100003 7 ((((DT r)++(E1 r))++(GC r))++(N9 r)).length,.i 0]
abbrev fL:Nat×Blk:=(43,.row 7 ((((DT r)++(E1 r))++(GC r))++(N9 r)).length (AO AF.c ((((DT r)++(E1 r))++(GC r))++(N9 r))) 68)
abbrev TN:Nat×Blk:=(4,.cells [.i 2,vN,.i 0] 28)
abbrev W4:Nat×Blk:=(100000,.row 7 ((DT r).length) (AO AF.c (DT r)) 68)
abbrev fG:Nat×Blk:=(4,.cells [.i 2,.own 43 7 ((((DT r)++(E1 r))++(GC r))++(N9 r)).length,.i 0] 28)
abbrev eQ:Nat×Blk:=(4,.cells [.i 2,.own 43 7 (((DT r)++(E1 r))++(GC r)).length,.i 0] 28)
theorem vA (r:Ak):PuP 37 (Jg r).2.1 (.av (.agg (AP.c (DN r)))):=by
 refine pwf Tryz.func37 fun W0 M0 => ?_
 refine AB<|rn ⟨Fg,[(1,.cells (Ak.c r) 90),C7]⟩<|AB ?_
 refine rn ⟨Ga,[C7,(FV r)]⟩<|AB ?_
 refine rn ⟨Lo,[C7,(FV r),TN]⟩ ?_
 refine AB<|AB ?_
 refine rn ⟨XD,[C7,(FV r),TN]⟩<|AR ?_
 refine G0 5 ?_
 refine DZ<|AB ?_
 refine rn ⟨(DC [(28,tI 0),(29,tB true)]),[C7,(FV r),TN]⟩<|AB ?_
 refine Cw kr<|AY ?_
 refine AG<|AB ?_
 refine AR<|AB ?_
 refine rn ⟨(DC [(5,tI 0),(28,tI 0)]),[C7,(FV r),TN]⟩ ?_
 refine dw [] [] [0<=(0:Int)/\(0:Int)<(4:Int),(4:Int)≠0,0<=(1:Int)/\(1:Int)<(4:Int),1<=maxLen,1*56<=140737488355328] ⟨XD,[C7,(FV r),(4,.cells [.i 2,.own 43 7 1,.i 0] 28),(43,.row 7 1 (As 7 1 [.i 1,.i r.X0,.i r.Y0,.i r.X1,.i r.Y0,.i 0,.i 0]) 68)]⟩ .nil (.cons (by decide) (.cons au15 (.cons (by decide) (.cons au3 (.cons au3 .nil)))))<|BN<|AG ?_
 refine BS (Cv.trans (BM (⟨XD,[C7,(FV r),(4,.cells [.i 2,.own 43 7 ((DT r).length),.i 0] 28),(43,.row 7 ((DT r).length) (AO AF.c (DT r)) 68)]⟩) lr (.cons ⟨rfl,.refl _⟩ (.cons ⟨rfl,.refl _⟩ (.cons ⟨rfl,.cells _ (rr (.cons (.own _ _ au2) (rr .nil)))⟩ (.cons ⟨rfl,Am 68 (Aq (c:=AF.c) (xs:=([AF.mk 1 (AC.mk r.X0 r.Y0) (AC.mk r.X1 r.Y0) (AC.mk 0 0)]:List AF)) rfl kr)⟩ .nil))))) (Cv.refl _)) ?_
 refine rn ⟨TZ,[C7,(FV r),(4,.cells [.i 2,.own 43 7 ((DT r).length),.i 0] 28),(43,.row 7 ((DT r).length) (AO AF.c (DT r)) 68)]⟩ ?_
 refine DZ ?_
 refine BS (Cv.trans (wr (⟨TZ,[C7,(FV r),(XC r),(W4 r)]⟩) 43 100000 hk0) (Cv.refl _))<|AB ?_
 refine rn ⟨(DC [(28,tI 1),(29,tB true)]),[C7,(FV r),(XC r),(W4 r)]⟩<|AB ?_
 refine Cw kr<|AY ?_
 refine AG<|AB ?_
 refine AR<|AB ?_
 refine rn ⟨(DC [(5,tI 1),(28,tI 1)]),[C7,(FV r),(XC r),(W4 r)]⟩ ?_
 refine dw [] [] [0<=(1:Int)/\(1:Int)<(4:Int),(4:Int)≠0,0<=(2:Int)/\(2:Int)<(4:Int),[AF.mk 1 (AC.mk r.X0 r.Y0) (AC.mk r.X1 r.Y0) (AC.mk 0 0)].length=[AF.mk 1 (AC.mk r.X0 r.Y0) (AC.mk r.X1 r.Y0) (AC.mk 0 0)].length,([AF.mk 1 (AC.mk r.X0 r.Y0) (AC.mk r.X1 r.Y0) (AC.mk 0 0)].length)+1<=maxLen,(([AF.mk 1 (AC.mk r.X0 r.Y0) (AC.mk r.X1 r.Y0) (AC.mk 0 0)].length)+1)*56<=140737488355328] ⟨TZ,[C7,(FV r),(4,.cells [.i 2,.own 43 7 (((DT r).length)+1),.i 0] 28),(43,.row 7 (((DT r).length)+1) (fun i_ j_=>if i_<((DT r).length) then (AO AF.c (DT r)) i_ j_ else (As 7 1 [.i 1,.i r.X1,.i r.Y0,.i r.X1,.i r.Y1,.i 0,.i 0]) (i_-((DT r).length)) j_) 68)]⟩ .nil (.cons (by decide) (.cons au15 (.cons (by decide) (.cons rfl (.cons au3 (.cons au3 .nil))))))<|BN<|AG ?_
 refine BS (Cv.trans (BM (⟨TZ,[C7,(FV r),(4,.cells [.i 2,.own 43 7 ((DT r)++(E1 r)).length,.i 0] 28),(43,.row 7 ((DT r)++(E1 r)).length (AO AF.c ((DT r)++(E1 r))) 68)]⟩) lr (.cons ⟨rfl,.refl _⟩ (.cons ⟨rfl,.refl _⟩ (.cons ⟨rfl,.cells _ (rr (.cons (.own _ _ au2) (rr .nil)))⟩ (.cons ⟨rfl,Am 68 (BR (BI 7 AF.c [AF.mk 1 (AC.mk r.X0 r.Y0) (AC.mk r.X1 r.Y0) (AC.mk 0 0)]) (Aq (c:=AF.c) (xs:=([AF.mk 1 (AC.mk r.X1 r.Y0) (AC.mk r.X1 r.Y1) (AC.mk 0 0)]:List AF)) rfl kr))⟩ .nil))))) (Cv.refl _)) ?_
 refine rn ⟨TY,[C7,(FV r),(4,.cells [.i 2,.own 43 7 ((DT r)++(E1 r)).length,.i 0] 28),(43,.row 7 ((DT r)++(E1 r)).length (AO AF.c ((DT r)++(E1 r))) 68)]⟩ ?_
 refine DZ ?_
 refine BS (Cv.trans (wr (⟨TY,[C7,(FV r),(XG r),(XI r)]⟩) 43 100001 hk0) (Cv.refl _))<|AB ?_
 refine rn ⟨(DC [(28,tI 2),(29,tB true)]),[C7,(FV r),(XG r),(XI r)]⟩<|AB ?_
 refine Cw kr<|AY ?_
 refine AG<|AB ?_
 refine AR<|AB ?_
 refine rn ⟨(DC [(5,tI 2),(28,tI 2)]),[C7,(FV r),(XG r),(XI r)]⟩ ?_
 refine dw [] [] [0<=(2:Int)/\(2:Int)<(4:Int),(4:Int)≠0,0<=(3:Int)/\(3:Int)<(4:Int),([AF.mk 1 (AC.mk r.X0 r.Y0) (AC.mk r.X1 r.Y0) (AC.mk 0 0)]++[AF.mk 1 (AC.mk r.X1 r.Y0) (AC.mk r.X1 r.Y1) (AC.mk 0 0)]).length=([AF.mk 1 (AC.mk r.X0 r.Y0) (AC.mk r.X1 r.Y0) (AC.mk 0 0)]++[AF.mk 1 (AC.mk r.X1 r.Y0) (AC.mk r.X1 r.Y1) (AC.mk 0 0)]).length,([AF.mk 1 (AC.mk r.X0 r.Y0) (AC.mk r.X1 r.Y0) (AC.mk 0 0)]++[AF.mk 1 (AC.mk r.X1 r.Y0) (AC.mk r.X1 r.Y1) (AC.mk 0 0)]).length+1<=maxLen,(([AF.mk 1 (AC.mk r.X0 r.Y0) (AC.mk r.X1 r.Y0) (AC.mk 0 0)]++[AF.mk 1 (AC.mk r.X1 r.Y0) (AC.mk r.X1 r.Y1) (AC.mk 0 0)]).length+1)*56<=140737488355328] ⟨TY,[C7,(FV r),(4,.cells [.i 2,.own 43 7 (((DT r)++(E1 r)).length+1),.i 0] 28),(43,.row 7 (((DT r)++(E1 r)).length+1) (fun i_ j_=>if i_<((DT r)++(E1 r)).length then (AO AF.c ((DT r)++(E1 r))) i_ j_ else (As 7 1 [.i 1,.i r.X1,.i r.Y1,.i r.X0,.i r.Y1,.i 0,.i 0]) (i_-((DT r)++(E1 r)).length) j_) 68)]⟩ .nil (.cons (by decide) (.cons au15 (.cons (by decide) (.cons rfl (.cons au3 (.cons au3 .nil))))))<|BN<|AG ?_
 refine BS (Cv.trans (BM (⟨TY,[C7,(FV r),(eQ r),(43,.row 7 (((DT r)++(E1 r))++(GC r)).length (XM r) 68)]⟩) lr (.cons ⟨rfl,.refl _⟩ (.cons ⟨rfl,.refl _⟩ (.cons ⟨rfl,.cells _ (rr (.cons (.own _ _ au2) (rr .nil)))⟩ (.cons ⟨rfl,Am 68 (BR (BI 7 AF.c ([AF.mk 1 (AC.mk r.X0 r.Y0) (AC.mk r.X1 r.Y0) (AC.mk 0 0)]++[AF.mk 1 (AC.mk r.X1 r.Y0) (AC.mk r.X1 r.Y1) (AC.mk 0 0)])) (Aq (c:=AF.c) (xs:=([AF.mk 1 (AC.mk r.X1 r.Y1) (AC.mk r.X0 r.Y1) (AC.mk 0 0)]:List AF)) rfl kr))⟩ .nil))))) (Cv.refl _)) ?_
 refine rn ⟨TX,[C7,(FV r),(eQ r),(43,.row 7 (((DT r)++(E1 r))++(GC r)).length (XM r) 68)]⟩ ?_
 refine DZ ?_
 refine BS (Cv.trans (wr (⟨TX,[C7,(FV r),(XL r),(XN r)]⟩) 43 100002 hk0) (Cv.refl _))<|AB ?_
 refine rn ⟨(DC [(28,tI 3),(29,tB true)]),[C7,(FV r),(XL r),(XN r)]⟩<|AB ?_
 refine Cw kr<|AY ?_
 refine AG<|AB ?_
 refine AR<|AB ?_
 refine rn ⟨(DC [(5,tI 3),(28,tI 3)]),[C7,(FV r),(XL r),(XN r)]⟩ ?_
 refine dw [] [] [0<=(3:Int)/\(3:Int)<(4:Int),(4:Int)≠0,0<=(0:Int)/\(0:Int)<(4:Int),(([AF.mk 1 (AC.mk r.X0 r.Y0) (AC.mk r.X1 r.Y0) (AC.mk 0 0)]++[AF.mk 1 (AC.mk r.X1 r.Y0) (AC.mk r.X1 r.Y1) (AC.mk 0 0)])++[AF.mk 1 (AC.mk r.X1 r.Y1) (AC.mk r.X0 r.Y1) (AC.mk 0 0)]).length=(([AF.mk 1 (AC.mk r.X0 r.Y0) (AC.mk r.X1 r.Y0) (AC.mk 0 0)]++[AF.mk 1 (AC.mk r.X1 r.Y0) (AC.mk r.X1 r.Y1) (AC.mk 0 0)])++[AF.mk 1 (AC.mk r.X1 r.Y1) (AC.mk r.X0 r.Y1) (AC.mk 0 0)]).length,(([AF.mk 1 (AC.mk r.X0 r.Y0) (AC.mk r.X1 r.Y0) (AC.mk 0 0)]++[AF.mk 1 (AC.mk r.X1 r.Y0) (AC.mk r.X1 r.Y1) (AC.mk 0 0)])++[AF.mk 1 (AC.mk r.X1 r.Y1) (AC.mk r.X0 r.Y1) (AC.mk 0 0)]).length+1<=maxLen,((([AF.mk 1 (AC.mk r.X0 r.Y0) (AC.mk r.X1 r.Y0) (AC.mk 0 0)]++[AF.mk 1 (AC.mk r.X1 r.Y0) (AC.mk r.X1 r.Y1) (AC.mk 0 0)])++[AF.mk 1 (AC.mk r.X1 r.Y1) (AC.mk r.X0 r.Y1) (AC.mk 0 0)]).length+1)*56<=140737488355328] ⟨TX,[C7,(FV r),(4,.cells [.i 2,.own 43 7 ((((DT r)++(E1 r))++(GC r)).length+1),.i 0] 28),(43,.row 7 ((((DT r)++(E1 r))++(GC r)).length+1) (fun i_ j_=>if i_<(((DT r)++(E1 r))++(GC r)).length then (XM r) i_ j_ else (As 7 1 [.i 1,.i r.X0,.i r.Y1,.i r.X0,.i r.Y0,.i 0,.i 0]) (i_-(((DT r)++(E1 r))++(GC r)).length) j_) 68)]⟩ .nil (.cons (by decide) (.cons au15 (.cons (by decide) (.cons rfl (.cons au3 (.cons au3 .nil))))))<|BN<|AG ?_
 refine BS (Cv.trans (BM (⟨TX,[C7,(FV r),(fG r),(fL r)]⟩) lr (.cons ⟨rfl,.refl _⟩ (.cons ⟨rfl,.refl _⟩ (.cons ⟨rfl,.cells _ (rr (.cons (.own _ _ au2) (rr .nil)))⟩ (.cons ⟨rfl,Am 68 (BR (BI 7 AF.c (([AF.mk 1 (AC.mk r.X0 r.Y0) (AC.mk r.X1 r.Y0) (AC.mk 0 0)]++[AF.mk 1 (AC.mk r.X1 r.Y0) (AC.mk r.X1 r.Y1) (AC.mk 0 0)])++[AF.mk 1 (AC.mk r.X1 r.Y1) (AC.mk r.X0 r.Y1) (AC.mk 0 0)])) (Aq (c:=AF.c) (xs:=([AF.mk 1 (AC.mk r.X0 r.Y1) (AC.mk r.X0 r.Y0) (AC.mk 0 0)]:List AF)) rfl kr))⟩ .nil))))) (Cv.refl _)) ?_
 refine rn ⟨(DC [(28,tI 4)]),[C7,(FV r),(fG r),(fL r)]⟩ ?_
 refine DZ ?_
 refine BS (Cv.trans (wr (⟨(DC [(28,tI 4)]),[C7,(FV r),(4,.cells (W8 r) 28),(W9 r)]⟩) 43 100003 hk0) (Cv.refl _))<|AB ?_
 refine rn ⟨(DC [(28,tI 4),(29,tB false)]),[C7,(FV r),(4,.cells (W8 r) 28),(W9 r)]⟩<|AB ?_
 refine FC kr<|BF ?_
 refine A3<|A3 ?_
 refine BG<|AG<|AB ?_
 refine rn ⟨[(2,tP 2 0)],[(2,.cells (W8 r) 28),(W9 r)]⟩<|AW ?_
 exact yl (Cv.trans (vf 100003 7 ((([AF.mk 1 (AC.mk r.X0 r.Y0) (AC.mk r.X1 r.Y0) (AC.mk 0 0)]++[AF.mk 1 (AC.mk r.X1 r.Y0) (AC.mk r.X1 r.Y1) (AC.mk 0 0)])++[AF.mk 1 (AC.mk r.X1 r.Y1) (AC.mk r.X0 r.Y1) (AC.mk 0 0)])++[AF.mk 1 (AC.mk r.X0 r.Y1) (AC.mk r.X0 r.Y0) (AC.mk 0 0)]).length (AO AF.c ((([AF.mk 1 (AC.mk r.X0 r.Y0) (AC.mk r.X1 r.Y0) (AC.mk 0 0)]++[AF.mk 1 (AC.mk r.X1 r.Y0) (AC.mk r.X1 r.Y1) (AC.mk 0 0)])++[AF.mk 1 (AC.mk r.X1 r.Y1) (AC.mk r.X0 r.Y1) (AC.mk 0 0)])++[AF.mk 1 (AC.mk r.X0 r.Y1) (AC.mk r.X0 r.Y0) (AC.mk 0 0)])) 68 hk0 (.cons ⟨rfl,rfl⟩ .nil)) (Cv.refl _)) (.av (.agg [.i 2,lst 7 AF.c ((([AF.mk 1 (AC.mk r.X0 r.Y0) (AC.mk r.X1 r.Y0) (AC.mk 0 0)]++[AF.mk 1 (AC.mk r.X1 r.Y0) (AC.mk r.X1 r.Y1) (AC.mk 0 0)])++[AF.mk 1 (AC.mk r.X1 r.Y1) (AC.mk r.X0 r.Y1) (AC.mk 0 0)])++[AF.mk 1 (AC.mk r.X0 r.Y1) (AC.mk r.X0 r.Y0) (AC.mk 0 0)]),.i 0])) (Aa (by rfl))
theorem PS (r:Ak):OKc (Jg r):=cPu<|vA r
def Z0q:AF:=(s.Edges.drop (1:Int).toNat).getD v21.toNat default
def Nd (s:AP):Nat->Ak->Int->Ak
 | 0,_,_=>default
 | n0+1,v3,v21=>bif decide ((v21:Int)<(((((s.Edges.length:Nat):Int):Int).toNat-(1:Int).toNat:Nat):Int)) then ((Nd s n0) (Ak.mk (min v3.X0 (BA (Z0q s v21)).X0) (min v3.Y0 (BA (Z0q s v21)).Y0) (max v3.X1 (BA (Z0q s v21)).X1) (max v3.Y1 (BA (Z0q s v21)).Y1)) (v21+1)) else (Ak.mk (W64 (v3.X0-s.R)) (W64 (v3.Y0-s.R)) (W64 (v3.X1+s.R)) (W64 (v3.Y1+s.R)))
def Hb (s:AP):Ak:=bif decide (((s.Edges.length:Int):Int)=0) then (Ak.mk 0 0 0 0) else (Nd s (((((((s.Edges.length:Nat):Int):Int).toNat-(1:Int).toNat:Nat):Int)-0).toNat+1) (BA (s.Edges.getD 0 default)) 0)
def xP:CT:=(32,[.agg (AP.c s)],.val [] (.av (.agg (Ak.c (Hb s)))))
abbrev Og:Nat×Tv:=(20,tI (((((s.Edges.length:Nat):Int):Int).toNat-(1:Int).toNat:Nat):Int))
abbrev Jn:Nat×Blk:=(2,.cells [.i 0,.i 0,.i 0,.i 0] 90)
abbrev Ls:Nat×Tv:=(19,tO (lst 7 AF.c (s.Edges.drop (1:Int).toNat)))
abbrev fO:Nat×Blk:=(3,.cells [.i (min v3.X0 (BA (Z0q s v21)).X0),.i (min v3.Y0 (BA (Z0q s v21)).Y0),.i (max v3.X1 (BA (Z0q s v21)).X1),.i (max v3.Y1 (BA (Z0q s v21)).Y1)] 90)
abbrev Wz:Nat×Blk:=(3,.cells (Ak.c (BA (s.Edges.getD 0 default))) 90)
abbrev eX:List Cl:=[.i (W64 (v3.X0-s.R)),.i (W64 (v3.Y0-s.R)),.i (W64 (v3.X1+s.R)),.i (W64 (v3.Y1+s.R))]
abbrev Ir (t_:List (Nat×Tv)):List (Nat×Tv):=(1,tP 1 0)::(2,tP 2 0)::(3,tP 3 0)::t_
theorem pBox (s:AP) (h0:(s.Edges.length:Int)<=1000000):PuP 32 (xP s).2.1 (.av (.agg (Ak.c (Hb s)))):=by
 refine pwf Tryz.func32 fun W0 M0 => ?_
 refine AB<|rn ⟨Fg,[(IF s),Jn]⟩ ?_
 refine AB<|AB ?_
 refine rn ⟨[(1,tP 1 0),(2,tP 2 0),(10,tB (decide (((s.Edges.length:Int):Int)=0)))],[(IF s),Jn]⟩ ?_
 refine AV _ rfl (fun h1 => ?_) (fun h1 => ?_)
 ·refine AB<|rn ⟨[(2,tP 2 0)],[Jn]⟩ ?_
  refine AW<|A7 ?_
  exact xl (.av (.agg [.i 0,.i 0,.i 0,.i 0])) (Aa (by simp only [Hb,h1,cond_true,cond_false] <;> rfl))
 have g1:=oF h1
 refine AY<|AG<|AB ?_
 refine rc [(16,HS (s.Edges.getD 0 default))] [0<=(0:Int)/\(0:Int)<((s.Edges.length:Nat):Int),Ap (HS (s.Edges.getD 0 default)).2.1] ⟨(Ir []),[(IF s),Jn,(Wz s)]⟩ (.cons (Ki (s.Edges.getD 0 default)) .nil) (.cons au0 (.cons rfl .nil))<|AG ?_
 refine AB<|AB ?_
 refine rc [] [0<=(1:Int)/\(1:Int)<=(((s.Edges.length:Nat):Int):Int)/\(((s.Edges.length:Nat):Int):Int)<=((s.Edges.length:Nat):Int)] ⟨(Ir [(19,.av (.one (.list false 7 ((((s.Edges.length:Nat):Int):Int).toNat-(1:Int).toNat) (fun i_ j_=>(AO AF.c s.Edges) (i_+(1:Int).toNat) j_)))),(Og s),(21,tI 0)]),[(IF s),Jn,(Wz s)]⟩ .nil (.cons au0 .nil)<|AG ?_
 refine BS (Cv.trans (BM (⟨(Ir [(Ls s),(Og s),(21,tI 0)]),[(IF s),Jn,(Wz s)]⟩) (.cons ⟨rfl,.refl _⟩ (.cons ⟨rfl,.refl _⟩ (.cons ⟨rfl,.refl _⟩ (.cons ⟨rfl,.av (.one (BZ false (bI (a:=1) (BI 7 AF.c s.Edges) (by have hc:=(show 0<=(1:Int)/\(1:Int)<=(((s.Edges.length:Nat):Int):Int)/\(((s.Edges.length:Nat):Int):Int)<=((s.Edges.length:Nat):Int) from au0);exact hc.1) (by have hc:=(show 0<=(1:Int)/\(1:Int)<=(((s.Edges.length:Nat):Int):Int)/\(((s.Edges.length:Nat):Int):Int)<=((s.Edges.length:Nat):Int) from au0);exact hc.2.1))))⟩ lr)))) lr) (Cv.refl _))<|AR ?_
 refine BB (ι:=Nat×Ak×Int) (fun x=>⟨(Ir [(Ls s),(Og s),(21,tI x.2.2)]),[(IF s),Jn,(3,.cells (Ak.c x.2.1) 90)]⟩) (fun x=>((((((s.Edges.length:Nat):Int):Int).toNat-(1:Int).toNat:Nat):Int)-x.2.2).toNat<x.1/\(0<=x.2.2/\(x.2.2<=(((((s.Edges.length:Nat):Int):Int).toNat-(1:Int).toNat:Nat):Int)\/x.2.2=0))/\Nd s x.1 x.2.1 x.2.2=Hb s) (fun x=>x.1) ?_ (((((((s.Edges.length:Nat):Int):Int).toNat-(1:Int).toNat:Nat):Int)-0).toNat+1,BA (s.Edges.getD 0 default),0) ⟨Nat.lt_succ_self _,⟨ax0,ax0⟩,(by simp only [Hb,h1,cond_true,cond_false])⟩
 rintro ⟨n0,v3,v21⟩ ⟨hm0,hinv0,hF0⟩
 try dsimp only at hm0 hinv0 hF0
 cases n0 with | zero=>exact nz hm0 | succ n0 => ?_
 refine AB<|rn ⟨(Ir [(Ls s),(Og s),(21,tI v21),(22,tB (decide ((v21:Int)<(((((s.Edges.length:Nat):Int):Int).toNat-(1:Int).toNat:Nat):Int))))]),[(IF s),Jn,(3,.cells (Ak.c v3) 90)]⟩<|AB ?_
 refine AV (decide ((v21:Int)<(((((s.Edges.length:Nat):Int):Int).toNat-(1:Int).toNat:Nat):Int))) kr (fun h2 => ?_) (fun h2 => ?_)
 ·have g2:=oT h2
  refine AY<|AG ?_
  refine AB<|AR<|AB ?_
  refine rc [] [0<=(v21:Int)/\(v21:Int)<(((s.Edges.drop (1:Int).toNat).length:Nat):Int)] ⟨(Ir [(5,tP 5 0),(Ls s),(Og s),(21,tI v21)]),[(IF s),Jn,(3,.cells (Ak.c v3) 90),(5,.cells (AF.c (Z0q s v21)) 68)]⟩ .nil (.cons au0 .nil)<|AG<|AB ?_
  refine rs 26 (HS (Z0q s v21)) ⟨(Ir [(6,tP 6 0),(Ls s),(Og s),(21,tI v21)]),[(IF s),Jn,(3,.cells (Ak.c v3) 90),(6,.cells (Ak.c (BA (Z0q s v21))) 90)]⟩ (Ki (Z0q s v21))<|AG ?_
  refine rg ⟨(Ir [(Ls s),(Og s),(21,tI v21)]),[(IF s),Jn,(fO v3 s v21)]⟩<|BN<|AG ?_
  refine rg ⟨(Ir [(Ls s),(Og s),(21,tI (W64 (v21+1)))]),[(IF s),Jn,(fO v3 s v21)]⟩ ?_
  (try rw [(show W64 (v21+1)=v21+1 from Af oM au5)])
  refine AG ?_
  refine ⟨(n0,Ak.mk (min v3.X0 (BA (Z0q s v21)).X0) (min v3.Y0 (BA (Z0q s v21)).Y0) (max v3.X1 (BA (Z0q s v21)).X1) (max v3.Y1 (BA (Z0q s v21)).Y1),v21+1),⟨?_,?_,(by rw [<- hF0];simp only [Nd,h2,cond_true,cond_false])⟩,Nat.lt_succ_self _,Ay kr⟩
  ·show ((((((s.Edges.length:Nat):Int):Int).toNat-(1:Int).toNat:Nat):Int)-(v21+1)).toNat<n0;omega
  exact ⟨ax0,ax0⟩
 refine BF<|A3 ?_
 refine A3<|BG ?_
 refine AG<|AB ?_
 refine rn ⟨[(2,tP 2 0)],[(2,.cells (eX v3 s) 90)]⟩<|AW ?_
 exact xl (.av (.agg (eX v3 s))) (Aa (by rw [<- hF0];first | (simp only [Nd,h2,cond_true,cond_false] <;> rfl)))
theorem okBox (s:AP) (h0:(s.Edges.length:Int)<=1000000):OKc (xP s):=cPu<|pBox s h0
def Fz (p1:(List AF)) (p2:(List AF)):Nat->Int->Bool
 | 0,_=>default
 | n0+1,v13=>bif decide ((v13:Int)<(p1.length:Int)) then (bif !(decide ((p1.getD v13.toNat default).Kind=(p2.getD v13.toNat default).Kind)&&(decide ((p1.getD v13.toNat default).A.X=(p2.getD v13.toNat default).A.X)&&(decide ((p1.getD v13.toNat default).A.Y=(p2.getD v13.toNat default).A.Y)&&(decide ((p1.getD v13.toNat default).B.X=(p2.getD v13.toNat default).B.X)&&(decide ((p1.getD v13.toNat default).B.Y=(p2.getD v13.toNat default).B.Y)&&(decide ((p1.getD v13.toNat default).C.X=(p2.getD v13.toNat default).C.X)&&(decide ((p1.getD v13.toNat default).C.Y=(p2.getD v13.toNat default).C.Y)&&true))))))) then false else ((Fz p1 p2 n0) (v13+1))) else true
def Hs (p1:(List AF)) (p2:(List AF)):Bool:=bif !decide (((p1.length:Int):Int)=(p2.length:Int)) then false else (Fz p1 p2 (((p1.length:Int)-0).toNat+1) 0)
def PW:CT:=(81,[.one (lst 7 AF.c p1),.one (lst 7 AF.c p2)],.val [] (.av (.one (.b (Hs p1 p2)))))
abbrev KA:Nat×Tv:=(0,tO (lst 7 AF.c p1))
abbrev J8:Nat×Tv:=(1,tO (lst 7 AF.c p2))
abbrev Nu:Nat×Tv:=(12,tI (p1.length:Int))
theorem pF (p1:(List AF)) (p2:(List AF)) (h0:(p1.length:Int)<=1000000):PuP 81 (PW p1 p2).2.1 (tO (.b (Hs p1 p2))):=by
 refine pwf Tryz.func81 fun W0 M0 => ?_
 refine AB<|rn ⟨[(KA p1),(J8 p2)],[]⟩ ?_
 refine AB<|AB ?_
 refine rn ⟨[(KA p1),(J8 p2),(10,tB (!decide (((p1.length:Int):Int)=(p2.length:Int))))],[]⟩ ?_
 refine AV _ rfl (fun h1 => ?_) (fun h1 => ?_)
 ·have g1:=Bt h1
  refine AB<|rn ⟨[(4,tB false)],[]⟩ ?_
  refine AW<|A7 ?_
  exact xl (tO (.b false)) (Aa (by simp only [Hs,h1,cond_true,cond_false] <;> rfl))
 have g1:=Bl h1
 refine AY<|AG ?_
 refine AB<|AB ?_
 refine rn ⟨[(KA p1),(J8 p2),(Nu p1),(13,tI 0)],[]⟩<|AR ?_
 refine BB (ι:=Nat×Int) (fun x=>⟨[(KA p1),(J8 p2),(Nu p1),(13,tI x.2)],[]⟩) (fun x=>((p1.length:Int)-x.2).toNat<x.1/\(0<=x.2/\(x.2<=(p1.length:Int)\/x.2=0))/\Fz p1 p2 x.1 x.2=Hs p1 p2) (fun x=>x.1) ?_ (((p1.length:Int)-0).toNat+1,0) ⟨Nat.lt_succ_self _,⟨ax0,ax0⟩,(by simp only [Hs,h1,cond_true,cond_false])⟩
 rintro ⟨n0,v13⟩ ⟨hm0,hinv0,hF0⟩
 try dsimp only at hm0 hinv0 hF0
 cases n0 with | zero=>exact nz hm0 | succ n0 => ?_
 refine AB<|rn ⟨[(KA p1),(J8 p2),(Nu p1),(13,tI v13),(14,tB (decide ((v13:Int)<(p1.length:Int))))],[]⟩<|AB ?_
 refine AV _ rfl (fun h2 => ?_) (fun h2 => ?_)
 ·have g2:=oT h2
  refine AY<|AG ?_
  refine AB<|AR<|AB ?_
  refine rn ⟨[(KA p1),(J8 p2),(5,tI v13),(Nu p1),(13,tI v13)],[]⟩<|AB ?_
  refine dw [] [] [0<=(v13:Int)/\(v13:Int)<((p1.length:Nat):Int),0<=(v13:Int)/\(v13:Int)<((p2.length:Nat):Int)] ⟨[(KA p1),(J8 p2),(Nu p1),(13,tI v13),(24,tB (!(decide ((p1.getD v13.toNat default).Kind=(p2.getD v13.toNat default).Kind)&&(decide ((p1.getD v13.toNat default).A.X=(p2.getD v13.toNat default).A.X)&&(decide ((p1.getD v13.toNat default).A.Y=(p2.getD v13.toNat default).A.Y)&&(decide ((p1.getD v13.toNat default).B.X=(p2.getD v13.toNat default).B.X)&&(decide ((p1.getD v13.toNat default).B.Y=(p2.getD v13.toNat default).B.Y)&&(decide ((p1.getD v13.toNat default).C.X=(p2.getD v13.toNat default).C.X)&&(decide ((p1.getD v13.toNat default).C.Y=(p2.getD v13.toNat default).C.Y)&&true)))))))))],[]⟩ .nil (.cons au0 (.cons au0 .nil))<|AG ?_
  refine AV (!(decide ((p1.getD v13.toNat default).Kind=(p2.getD v13.toNat default).Kind)&&(decide ((p1.getD v13.toNat default).A.X=(p2.getD v13.toNat default).A.X)&&(decide ((p1.getD v13.toNat default).A.Y=(p2.getD v13.toNat default).A.Y)&&(decide ((p1.getD v13.toNat default).B.X=(p2.getD v13.toNat default).B.X)&&(decide ((p1.getD v13.toNat default).B.Y=(p2.getD v13.toNat default).B.Y)&&(decide ((p1.getD v13.toNat default).C.X=(p2.getD v13.toNat default).C.X)&&(decide ((p1.getD v13.toNat default).C.Y=(p2.getD v13.toNat default).C.Y)&&true)))))))) kr (fun h3 => ?_) (fun h3 => ?_)
  ·refine AB<|rn ⟨[(4,tB false)],[]⟩ ?_
   refine AW<|Bo ?_
   refine A7<|A7 ?_
   refine Bo<|A7 ?_
   exact xl (tO (.b false)) (Aa (by rw [<- hF0];first | (simp only [Fz,h2,h3,cond_true,cond_false] <;> rfl)))
  refine AY<|BN<|AG ?_
  refine rg ⟨[(KA p1),(J8 p2),(Nu p1),(13,tI (W64 (v13+1)))],[]⟩ ?_
  (try rw [(show W64 (v13+1)=v13+1 from Af oM au5)])
  refine AG ?_
  refine ⟨(n0,v13+1),⟨?_,?_,(by rw [<- hF0];simp only [Fz,h2,h3,cond_true,cond_false])⟩,Nat.lt_succ_self _,Ay kr⟩
  ·show ((p1.length:Int)-(v13+1)).toNat<n0;omega
  exact ⟨ax0,ax0⟩
 refine BF<|A3 ?_
 refine A3<|BG ?_
 refine AG<|AB ?_
 refine rn ⟨[(4,tB true)],[]⟩<|AW ?_
 exact xl (tO (.b true)) (Aa (by rw [<- hF0];first | (simp only [Fz,h2,cond_true,cond_false] <;> rfl)))
theorem jN (p1:(List AF)) (p2:(List AF)) (h0:(p1.length:Int)<=1000000):OKc (PW p1 p2):=cPu<|pF p1 p2 h0
def Of (a:AP) (b:AP):Bool:=bif bif decide ((a.Kind:Int)=b.Kind) then decide ((a.R:Int)=b.R) else false then Hs a.Edges b.Edges else false
def OW:CT:=(31,[.agg (AP.c a),.agg (AP.c b)],.val [] (.av (.one (.b (Of a b)))))
abbrev KL:List (Nat×Blk):=[(2,.cells (AP.c a) 28),(3,.cells (AP.c b) 28)]
abbrev XK:=(bif decide ((a.Kind:Int)=b.Kind) then decide ((a.R:Int)=b.R) else false)
theorem au13 {p:Prop} (h:p:=by first | (exact Xj hb _) | (exact Xs hb _) | (exact hb.parts) | (exact hb.tracks) | (exact hb.vias) | (exact hb.slots) | (exact hb.nets) | (exact hb.pins) | (exact IW hb.parts ht) | with_reducible assumption | omega | decide | (simp only [List.length_cons,List.length_nil,List.length_append];omega) | assumption):p:=h
theorem uX (a:AP) (b:AP) (h0:(a.Edges.length:Int)<=1000000) (h1:(b.Edges.length:Int)<=1000000):PuP 31 (OW a b).2.1 (tO (.b (Of a b))):=by
 refine pwf Tryz.func31 fun W0 M0 => ?_
 refine AB<|rn ⟨Ga,(KL a b)⟩<|AB ?_
 refine rc [(22,PW a.Edges b.Edges)] (t5 (decide ((a.Kind:Int)=b.Kind)) (t4 (XK a b) [gk (XK a b) (Ap (PW a.Edges b.Edges).2.1),gt (XK a b)])) ⟨[(4,tB (bif bif decide ((a.Kind:Int)=b.Kind) then decide ((a.R:Int)=b.R) else false then Hs a.Edges b.Edges else false))],[]⟩ (.cons (jN a.Edges b.Edges au13) .nil) (c5 (c4 (.cons (fun _=>rfl) (ci .nil))))<|AG<|AW ?_
 exact xl (tO (.b (bif bif decide ((a.Kind:Int)=b.Kind) then decide ((a.R:Int)=b.R) else false then Hs a.Edges b.Edges else false))) (Aa (by rfl))
theorem Zg (a:AP) (b:AP) (h0:(a.Edges.length:Int)<=1000000) (h1:(b.Edges.length:Int)<=1000000):OKc (OW a b):=cPu<|uX a b h0 h1
theorem or3_f {p q r:Prop} [Decidable p] [Decidable q] [Decidable r] (h:(bif bif !decide p then true else !decide q then true else !decide r)=false):p/\q/\r:=by
 by_cases hp:p <;> by_cases hq:q <;> by_cases hr:r <;> simp_all
def G2 (a:AP) (b:AP):Nat->Int->Bool
 | 0,_=>default
 | n0+1,k=>bif decide ((k:Int)<(a.Edges.length:Int)) then (bif !(decide ((a.Edges.getD k.toNat default).Kind=(b.Edges.getD k.toNat default).Kind)&&(decide ((a.Edges.getD k.toNat default).A.X=(b.Edges.getD k.toNat default).A.X)&&(decide ((a.Edges.getD k.toNat default).A.Y=(b.Edges.getD k.toNat default).A.Y)&&(decide ((a.Edges.getD k.toNat default).B.X=(b.Edges.getD k.toNat default).B.X)&&(decide ((a.Edges.getD k.toNat default).B.Y=(b.Edges.getD k.toNat default).B.Y)&&(decide ((a.Edges.getD k.toNat default).C.X=(b.Edges.getD k.toNat default).C.X)&&(decide ((a.Edges.getD k.toNat default).C.Y=(b.Edges.getD k.toNat default).C.Y)&&true))))))) then false else ((G2 a b n0) (k+1))) else true
def MY (a:AP) (b:AP):Bool:=bif bif bif !decide ((a.Kind:Int)=b.Kind) then true else !decide ((a.R:Int)=b.R) then true else !decide (((a.Edges.length:Int):Int)=(b.Edges.length:Int)) then false else (G2 a b (((a.Edges.length:Int)-0).toNat+1) 0)
def Ul:CT:=(59,[.agg (AP.c a),.agg (AP.c b)],.val [] (.av (.one (.b (MY a b)))))
abbrev eV:=(bif !decide ((a.Kind:Int)=b.Kind) then true else !decide ((a.R:Int)=b.R))
theorem uY (a:AP) (b:AP) (h0:(a.Edges.length:Int)<=1000000) (h1:(b.Edges.length:Int)<=1000000):PuP 59 (Ul a b).2.1 (tO (.b (MY a b))):=by
 refine pwf Tryz.func59 fun W0 M0 => ?_
 refine AB<|rn ⟨Ga,(KL a b)⟩ ?_
 refine AB<|AB ?_
 refine rc [] (i5 (!decide ((a.Kind:Int)=b.Kind)) (i2 (eV a b) (i5 (eV a b) []))) ⟨[(2,tP 2 0),(3,tP 3 0),(26,tB (bif bif !decide ((a.Kind:Int)=b.Kind) then true else !decide ((a.R:Int)=b.R) then true else !decide (((a.Edges.length:Int):Int)=(b.Edges.length:Int))))],(KL a b)⟩ .nil (c5 (c2 (c5 .nil)))<|AG ?_
 refine AV _ rfl (fun h1 => ?_) (fun h1 => ?_)
 ·refine AB<|rn ⟨[(4,tB false)],[]⟩ ?_
  refine AW<|A7 ?_
  exact xl (tO (.b false)) (Aa (by simp only [MY,h1,cond_true,cond_false] <;> rfl))
 refine AY<|AG ?_
 refine AB<|AB ?_
 refine rn ⟨[(2,tP 2 0),(3,tP 3 0),(5,tI 0)],(KL a b)⟩<|AR ?_
 refine BB (ι:=Nat×Int) (fun x=>⟨[(2,tP 2 0),(3,tP 3 0),(5,tI x.2)],(KL a b)⟩) (fun x=>((a.Edges.length:Int)-x.2).toNat<x.1/\(0<=x.2/\(x.2<=(a.Edges.length:Int)\/x.2=0))/\G2 a b x.1 x.2=MY a b) (fun x=>x.1) ?_ (((a.Edges.length:Int)-0).toNat+1,0) ⟨Nat.lt_succ_self _,⟨ax0,ax0⟩,(by simp only [MY,h1,cond_true,cond_false])⟩
 rintro ⟨n0,k⟩ ⟨hm0,hinv0,hF0⟩
 try dsimp only at hm0 hinv0 hF0
 cases n0 with | zero=>exact nz hm0 | succ n0 => ?_
 have hE:=(or3_f h1).2.2
 refine AB<|AB ?_
 refine rn ⟨[(2,tP 2 0),(3,tP 3 0),(5,tI k),(31,tB (decide ((k:Int)<(a.Edges.length:Int))))],(KL a b)⟩ ?_
 refine AV _ rfl (fun h2 => ?_) (fun h2 => ?_)
 ·have g2:=oT h2
  refine AY<|AG ?_
  refine AB<|AR<|AB ?_
  refine dw [] [] [0<=(k:Int)/\(k:Int)<((a.Edges.length:Nat):Int),0<=(k:Int)/\(k:Int)<((b.Edges.length:Nat):Int)] ⟨[(2,tP 2 0),(3,tP 3 0),(5,tI k),(44,tB (!(decide ((a.Edges.getD k.toNat default).Kind=(b.Edges.getD k.toNat default).Kind)&&(decide ((a.Edges.getD k.toNat default).A.X=(b.Edges.getD k.toNat default).A.X)&&(decide ((a.Edges.getD k.toNat default).A.Y=(b.Edges.getD k.toNat default).A.Y)&&(decide ((a.Edges.getD k.toNat default).B.X=(b.Edges.getD k.toNat default).B.X)&&(decide ((a.Edges.getD k.toNat default).B.Y=(b.Edges.getD k.toNat default).B.Y)&&(decide ((a.Edges.getD k.toNat default).C.X=(b.Edges.getD k.toNat default).C.X)&&(decide ((a.Edges.getD k.toNat default).C.Y=(b.Edges.getD k.toNat default).C.Y)&&true)))))))))],(KL a b)⟩ .nil (.cons au0 (.cons au0 .nil))<|AG ?_
  refine AV (!(decide ((a.Edges.getD k.toNat default).Kind=(b.Edges.getD k.toNat default).Kind)&&(decide ((a.Edges.getD k.toNat default).A.X=(b.Edges.getD k.toNat default).A.X)&&(decide ((a.Edges.getD k.toNat default).A.Y=(b.Edges.getD k.toNat default).A.Y)&&(decide ((a.Edges.getD k.toNat default).B.X=(b.Edges.getD k.toNat default).B.X)&&(decide ((a.Edges.getD k.toNat default).B.Y=(b.Edges.getD k.toNat default).B.Y)&&(decide ((a.Edges.getD k.toNat default).C.X=(b.Edges.getD k.toNat default).C.X)&&(decide ((a.Edges.getD k.toNat default).C.Y=(b.Edges.getD k.toNat default).C.Y)&&true)))))))) kr (fun h3 => ?_) (fun h3 => ?_)
  ·refine AB<|rn ⟨[(4,tB false)],[]⟩ ?_
   refine AW<|Bo ?_
   refine A7<|A7 ?_
   refine Bo<|A7 ?_
   exact xl (tO (.b false)) (Aa (by rw [<- hF0];first | (simp only [G2,h2,h3,cond_true,cond_false] <;> rfl)))
  refine AY<|BN<|AG ?_
  refine rg ⟨[(2,tP 2 0),(3,tP 3 0),(5,tI (W64 (k+1)))],(KL a b)⟩ ?_
  (try rw [(show W64 (k+1)=k+1 from Af oM au5)])
  refine AG ?_
  refine ⟨(n0,k+1),⟨?_,?_,(by rw [<- hF0];simp only [G2,h2,h3,cond_true,cond_false])⟩,Nat.lt_succ_self _,Ay kr⟩
  ·show ((a.Edges.length:Int)-(k+1)).toNat<n0;omega
  exact ⟨ax0,ax0⟩
 refine BF<|A3 ?_
 refine A3<|BG ?_
 refine AG<|AB ?_
 refine rn ⟨[(4,tB true)],[]⟩<|AW ?_
 exact xl (tO (.b true)) (Aa (by rw [<- hF0];first | (simp only [G2,h2,cond_true,cond_false] <;> rfl)))
theorem qD (a:AP) (b:AP) (h0:(a.Edges.length:Int)<=1000000) (h1:(b.Edges.length:Int)<=1000000):OKc (Ul a b):=cPu<|uY a b h0 h1
end
abbrev BE (b:AH) (t_:List Cl):List Cl:=(.i b.Layers)::(.i b.Outline.Kind)::(lst 7 AF.c b.Outline.Edges)::(.i b.Outline.R)::(lst 7 AE.c b.Parts)::(lst 2 Bf.c b.Nets)::t_
abbrev CY (b:AH) (t_:List Cl):List Cl:=(lst 6 Ab.c b.Tracks)::(lst 8 A4.c b.Vias)::(lst 8 Be.c b.Pours)::(lst 5 C8.c b.Keeps)::(lst 4 Ar.c b.Slots)::t_
abbrev Dj (b:AH):List Cl:=(BE b (CY b [lst 2 Cj.c b.Classes,.any,lst 3 CQ.c b.Waivers,lst 3 Dz.c b.Matches]))
theorem OE (b:AH):∀ y∈Dj b,NM y:=by
 intro y hy
 simp only [Dj,List.mem_cons,List.not_mem_nil,or_false] at hy
 rcases hy with rfl | rfl | rfl | rfl | rfl | rfl | rfl | rfl | rfl | rfl | rfl | rfl | rfl | rfl | rfl <;> first | exact .val _ | exact .any | exact B5 Es | exact B5 Fk | exact B5 UM | exact B5 cM | exact B5 qT | exact B5 kD | exact B5 kE | exact B5 kB | exact B5 cP | exact B5 YN | exact B5 cO
def CL (types:List AQ) (p:AE):List (AE×A1):=(BQ types p.Type').1.Pads.map fun q=>(p,q)
def Ai (b:AH) (types:List AQ):List (AE×A1):=(CI b.Parts).flatMap (CL types)
def IV (b:AH) (types:List AQ) (k:Nat):Nat:=(((CI b.Parts).take k).flatMap (CL types)).length
theorem HN (types:List AQ) (p:AE):(CL types p).length=(BQ types p.Type').1.Pads.length:=List.length_map _
theorem cC (b:AH) (types:List AQ):IV b types (CI b.Parts).length=(Ai b types).length:=by unfold IV Ai;rw [List.take_length]
theorem YA (b:AH) (types:List AQ) {k:Nat} (h:k<(CI b.Parts).length):IV b types (k+1)=IV b types k+(BQ types ((CI b.Parts).getD k default).Type').1.Pads.length:=by
 unfold IV
 rw [(ET _ k h).1,List.flatMap_append,List.length_append,List.flatMap_singleton,HN]
theorem iY (b:AH) (types:List AQ) {k j:Nat} (h:k<(CI b.Parts).length) (hj:j<(BQ types ((CI b.Parts).getD k default).Type').1.Pads.length) :
  IV b types k+j<(Ai b types).length/\(Ai b types).getD (IV b types k+j) default=((CI b.Parts).getD k default,(BQ types ((CI b.Parts).getD k default).Type').1.Pads.getD j default):=by
 have e:Ai b types=((CI b.Parts).take k).flatMap (CL types)++(CL types ((CI b.Parts).getD k default)++((CI b.Parts).drop (k+1)).flatMap (CL types)):=by
  unfold Ai
  rw [<- List.flatMap_cons,<- (ET _ k h).2,<- List.flatMap_append,List.take_append_drop]
 have hl:=HN types ((CI b.Parts).getD k default)
 rw [e]
 unfold IV
 constructor
 ·rw [List.length_append,List.length_append,hl];omega
 rw [List.getD_eq_getElem?_getD,List.getElem?_append_right oM,Nat.add_sub_cancel_left,List.getElem?_append_left (by rw [hl];exact hj)]
 unfold CL
 rw [List.getElem?_map,List.getElem?_eq_getElem hj,List.getD_eq_getElem?_getD (l:=(BQ types _).1.Pads),List.getElem?_eq_getElem hj]
 rfl
abbrev ES (types:List AQ):Nat×Tv:=(2,.av (.one (.eptr 1 1 (gD [lst 3 AQ.c types]) 0 0)))
abbrev FZ (b:AH):Nat×Tv:=(17,tI ((CI b.Parts).length:Int))
abbrev FY (b:AH):Nat×Tv:=(16,tO (lst 7 AE.c (CI b.Parts)))
theorem pK (b:AH) (types:List AQ) (hb:b.Parts.length<20) (ht:CP types):Js Tryz.prog 147 2 (Aw [.eptr 15 1 (gD (Dj b)) 0 0,.eptr 1 1 (gD [lst 3 AQ.c types]) 0 0]) (Ai b types).length (fun x=>[.agg (AE.c ((Ai b types).getD x.val default).1),.agg (A1.c ((Ai b types).getD x.val default).2)]):=by
 refine V7 Tryz.func147 rfl rfl kr (fun i hi => ?_) ?_
 ·match i,hi with
  | 0,_=>rfl
  | 1,_=>rfl
 intro Ow n0 ly JJ hO hJg hY
 have hd:∀ (x:List (Nat×Tv)),(∀ p∈x,p.2.dv=true)->∀ i u,get x i=some u->u.dv=true:=fun x h=>BO (p:=fun u=>Tv.dv u=true) h
 refine kW hO (BO (p:=fun u=>Tv.dv u=true) (by simp [Dw,B4,Tv.dv,Av.dv,Cl.dv,List.range,List.range.loop,Aw])) rfl fun W0 X1 M1 hX => ?_
 have hp1:(b.Parts.length:Int)<=1000000:=by omega
 refine rs 13 (aO b.Parts) ⟨[(0,.av (.one (.val (.func (.yield ly) #[] #[])))),(ES types),(4,tO (.own 13 7 b.Parts.length))],[(13,.row 7 b.Parts.length (AO AE.c b.Parts) 78)]⟩ (jO b.Parts au4)<|AG ?_
 refine rb 15 (149,([.one (.own 1000 7 b.Parts.length),.one (.clo 150 0 dfc)]:List Av).map (IP 1000 13),wrI 13 (.row 7 b.Parts.length (AO AE.c b.Parts) 78) (.tup []) (.row 7 b.Parts.length (AO AE.c (CI b.Parts)) 78)) (.row 7 b.Parts.length (AO AE.c b.Parts) 78) ⟨[(0,.av (.one (.val (.func (.yield ly) #[] #[])))),(ES types),(4,tO (.own 13 7 b.Parts.length))],[(13,.row 7 b.Parts.length (AO AE.c (CI b.Parts)) 78)]⟩ (Fu (fun _ _=>kr) kr (pSrtP b.Parts au4)) ?_
 refine ⟨rfl,⟨[(0,.av (.one (.val (.func (.yield ly) #[] #[])))),(ES types),(4,tO (lst 7 AE.c (CI b.Parts)))],[]⟩,fun W2 M2=>Cv.trans (BM (⟨[(0,.av (.one (.val (.func (.yield ly) #[] #[])))),(ES types),(4,tO (.own 13 7 (CI b.Parts).length))],[(13,.row 7 (CI b.Parts).length (AO AE.c (CI b.Parts)) 78)]⟩) (.cons ⟨rfl,.refl _⟩ (.cons ⟨rfl,.refl _⟩ (.cons ⟨rfl,.av (.one (.own _ _ (K8 b.Parts au4).symm))⟩ .nil))) (.cons ⟨rfl,Am 78 (⟨(K8 b.Parts au4).symm,fun _ _ _ _=>.refl _⟩)⟩ .nil)) (Cv.trans (wf (⟨[(0,.av (.one (.val (.func (.yield ly) #[] #[])))),(ES types),(4,tO (lst 7 AE.c (CI b.Parts)))],[]⟩) 13 7 (CI b.Parts).length (AO AE.c (CI b.Parts)) 78 hk0 (.cons ⟨rfl,rfl⟩ .nil)) (Cv.refl _)),?_⟩
 have hps:=K8 b.Parts hb
 refine Ca ?_
 refine Ce hO (hd _ (by simp only [List.forall_mem_cons];exact ⟨rfl,rfl,rfl,fun x hx=>by cases hx⟩)) rfl fun W0 X1 M1 => ?_
 refine rg ⟨[(0,.av (.one (.val (.func (.yield ly) #[] #[])))),(ES types),(FY b),(FZ b),(18,tI 0)],[]⟩ ?_
 refine CW ?_
 refine Et ?_
 refine M5 (ι:=Nat) (fun k=>⟨[(0,.av (.one (.val (.func (.yield ly) #[] #[])))),(ES types),(FY b),(FZ b),(18,tI (k:Int))],[]⟩) (fun k=>JJ (IV b types k)) (fun k=>k<=(CI b.Parts).length) (fun k=>(CI b.Parts).length-k) (fun k hk => ?_) 0 (Nat.zero_le _)
 refine Ca ?_
 refine Ce hO (hd _ (by simp only [List.forall_mem_cons];exact ⟨rfl,rfl,rfl,rfl,rfl,fun x hx=>by cases hx⟩)) rfl fun W0 X1 M1 => ?_
 refine rg ⟨[(0,.av (.one (.val (.func (.yield ly) #[] #[])))),(ES types),(FY b),(FZ b),(18,tI (k:Int)),(19,tB (decide (((k:Int):Int)<((CI b.Parts).length:Int))))],[]⟩ ?_
 refine CW ?_
 refine Ca ?_
 refine EM (decide (((k:Int):Int)<((CI b.Parts).length:Int))) kr (fun hc => ?_) (fun hc => ?_)
 ·have hlt:k<(CI b.Parts).length:=by have:=oT hc;omega
  refine FN ?_
  refine CW ?_
  refine Ca ?_
  refine Et ?_
  refine Ca ?_
  refine Qv [0,2,16,17,18] ⟨[(0,.av (.one (.val (.func (.yield ly) #[] #[])))),(ES types),(FY b),(FZ b),(18,tI (k:Int))],[]⟩ kr ?_
  refine Ce hO (hd _ (by simp only [List.forall_mem_cons];exact ⟨rfl,rfl,rfl,rfl,rfl,fun x hx=>by cases hx⟩)) rfl fun W0 X1 M1 => ?_
  refine rc [] [0<=((k:Int):Int)/\((k:Int):Int)<(((CI b.Parts).length:Nat):Int)] ⟨[(0,.av (.one (.val (.func (.yield ly) #[] #[])))),(ES types),(6,tP 6 0),(FY b),(FZ b),(18,tI (k:Int))],[(6,.cells (AE.c ((CI b.Parts).getD (k:Int).toNat default)) 78)]⟩ .nil (.cons au0 .nil) ?_
  refine CW ?_
  refine aA (S:=⟨[(0,.av (.one (.val (.func (.yield ly) #[] #[])))),(ES types),(6,.av (.one (.eptr 7 1 (gD (AE.c ((CI b.Parts).getD (k:Int).toNat default))) 0 0))),(FY b),(FZ b),(18,tI (k:Int))],[]⟩) hO (fun W0 M1=>Gc _ 6 (AE.c ((CI b.Parts).getD (k:Int).toNat default)) 78 hk0 kr kr kr kr) ?_
  have hns:=YA b types hlt
  have hat:=fun j hj=>iY b types (j:=j) hlt hj
  rw [Int.toNat_natCast]
  generalize hp:(CI b.Parts).getD k default=p at *
  refine Ca ?_
  have hgl:=LA types p.Type'
  have hpl:((BQ types p.Type').1.Pads.length:Int)<=1000000:=by rw [hgl];exact JP ht _
  refine Ce hO (hd _ (by simp only [List.forall_mem_cons];exact ⟨rfl,rfl,rfl,rfl,rfl,rfl,fun x hx=>by cases hx⟩)) rfl fun W0 X1 M1 => ?_
  refine rs 26 (dQ types p.Type') ⟨[(0,.av (.one (.val (.func (.yield ly) #[] #[])))),(ES types),(6,.av (.one (.eptr 7 1 (gD (AE.c p)) 0 0))),(7,tP 7 0),(FY b),(FZ b),(18,tI (k:Int))],[(7,.cells (AQ.c (BQ types p.Type').1) 82)]⟩ (jT types p.Type' au4) ?_
  refine CW ?_
  refine aA (S:=⟨[(0,.av (.one (.val (.func (.yield ly) #[] #[])))),(ES types),(6,.av (.one (.eptr 7 1 (gD (AE.c p)) 0 0))),(7,.av (.one (.eptr 3 1 (gD (AQ.c (BQ types p.Type').1)) 0 0))),(FY b),(FZ b),(18,tI (k:Int))],[]⟩) hO (fun W0 M1=>Gc _ 7 (AQ.c (BQ types p.Type').1) 82 hk0 kr kr kr kr) ?_
  refine Ca ?_
  refine Ce hO (hd _ (by simp only [List.forall_mem_cons];exact ⟨rfl,rfl,rfl,rfl,rfl,rfl,rfl,fun x hx=>by cases hx⟩)) rfl fun W0 X1 M1 => ?_
  refine rg ⟨[(0,.av (.one (.val (.func (.yield ly) #[] #[])))),(ES types),(6,.av (.one (.eptr 7 1 (gD (AE.c p)) 0 0))),(FY b),(FZ b),(18,tI (k:Int)),(30,tO (lst 7 A1.c (BQ types p.Type').1.Pads)),(31,tI ((BQ types p.Type').1.Pads.length:Int)),(32,tI 0)],[]⟩ ?_
  refine CW ?_
  refine Et ?_
  refine M5 (ι:=Nat) (fun j=>⟨[(0,.av (.one (.val (.func (.yield ly) #[] #[])))),(ES types),(6,.av (.one (.eptr 7 1 (gD (AE.c p)) 0 0))),(FY b),(FZ b),(18,tI (k:Int)),(30,tO (lst 7 A1.c (BQ types p.Type').1.Pads)),(31,tI ((BQ types p.Type').1.Pads.length:Int)),(32,tI (j:Int))],[]⟩) (fun j=>JJ (IV b types k+j)) (fun j=>j<=(BQ types p.Type').1.Pads.length) (fun j=>(BQ types p.Type').1.Pads.length-j) (fun j hj => ?_) 0 (Nat.zero_le _)
  refine Ca ?_
  refine Ce hO (hd _ (by simp only [List.forall_mem_cons];exact ⟨rfl,rfl,rfl,rfl,rfl,rfl,rfl,rfl,rfl,fun x hx=>by cases hx⟩)) rfl fun W0 X1 M1 => ?_
  refine rg ⟨[(0,.av (.one (.val (.func (.yield ly) #[] #[])))),(ES types),(6,.av (.one (.eptr 7 1 (gD (AE.c p)) 0 0))),(FY b),(FZ b),(18,tI (k:Int)),(30,tO (lst 7 A1.c (BQ types p.Type').1.Pads)),(31,tI ((BQ types p.Type').1.Pads.length:Int)),(32,tI (j:Int)),(33,tB (decide (((j:Int):Int)<((BQ types p.Type').1.Pads.length:Int))))],[]⟩ ?_
  refine CW ?_
  refine Ca ?_
  refine EM (decide (((j:Int):Int)<((BQ types p.Type').1.Pads.length:Int))) kr (fun hc2 => ?_) (fun hc2 => ?_)
  ·have hlt2:j<(BQ types p.Type').1.Pads.length:=by have:=oT hc2;omega
   obtain ⟨hat1,hat2⟩:=hat j hlt2
   refine FN ?_
   refine CW ?_
   refine Ca ?_
   refine Et ?_
   refine Ca ?_
   refine Qv [0,2,6,16,17,18,30,31,32] ⟨[(0,.av (.one (.val (.func (.yield ly) #[] #[])))),(ES types),(6,.av (.one (.eptr 7 1 (gD (AE.c p)) 0 0))),(FY b),(FZ b),(18,tI (k:Int)),(30,tO (lst 7 A1.c (BQ types p.Type').1.Pads)),(31,tI ((BQ types p.Type').1.Pads.length:Int)),(32,tI (j:Int))],[]⟩ kr ?_
   refine Ce hO (hd _ (by simp only [List.forall_mem_cons];exact ⟨rfl,rfl,rfl,rfl,rfl,rfl,rfl,rfl,rfl,fun x hx=>by cases hx⟩)) rfl fun W0 X1 M1 => ?_
   refine rc [] [0<=((j:Int):Int)/\((j:Int):Int)<(((BQ types p.Type').1.Pads.length:Nat):Int)] ⟨[(0,.av (.one (.val (.func (.yield ly) #[] #[])))),(ES types),(6,.av (.one (.eptr 7 1 (gD (AE.c p)) 0 0))),(10,tP 10 0),(FY b),(FZ b),(18,tI (k:Int)),(30,tO (lst 7 A1.c (BQ types p.Type').1.Pads)),(31,tI ((BQ types p.Type').1.Pads.length:Int)),(32,tI (j:Int))],[(10,.cells (A1.c ((BQ types p.Type').1.Pads.getD (j:Int).toNat default)) 102)]⟩ .nil (.cons au0 .nil) ?_
   refine CW ?_
   refine aA (S:=⟨[(0,.av (.one (.val (.func (.yield ly) #[] #[])))),(ES types),(6,.av (.one (.eptr 7 1 (gD (AE.c p)) 0 0))),(10,.av (.one (.eptr 7 1 (gD (A1.c ((BQ types p.Type').1.Pads.getD (j:Int).toNat default))) 0 0))),(FY b),(FZ b),(18,tI (k:Int)),(30,tO (lst 7 A1.c (BQ types p.Type').1.Pads)),(31,tI ((BQ types p.Type').1.Pads.length:Int)),(32,tI (j:Int))],[]⟩) hO (fun W0 M1=>Gc _ 10 (A1.c ((BQ types p.Type').1.Pads.getD (j:Int).toNat default)) 102 hk0 kr kr kr kr) ?_
   rw [Int.toNat_natCast]
   generalize hq:(BQ types p.Type').1.Pads.getD j default=q at *
   refine Ca ?_
   refine L8 ?_
   refine Hi hO C2 3 [0,2,6,10,16,17,18,30,31,32,36,37,38] [] [(0,.av (.one (.val (.func (.yield ly) #[] #[])))),(2,.av (.one (.eptr 1 1 (gD [lst 3 AQ.c types]) 0 0))),(6,.av (.one (.eptr 7 1 (gD (AE.c p)) 0 0))),(10,.av (.one (.eptr 7 1 (gD (A1.c q)) 0 0))),(16,tO (lst 7 AE.c (CI b.Parts))),(17,tI ((CI b.Parts).length:Int)),(18,tI (k:Int)),(30,tO (lst 7 A1.c (BQ types p.Type').1.Pads)),(31,tI ((BQ types p.Type').1.Pads.length:Int)),(32,tI (j:Int)),(36,.av (.one (.val (.func (.yield ly) #[] #[])))),(37,.av (.agg (AE.c p))),(38,.av (.agg (A1.c q)))] kr .nil (hd _ (by simp only [List.forall_mem_cons];exact ⟨rfl,rfl,rfl,rfl,rfl,rfl,rfl,rfl,rfl,rfl,fun x hx=>by cases hx⟩)) rfl ?_
   refine YU (ly:=ly) (d:=39) hO rfl [.agg (AE.c p),.agg (A1.c q)] rfl rfl kr kr kr ?hvm rfl kr ?hT1 (fun A B=>hJg _ A B) (JJ (IV b types k+j+1)) ?hY rfl ?ht
   case hvm =>
    intro x hx
    simp only [List.mem_cons,List.not_mem_nil,or_false] at hx
    rcases hx with rfl | rfl
    ·exact Fk _
    exact Kl _
   case hT1=>exact BO (p:=fun u=>Tv.dv u=true/\TvM u) (by
    simp only [List.forall_mem_cons]
    exact ⟨⟨rfl,A8 (.val _)⟩,⟨rfl,A8 (Dg (by simp only [List.forall_mem_cons];exact ⟨(B5 Qk),fun x hx=>by cases hx⟩))⟩,⟨rfl,A8 (Dg (Fk _))⟩,⟨rfl,A8 (Dg (Kl _))⟩,⟨rfl,A8 (B5 Fk)⟩,⟨rfl,A8 (.val _)⟩,⟨rfl,A8 (.val _)⟩,⟨rfl,A8 (B5 Kl)⟩,⟨rfl,A8 (.val _)⟩,⟨rfl,A8 (.val _)⟩,⟨rfl,A8 (.val _)⟩,⟨rfl,(Fk _)⟩,⟨rfl,(Kl _)⟩,fun x hx=>by cases hx⟩)
   case hY =>
    intro W v hW hv
    refine hY _ hat1 W v hW ?_
    show sS (fun _=>none) Ow [.agg (AE.c ((Ai b types).getD (IV b types k+j) default).1),.agg (A1.c ((Ai b types).getD (IV b types k+j) default).2)] v W
    rw [hat2]
    exact hv
   case ht =>
    refine KT [0,2,6,16,17,18,30,31,32,39] ⟨[(0,.av (.one (.val (.func (.yield ly) #[] #[])))),(ES types),(6,.av (.one (.eptr 7 1 (gD (AE.c p)) 0 0))),(FY b),(FZ b),(18,tI (k:Int)),(30,tO (lst 7 A1.c (BQ types p.Type').1.Pads)),(31,tI ((BQ types p.Type').1.Pads.length:Int)),(32,tI (j:Int)),(39,tB true)],[]⟩ kr ?_
    refine Hi hO C2 1 [0,2,6,16,17,18,30,31,32,40] [] [(0,.av (.one (.val (.func (.yield ly) #[] #[])))),(2,.av (.one (.eptr 1 1 (gD [lst 3 AQ.c types]) 0 0))),(6,.av (.one (.eptr 7 1 (gD (AE.c p)) 0 0))),(16,tO (lst 7 AE.c (CI b.Parts))),(17,tI ((CI b.Parts).length:Int)),(18,tI (k:Int)),(30,tO (lst 7 A1.c (BQ types p.Type').1.Pads)),(31,tI ((BQ types p.Type').1.Pads.length:Int)),(32,tI (j:Int)),(40,tB false)] kr .nil (hd _ (by simp only [List.forall_mem_cons];exact ⟨rfl,rfl,rfl,rfl,rfl,rfl,rfl,rfl,rfl,rfl,fun x hx=>by cases hx⟩)) rfl ?_
    refine Mz ?_
    refine CW ?_
    refine EM false kr (fun h=>by cases h) (fun _ => ?_)
    refine FN ?_
    refine SO ?_
    refine CW ?_
    refine Ce hO (hd _ (by simp only [List.forall_mem_cons];exact ⟨rfl,rfl,rfl,rfl,rfl,rfl,rfl,rfl,rfl,rfl,fun x hx=>by cases hx⟩)) rfl fun W0 X1 M1 => ?_
    refine rg ⟨[(0,.av (.one (.val (.func (.yield ly) #[] #[])))),(ES types),(6,.av (.one (.eptr 7 1 (gD (AE.c p)) 0 0))),(FY b),(FZ b),(18,tI (k:Int)),(30,tO (lst 7 A1.c (BQ types p.Type').1.Pads)),(31,tI ((BQ types p.Type').1.Pads.length:Int)),(32,tI (W64 ((j:Int)+1)))],[]⟩ ?_
    refine CW ?_
    refine ⟨j+1,by omega,by omega,?_,by rw [Nat.add_assoc],rfl⟩
    rw [Af oM oM]
    rfl
  have hjl:j=(BQ types p.Type').1.Pads.length:=by have:=oF hc2;omega
  refine M6 ?_
  refine LN ?_
  refine LN ?_
  refine M8 ?_
  refine SO ?_
  refine CW ?_
  refine Qv [0,2,16,17,18] ⟨[(0,.av (.one (.val (.func (.yield ly) #[] #[])))),(ES types),(FY b),(FZ b),(18,tI (k:Int))],[]⟩ kr ?_
  refine Ce hO (hd _ (by simp only [List.forall_mem_cons];exact ⟨rfl,rfl,rfl,rfl,rfl,fun x hx=>by cases hx⟩)) rfl fun W0 X1 M1 => ?_
  refine rg ⟨[(0,.av (.one (.val (.func (.yield ly) #[] #[])))),(ES types),(FY b),(FZ b),(18,tI (W64 ((k:Int)+1)))],[]⟩ ?_
  refine CW ?_
  refine ⟨k+1,by omega,by omega,?_,by rw [hjl,hns],rfl⟩
  rw [Af oM oM]
  rfl
 have hkl:k=(CI b.Parts).length:=by have:=oF hc;omega
 refine M6 ?_
 refine LN ?_
 refine LN ?_
 refine M8 ?_
 exact ⟨.inr rfl,by rw [hkl,cC]⟩
section
open Go.RowKit
section
variable (len:Nat) (g:Nat→Nat→Value)
abbrev Ur:Cl:=mS false 2 len (fun i j=>.val (g i j))
theorem qS:NM (Ur len g):=Dg fun y hy=>by rw [List.mem_singleton.1 hy];exact .list _ _ _ _ fun i j=>.val _
abbrev ylB (ly:Nat):Tv:=.av (.one (.val (.func (.yield ly) #[] #[])))
abbrev tB1 (c:Cl):Tv:=.av (.one c)
abbrev avB (k:Nat):Av:=.agg [.val (g k 0),.val (g k 1)]
theorem mW (hl:(len:Int)<=1000000) (h1:∀ i j,i<len->j<2->(g i j).oneCell'=true):Js Tryz.prog 146 1 (Aw [Ur len g]) len (fun x=>[.one (.i ((len:Int)-1-(x.val:Int))),avB g (len-1-x.val)]):=by
 refine SM Tryz.func146 rfl rfl (fun x=>rfl) (fun x e he c hc => ?_) kr (fun i hi => ?_) ?_
 ·simp only [List.mem_cons,List.not_mem_nil,or_false] at he
  rcases he with rfl | rfl
  ·rw [List.mem_singleton.1 hc];rfl
  simp only [Av.cells,List.mem_cons,List.not_mem_nil,or_false] at hc
  have:=x.isLt
  rcases hc with rfl | rfl <;> exact h1 _ _ (by omega) (by decide)
 ·match i,hi with
  | 0,_=>rfl
 intro Ow n0 ly JJ Jx hO hJg hY
 have hd:∀ (x:List (Nat×Tv)),(∀ p∈x,p.2.dv=true)->∀ i u,get x i=some u->u.dv=true:=fun x h=>BO (p:=fun u=>Tv.dv u=true) h
 refine Ca ?_
 refine Ce hO (BO (p:=fun u=>Tv.dv u=true) (by simp [Dw,B4,Tv.dv,Av.dv,Cl.dv,List.range,List.range.loop,Aw])) rfl fun W0 X1 M1 => ?_
 refine rg ⟨[(0,ylB ly),(1,tB1 (Ur len g)),(3,tI (W64 ((len:Int)-1)))],[]⟩ ?_
 refine CW ?_
 refine Et ?_
 rw [show W64 ((len:Int)-1)=(len:Int)-1-((0:Nat):Int) by rw [Af (by omega) (by omega)];omega]
 refine M5 (ι:=Nat) (fun k=>⟨[(0,ylB ly),(1,tB1 (Ur len g)),(3,tI ((len:Int)-1-(k:Int)))],[]⟩) (fun k=>JJ k) (fun k=>k<=len) (fun k=>len-k) (fun k hk => ?_) 0 (Nat.zero_le _)
 refine Ca ?_
 refine Ca ?_
 refine Ce hO (hd _ (by simp only [List.forall_mem_cons];exact ⟨rfl,rfl,rfl,fun x hx=>by cases hx⟩)) rfl fun W0 X1 M1 => ?_
 refine rg ⟨[(0,ylB ly),(1,tB1 (Ur len g)),(3,tI ((len:Int)-1-(k:Int))),(8,tB (decide ((0:Int)<=((len:Int)-1-(k:Int)))))],[]⟩ ?_
 refine CW ?_
 refine EM (decide ((0:Int)<=((len:Int)-1-(k:Int)))) kr (fun hc => ?_) (fun hc => ?_)
 ·have hlt:k<len:=by have:=oT hc;omega
  obtain ⟨m,hm⟩:∃ m:Nat,(len:Int)-1-(k:Int)=(m:Int):=⟨len-1-k,by omega⟩
  have hm2:m=len-1-k:=by omega
  refine FN ?_
  refine CW ?_
  refine Ca ?_
  refine Et ?_
  refine Ca ?_
  refine L8 ?_
  rw [hm]
  refine Hi hO C2 6 [0,1,3,11,12,16] [0<=(m:Int)/\(m:Int)<((len:Nat):Int)] [(0,ylB ly),(1,tB1 (Ur len g)),(3,tI (m:Int)),(11,ylB ly),(12,tI (m:Int)),(16,.av (avB g (m:Int).toNat))] kr (.cons ⟨by omega,by omega⟩ .nil) (hd _ (by simp only [List.forall_mem_cons];exact ⟨rfl,rfl,rfl,rfl,fun x hx=>by cases hx⟩)) rfl ?_
  rw [Int.toNat_natCast]
  refine YV (ly:=ly) (d:=17) hO rfl [.one (.i (m:Int)),avB g m] rfl rfl kr kr rfl rfl kr ?hT1 (fun A B=>hJg _ A B) (JJ (k+1)) (Jx (k+1)) ?hY [] ?htf rfl ?ht ?hf
  case hT1=>exact BO (p:=fun u=>Tv.dv u=true/\TvM u) (by
   simp only [List.forall_mem_cons]
   exact ⟨⟨rfl,A8 (.val _)⟩,⟨rfl,A8 (qS len g)⟩,⟨rfl,A8 (.val _)⟩,⟨rfl,A8 (.val _)⟩,⟨rfl,A8 (.val _)⟩,⟨rfl,fun c hc=>by
    simp only [Av.cells,List.mem_cons,List.not_mem_nil,or_false] at hc
    rcases hc with rfl | rfl <;> exact .val _⟩,fun x hx=>by cases hx⟩)
  case hY =>
   intro W hW
   have:=hY k hlt W hW
   simp only [hm,<- hm2] at this
   exact this
  case htf=>exact fun i v hv=>by cases hv
  case ht =>
   refine KT [0,1,3,17] ⟨[(0,ylB ly),(1,tB1 (Ur len g)),(3,tI (m:Int)),(17,tB true)],[]⟩ kr ?_
   refine Hi hO C2 1 [0,1,3,18] [] [(0,ylB ly),(1,tB1 (Ur len g)),(3,tI (m:Int)),(18,tB false)] kr .nil (hd _ (by simp only [List.forall_mem_cons];exact ⟨rfl,rfl,rfl,rfl,fun x hx=>by cases hx⟩)) rfl ?_
   refine Mz ?_
   refine CW ?_
   refine EM false kr (fun h=>by cases h) (fun _ => ?_)
   refine FN ?_
   refine SO ?_
   refine CW ?_
   refine Ce hO (hd _ (by simp only [List.forall_mem_cons];exact ⟨rfl,rfl,rfl,rfl,fun x hx=>by cases hx⟩)) rfl fun W0 X1 M1 => ?_
   refine rg ⟨[(0,ylB ly),(1,tB1 (Ur len g)),(3,tI (W64 ((m:Int)-1)))],[]⟩ ?_
   refine CW ?_
   refine ⟨k+1,by omega,by omega,?_,rfl,rfl⟩
   rw [Af (by omega) (by omega),show (m:Int)-1=(len:Int)-1-((k+1:Nat):Int) by omega]
  case hf =>
   refine KT [17] ⟨[(17,tB false)],[]⟩ kr ?_
   refine Hi hO C2 1 [18] [] [(18,tB true)] kr .nil (hd _ (by simp only [List.forall_mem_cons];exact ⟨rfl,fun x hx=>by cases hx⟩)) rfl ?_
   refine Mz ?_
   refine CW ?_
   refine EM true kr (fun _ => ?_) (fun h=>by cases h)
   refine YW ?_
   exact ⟨.inl rfl,.inr ⟨_,hlt,rfl⟩⟩
 have hkl:k=len:=by have:=oF hc;omega
 refine M6 ?_
 refine LN ?_
 refine LN ?_
 refine M8 ?_
 exact ⟨.inr rfl,.inl (by rw [hkl])⟩
end
theorem sF (l:List Bf) (hl:(l.length:Int)<=1000000):Js Tryz.prog 146 1 (Aw [.eptr 1 1 (fun _ j=>([lst 2 Bf.c l]:List Cl).getD j default) 0 0]) l.length (fun x=>[.one (.i ((l.length:Int)-1-(x.val:Int))),.agg (Bf.c (l.getD (l.length-1-x.val) default))]):=by
 refine YX (t:=false) (sz:=2) (len:=l.length) (f:=fun i j=>(Bf.c (l.getD i default)).getD j default) (fun g x=>[.one (.i ((l.length:Int)-1-(x.val:Int))),avB g (l.length-1-x.val)]) rfl (by decide) (fun g h1 => ?_) (fun g x=>rfl) (fun M g x vs h2 hL => ?_)
 ·refine YY (fun i hi => ?_) (mW l.length g hl h1)
  match i,hi with
  | 0,_=>rfl
 cases hL with
 | cons a1 a2 =>
  cases a2 with
  | cons a3 a4 =>
   refine .cons a1 (.cons (fun σ => ?_) a4)
   obtain ⟨us,hu,hus⟩:=a3 σ
   refine ⟨us,hu,?_⟩
   have hx:l.length-1-x.val<l.length:=by have:=x.isLt;omega
   cases hus with
   | cons b1 b2 =>
    cases b2 with
    | cons b3 b4 =>
     cases b4
     have e1:=b1.1
     have e2:=b3.1
     subst e1 e2
     exact .cons ((Jw rfl).2 (h2 _ 0 hx (by decide))) (.cons ((Jw rfl).2 (h2 _ 1 hx (by decide))) .nil)
end
section
open Go.RowKit
theorem cA  (l:(List Bf)):E5 Tryz.prog 104 [.one (lst 2 Bf.c l)] (.av (.one (.clo 146 1 (Aw [.eptr 1 1 (gD [lst 2 Bf.c l]) 0 0])))):=by
 refine pwf Tryz.func104 fun W0 M0 => ?_
 refine AB<|rn ⟨[(1,tP 1 0)],[(1,.cells [lst 2 Bf.c l] 30)]⟩<|AB ?_
 refine rn ⟨[(2,tO (.clo 146 1 (Aw [.ptr 1 0])))],[(1,.cells [lst 2 Bf.c l] 30)]⟩<|AW ?_
 exact yl (Cv.trans (Gc (⟨[(2,.av (.one (.clo 146 1 (Aw [.eptr 1 1 (gD [lst 2 Bf.c l]) 0 0]))))],[]⟩) 1 [lst 2 Bf.c l] 30 hk0 kr kr kr kr) (Cv.refl _)) (.av (.one (.clo 146 1 (Aw [.eptr 1 1 (gD [lst 2 Bf.c l]) 0 0])))) (Aa rfl)
variable (s:AP) (b:AH) (s_1:List AF) (v13:Int) (m:Ae) (p:AE) (types:List AQ) (x0:AE)
def cpads:CT:=(105,[.agg (Dj b),.one (Gl types)],.val [] (.av (.one (.clo 147 2 (Aw [.eptr 15 1 (fun _ j_=>((Dj b):List Cl).getD j_ default) 0 0,.eptr 1 1 (fun _ j_=>([lst 3 AQ.c types]:List Cl).getD j_ default) 0 0])))))
abbrev KH:Av:=.one (.clo 147 2 (Aw [.eptr 15 1 (gD (Dj b)) 0 0,.eptr 1 1 (gD [lst 3 AQ.c types]) 0 0]))
abbrev J7:Nat×Blk:=(2,.cells (Dj b) 41)
theorem ppads (b:AH) (types:(List AQ)):PuP 105 (cpads b types).2.1 (.av (.one (.clo 147 2 (Aw [.eptr 15 1 (gD (Dj b)) 0 0,.eptr 1 1 (gD [lst 3 AQ.c types]) 0 0])))):=by
 refine pwf Tryz.func105 fun W0 M0 => ?_
 refine AB<|rn ⟨Ga,[(J7 b),(3,.cells [lst 3 AQ.c types] 43)]⟩<|AB ?_
 refine rn ⟨[(4,tO (.clo 147 2 (Aw [.ptr 2 0,.ptr 3 0])))],[(J7 b),(3,.cells [lst 3 AQ.c types] 43)]⟩<|AW ?_
 exact yl (Cv.trans (Gc (⟨[(4,.av (.one (.clo 147 2 (Aw [.eptr 15 1 (gD (Dj b)) 0 0,.ptr 3 0]))))],[(3,.cells [lst 3 AQ.c types] 43)]⟩) 2 (Dj b) 41 hk0 kr kr kr kr) (Cv.trans (Gc (⟨[(4,.av (KH b types))],[]⟩) 3 [lst 3 AQ.c types] 43 hk0 kr kr kr kr) (Cv.refl _))) (.av (KH b types)) (Aa rfl)
def F4 (s:AP) (m:Ae):Nat->List AF->Int->AP
 | 0,_,_=>default
 | n0+1,s_1,v13=>bif decide ((v13:Int)<((s.Edges.length:Nat):Int)) then ((F4 s m n0) (s_1.set v13.toNat (EC (s_1.getD v13.toNat default) m)) (v13+1)) else (AP.mk s.Kind s_1 s.R)
def D1 (s:AP) (m:Ae):AP:=F4 s m ((((s.Edges.length:Nat):Int)-0).toNat+1) s.Edges 0
def Un:CT:=(106,[.agg (AP.c s),.agg (Ae.c m)],.val [] (.av (.agg (AP.c (D1 s m)))))
abbrev JC:Nat×Blk:=(4,.cells [.i 0,vN,.i 0] 28)
abbrev LX:Nat×Blk:=(3,.cells (Ae.c m) 74)
abbrev XU:List (Nat×Blk):=[(2,.cells [.i s.Kind,.own 8 7 s.Edges.length,.i s.R] 28),(LX m),JC,(8,.row 7 s.Edges.length (AO AF.c s.Edges) 68)]
abbrev gC:List (Nat×Blk):=[(2,.cells [.i s.Kind,.own 8 7 (s_1.set v13.toNat (EC (s_1.getD v13.toNat default) m)).length,.i s.R] 28),(LX m),JC,(8,.row 7 (s_1.set v13.toNat (EC (s_1.getD v13.toNat default) m)).length (AO AF.c (s_1.set v13.toNat (EC (s_1.getD v13.toNat default) m))) 68)]
abbrev Ll:Nat×Tv:=(12,tI ((s.Edges.length:Nat):Int))
abbrev TG:List Cl:=[.i s.Kind,.own 8 7 s_1.length,.i s.R]
theorem vD (s:AP) (m:Ae) (h0:(s.Edges.length:Int)<=1000000):PuP 106 (Un s m).2.1 (.av (.agg (AP.c (D1 s m)))):=by
 refine pwf Tryz.func106 fun W0 M0 => ?_
 refine AB<|rn ⟨Lo,[(2,.cells (AP.c s) 28),(LX m),JC]⟩<|AB ?_
 refine rs 8 (ND s.Edges) ⟨Lo,(XU s m)⟩ (Ms s.Edges au4)<|AG ?_
 refine BS (Cv.trans (BM (⟨Lo,(XU s m)⟩) lr (.cons ⟨rfl,.cells _ (rr (.cons (.own _ _ au2) (rr .nil)))⟩ (.cons ⟨rfl,.refl _⟩ (.cons ⟨rfl,.refl _⟩ (.cons ⟨rfl,Am 68 (BI 7 AF.c s.Edges)⟩ .nil))))) (Cv.refl _))<|AB<|AB ?_
 refine rn ⟨(DC [(Ll s),(13,tI 0)]),(XU s m)⟩<|AR ?_
 refine BB (ι:=Nat×List AF×Int) (fun x=>⟨(DC [(Ll s),(13,tI x.2.2)]),[(2,.cells [.i s.Kind,.own 8 7 x.2.1.length,.i s.R] 28),(LX m),JC,(8,.row 7 x.2.1.length (AO AF.c x.2.1) 68)]⟩) (fun x=>(((s.Edges.length:Nat):Int)-x.2.2).toNat<x.1/\(x.2.1.length=s.Edges.length/\0<=x.2.2/\(x.2.2<=((s.Edges.length:Nat):Int)\/x.2.2=0))/\F4 s m x.1 x.2.1 x.2.2=D1 s m) (fun x=>x.1) ?_ ((((s.Edges.length:Nat):Int)-0).toNat+1,s.Edges,0) ⟨Nat.lt_succ_self _,⟨ax0,ax0,ax0⟩,(by simp only [D1,cond_true,cond_false])⟩
 rintro ⟨n0,s_1,v13⟩ ⟨hm0,hinv0,hF0⟩
 try dsimp only at hm0 hinv0 hF0
 cases n0 with | zero=>exact nz hm0 | succ n0 => ?_
 refine AB<|rn ⟨(DC [(Ll s),(13,tI v13),(14,tB (decide ((v13:Int)<((s.Edges.length:Nat):Int))))]),[(2,.cells (TG s s_1) 28),(LX m),JC,(8,.row 7 s_1.length (AO AF.c s_1) 68)]⟩<|AB ?_
 refine AV _ rfl (fun h1 => ?_) (fun h1 => ?_)
 ·have g1:=oT h1
  refine AY<|AG ?_
  refine AB<|AR<|AB ?_
  refine rn ⟨(DC [(5,tI v13),(Ll s),(13,tI v13)]),[(2,.cells (TG s s_1) 28),(LX m),JC,(8,.row 7 s_1.length (AO AF.c s_1) 68)]⟩ ?_
  refine dw [] [(25,aQ (s_1.getD v13.toNat default) m)] [0<=(v13:Int)/\(v13:Int)<((s_1.length:Nat):Int),v13.toNat<s_1.length,Ap (aQ (s_1.getD v13.toNat default) m).2.1,0<=(v13:Int)/\(v13:Int)<((s_1.length:Nat):Int),v13.toNat<s_1.length] ⟨(DC [(Ll s),(13,tI v13)]),[(2,.cells (TG s s_1) 28),(LX m),JC,(8,.row 7 s_1.length (fun i_ j_=>if i_=v13.toNat/\0<=j_/\j_<0+7 then ((AF.c (EC (s_1.getD v13.toNat default) m)):List Cl).getD (j_-0) default else (AO AF.c s_1) i_ j_) 68)]⟩ (.cons (vY (s_1.getD v13.toNat default) m) .nil) (.cons au0 (.cons au0 (.cons rfl (.cons au0 (.cons au0 .nil)))))<|BN<|AG ?_
  refine BS (Cv.trans (BM (⟨(DC [(Ll s),(13,tI v13)]),(gC s s_1 v13 m)⟩) lr (.cons ⟨rfl,.cells _ (rr (.cons (.own _ _ au2) (rr .nil)))⟩ (.cons ⟨rfl,.refl _⟩ (.cons ⟨rfl,.refl _⟩ (.cons ⟨rfl,Am 68 (KM (l:=(AF.c (EC (s_1.getD v13.toNat default) m))) (off:=0) (q:=7) (k:=v13.toNat) (BI 7 AF.c s_1) au0 (EC (s_1.getD v13.toNat default) m) (F7 kr))⟩ .nil))))) (Cv.refl _)) ?_
  refine rg ⟨(DC [(Ll s),(13,tI (W64 (v13+1)))]),(gC s s_1 v13 m)⟩ ?_
  (try rw [(show W64 (v13+1)=v13+1 from Af oM au5)])
  refine AG ?_
  refine ⟨(n0,s_1.set v13.toNat (EC (s_1.getD v13.toNat default) m),v13+1),⟨?_,?_,(by rw [<- hF0];simp only [F4,h1,cond_true,cond_false])⟩,Nat.lt_succ_self _,Ay kr⟩
  ·show (((s.Edges.length:Nat):Int)-(v13+1)).toNat<n0;omega
  exact ⟨ax0,ax0,ax0⟩
 refine BF<|A3 ?_
 refine A3<|BG ?_
 refine AG<|AB ?_
 refine rn ⟨[(4,tP 4 0)],[(4,.cells (TG s s_1) 28),(8,.row 7 s_1.length (AO AF.c s_1) 68)]⟩<|AW ?_
 exact yl (Cv.trans (vf 8 7 s_1.length (AO AF.c s_1) 68 hk0 (.cons ⟨rfl,rfl⟩ .nil)) (Cv.refl _)) (.av (.agg [.i s.Kind,lst 7 AF.c s_1,.i s.R])) (Aa (by rw [<- hF0];first | (simp only [F4,h1,cond_true,cond_false] <;> rfl)))
theorem qG (s:AP) (m:Ae) (h0:(s.Edges.length:Int)<=1000000):OKc (Un s m):=cPu<|vD s m h0
def Bj (p:Ag):Value:=.agg #[.string p.Ref,.string p.Pad]
def Bc (a b:Ag):Bool:=eqS a.Ref b.Ref&&eqS a.Pad b.Pad
theorem Sc (a b:Ag):Bc a b=true↔Bj a=Bj b:=by
 unfold Bc Bj
 rw [Bool.and_eq_true,Yj,Yj]
 simp
theorem WR (k:Ag):FS Tryz.prog eqE 106 (Bj k):=.inr ⟨_,_,_,rfl,rfl,by kernel_rfl,rfl,rfl⟩
theorem cD {b:AH} {types:List AQ} (ht:CP types) (k:Nat):(((Ai b types).getD k default).2.Shape.Edges.length:Int)<=1000000:=by
 refine Gq (p:=fun x:AE×A1=>(x.2.Shape.Edges.length:Int)<=1000000) (by decide) (fun x hx => ?_) k
 unfold Ai at hx
 obtain ⟨p,_,hp⟩:=List.mem_flatMap.1 hx
 unfold CL at hp
 obtain ⟨q,hq,rfl⟩:=List.mem_map.1 hp
 rw [LA] at hq
 unfold Yc at hq
 cases hf:types.find? (fun t=>HV t p.Type') with
 | none=>rw [hf] at hq;cases hq
 | some t=>rw [hf] at hq;exact (ht.2 t (List.mem_of_find?_eq_some hf)).2.2.1 q hq
theorem IW {b:AH} {types:List AQ} (hp:b.Parts.length<20) (ht:CP types):((Ai b types).length:Int)<=20000000:=by
 have key:∀ l:List AE,((l.flatMap (CL types)).length:Int)<=1000000*(l.length:Int):=by
  intro l
  induction l with
  | nil=>simp
  | cons p l ih =>
   rw [List.flatMap_cons,List.length_append,HN,LA,List.length_cons]
   have:=JP ht p.Type'
   omega
 have h1:=key (CI b.Parts)
 have h2:=K8 b.Parts hp
 unfold Ai
 omega
def Bz (x0:AE):Ae:=Ae.mk x0.At x0.Turn x0.Under
def Ho:CT:=(63,[.agg (AE.c x0)],.val [] (.av (.agg (Ae.c (Bz x0)))))
abbrev TS:List Cl:=[.i x0.At.X,.i x0.At.Y,.i x0.Turn,.b x0.Under]
theorem pN (x0:AE):PuP 63 (Ho x0).2.1 (.av (.agg (Ae.c (Bz x0)))):=by
 refine pwf Tryz.func63 fun W0 M0 => ?_
 refine AB<|rn ⟨Fg,[(1,.cells (AE.c x0) 78),(2,.cells [.i 0,.i 0,.i 0,.b false] 74)]⟩<|AB ?_
 refine rn ⟨[(2,tP 2 0)],[(2,.cells (TS x0) 74)]⟩<|AW ?_
 exact xl (.av (.agg (TS x0))) (Aa (by rfl))
theorem Qh (x0:AE):OKc (Ho x0):=cPu<|pN x0
def DM (b:AH) (p:AE):Int:=bif p.Under then b.Layers else 1
def O2:CT:=(86,[.agg (Dj b),.agg (AE.c p)],.val [] (.av (.one (.i (DM b p)))))
theorem pside (b:AH) (p:AE):PuP 86 (O2 b p).2.1 (tO (.i (DM b p))):=by
 refine pwf Tryz.func86 fun W0 M0 => ?_
 refine AB<|rn ⟨Ga,[(J7 b),(3,.cells (AE.c p) 78)]⟩ ?_
 refine AB<|AB ?_
 refine rn ⟨[(2,tP 2 0),(6,tB p.Under)],[(J7 b)]⟩ ?_
 refine AV p.Under kr (fun h1 => ?_) (fun h1 => ?_)
 ·refine AB<|rn ⟨[(4,tI b.Layers)],[]⟩ ?_
  refine AW<|A7 ?_
  exact xl (tO (.i b.Layers)) (Aa (by simp only [DM,h1,cond_true,cond_false] <;> rfl))
 refine AY<|AG<|AB ?_
 refine rn ⟨[(4,tI 1)],[]⟩<|AW ?_
 exact xl (tO (.i 1)) (Aa (by simp only [DM,h1,cond_true,cond_false] <;> rfl))
theorem YH (b:AH) (p:AE):OKc (O2 b p):=cPu<|pside b p
end
section
open Go.RowKit
variable (b:AH) (types:List AQ) (x2_:Nat) (AK:List (Ag×ByteArray)) (An:List Ad) (x0_:Nat)
def Z0r:CT:=(104,[.one (lst 2 Bf.c b.Nets)],.val [] (.av (.one (.clo 146 1 (Aw [.eptr 1 1 (fun _ j_=>([lst 2 Bf.c b.Nets]:List Cl).getD j_ default) 0 0])))))
def Z0s:CT:=(105,[.agg (Dj b),.one (Gl types)],.val [] (.av (.one (.clo 147 2 (Aw [.eptr 15 1 (fun _ j_=>((Dj b):List Cl).getD j_ default) 0 0,.eptr 1 1 (fun _ j_=>([lst 3 AQ.c types]:List Cl).getD j_ default) 0 0])))))
def HX (b:AH) (types:(List AQ)) (AK:List (Ag×ByteArray)) (x0:Nat) (K0:List (Ag×ByteArray)->(List Ad)):Nat->List (Ag×ByteArray)->Int->(List Ad)
 | 0,_,_=>default
 | n1+1,A0,v23=>bif decide ((v23:Int)<((b.Nets.getD (b.Nets.length-1-x0) default).Pins.length:Int)) then ((HX b types AK x0 K0 n1) (JL Bc A0 ((b.Nets.getD (b.Nets.length-1-x0) default).Pins.getD v23.toNat default) (b.Nets.getD (b.Nets.length-1-x0) default).Name) (v23+1)) else (K0 A0)
def De (b:AH) (types:(List AQ)) (AK:List (Ag×ByteArray)) (K0:List (Ag×ByteArray)->(List Ad)):Nat->Nat->List Ad->(List Ad)
 | 0,_,An=>An
 | m+1,x,An=>(De b types AK K0 m (x+1)) (An++[Ad.mk ((Ai b types).getD x default).1.Id ((Ai b types).getD x default).2.Name 1 (bif El Bc AK (Ag.mk ((Ai b types).getD x default).1.Ref ((Ai b types).getD x default).2.Name) then (AK.getD (DY Bc AK (Ag.mk ((Ai b types).getD x default).1.Ref ((Ai b types).getD x default).2.Name)) default).2 else ⟨#[]⟩) (bif decide ((((Ai b types).getD x default).2.Drill:Int)=0) then (DM b ((Ai b types).getD x default).1) else 1) (bif decide ((((Ai b types).getD x default).2.Drill:Int)=0) then (DM b ((Ai b types).getD x default).1) else b.Layers) (D1 ((Ai b types).getD x default).2.Shape (Bz ((Ai b types).getD x default).1))])
def C3 (b:AH) (types:(List AQ)):Nat->Nat->List (Ag×ByteArray)->(List Ad)
 | 0,_,AK=>De b types AK (fun _=>default) (Ai b types).length 0 ([]:List Ad)
 | m+1,x,AK=>HX b types AK x (C3 b types m (x+1)) ((((b.Nets.getD (b.Nets.length-1-x) default).Pins.length:Int)-0).toNat+1) AK 0
def Df (b:AH) (types:(List AQ)):(List Ad):=C3 b types b.Nets.length 0 ([]:List (Ag×ByteArray))
abbrev Tf:=Ag.mk ((Ai b types).getD x2_ default).1.Ref ((Ai b types).getD x2_ default).2.Name
abbrev bC:=[Ad.mk ((Ai b types).getD x2_ default).1.Id ((Ai b types).getD x2_ default).2.Name 1 (bif El Bc AK (Tf b types x2_) then (AK.getD (DY Bc AK (Tf b types x2_)) default).2 else ⟨#[]⟩) (bif decide ((((Ai b types).getD x2_ default).2.Drill:Int)=0) then (DM b ((Ai b types).getD x2_ default).1) else 1) (bif decide ((((Ai b types).getD x2_ default).2.Drill:Int)=0) then (DM b ((Ai b types).getD x2_ default).1) else b.Layers) (D1 ((Ai b types).getD x2_ default).2.Shape (Bz ((Ai b types).getD x2_ default).1))]
abbrev nX (AK:List (Ag×ByteArray)) (b:AH) (types:List AQ) (x2_:Nat):=bif El Bc AK (Tf b types x2_) then (AK.getD (DY Bc AK (Tf b types x2_)) default).2 else ⟨#[]⟩
abbrev Rw:=Ag.mk ((Ai b types).getD x2_ default).1.Ref ((Ai b types).getD x2_ default).2.Name
abbrev D4:=b.Nets.getD (b.Nets.length-1-x0_) default
abbrev Ep:Nat×Tv:=(1,tO (Gl types))
abbrev Dp:Nat×Blk:=(200005,.cells [.om 200014] 211)
abbrev zzc48:=(bif decide ((((Ai b types).getD x2_ default).2.Drill:Int)=0) then (DM b ((Ai b types).getD x2_ default).1) else b.Layers)
abbrev Pi:Nat×Tv:=(17,.av (.one (.clo 146 1 (Aw [.eptr 1 1 (gD [lst 2 Bf.c b.Nets]) 0 0]))))
abbrev eM:=D1 ((Ai b types).getD x2_ default).2.Shape (Bz ((Ai b types).getD x2_ default).1)
abbrev zzc56:=(bif decide ((((Ai b types).getD x2_ default).2.Drill:Int)=0) then (DM b ((Ai b types).getD x2_ default).1) else 1)
abbrev Do:Nat×Blk:=(200002,.cells (Dj b) 41)
abbrev Jy:Nat×Blk:=(100000,.row 9 An.length (AO Ad.c An) 61)
abbrev Tr:Nat×Tv:=(11,.av (.one (.eptr 7 1 (gD (AE.c ((Ai b types).getD x2_ default).1)) 0 0)))
abbrev H1:Nat×Blk:=(200010,.cells [.own 100000 9 An.length] 50)
abbrev J3 (t_:List (Nat×Tv)):List (Nat×Tv):=(2,tP 200002 0)::(5,tP 200005 0)::(10,tP 200010 0)::t_
abbrev Tp:List (Nat×Tv):=(J3 [(Tr b types x2_),(12,.av (.one (.eptr 7 1 (gD (A1.c ((Ai b types).getD x2_ default).2)) 0 0))),(13,tP 13 0),(34,.av (KH b types))])
abbrev XZ:Nat×Tv:=(7,.av (.one (.eptr 2 1 (gD (Bf.c (D4 b x0_))) 0 0)))
abbrev gI:Nat×Tv:=(12,.av (.one (.eptr 7 1 (gD (A1.c ((Ai b types).getD x2_ default).2)) 0 0)))
abbrev QG:List (Nat×Tv):=(J3 [(34,.av (KH b types))])
abbrev fT:List Cl:=[.i ((Ai b types).getD x2_ default).1.Id,.s ((Ai b types).getD x2_ default).2.Name,.i 1,.s (nX AK b types x2_),.i (zzc56 b types x2_),.i (zzc48 b types x2_),.i (eM b types x2_).Kind,lst 7 AF.c (eM b types x2_).Edges,.i (eM b types x2_).R]
abbrev fS:Nat×Tv:=(22,tI ((D4 b x0_).Pins.length:Int))
abbrev fP:Nat×Tv:=(21,tO (lst 2 Ag.c (D4 b x0_).Pins))
abbrev GU (t_:List (Nat×Tv)):List (Nat×Tv):=(Ep types)::(2,tP 200002 0)::(5,tP 200005 0)::t_
abbrev Pn (t_:List Cl):List Cl:=(.i ((Ai b types).getD x2_ default).1.Id)::(.s ((Ai b types).getD x2_ default).2.Name)::(.i 1)::t_
abbrev Ni (t_:List (Nat×Tv)):List (Nat×Tv):=(XZ b x0_)::(Pi b)::(fP b x0_)::(fS b x0_)::t_
abbrev Ip (t_:List (Nat×Tv)):List (Nat×Tv):=(Ep types)::(2,tP 2 0)::(5,tP 5 0)::t_
theorem qPads (b:AH) (types:(List AQ)) (hn:(b.Nets.length:Int)<=1000000) (hp:b.Parts.length<20) (ht:CP types) (hm:((Ai b types).length:Int)<=20000000) (hq:∀ n∈b.Nets,(n.Pins.length:Int)<=1000000):Fr Tryz.prog 51 [.agg (Dj b),.one (lst 3 AQ.c types)] (.row 9 (Df b types).length (AO Ad.c (Df b types)) 61) (fun d=>tO (.own d 9 (Df b types).length)):=by
 refine ED Tryz.func51 rfl kr (Er _ _) fun W0 M0 => ?_
 refine AB<|rn ⟨[(Ep types),(2,tP 2 0)],[(J7 b)]⟩<|AB ?_
 refine rn ⟨(Ip types []),[(J7 b),(5,.cells [.om 14] 211),(14,.omap false 1 0 (fun _=>undef) (fun _ _=>default))]⟩ ?_
 refine BS (Cv.trans (BM (⟨(Ip types []),[(J7 b),(5,.cells [.om 14] 211),(14,.omap false 1 ([]:List (Ag×ByteArray)).length (kfG Bj ([]:List (Ag×ByteArray))) (vfG (fun x=>[.s x]) ([]:List (Ag×ByteArray))))]⟩) lr (.cons ⟨rfl,.refl _⟩ (.cons ⟨rfl,.refl _⟩ (.cons ⟨rfl,mU (ck:=Bj) (cv:=(fun x=>[.s x]))⟩ .nil)))) (Cv.refl _))<|AB<|AB ?_
 refine rs 17 (Z0r b) ⟨(Ip types [(Pi b)]),[(J7 b),(5,.cells [.om 14] 211),(14,.omap false 1 ([]:List (Ag×ByteArray)).length (kfG Bj ([]:List (Ag×ByteArray))) (vfG (fun x=>[.s x]) ([]:List (Ag×ByteArray))))]⟩ (cPu<|cA b.Nets)<|AG<|AR ?_
 refine BS (Cv.trans (vr 2 200002 hk0) (Cv.trans (vr 5 200005 hk0) (Cv.trans (wr (⟨(GU types [(Pi b)]),[(Do b),Dp,(200014,.omap false 1 ([]:List (Ag×ByteArray)).length (kfG Bj ([]:List (Ag×ByteArray))) (vfG (fun x=>[.s x]) ([]:List (Ag×ByteArray))))]⟩) 14 200014 hk0) (Cv.refl _)))) ?_
 refine MN (ι:=List (Ag×ByteArray)) [200002,200005,200014] 299999 200002 9999 299998 (fun x=>[(200002,.cells (Dj b) 41),(200005,.cells [.om 200014] 211),(200014,.omap false 1 x.length (kfG Bj x) (vfG (fun x=>[.s x]) x))]) (fun x0=>[(1,tO (lst 3 AQ.c types)),(2,tP 200002 0),(5,tP 200005 0),(7,.av (.one (.eptr 2 1 (gD (Bf.c (b.Nets.getD (b.Nets.length-1-x0.val) default))) 0 0))),(17,.av (.one (.clo 146 1 (Aw [.eptr 1 1 (gD [lst 2 Bf.c b.Nets]) 0 0]))))]) (fun j x=>True) (fun y x=>C3 b types (b.Nets.length-y) y x=Df b types) ([]:List (Ag×ByteArray)) (fun _=>rfl) kr kr (fun _ _=>kr) (sF b.Nets oM) kr (fun _=>by kernel_rfl) (fun _=>rfl) (fun _=>rfl) (fun x=>(BO (p:=BkN) (by simp only [List.forall_mem_cons];exact ⟨Sn (OE _),Sn (by simp only [List.forall_mem_cons];exact ⟨(.om _),fun x hx=>by cases hx⟩),uB (fun x y hy=>by rw [List.mem_singleton.1 hy];exact (.val _)),fun x hx=>by cases hx⟩))) (fun x0=>(BO (p:=TvM) (by simp only [List.forall_mem_cons];exact ⟨A8 (B5 Qk),A8 (.ptr _ _),A8 (.ptr _ _),A8 (Dg (UM _)),A8 (UJ (by simp only [List.forall_mem_cons];exact ⟨(Dg (by simp only [List.forall_mem_cons];exact ⟨(B5 UM),fun x hx=>by cases hx⟩)),fun x hx=>by cases hx⟩)),fun x hx=>by cases hx⟩))) (fun _=>by kernel_rfl) ax0 (by simp only [Df,Nat.sub_zero,cond_true,cond_false]) (fun l1 W1 M1 X1 x0 j AK hinv hPX => ?_) (fun l2 W2 M2 X2 x0 j AK hPX hj hinv => ?_) (fun AK hinv hF0 => ?_)
 ·have hinv0:True:=hinv;clear hinv
  refine DH ?_
  refine rg ⟨(GU types [(7,tP 7 0),(Pi b)]),[(7,.cells (Bf.c (D4 b x0.val)) 120),(Do b),Dp,(200014,.omap false 1 AK.length (kfG Bj AK) (vfG (fun x=>[.s x]) AK))]⟩ ?_
  exact ⟨_,Cv.trans (RB (⟨(GU types [(XZ b x0.val),(Pi b)]),[(Do b),Dp,(200014,.omap false 1 AK.length (kfG Bj AK) (vfG (fun x=>[.s x]) AK))]⟩) 7 (Bf.c (b.Nets.getD (b.Nets.length-1-x0.val) default)) 120 [200002,200005,200014] 299998 hPX kr (fun h=>by obtain ⟨_,h⟩:=h;cases h) kr kr kr) (Cv.refl _),rfl,rfl⟩
 ·have hinv0:True:=hinv;clear hinv
  obtain ⟨Xb0,hXb0⟩:∃ Xb,C3 b types (b.Nets.length-x0.val) x0.val AK=Xb:=⟨_,rfl⟩
  have hF0:=hXb0
  rw [show b.Nets.length-x0.val=(b.Nets.length-(x0.val+1))+1 by have:=x0.isLt;omega] at hF0
  have hqx:=Gq (p:=fun n:Bf=>(n.Pins.length:Int)<=1000000) (by decide) hq (b.Nets.length-1-x0.val)
  refine DH<|AR<|AB ?_
  refine rn ⟨(GU types (Ni b x0.val [(23,tI 0)])),[(Do b),Dp,(200014,.omap false 1 AK.length (kfG Bj AK) (vfG (fun x=>[.s x]) AK))]⟩<|AR ?_
  refine BB (ι:=Nat×List (Ag×ByteArray)×Int) (fun x=>⟨(GU types (Ni b x0.val [(23,tI x.2.2)])),[(Do b),Dp,(200014,.omap false 1 x.2.1.length (kfG Bj x.2.1) (vfG (fun x=>[.s x]) x.2.1))]⟩) (fun x=>(((b.Nets.getD (b.Nets.length-1-x0.val) default).Pins.length:Int)-x.2.2).toNat<x.1/\(0<=x.2.2/\(x.2.2<=((b.Nets.getD (b.Nets.length-1-x0.val) default).Pins.length:Int)\/x.2.2=0))/\HX b types AK x0.val (C3 b types (b.Nets.length-(x0.val+1)) (x0.val+1)) x.1 x.2.1 x.2.2=Xb0) (fun x=>x.1) ?_ ((((b.Nets.getD (b.Nets.length-1-x0.val) default).Pins.length:Int)-0).toNat+1,AK,0) ⟨Nat.lt_succ_self _,⟨ax0,ax0⟩,(by rw [<- hF0];simp only [C3,cond_true,cond_false])⟩
  rintro ⟨n1,A0,v23⟩ ⟨hm1,hinv1,hF1⟩
  try dsimp only at hm1 hinv1 hF1
  cases n1 with | zero=>exact nz hm1 | succ n1 => ?_
  refine AB<|rn ⟨(GU types (Ni b x0.val [(23,tI v23),(24,tB (decide ((v23:Int)<((b.Nets.getD (b.Nets.length-1-x0.val) default).Pins.length:Int))))])),[(Do b),Dp,(200014,.omap false 1 A0.length (kfG Bj A0) (vfG (fun x=>[.s x]) A0))]⟩<|AB ?_
  refine AV _ rfl (fun h1 => ?_) (fun h1 => ?_)
  ·have g1:=oT h1
   refine AY<|AG ?_
   refine AB<|AR<|AB ?_
   refine rc [] [0<=(v23:Int)/\(v23:Int)<(((b.Nets.getD (b.Nets.length-1-x0.val) default).Pins.length:Nat):Int)] ⟨(GU types [(XZ b x0.val),(9,tP 9 0),(Pi b),(fP b x0.val),(fS b x0.val),(23,tI v23)]),[(9,.cells (Ag.c ((D4 b x0.val).Pins.getD v23.toNat default)) 106),(Do b),Dp,(200014,.omap false 1 A0.length (kfG Bj A0) (vfG (fun x=>[.s x]) A0))]⟩ .nil (.cons au0 .nil)<|AG ?_
   refine Cu C2 [] [(999999,((El Bc A0 ((D4 b x0.val).Pins.getD v23.toNat default)),(DY Bc A0 ((D4 b x0.val).Pins.getD v23.toNat default))))] [] [1,2,5,7,17,21,22,23] [200002,200005,200014] [We Tryz.prog eqE 106 A0.length (kfG Bj A0) (Bj ((b.Nets.getD (b.Nets.length-1-x0.val) default).Pins.getD v23.toNat default)) (El Bc A0 ((b.Nets.getD (b.Nets.length-1-x0.val) default).Pins.getD v23.toNat default)) (DY Bc A0 ((b.Nets.getD (b.Nets.length-1-x0.val) default).Pins.getD v23.toNat default))] ⟨(GU types (Ni b x0.val [(23,tI v23)])),[(Do b),Dp,(200014,.omap false 1 (bif El Bc A0 ((D4 b x0.val).Pins.getD v23.toNat default) then A0.length else A0.length+1) (fun j=>bif Nat.beq j (bif El Bc A0 ((D4 b x0.val).Pins.getD v23.toNat default) then DY Bc A0 ((D4 b x0.val).Pins.getD v23.toNat default) else A0.length) then Bj ((D4 b x0.val).Pins.getD v23.toNat default) else kfG Bj A0 j) (fun j c=>bif Nat.beq j (bif El Bc A0 ((D4 b x0.val).Pins.getD v23.toNat default) then DY Bc A0 ((D4 b x0.val).Pins.getD v23.toNat default) else A0.length) then ([.s (D4 b x0.val).Name]:List Cl).getD c default else vfG (fun x=>[.s x]) A0 j c))]⟩ .nil kr (.cons (V4 Sc WR _ _) .nil)<|BN<|AG ?_
   refine BS (Cv.trans (BM (⟨(GU types (Ni b x0.val [(23,tI v23)])),[(Do b),Dp,(200014,.omap false 1 (JL Bc A0 ((D4 b x0.val).Pins.getD v23.toNat default) (D4 b x0.val).Name).length (kfG Bj (JL Bc A0 ((D4 b x0.val).Pins.getD v23.toNat default) (D4 b x0.val).Name)) (vfG (fun x=>[.s x]) (JL Bc A0 ((D4 b x0.val).Pins.getD v23.toNat default) (D4 b x0.val).Name)))]⟩) lr (.cons ⟨rfl,.refl _⟩ (.cons ⟨rfl,.refl _⟩ (.cons ⟨rfl,mT (ck:=Bj) (cv:=(fun x=>[.s x])) (eq:=Bc) A0 ((b.Nets.getD (b.Nets.length-1-x0.val) default).Pins.getD v23.toNat default) (b.Nets.getD (b.Nets.length-1-x0.val) default).Name [.s (b.Nets.getD (b.Nets.length-1-x0.val) default).Name] rfl⟩ .nil)))) (Cv.refl _)) ?_
   refine rg ⟨(GU types (Ni b x0.val [(23,tI (W64 (v23+1)))])),[(Do b),Dp,(200014,.omap false 1 (JL Bc A0 ((D4 b x0.val).Pins.getD v23.toNat default) (D4 b x0.val).Name).length (kfG Bj (JL Bc A0 ((D4 b x0.val).Pins.getD v23.toNat default) (D4 b x0.val).Name)) (vfG (fun x=>[.s x]) (JL Bc A0 ((D4 b x0.val).Pins.getD v23.toNat default) (D4 b x0.val).Name)))]⟩ ?_
   (try rw [(show W64 (v23+1)=v23+1 from Af oM au5)])
   refine AG ?_
   refine ⟨(n1,JL Bc A0 ((b.Nets.getD (b.Nets.length-1-x0.val) default).Pins.getD v23.toNat default) (b.Nets.getD (b.Nets.length-1-x0.val) default).Name,v23+1),⟨?_,?_,(by rw [<- hF1];simp only [HX,h1,cond_true,cond_false])⟩,Nat.lt_succ_self _,Ay kr⟩
   ·show (((b.Nets.getD (b.Nets.length-1-x0.val) default).Pins.length:Int)-(v23+1)).toNat<n1;omega
   exact ⟨ax0,ax0⟩
  have g1:=oF h1
  refine BF<|A3 ?_
  refine A3<|BG<|BN ?_
  refine ⟨_,Cv.trans (ck (⟨(GU types [(Pi b)]),[(Do b),Dp,(200014,.omap false 1 A0.length (kfG Bj A0) (vfG (fun x=>[.s x]) A0))]⟩)) (Cv.refl _),rfl,A0,ax0,fun hk hF => ?_,fun _ _ h=>h⟩
  have e0:C3 b types (b.Nets.length-(x0.val+1)) (x0.val+1) A0=Xb0:=by
   rw [<- hF1]
   first | (simp only [HX,h1,cond_true,cond_false] <;> rfl)
  subst hk
  change C3 b types (b.Nets.length-x0.val) x0.val AK=Df b types at hF
  show C3 b types (b.Nets.length-(x0.val+1)) (x0.val+1) A0=Df b types
  exact e0.trans (hXb0.symm.trans hF)
 have hinv0:True:=hinv;clear hinv
 change C3 b types (b.Nets.length-b.Nets.length) b.Nets.length AK=Df b types at hF0
 rw [Nat.sub_self] at hF0
 refine BN<|AG<|AB ?_
 refine rn ⟨(GU types [(10,tP 10 0)]),[(10,.cells [vN] 50),(Do b),Dp,(200014,.omap false 1 AK.length (kfG Bj AK) (vfG (fun x=>[.s x]) AK))]⟩ ?_
 refine AB<|AB ?_
 refine rs 34 (Z0s b types) ⟨[(2,tP 200002 0),(5,tP 200005 0),(10,tP 10 0),(34,.av (KH b types))],[(10,.cells [vN] 50),(Do b),Dp,(200014,.omap false 1 AK.length (kfG Bj AK) (vfG (fun x=>[.s x]) AK))]⟩ (cPu<|ppads b types)<|AG<|AR ?_
 refine BS (Cv.trans (vr 10 200010 hk0) (Cv.trans (vk [2,5,10,34] [200002,200005,200010,200014]) (Cv.trans (wg (⟨(QG b types),[(100000,.row 9 0 (fun _ _=>default) 61),(Do b),Dp,(200010,.cells [.own 100000 9 0] 50),(200014,.omap false 1 AK.length (kfG Bj AK) (vfG (fun x=>[.s x]) AK))]⟩) 100000 9 (fun _ _=>default) 61 [] [(200010,[0])] hk0) (Cv.trans (BM (⟨(QG b types),[(100000,.row 9 ([]:List Ad).length (AO Ad.c ([]:List Ad)) 61),(Do b),Dp,(200010,.cells [.own 100000 9 ([]:List Ad).length] 50),(200014,.omap false 1 AK.length (kfG Bj AK) (vfG (fun x=>[.s x]) AK))]⟩) lr (.cons ⟨rfl,Am 61 (Cb 9 (fun _ _=>default) Ad.c)⟩ (.cons ⟨rfl,.refl _⟩ (.cons ⟨rfl,.refl _⟩ (.cons ⟨rfl,.cells _ (.cons (.own _ _ au2) .nil)⟩ lr))))) (Cv.refl _))))) ?_
 refine MN (ι:=List Ad) [200002,200005,200010,200014] 299999 200010 0 100000 (fun x=>[(100000,.row 9 x.length (AO Ad.c x) 61),(200002,.cells (Dj b) 41),(200005,.cells [.om 200014] 211),(200010,.cells [.own 100000 9 x.length] 50),(200014,.omap false 1 AK.length (kfG Bj AK) (vfG (fun x=>[.s x]) AK))]) (fun x2=>[(2,tP 200002 0),(5,tP 200005 0),(10,tP 200010 0),(11,.av (.one (.eptr 7 1 (gD (AE.c ((Ai b types).getD x2.val default).1)) 0 0))),(12,.av (.one (.eptr 7 1 (gD (A1.c ((Ai b types).getD x2.val default).2)) 0 0))),(34,.av (.one (.clo 147 2 (Aw [.eptr 15 1 (gD (Dj b)) 0 0,.eptr 1 1 (gD [lst 3 AQ.c types]) 0 0]))))]) (fun j x=>x.length<=j) (fun y x=>De b types AK (fun _=>default) ((Ai b types).length-y) y x=Df b types) ([]:List Ad) (fun _=>rfl) kr kr (fun _ _=>kr) (pK b types hp ht) kr (fun _=>by kernel_rfl) (fun _=>rfl) (fun _=>rfl) (fun x=>(BO (p:=BkN) (by simp only [List.forall_mem_cons];exact ⟨uA KP,Sn (OE _),Sn (by simp only [List.forall_mem_cons];exact ⟨(.om _),fun x hx=>by cases hx⟩),Sn (by simp only [List.forall_mem_cons];exact ⟨(.own _ _ _),fun x hx=>by cases hx⟩),uB (fun x y hy=>by rw [List.mem_singleton.1 hy];exact (.val _)),fun x hx=>by cases hx⟩))) (fun x2=>(BO (p:=TvM) (by simp only [List.forall_mem_cons];exact ⟨A8 (.ptr _ _),A8 (.ptr _ _),A8 (.ptr _ _),A8 (Dg (Fk _)),A8 (Dg (Kl _)),A8 (UJ (by simp only [List.forall_mem_cons];exact ⟨(Dg (OE _)),(Dg (by simp only [List.forall_mem_cons];exact ⟨(B5 Qk),fun x hx=>by cases hx⟩)),fun x hx=>by cases hx⟩)),fun x hx=>by cases hx⟩))) (fun _=>by kernel_rfl) ax0 (by rw [<- hF0];simp only [C3,Nat.sub_zero,cond_true,cond_false]) (fun l1 W1 M1 X1 x2 j An hinv hPX => ?_) (fun l2 W2 M2 X2 x2 j An hPX hj hinv => ?_) (fun An hinv hF2 => ?_)
 ·have hinv2:An.length<=j:=hinv;clear hinv
  refine DH<|AB ?_
  refine rn ⟨(J3 [(11,tP 11 0),(34,.av (KH b types)),(36,.av (.agg (A1.c ((Ai b types).getD x2.val default).2)))]),[(11,.cells (AE.c ((Ai b types).getD x2.val default).1) 78),(Jy An),(Do b),Dp,(H1 An),(200014,.omap false 1 AK.length (kfG Bj AK) (vfG (fun x=>[.s x]) AK))]⟩ ?_
  refine rg ⟨(J3 [(11,tP 11 0),(12,tP 12 0),(34,.av (KH b types))]),[(11,.cells (AE.c ((Ai b types).getD x2.val default).1) 78),(12,.cells (A1.c ((Ai b types).getD x2.val default).2) 102),(Jy An),(Do b),Dp,(H1 An),(200014,.omap false 1 AK.length (kfG Bj AK) (vfG (fun x=>[.s x]) AK))]⟩ ?_
  exact ⟨_,Cv.trans (RB (⟨(J3 [(Tr b types x2.val),(12,tP 12 0),(34,.av (KH b types))]),[(12,.cells (A1.c ((Ai b types).getD x2.val default).2) 102),(Jy An),(Do b),Dp,(H1 An),(200014,.omap false 1 AK.length (kfG Bj AK) (vfG (fun x=>[.s x]) AK))]⟩) 11 (AE.c ((Ai b types).getD x2.val default).1) 78 [200002,200005,200010,200014] 100000 hPX kr (fun _=>⟨_,rfl⟩) kr kr kr) (Cv.trans (RB (⟨(J3 [(Tr b types x2.val),(gI b types x2.val),(34,.av (KH b types))]),[(Jy An),(Do b),Dp,(H1 An),(200014,.omap false 1 AK.length (kfG Bj AK) (vfG (fun x=>[.s x]) AK))]⟩) 12 (A1.c ((Ai b types).getD x2.val default).2) 102 [200002,200005,200010,200014] 100000 hPX kr (fun _=>⟨_,rfl⟩) kr kr kr) (Cv.refl _)),rfl,rfl⟩
 ·have hinv2:An.length<=j:=hinv;clear hinv
  obtain ⟨Xb2,hXb2⟩:∃ Xb,De b types AK (fun _=>default) ((Ai b types).length-x2.val) x2.val An=Xb:=⟨_,rfl⟩
  have hF2:=hXb2
  rw [show (Ai b types).length-x2.val=((Ai b types).length-(x2.val+1))+1 by have:=x2.isLt;omega] at hF2
  have hpe:=cD (b:=b) ht x2.val
  refine DH<|AR<|AB ?_
  refine aV Vt C2 [] [(47,((El Bc AK (Rw b types x2.val)),(DY Bc AK (Rw b types x2.val))))] [] [2,5,10,11,12,13,34] [13,100000,200002,200005,200010,200014] [We Tryz.prog eqE 106 AK.length (kfG Bj AK) (Bj (Ag.mk ((Ai b types).getD x2.val default).1.Ref ((Ai b types).getD x2.val default).2.Name)) (El Bc AK (Ag.mk ((Ai b types).getD x2.val default).1.Ref ((Ai b types).getD x2.val default).2.Name)) (DY Bc AK (Ag.mk ((Ai b types).getD x2.val default).1.Ref ((Ai b types).getD x2.val default).2.Name))] ⟨(Tp b types x2.val),[(13,.cells (Pn b types x2.val [.s (nX AK b types x2.val),.i 1,.i b.Layers,.i 0,vN,.i 0]) 61),(Jy An),(Do b),Dp,(H1 An),(200014,.omap false 1 AK.length (kfG Bj AK) (vfG (fun x=>[.s x]) AK))]⟩ .nil kr kr (.cons (V4 Sc WR _ _) .nil)<|AG ?_
  refine AB<|AB ?_
  refine rn ⟨(J3 [(Tr b types x2.val),(gI b types x2.val),(13,tP 13 0),(34,.av (KH b types)),(53,tB (decide ((((Ai b types).getD x2.val default).2.Drill:Int)=0)))]),[(13,.cells (Pn b types x2.val [.s (nX AK b types x2.val),.i 1,.i b.Layers,.i 0,vN,.i 0]) 61),(Jy An),(Do b),Dp,(H1 An),(200014,.omap false 1 AK.length (kfG Bj AK) (vfG (fun x=>[.s x]) AK))]⟩ ?_
  refine Bd (⟨(Tp b types x2.val),[(13,.cells (Pn b types x2.val [.s (bif El Bc AK (Rw b types x2.val) then (AK.getD (DY Bc AK (Rw b types x2.val)) default).2 else ⟨#[]⟩),.i (bif decide ((((Ai b types).getD x2.val default).2.Drill:Int)=0) then (DM b ((Ai b types).getD x2.val default).1) else 1),.i (bif decide ((((Ai b types).getD x2.val default).2.Drill:Int)=0) then (DM b ((Ai b types).getD x2.val default).1) else b.Layers),.i 0,vN,.i 0]) 61),(Jy An),(Do b),Dp,(H1 An),(200014,.omap false 1 AK.length (kfG Bj AK) (vfG (fun x=>[.s x]) AK))]⟩) ?_ ?_
  ·refine AV _ rfl (fun h1 => ?_) (fun h1 => ?_)
   ·refine dw [] [(56,O2 b ((Ai b types).getD x2.val default).1),(59,O2 b ((Ai b types).getD x2.val default).1)] [Ap (O2 b ((Ai b types).getD x2.val default).1).2.1,Ap (O2 b ((Ai b types).getD x2.val default).1).2.1] ⟨(Tp b types x2.val),[(13,.cells (Pn b types x2.val [.s (nX AK b types x2.val),.i (DM b ((Ai b types).getD x2.val default).1),.i (DM b ((Ai b types).getD x2.val default).1),.i 0,vN,.i 0]) 61),(Jy An),(Do b),Dp,(H1 An),(200014,.omap false 1 AK.length (kfG Bj AK) (vfG (fun x=>[.s x]) AK))]⟩ (.cons (YH b ((Ai b types).getD x2.val default).1) (.cons (YH b ((Ai b types).getD x2.val default).1) .nil)) (.cons rfl (.cons rfl .nil))<|AG ?_
    refine Ay ?_
    first | rfl | (simp only [h1,cond_true,cond_false] <;> rfl)
   refine AY<|AG ?_
   refine Cv.trans (ck (⟨(Tp b types x2.val),[(13,.cells (Pn b types x2.val [.s (bif El Bc AK (Rw b types x2.val) then (AK.getD (DY Bc AK (Rw b types x2.val)) default).2 else ⟨#[]⟩),.i 1,.i b.Layers,.i 0,vN,.i 0]) 61),(Jy An),(Do b),Dp,(H1 An),(200014,.omap false 1 AK.length (kfG Bj AK) (vfG (fun x=>[.s x]) AK))]⟩)) (Ay ?_)
   first | rfl | (simp only [h1,cond_true,cond_false] <;> rfl)
  refine AB<|dw [] [(65,Ho ((Ai b types).getD x2.val default).1),(66,Un ((Ai b types).getD x2.val default).2.Shape (Bz ((Ai b types).getD x2.val default).1))] [Ap (Ho ((Ai b types).getD x2.val default).1).2.1,Ap (Un ((Ai b types).getD x2.val default).2.Shape (Bz ((Ai b types).getD x2.val default).1)).2.1] ⟨(J3 [(13,tP 13 0),(34,.av (KH b types))]),[(13,.cells (fT b types x2.val AK) 61),(Jy An),(Do b),Dp,(H1 An),(200014,.omap false 1 AK.length (kfG Bj AK) (vfG (fun x=>[.s x]) AK))]⟩ (.cons (Qh ((Ai b types).getD x2.val default).1) (.cons (qG ((Ai b types).getD x2.val default).2.Shape (Bz ((Ai b types).getD x2.val default).1) au4) .nil)) (.cons rfl (.cons rfl .nil))<|AG ?_
  refine rc [] [An.length=An.length,An.length+1<=maxLen,(An.length+1)*104<=140737488355328] ⟨(QG b types),[(71,.row 9 (An.length+1) (fun i_ j_=>if i_<An.length then (AO Ad.c An) i_ j_ else (As 9 1 (fT b types x2.val AK)) (i_-An.length) j_) 61),(Do b),Dp,(200010,.cells [.own 71 9 (An.length+1)] 50),(200014,.omap false 1 AK.length (kfG Bj AK) (vfG (fun x=>[.s x]) AK))]⟩ .nil (.cons rfl (.cons au3 (.cons au3 .nil)))<|BN ?_
  refine ⟨_,Cv.trans (BM (⟨(QG b types),[(71,.row 9 (An++(bC b types x2.val AK)).length (AO Ad.c (An++(bC b types x2.val AK))) 61),(Do b),Dp,(200010,.cells [.own 71 9 (An++(bC b types x2.val AK)).length] 50),(200014,.omap false 1 AK.length (kfG Bj AK) (vfG (fun x=>[.s x]) AK))]⟩) lr (.cons ⟨rfl,Am 61 (BR (BI 9 Ad.c An) (Aq (c:=Ad.c) (xs:=([Ad.mk ((Ai b types).getD x2.val default).1.Id ((Ai b types).getD x2.val default).2.Name 1 (bif El Bc AK (Ag.mk ((Ai b types).getD x2.val default).1.Ref ((Ai b types).getD x2.val default).2.Name) then (AK.getD (DY Bc AK (Ag.mk ((Ai b types).getD x2.val default).1.Ref ((Ai b types).getD x2.val default).2.Name)) default).2 else ⟨#[]⟩) (bif decide ((((Ai b types).getD x2.val default).2.Drill:Int)=0) then (DM b ((Ai b types).getD x2.val default).1) else 1) (bif decide ((((Ai b types).getD x2.val default).2.Drill:Int)=0) then (DM b ((Ai b types).getD x2.val default).1) else b.Layers) (D1 ((Ai b types).getD x2.val default).2.Shape (Bz ((Ai b types).getD x2.val default).1))]:List Ad)) rfl kr))⟩ (.cons ⟨rfl,.refl _⟩ (.cons ⟨rfl,.refl _⟩ (.cons ⟨rfl,.cells _ (.cons (.own _ _ au2) .nil)⟩ lr))))) (Cv.trans (wr (⟨(QG b types),[(100000,.row 9 (An++(bC b types x2.val AK)).length (AO Ad.c (An++(bC b types x2.val AK))) 61),(Do b),Dp,(200010,.cells [.own 100000 9 (An++(bC b types x2.val AK)).length] 50),(200014,.omap false 1 AK.length (kfG Bj AK) (vfG (fun x=>[.s x]) AK))]⟩) 71 100000 (K:=[299999,200002,200005,200010,200014]) hPX) (Cv.refl _)),rfl,(An++[Ad.mk ((Ai b types).getD x2.val default).1.Id ((Ai b types).getD x2.val default).2.Name 1 (bif El Bc AK (Ag.mk ((Ai b types).getD x2.val default).1.Ref ((Ai b types).getD x2.val default).2.Name) then (AK.getD (DY Bc AK (Ag.mk ((Ai b types).getD x2.val default).1.Ref ((Ai b types).getD x2.val default).2.Name)) default).2 else ⟨#[]⟩) (bif decide ((((Ai b types).getD x2.val default).2.Drill:Int)=0) then (DM b ((Ai b types).getD x2.val default).1) else 1) (bif decide ((((Ai b types).getD x2.val default).2.Drill:Int)=0) then (DM b ((Ai b types).getD x2.val default).1) else b.Layers) (D1 ((Ai b types).getD x2.val default).2.Shape (Bz ((Ai b types).getD x2.val default).1))]),ax0,fun hk hF => ?_,fun _ _ h=>h⟩
  have e0:De b types AK (fun _=>default) ((Ai b types).length-(x2.val+1)) (x2.val+1) (An++[Ad.mk ((Ai b types).getD x2.val default).1.Id ((Ai b types).getD x2.val default).2.Name 1 (bif El Bc AK (Ag.mk ((Ai b types).getD x2.val default).1.Ref ((Ai b types).getD x2.val default).2.Name) then (AK.getD (DY Bc AK (Ag.mk ((Ai b types).getD x2.val default).1.Ref ((Ai b types).getD x2.val default).2.Name)) default).2 else ⟨#[]⟩) (bif decide ((((Ai b types).getD x2.val default).2.Drill:Int)=0) then (DM b ((Ai b types).getD x2.val default).1) else 1) (bif decide ((((Ai b types).getD x2.val default).2.Drill:Int)=0) then (DM b ((Ai b types).getD x2.val default).1) else b.Layers) (D1 ((Ai b types).getD x2.val default).2.Shape (Bz ((Ai b types).getD x2.val default).1))])=Xb2:=by
   rw [<- hF2]
   first | (simp only [De,cond_true,cond_false] <;> rfl)
  subst hk
  change De b types AK (fun _=>default) ((Ai b types).length-x2.val) x2.val An=Df b types at hF
  show De b types AK (fun _=>default) ((Ai b types).length-(x2.val+1)) (x2.val+1) (An++[Ad.mk ((Ai b types).getD x2.val default).1.Id ((Ai b types).getD x2.val default).2.Name 1 (bif El Bc AK (Ag.mk ((Ai b types).getD x2.val default).1.Ref ((Ai b types).getD x2.val default).2.Name) then (AK.getD (DY Bc AK (Ag.mk ((Ai b types).getD x2.val default).1.Ref ((Ai b types).getD x2.val default).2.Name)) default).2 else ⟨#[]⟩) (bif decide ((((Ai b types).getD x2.val default).2.Drill:Int)=0) then (DM b ((Ai b types).getD x2.val default).1) else 1) (bif decide ((((Ai b types).getD x2.val default).2.Drill:Int)=0) then (DM b ((Ai b types).getD x2.val default).1) else b.Layers) (D1 ((Ai b types).getD x2.val default).2.Shape (Bz ((Ai b types).getD x2.val default).1))])=Df b types
  exact e0.trans (hXb2.symm.trans hF)
 have hinv2:An.length<=(Ai b types).length:=hinv;clear hinv
 change De b types AK (fun _=>default) ((Ai b types).length-(Ai b types).length) (Ai b types).length An=Df b types at hF2
 rw [Nat.sub_self] at hF2
 refine BN<|AG<|AB ?_
 refine rn ⟨[(4,tO (.own 100000 9 An.length))],[(Jy An)]⟩<|AW ?_
 exact xl (tO (.own 100000 9 An.length)) (frE (c:=Ad.c) (xs:=An) (by rw [<- hF2];first | (simp only [De,cond_true,cond_false] <;> rfl)) kr)
def tZ:CT:=(51,[.agg (Dj b),.one (Gl types)],.new [] (.row 9 (Df b types).length (AO Ad.c (Df b types)) 61) (fun d=>.av (.one (.own d 9 (Df b types).length))))
theorem vW (b:AH) (types:(List AQ)) (hn:(b.Nets.length:Int)<=1000000) (hp:b.Parts.length<20) (ht:CP types) (hm:((Ai b types).length:Int)<=20000000) (hq:∀ n∈b.Nets,(n.Pins.length:Int)<=1000000):OKc (tZ b types):=Dy (fun _ _=>kr) (qPads b types hn hp ht hm hq)
end
section
open Go.RowKit
def sP (t:Ab):Ab:=t
variable (data':List AE) (l:List Ab) (b:AH) (j n:Int) (out:List Ab) (t:Ab)
def xH:CT:=(108,[.agg (Ab.c t)],.val [] (.av (.agg (Ab.c (sP t)))))
theorem pasT (t:Ab):PuP 108 (xH t).2.1 (.av (.agg (Ab.c (sP t)))):=by
 refine pwf Tryz.func108 fun W0 M0 => ?_
 refine AB<|rn ⟨Fg,[(1,.cells (Ab.c t) 131),(2,.cells [.i 0,.s (⟨#[]⟩),.i 0,.i 0,vN,.i 0] 150)]⟩<|AB ?_
 refine rn ⟨[(2,tP 2 0)],[(2,.cells (Ab.c t) 150)]⟩<|AW ?_
 exact xl (.av (.agg (Ab.c t))) (Aa (by rfl))
theorem okasT (t:Ab):OKc (xH t):=cPu<|pasT t
def nM (t:Ab):Int:=t.Id
def xD:CT:=(109,[.agg (Ab.c t)],.val [] (.av (.one (.i (nM t)))))
theorem pidT (t:Ab):PuP 109 (xD t).2.1 (tO (.i (nM t))):=by
 refine pwf Tryz.func109 fun W0 M0 => ?_
 refine AB<|rn ⟨[(1,tP 1 0)],[(1,.cells (Ab.c t) 150)]⟩<|AB ?_
 refine rn ⟨[(2,tI t.Id)],[]⟩<|AW ?_
 exact xl (tO (.i t.Id)) (Aa (by rfl))
theorem okidT (t:Ab):OKc (xD t):=cPu<|pidT t
def NR (a:Ab) (b_:Ab):Int:=CB (nM a) (nM b_)
theorem rF {p:Prop} (h:p:=by
 refine pwf mp0 fun W0 M0 => ?_
 refine AB<|rn ⟨[(2,.av (.one (.eptr 1 1 (gD [.clo mp1 0 (fun _=>default)]) 0 0))),(3,tP 3 0),(4,tP 4 0)],[(3,.cells (mp2 a) mp3),(4,.cells (mp2 b_) mp3)]⟩<|AB ?_
 refine dw [] [(8,mp4 a),(11,mp4 b_),(12,KZ (mp5 a) (mp5 b_))] [Ap (mp4 a).2.1,Ap (mp4 b_).2.1,Ap (KZ (mp5 a) (mp5 b_)).2.1] ⟨[(5,tI (CB (mp5 a) (mp5 b_)))],[]⟩ (.cons (mp6 a) (.cons (mp6 b_) (.cons (R6 (mp5 a) (mp5 b_)) .nil))) (.cons rfl (.cons rfl (.cons rfl .nil)))<|AG<|AW ?_
 exact xl (tO (.i (CB (mp5 a) (mp5 b_)))) (Aa (by rfl))):p:=h
section
 open Go.Proofs.YtheobjkgllmnmaaGreat renaming Zq→mp1,Ab.c→mp2,Vl→mp3,xD→mp4,nM→mp5,okidT→mp6
 open Go.Proofs.Tryz renaming func154→mp0
theorem pcmpT  (a:Ab) (b_:Ab):E5 Tryz.prog 154 [.agg (Ab.c a),.agg (Ab.c b_),.one (.eptr 1 1 (gD [.clo 109 0 dfc]) 0 0)] (tO (.i (NR a b_))):=rF
end
def Z0t (data':List Ab) (j:Int):CT:=(154,[.agg (Ab.c (data'.getD j.toNat default)),.agg (Ab.c (data'.getD (W64 (j-1)).toNat default)),.one (.eptr 1 1 (fun _ j_=>([.clo 109 0 dfc]:List Cl).getD j_ default) 0 0)],.val [] (tI (NR (data'.getD j.toNat default) (data'.getD (W64 (j-1)).toNat default))))
def NX (l:(List Ab)) (n:Int) (data:List Ab) (i:Int) (K0:List Ab->Int->(List Ab)):Nat->List Ab->Int->(List Ab)
 | 0,_,_=>default
 | n1+1,data',j=>bif bif decide ((0:Int)<j) then decide (((NR (data'.getD j.toNat default) (data'.getD (j-1).toNat default)):Int)<0) else false then ((NX l n data i K0 n1) ((data'.set j.toNat (data'.getD (j-1).toNat default)).set (j-1).toNat (data'.getD j.toNat default)) (j-1)) else (K0 data' (i+1))
def NY (l:(List Ab)) (n:Int):Nat->List Ab->Int->(List Ab)
 | 0,_,_=>default
 | n0+1,data,i=>bif decide ((i:Int)<n) then (NX l n data i (NY l n n0) (i.toNat+1) data i) else data
def PA (l:(List Ab)) (n:Int):(List Ab):=NY l n ((n-1).toNat+1) l 1
theorem Z6 {p:Prop} (h:p:=by
 refine Fh mp0 rfl kr kr kr fun W0 M0 X hX => ?_
 refine AB<|rn ⟨[(0,tO (.own 1000 mp1 l.length)),(1,tI 0),(2,tI n),(3,.av (.one (.clo mp2 1 (Aw [.eptr 1 1 (gD [.clo mp3 0 (fun _=>default)]) 0 0])))),(8,tI 1)],[(1000,.row mp1 l.length (AO mp4 l) mp5)]⟩<|AR ?_
 refine BB (ι:=Nat×List mp6×Int) (fun x=>⟨[(0,tO (.own 1000 mp1 x.2.1.length)),(1,tI 0),(2,tI n),(3,.av (.one (.clo mp2 1 (Aw [.eptr 1 1 (gD [.clo mp3 0 (fun _=>default)]) 0 0])))),(8,tI x.2.2)],[(1000,.row mp1 x.2.1.length (AO mp4 x.2.1) mp5)]⟩) (fun x=>(n-x.2.2).toNat<x.1/\(1<=x.2.2/\x.2.1.length=l.length/\1<=x.2.2/\(x.2.2<=n\/x.2.2=1))/\mp7 l n x.1 x.2.1 x.2.2=mp8 l n) (fun x=>x.1) ?_ ((n-1).toNat+1,l,1) ⟨Nat.lt_succ_self _,⟨ax0,ax0,ax0,ax0⟩,(by simp only [mp8,cond_true,cond_false])⟩
 rintro ⟨n0,data,i⟩ ⟨hm0,hinv0,hF0⟩
 try dsimp only at hm0 hinv0 hF0
 cases n0 with | zero=>exact nz hm0 | succ n0 => ?_
 refine AB<|AB ?_
 refine rn ⟨[(0,tO (.own 1000 mp1 data.length)),(1,tI 0),(2,tI n),(3,.av (.one (.clo mp2 1 (Aw [.eptr 1 1 (gD [.clo mp3 0 (fun _=>default)]) 0 0])))),(8,tI i),(14,tB (decide ((i:Int)<n)))],[(1000,.row mp1 data.length (AO mp4 data) mp5)]⟩ ?_
 refine AV _ rfl (fun h1 => ?_) (fun h1 => ?_)
 ·have g1:=oT h1
  refine AY<|AG ?_
  refine AB<|AR<|AB ?_
  refine rn ⟨[(0,tO (.own 1000 mp1 data.length)),(1,tI 0),(2,tI n),(3,.av (.one (.clo mp2 1 (Aw [.eptr 1 1 (gD [.clo mp3 0 (fun _=>default)]) 0 0])))),(8,tI i),(9,tI i)],[(1000,.row mp1 data.length (AO mp4 data) mp5)]⟩<|AR ?_
  refine BB (ι:=Nat×List mp6×Int) (fun x=>⟨[(0,tO (.own 1000 mp1 x.2.1.length)),(1,tI 0),(2,tI n),(3,.av (.one (.clo mp2 1 (Aw [.eptr 1 1 (gD [.clo mp3 0 (fun _=>default)]) 0 0])))),(8,tI i),(9,tI x.2.2)],[(1000,.row mp1 x.2.1.length (AO mp4 x.2.1) mp5)]⟩) (fun x=>x.2.2.toNat<x.1/\(0<=x.2.2/\x.2.1.length=l.length/\x.2.2<n)/\mp9 l n data i (mp7 l n n0) x.1 x.2.1 x.2.2=mp8 l n) (fun x=>x.1) ?_ (i.toNat+1,data,i) ⟨Nat.lt_succ_self _,⟨ax0,ax0,ax0⟩,(by rw [<- hF0];simp only [mp7,h1,cond_true,cond_false])⟩
  rintro ⟨n1,data',j⟩ ⟨hm1,hinv1,hF1⟩
  try dsimp only at hm1 hinv1 hF1
  cases n1 with | zero=>exact nz hm1 | succ n1 => ?_
  refine AB<|AB ?_
  refine dw [] [(32,(mp10 data' j))] (t2 (decide ((0:Int)<j)) ((gk (decide ((0:Int)<j)) (0<=(j:Int)/\(j:Int)<((data'.length:Nat):Int)))::(gt (decide ((0:Int)<j)))::(gk (decide ((0:Int)<j)) (j.toNat<data'.length))::(t3 (decide ((0:Int)<j)) ((gk (decide ((0:Int)<j)) (0<=(W64 (j-1):Int)/\(W64 (j-1):Int)<((data'.length:Nat):Int)))::(gt (decide ((0:Int)<j)))::(gk (decide ((0:Int)<j)) ((W64 (j-1)).toNat<data'.length))::(t3 (decide ((0:Int)<j)) ((gk (decide ((0:Int)<j)) (Ap (mp10 data' j).2.1))::(t2 (decide ((0:Int)<j)) []))))))) ⟨[(0,tO (.own 1000 mp1 data'.length)),(1,tI 0),(2,tI n),(3,.av (.one (.clo mp2 1 (Aw [.eptr 1 1 (gD [.clo mp3 0 (fun _=>default)]) 0 0])))),(8,tI i),(9,tI j),(34,tB (bif decide ((0:Int)<j) then decide (((mp11 (data'.getD j.toNat default) (data'.getD (W64 (j-1)).toNat default)):Int)<0) else false))],[(1000,.row mp1 data'.length (AO mp4 data') mp5)]⟩ (.cons (cPu<|mp12 (data'.getD j.toNat default) (data'.getD (W64 (j-1)).toNat default)) .nil) (c2 (.cons (fun hG=>by first | exact au0 | (simp only [decide_eq_true_eq,decide_eq_false_iff_not,Bool.not_eq_true,Bool.and_eq_true] at hG <;> omega) | (simp at hG <;> omega) | (simp only [decide_eq_true_eq,decide_eq_false_iff_not] at hG;simp only [Bx];omega)) (ci (.cons (fun hG=>by first | exact au0 | (simp only [decide_eq_true_eq,decide_eq_false_iff_not,Bool.not_eq_true,Bool.and_eq_true] at hG <;> omega) | (simp at hG <;> omega) | (simp only [decide_eq_true_eq,decide_eq_false_iff_not] at hG;simp only [Bx];omega)) (c3 (.cons (fun hG=>by first | exact au0 | (simp only [decide_eq_true_eq,decide_eq_false_iff_not,Bool.not_eq_true,Bool.and_eq_true] at hG <;> omega) | (simp at hG <;> omega) | (simp only [decide_eq_true_eq,decide_eq_false_iff_not] at hG;simp only [Bx];omega)) (ci (.cons (fun hG=>by first | exact au0 | (simp only [decide_eq_true_eq,decide_eq_false_iff_not,Bool.not_eq_true,Bool.and_eq_true] at hG <;> omega) | (simp at hG <;> omega) | (simp only [decide_eq_true_eq,decide_eq_false_iff_not] at hG;simp only [Bx];omega)) (c3 (.cons (fun _=>rfl) (c2 .nil))))))))))) ?_
  (try rw [(show W64 (j-1)=j-1 from Af oM oM)])
  refine AG ?_
  refine AV _ rfl (fun h2 => ?_) (fun h2 => ?_)
  ·have g2:=Pd h2
   refine AY<|AG ?_
   refine AB<|AR ?_
   refine dw [] [] [0<=(W64 (j-1):Int)/\(W64 (j-1):Int)<((data'.length:Nat):Int),(W64 (j-1)).toNat<data'.length,0<=(j:Int)/\(j:Int)<((data'.length:Nat):Int),j.toNat<data'.length,0<=(j:Int)/\(j:Int)<((data'.length:Nat):Int),j.toNat<data'.length,0<=(W64 (j-1):Int)/\(W64 (j-1):Int)<((data'.length:Nat):Int),(W64 (j-1)).toNat<data'.length] ⟨[(0,tO (.own 1000 mp1 data'.length)),(1,tI 0),(2,tI n),(3,.av (.one (.clo mp2 1 (Aw [.eptr 1 1 (gD [.clo mp3 0 (fun _=>default)]) 0 0])))),(8,tI i),(9,tI j)],[(1000,.row mp1 data'.length (fun i_ j_=>if i_=(W64 (j-1)).toNat/\0<=j_/\j_<0+mp1 then ((mp4 (data'.getD j.toNat default)):List Cl).getD (j_-0) default else (fun i_ j_=>if i_=j.toNat/\0<=j_/\j_<0+mp1 then ((mp4 (data'.getD (W64 (j-1)).toNat default)):List Cl).getD (j_-0) default else (AO mp4 data') i_ j_) i_ j_) mp5)]⟩ .nil (.cons au0 (.cons au0 (.cons au0 (.cons au0 (.cons au0 (.cons au0 (.cons au0 (.cons au0 .nil)))))))) ?_
   (try rw [(show W64 (j-1)=j-1 from Af oM oM)])
   refine BN<|AG ?_
   refine BS (Cv.trans (BM (⟨[(0,tO (.own 1000 mp1 ((data'.set j.toNat (data'.getD (j-1).toNat default)).set (j-1).toNat (data'.getD j.toNat default)).length)),(1,tI 0),(2,tI n),(3,.av (.one (.clo mp2 1 (Aw [.eptr 1 1 (gD [.clo mp3 0 (fun _=>default)]) 0 0])))),(8,tI i),(9,tI j)],[(1000,.row mp1 ((data'.set j.toNat (data'.getD (j-1).toNat default)).set (j-1).toNat (data'.getD j.toNat default)).length (AO mp4 ((data'.set j.toNat (data'.getD (j-1).toNat default)).set (j-1).toNat (data'.getD j.toNat default))) mp5)]⟩) (.cons ⟨rfl,.av (.one (.own _ _ au2))⟩ lr) (.cons ⟨rfl,Am mp5 (KM (l:=(mp4 (data'.getD j.toNat default))) (off:=0) (q:=mp1) (k:=(j-1).toNat) (KM (l:=(mp4 (data'.getD (j-1).toNat default))) (off:=0) (q:=mp1) (k:=j.toNat) (BI mp1 mp4 data') au0 (data'.getD (j-1).toNat default) (F7 kr)) au0 (data'.getD j.toNat default) (F7 kr))⟩ .nil)) (Cv.refl _)) ?_
   refine rg ⟨[(0,tO (.own 1000 mp1 ((data'.set j.toNat (data'.getD (j-1).toNat default)).set (j-1).toNat (data'.getD j.toNat default)).length)),(1,tI 0),(2,tI n),(3,.av (.one (.clo mp2 1 (Aw [.eptr 1 1 (gD [.clo mp3 0 (fun _=>default)]) 0 0])))),(8,tI i),(9,tI (W64 (j-1)))],[(1000,.row mp1 ((data'.set j.toNat (data'.getD (j-1).toNat default)).set (j-1).toNat (data'.getD j.toNat default)).length (AO mp4 ((data'.set j.toNat (data'.getD (j-1).toNat default)).set (j-1).toNat (data'.getD j.toNat default))) mp5)]⟩ ?_
   (try rw [(show W64 (j-1)=j-1 from Af oM oM)])
   refine AG ?_
   refine ⟨(n1,(data'.set j.toNat (data'.getD (j-1).toNat default)).set (j-1).toNat (data'.getD j.toNat default),j-1),⟨?_,?_,(by rw [<- hF1];simp only [mp9,h2,cond_true,cond_false])⟩,Nat.lt_succ_self _,Ay kr⟩
   ·show (j-1).toNat<n1;omega
   exact ⟨ax0,ax0,ax0⟩
  refine BF<|A3 ?_
  refine A3<|BG ?_
  refine BN<|AG ?_
  refine rg ⟨[(0,tO (.own 1000 mp1 data'.length)),(1,tI 0),(2,tI n),(3,.av (.one (.clo mp2 1 (Aw [.eptr 1 1 (gD [.clo mp3 0 (fun _=>default)]) 0 0])))),(8,tI (W64 (i+1)))],[(1000,.row mp1 data'.length (AO mp4 data') mp5)]⟩ ?_
  (try rw [(show W64 (i+1)=i+1 from Af oM oM)])
  refine AG ?_
  refine ⟨(n0,data',i+1),⟨?_,?_,(by rw [<- hF1];simp only [mp9,h2,cond_true,cond_false])⟩,Nat.lt_succ_self _,Ay kr⟩
  ·show (n-(i+1)).toNat<n0;omega
  exact ⟨ax0,ax0,ax0,ax0⟩
 have g1:=oF h1
 refine BF<|A3 ?_
 refine A3<|BG ?_
 exact xn (.tup []) ⟨Aa rfl,.row mp1 data.length (AO mp4 data) mp5,by kernel_rfl,Fv (c:=mp4) (xs:=data) (by rw [<- hF0];first | (simp only [mp7,h1,cond_true,cond_false] <;> rfl)) au18⟩):p:=h
section
 open Go.Proofs.YtheobjkgllmnmaaGreat renaming nn6→mp1,Qj→mp2,Zq→mp3,Ab.c→mp4,Vl→mp5,Ab→mp6,NY→mp7,PA→mp8,NX→mp9,Z0t→mp10,NR→mp11,pcmpT→mp12
 open Go.Proofs.Tryz renaming func181→mp0
theorem pInsT (l:(List Ab)) (n:Int) (hn:n=(l.length:Int)) (hl:l.length<20):WrR Tryz.prog 181 1000 [.one (.own 1000 6 l.length),.one (.i 0),.one (.i n),.one (.clo 154 1 (Aw [.eptr 1 1 (gD [.clo 109 0 dfc]) 0 0]))] 6 l.length (AO Ab.c l) 150 (.tup []) (AO Ab.c (PA l n)):=Z6
end
section
 open Go.Proofs.YtheobjkgllmnmaaGreat renaming PA→mp0,NR→mp1,NY→mp2,NX→mp3
theorem Ws (l:List Ab) (n:Int) (hn:n=(l.length:Int)):PA l n=Cd (fun x y=>decide (NR x y<0)) l:=kJ
end
theorem S7 (l:List Ab) (n:Int) (hn:n=(l.length:Int)) (hl:l.length<20):(PA l n).length=l.length:=by rw [Ws l n hn,Di]
def Z0u:CT:=(181,([.one (.own 1000 6 l.length),.one (.i 0),.one (.i n),.one (.clo 154 1 (Aw [.eptr 1 1 (fun _ j_=>([.clo 109 0 dfc]:List Cl).getD j_ default) 0 0]))]:List Av).map (IP 1000 1000),wrI 1000 (.row 6 l.length (AO Ab.c l) 150) (.tup []) (.row 6 l.length (AO Ab.c (PA l n)) 150))
def Sv (l:(List Ab)) (n:Int):(List Ab):=PA l n
theorem Z5 {p:Prop} (h:p:=by
 refine Fh mp0 rfl kr kr kr fun W0 M0 X hX => ?_
 refine AB<|rn ⟨[(0,tO (.own 1000 mp1 l.length)),(1,tI n),(2,.av (.one (.clo mp2 1 (Aw [.eptr 1 1 (gD [.clo mp3 0 (fun _=>default)]) 0 0])))),(6,tI 20)],[(1000,.row mp1 l.length (AO mp4 l) mp5)]⟩<|AB ?_
 refine rn ⟨[(0,tO (.own 1000 mp1 l.length)),(1,tI n),(2,.av (.one (.clo mp2 1 (Aw [.eptr 1 1 (gD [.clo mp3 0 (fun _=>default)]) 0 0])))),(6,tI 20),(7,tI 0),(8,tI 20)],[(1000,.row mp1 l.length (AO mp4 l) mp5)]⟩ ?_
 refine AB<|AR ?_
 refine G0 1 ?_
 refine DZ<|AB<|AB ?_
 refine rn ⟨[(0,tO (.own 1000 mp1 l.length)),(1,tI n),(2,.av (.one (.clo mp2 1 (Aw [.eptr 1 1 (gD [.clo mp3 0 (fun _=>default)]) 0 0])))),(6,tI 20),(7,tI 0),(8,tI 20),(13,tB (decide ((20:Int)<=n)))],[(1000,.row mp1 l.length (AO mp4 l) mp5)]⟩ ?_
 have h1:(decide ((20:Int)<=n))=false:=decide_eq_false oM
 have g1:=oF h1
 refine AV _ rfl (fun h=>absurd (h1.symm.trans h) (by decide)) (fun _ => ?_)
 refine BF<|A3 ?_
 refine A3<|BG ?_
 refine AG<|AB ?_
 refine rb 27 (mp6 l n) (.row mp1 l.length (AO mp4 l) mp5) ⟨[(0,tO (.own 1000 mp1 l.length)),(1,tI n),(2,.av (.one (.clo mp2 1 (Aw [.eptr 1 1 (gD [.clo mp3 0 (fun _=>default)]) 0 0])))),(6,tI 20)],[(1000,.row mp1 l.length (AO mp4 (mp7 l n)) mp5)]⟩ (Fu (fun _ _=>kr) kr (mp8 l n au4 au4))<|AG ?_
 refine BS (Cv.trans (BM (⟨[(0,tO (.own 1000 mp1 (mp7 l n).length)),(1,tI n),(2,.av (.one (.clo mp2 1 (Aw [.eptr 1 1 (gD [.clo mp3 0 (fun _=>default)]) 0 0])))),(6,tI 20)],[(1000,.row mp1 (mp7 l n).length (AO mp4 (mp7 l n)) mp5)]⟩) (.cons ⟨rfl,.av (.one (.own _ _ (mp9 l n au4 au4).symm))⟩ lr) (.cons ⟨rfl,Am mp5 (⟨(mp9 l n au4 au4).symm,fun _ _ _ _=>.refl _⟩)⟩ .nil)) (Cv.refl _))<|AR ?_
 refine G0 1 ?_
 refine DZ<|AB<|AB ?_
 refine rn ⟨[(0,tO (.own 1000 mp1 (mp7 l n).length)),(1,tI n),(2,.av (.one (.clo mp2 1 (Aw [.eptr 1 1 (gD [.clo mp3 0 (fun _=>default)]) 0 0])))),(6,tI 20),(30,tB (decide ((20:Int)<n)))],[(1000,.row mp1 (mp7 l n).length (AO mp4 (mp7 l n)) mp5)]⟩ ?_
 have h2:(decide ((20:Int)<n))=false:=decide_eq_false oM
 have g2:=oF h2
 refine AV _ rfl (fun h=>absurd (h2.symm.trans h) (by decide)) (fun _ => ?_)
 refine BF<|A3 ?_
 refine A3<|BG ?_
 exact xn (.tup []) ⟨Aa rfl,.row mp1 (mp7 l n).length (AO mp4 (mp7 l n)) mp5,by kernel_rfl,Fv (c:=mp4) (xs:=mp7 l n) (by simp only [mp10,h1,h2,cond_true,cond_false] <;> rfl) (mp9 l n hn hl)⟩):p:=h
section
 open Go.Proofs.YtheobjkgllmnmaaGreat renaming nn6→mp1,Qj→mp2,Zq→mp3,Ab.c→mp4,Vl→mp5,Z0u→mp6,PA→mp7,pInsT→mp8,S7→mp9,Sv→mp10
 open Go.Proofs.Tryz renaming func168→mp0
theorem pStaT (l:(List Ab)) (n:Int) (hn:n=(l.length:Int)) (hl:l.length<20):WrR Tryz.prog 168 1000 [.one (.own 1000 6 l.length),.one (.i n),.one (.clo 154 1 (Aw [.eptr 1 1 (gD [.clo 109 0 dfc]) 0 0]))] 6 l.length (AO Ab.c l) 150 (.tup []) (AO Ab.c (Sv l n)):=Z5
end
theorem Su (l:List Ab) (n:Int) (hn:n=(l.length:Int)) (hl:l.length<20):(Sv l n).length=l.length:=S7 l n hn hl
def Z0v:CT:=(168,([.one (.own 1000 6 l.length),.one (.i ((l.length:Nat):Int)),.one (.clo 154 1 (Aw [.eptr 1 1 (fun _ j_=>([.clo 109 0 dfc]:List Cl).getD j_ default) 0 0]))]:List Av).map (IP 1000 1000),wrI 1000 (.row 6 l.length (AO Ab.c l) 150) (.tup []) (.row 6 l.length (AO Ab.c (Sv l ((l.length:Nat):Int))) 150))
def RZ (l:(List Ab)):(List Ab):=Sv l ((l.length:Nat):Int)
theorem Z4 {p:Prop} (h:p:=by
 refine Fh mp0 rfl kr kr kr fun W0 M0 X hX => ?_
 refine rb 8 (mp1 l) (.row mp2 l.length (AO mp3 l) mp4) ⟨[],[(1000,.row mp2 l.length (AO mp3 (mp5 l ((l.length:Nat):Int))) mp4)]⟩ (Fu (fun _ _=>kr) kr (mp6 l ((l.length:Nat):Int) au4 au4)) ?_
 exact yn (Cv.trans (BM (⟨[],[(1000,.row mp2 (mp5 l ((l.length:Nat):Int)).length (AO mp3 (mp5 l ((l.length:Nat):Int))) mp4)]⟩) .nil (.cons ⟨rfl,Am mp4 (⟨(mp7 l ((l.length:Nat):Int) au4 au4).symm,fun _ _ _ _=>.refl _⟩)⟩ .nil)) (Cv.refl _)) (.tup []) ⟨Aa rfl,.row mp2 (mp5 l ((l.length:Nat):Int)).length (AO mp3 (mp5 l ((l.length:Nat):Int))) mp4,by kernel_rfl,Fv (c:=mp3) (xs:=mp5 l ((l.length:Nat):Int)) (by rfl) (mp7 l _ rfl hl)⟩):p:=h
section
 open Go.Proofs.YtheobjkgllmnmaaGreat renaming Z0v→mp1,nn6→mp2,Ab.c→mp3,Vl→mp4,Sv→mp5,pStaT→mp6,Su→mp7
 open Go.Proofs.Tryz renaming func153→mp0
theorem pSrtT (l:(List Ab)) (hl:l.length<20):WrR Tryz.prog 153 1000 [.one (.own 1000 6 l.length),.one (.clo 154 1 (Aw [.eptr 1 1 (gD [.clo 109 0 dfc]) 0 0]))] 6 l.length (AO Ab.c l) 150 (.tup []) (AO Ab.c (RZ l)):=Z4
end
theorem dZ (l:List Ab) (hl:l.length<20):(RZ l).length=l.length:=Su l _ rfl hl
theorem nS (l:List Ab):RZ l=Cd (fun x y=>decide (NR x y<0)) l:=Ws l _ rfl
def Z0w:CT:=(153,([.one (.own 1000 6 out.length),.one (.clo 154 1 (Aw [.eptr 1 1 (fun _ j_=>([.clo 109 0 dfc]:List Cl).getD j_ default) 0 0]))]:List Av).map (IP 1000 100000),wrI 100000 (.row 6 out.length (AO Ab.c out) 150) (.tup []) (.row 6 out.length (AO Ab.c (RZ out)) 150))
def GN (l:(List Ab)):Nat->List Ab->Int->(List Ab)
 | 0,_,_=>default
 | n0+1,out,v12=>bif decide ((v12:Int)<(l.length:Int)) then ((GN l n0) (out++[sP (l.getD v12.toNat default)]) (v12+1)) else (RZ out)
def DJ (l:(List Ab)):(List Ab):=GN l (((l.length:Int)-0).toNat+1) ([]:List Ab) 0
theorem Z3 {p:Prop} (h:p:=by
 refine ED mp0 rfl kr (Er _ _) fun W0 M0 => ?_
 refine AB<|rn ⟨[(0,tO (lst mp1 mp2 l)),(1,.av (.one (.clo mp3 0 (fun _=>default)))),(5,tP 5 0)],[(5,.cells [.clo mp4 0 (fun _=>default)] mp5)]⟩<|AB ?_
 refine rn ⟨[(0,tO (lst mp1 mp2 l)),(1,.av (.one (.clo mp3 0 (fun _=>default)))),(5,tP 5 0),(7,.av (.one vN))],[(5,.cells [.clo mp4 0 (fun _=>default)] mp5)]⟩ ?_
 refine AB<|AB ?_
 refine rn ⟨[(1,.av (.one (.clo mp3 0 (fun _=>default)))),(5,tP 5 0),(7,.av (.one vN)),(10,tO (lst mp1 mp2 l)),(11,tI (l.length:Int)),(12,tI 0)],[(5,.cells [.clo mp4 0 (fun _=>default)] mp5)]⟩<|AR ?_
 refine BS (Cv.trans (wg (⟨[(1,.av (.one (.clo mp3 0 (fun _=>default)))),(5,tP 5 0),(7,tO (.own 100000 mp1 0)),(10,tO (lst mp1 mp2 l)),(11,tI (l.length:Int)),(12,tI 0)],[(100000,.row mp1 0 (fun _ _=>default) mp6),(5,.cells [.clo mp4 0 (fun _=>default)] mp5)]⟩) 100000 mp1 (fun _ _=>default) mp6 [(7,[0])] [] hk0) (Cv.trans (BM (⟨[(1,.av (.one (.clo mp3 0 (fun _=>default)))),(5,tP 5 0),(7,tO (.own 100000 mp1 ([]:List mp7).length)),(10,tO (lst mp1 mp2 l)),(11,tI (l.length:Int)),(12,tI 0)],[(100000,.row mp1 ([]:List mp7).length (AO mp2 ([]:List mp7)) mp6),(5,.cells [.clo mp4 0 (fun _=>default)] mp5)]⟩) (.cons ⟨rfl,.refl _⟩ (.cons ⟨rfl,.refl _⟩ (.cons ⟨rfl,.av (.one (.own _ _ au2))⟩ lr))) (.cons ⟨rfl,Am mp6 (Cb mp1 (fun _ _=>default) mp2)⟩ lr)) (Cv.trans (ck (⟨[(1,.av (.one (.clo mp3 0 (fun _=>default)))),(5,tP 5 0),(7,tO (.own 100000 mp1 ([]:List mp7).length)),(10,tO (lst mp1 mp2 l)),(11,tI (l.length:Int)),(12,tI 0)],[(5,.cells [.clo mp4 0 (fun _=>default)] mp5),(100000,.row mp1 ([]:List mp7).length (AO mp2 ([]:List mp7)) mp6)]⟩)) (Cv.refl _)))) ?_
 refine BB (ι:=Nat×List mp7×Int) (fun x=>⟨[(1,.av (.one (.clo mp3 0 (fun _=>default)))),(5,tP 5 0),(7,tO (.own 100000 mp1 x.2.1.length)),(10,tO (lst mp1 mp2 l)),(11,tI (l.length:Int)),(12,tI x.2.2)],[(5,.cells [.clo mp4 0 (fun _=>default)] mp5),(100000,.row mp1 x.2.1.length (AO mp2 x.2.1) mp6)]⟩) (fun x=>((l.length:Int)-x.2.2).toNat<x.1/\(0<=x.2.2/\(x.2.2<=(l.length:Int)\/x.2.2=0)/\(x.2.1.length:Int)<=0+1*(x.2.2-0))/\mp8 l x.1 x.2.1 x.2.2=mp9 l) (fun x=>x.1) ?_ (((l.length:Int)-0).toNat+1,([]:List mp7),0) ⟨Nat.lt_succ_self _,⟨ax0,ax0,ax0⟩,(by simp only [mp9,cond_true,cond_false])⟩
 rintro ⟨n0,out,v12⟩ ⟨hm0,hinv0,hF0⟩
 try dsimp only at hm0 hinv0 hF0
 cases n0 with | zero=>exact nz hm0 | succ n0 => ?_
 refine AB<|rn ⟨[(1,.av (.one (.clo mp3 0 (fun _=>default)))),(5,tP 5 0),(7,tO (.own 100000 mp1 out.length)),(10,tO (lst mp1 mp2 l)),(11,tI (l.length:Int)),(12,tI v12),(13,tB (decide ((v12:Int)<(l.length:Int))))],[(5,.cells [.clo mp4 0 (fun _=>default)] mp5),(100000,.row mp1 out.length (AO mp2 out) mp6)]⟩<|AB ?_
 refine AV _ rfl (fun h1 => ?_) (fun h1 => ?_)
 ·have g1:=oT h1
  refine AY<|AG ?_
  refine AB<|AR<|AB ?_
  refine rc [] [0<=(v12:Int)/\(v12:Int)<((l.length:Nat):Int)] ⟨[(1,.av (.one (.clo mp3 0 (fun _=>default)))),(5,tP 5 0),(7,tO (.own 100000 mp1 out.length)),(9,tP 9 0),(10,tO (lst mp1 mp2 l)),(11,tI (l.length:Int)),(12,tI v12)],[(5,.cells [.clo mp4 0 (fun _=>default)] mp5),(9,.cells (mp2 (l.getD v12.toNat default)) mp10),(100000,.row mp1 out.length (AO mp2 out) mp6)]⟩ .nil (.cons au0 .nil)<|AG ?_
  refine rc [(19,mp11 (l.getD v12.toNat default))] [Ap (mp11 (l.getD v12.toNat default)).2.1,out.length=out.length,out.length+1<=maxLen,(out.length+1)*mp12<=140737488355328] ⟨[(1,.av (.one (.clo mp3 0 (fun _=>default)))),(5,tP 5 0),(7,tO (.own 21 mp1 (out.length+1))),(10,tO (lst mp1 mp2 l)),(11,tI (l.length:Int)),(12,tI v12)],[(5,.cells [.clo mp4 0 (fun _=>default)] mp5),(21,.row mp1 (out.length+1) (fun i_ j_=>if i_<out.length then (AO mp2 out) i_ j_ else (As mp1 1 (mp2 (mp13 (l.getD v12.toNat default)))) (i_-out.length) j_) mp6)]⟩ (.cons (mp14 (l.getD v12.toNat default)) .nil) (.cons rfl (.cons rfl (.cons au3 (.cons au3 .nil))))<|BN<|AG ?_
  refine BS (Cv.trans (BM (⟨[(1,.av (.one (.clo mp3 0 (fun _=>default)))),(5,tP 5 0),(7,tO (.own 21 mp1 (out++[mp13 (l.getD v12.toNat default)]).length)),(10,tO (lst mp1 mp2 l)),(11,tI (l.length:Int)),(12,tI v12)],[(5,.cells [.clo mp4 0 (fun _=>default)] mp5),(21,.row mp1 (out++[mp13 (l.getD v12.toNat default)]).length (AO mp2 (out++[mp13 (l.getD v12.toNat default)])) mp6)]⟩) (.cons ⟨rfl,.refl _⟩ (.cons ⟨rfl,.refl _⟩ (.cons ⟨rfl,.av (.one (.own _ _ au2))⟩ lr))) (.cons ⟨rfl,.refl _⟩ (.cons ⟨rfl,Am mp6 (BR (BI mp1 mp2 out) (Aq (c:=mp2) (xs:=([mp13 (l.getD v12.toNat default)]:List mp7)) rfl kr))⟩ .nil))) (Cv.refl _)) ?_
  refine rg ⟨[(1,.av (.one (.clo mp3 0 (fun _=>default)))),(5,tP 5 0),(7,tO (.own 21 mp1 (out++[mp13 (l.getD v12.toNat default)]).length)),(10,tO (lst mp1 mp2 l)),(11,tI (l.length:Int)),(12,tI (W64 (v12+1)))],[(5,.cells [.clo mp4 0 (fun _=>default)] mp5),(21,.row mp1 (out++[mp13 (l.getD v12.toNat default)]).length (AO mp2 (out++[mp13 (l.getD v12.toNat default)])) mp6)]⟩ ?_
  (try rw [(show W64 (v12+1)=v12+1 from Af oM au5)])
  refine AG ?_
  refine ⟨(n0,out++[mp13 (l.getD v12.toNat default)],v12+1),⟨?_,?_,(by rw [<- hF0];simp only [mp8,h1,cond_true,cond_false])⟩,Nat.lt_succ_self _,Cv.trans (vr 21 100000 hk0) (Ay kr)⟩
  ·show ((l.length:Int)-(v12+1)).toNat<n0;omega
  exact ⟨ax0,ax0,ax0⟩
 have g1:=oF h1
 refine BF<|A3 ?_
 refine A3<|BG ?_
 refine AG<|AB ?_
 refine BS (Cv.trans (Gc (⟨[(1,.av (.one (.clo mp3 0 (fun _=>default)))),(5,.av (.one (.eptr 1 1 (gD [.clo mp4 0 (fun _=>default)]) 0 0))),(7,tO (.own 100000 mp1 out.length)),(10,tO (lst mp1 mp2 l)),(11,tI (l.length:Int)),(12,tI v12),(13,tB (decide ((v12:Int)<(l.length:Int))))],[(100000,.row mp1 out.length (AO mp2 out) mp6)]⟩) 5 [.clo mp4 0 (fun _=>default)] mp5 hk0 kr kr kr kr) (Cv.refl _)) ?_
 refine rb 25 (mp15 out) (.row mp1 out.length (AO mp2 out) mp6) ⟨[(7,tO (.own 100000 mp1 out.length))],[(100000,.row mp1 out.length (AO mp2 (mp16 out)) mp6)]⟩ (Fu (fun _ _=>kr) kr (mp17 out au4))<|AG ?_
 refine BS (Cv.trans (BM (⟨[(7,tO (.own 100000 mp1 (mp16 out).length))],[(100000,.row mp1 (mp16 out).length (AO mp2 (mp16 out)) mp6)]⟩) (.cons ⟨rfl,.av (.one (.own _ _ (mp18 out au4).symm))⟩ .nil) (.cons ⟨rfl,Am mp6 (⟨(mp18 out au4).symm,fun _ _ _ _=>.refl _⟩)⟩ .nil)) (Cv.refl _))<|AB ?_
 refine rn ⟨[(6,tO (.own 100000 mp1 (mp16 out).length))],[(100000,.row mp1 (mp16 out).length (AO mp2 (mp16 out)) mp6)]⟩<|AW ?_
 exact xl (tO (.own 100000 mp1 (mp16 out).length)) (frE (c:=mp2) (xs:=mp16 out) (by rw [<- hF0];first | (simp only [mp8,h1,cond_true,cond_false] <;> rfl)) kr)):p:=h
section
 open Go.Proofs.YtheobjkgllmnmaaGreat renaming nn6→mp1,Ab.c→mp2,nn108→mp3,Zq→mp4,nn220→mp5,Vl→mp6,Ab→mp7,GN→mp8,DJ→mp9,nn131→mp10,xH→mp11,YM→mp12,sP→mp13,okasT→mp14,Z0w→mp15,RZ→mp16,pSrtT→mp17,dZ→mp18
 open Go.Proofs.Tryz renaming func107→mp0
theorem iH (l:(List Ab)) (hl:l.length<20):Fr Tryz.prog 107 [.one (lst 6 Ab.c l),.one (.clo 108 0 dfc),.one (.clo 109 0 dfc)] (.row 6 (DJ l).length (AO Ab.c (DJ l)) 150) (fun d=>tO (.own d 6 (DJ l).length)):=Z3
end
def Z0x:CT:=(107,[.one (lst 6 Ab.c b.Tracks),.one (.clo 108 0 dfc),.one (.clo 109 0 dfc)],.new [] (.row 6 (DJ b.Tracks).length (AO Ab.c (DJ b.Tracks)) 150) (fun d=>.av (.one (.own d 6 (DJ b.Tracks).length))))
def BK (b:AH):(List Ab):=DJ b.Tracks
theorem oV (b:AH) (hl:b.Tracks.length<20):Fr Tryz.prog 52 [.agg (AH.c b)] (.row 6 (BK b).length (AO Ab.c (BK b)) 150) (fun d=>tO (.own d 6 (BK b).length)):=by
 refine ED Tryz.func52 rfl kr (Er _ _) fun W0 M0 => ?_
 refine AB<|rn ⟨[(1,tP 1 0)],[(1,.cells (AH.c b) 41)]⟩<|AB ?_
 refine rs 5 (Z0x b) ⟨[(2,tO (.own 5 6 (DJ b.Tracks).length))],[(5,.row 6 (DJ b.Tracks).length (AO Ab.c (DJ b.Tracks)) 150)]⟩ (Dy (fun _ _=>kr) (iH b.Tracks au4))<|AG<|AW ?_
 exact xl (tO (.own 5 6 (DJ b.Tracks).length)) (frE (c:=Ab.c) (xs:=DJ b.Tracks) (by rfl) kr)
def aL:CT:=(52,[.agg (AH.c b)],.new [] (.row 6 (BK b).length (AO Ab.c (BK b)) 150) (fun d=>.av (.one (.own d 6 (BK b).length))))
theorem jL (b:AH) (hl:b.Tracks.length<20):OKc (aL b):=Dy (fun _ _=>kr) (oV b hl)
theorem Wj (l:List Ab):DJ l=Cd (fun x y=>decide (NR x y<0)) l:=by
 unfold DJ
 have h:=dI l (GN l) (fun acc _=>RZ acc) (fun m acc v=>by
  rw [GN,Int.toNat_natCast]
  rfl) l.length 0 ((((l.length:Int))-0).toNat+1) [] rfl (Nat.zero_le _) (by omega)
 rw [List.drop_zero,List.nil_append] at h
 exact h.trans (nS l)
theorem MV (b:AH):BK b=Cd (fun x y=>decide (NR x y<0)) b.Tracks:=Wj _
theorem Wh {b:AH} {x:Ab}:x∈BK b↔x∈b.Tracks:=by rw [MV];exact Qx _ _ _
theorem O5 (b:AH):(BK b).length=b.Tracks.length:=by rw [MV];exact Di _ _
def sO (t:A4):A4:=t
def xG (t:A4):CT:=(111,[.agg (A4.c t)],.val [] (.av (.agg (A4.c (sO t)))))
theorem pasV (t:A4):PuP 111 (xG t).2.1 (.av (.agg (A4.c (sO t)))):=by
 refine pwf Tryz.func111 fun W0 M0 => ?_
 refine AB<|rn ⟨Fg,[(1,.cells (A4.c t) 133),(2,.cells [.i 0,.s (⟨#[]⟩),.i 0,.i 0,.i 0,.i 0,.i 0,.i 0] 154)]⟩<|AB ?_
 refine rn ⟨[(2,tP 2 0)],[(2,.cells (A4.c t) 154)]⟩<|AW ?_
 exact xl (.av (.agg (A4.c t))) (Aa (by rfl))
theorem okasV (t:A4):OKc (xG t):=cPu<|pasV t
def nL (t:A4):Int:=t.Id
def xC (t:A4):CT:=(112,[.agg (A4.c t)],.val [] (.av (.one (.i (nL t)))))
theorem pidV (t:A4):PuP 112 (xC t).2.1 (tO (.i (nL t))):=by
 refine pwf Tryz.func112 fun W0 M0 => ?_
 refine AB<|rn ⟨[(1,tP 1 0)],[(1,.cells (A4.c t) 154)]⟩<|AB ?_
 refine rn ⟨[(2,tI t.Id)],[]⟩<|AW ?_
 exact xl (tO (.i t.Id)) (Aa (by rfl))
theorem okidV (t:A4):OKc (xC t):=cPu<|pidV t
def NQ (a:A4) (b_:A4):Int:=CB (nL a) (nL b_)
section
 open Go.Proofs.YtheobjkgllmnmaaGreat renaming Vm→mp1,A4.c→mp2,Qj→mp3,xC→mp4,nL→mp5,okidV→mp6
 open Go.Proofs.Tryz renaming func156→mp0
theorem pcmpV  (a:A4) (b_:A4):E5 Tryz.prog 156 [.agg (A4.c a),.agg (A4.c b_),.one (.eptr 1 1 (gD [.clo 112 0 dfc]) 0 0)] (tO (.i (NQ a b_))):=rF
end
def Z0y (data':List A4) (j:Int):CT:=(156,[.agg (A4.c (data'.getD j.toNat default)),.agg (A4.c (data'.getD (W64 (j-1)).toNat default)),.one (.eptr 1 1 (fun _ j_=>([.clo 112 0 dfc]:List Cl).getD j_ default) 0 0)],.val [] (tI (NQ (data'.getD j.toNat default) (data'.getD (W64 (j-1)).toNat default))))
def NV (l:(List A4)) (n:Int) (data:List A4) (i:Int) (K0:List A4->Int->(List A4)):Nat->List A4->Int->(List A4)
 | 0,_,_=>default
 | n1+1,data',j=>bif bif decide ((0:Int)<j) then decide (((NQ (data'.getD j.toNat default) (data'.getD (j-1).toNat default)):Int)<0) else false then ((NV l n data i K0 n1) ((data'.set j.toNat (data'.getD (j-1).toNat default)).set (j-1).toNat (data'.getD j.toNat default)) (j-1)) else (K0 data' (i+1))
def NW (l:(List A4)) (n:Int):Nat->List A4->Int->(List A4)
 | 0,_,_=>default
 | n0+1,data,i=>bif decide ((i:Int)<n) then (NV l n data i (NW l n n0) (i.toNat+1) data i) else data
def O9 (l:(List A4)) (n:Int):(List A4):=NW l n ((n-1).toNat+1) l 1
section
 open Go.Proofs.YtheobjkgllmnmaaGreat renaming nn8→mp1,tT→mp2,Vm→mp3,A4.c→mp4,Qj→mp5,A4→mp6,NW→mp7,O9→mp8,NV→mp9,Z0y→mp10,NQ→mp11,pcmpV→mp12
 open Go.Proofs.Tryz renaming func183→mp0
theorem pInsV (l:(List A4)) (n:Int) (hn:n=(l.length:Int)) (hl:l.length<20):WrR Tryz.prog 183 1000 [.one (.own 1000 8 l.length),.one (.i 0),.one (.i n),.one (.clo 156 1 (Aw [.eptr 1 1 (gD [.clo 112 0 dfc]) 0 0]))] 8 l.length (AO A4.c l) 154 (.tup []) (AO A4.c (O9 l n)):=Z6
end
section
 open Go.Proofs.YtheobjkgllmnmaaGreat renaming O9→mp0,NQ→mp1,NW→mp2,NV→mp3
theorem Wq (l:List A4) (n:Int) (hn:n=(l.length:Int)):O9 l n=Cd (fun x y=>decide (NQ x y<0)) l:=kJ
end
theorem S6 (l:List A4) (n:Int) (hn:n=(l.length:Int)) (hl:l.length<20):(O9 l n).length=l.length:=by rw [Wq l n hn,Di]
def Z0z (l:(List A4)) (n:Int):CT:=(183,([.one (.own 1000 8 l.length),.one (.i 0),.one (.i n),.one (.clo 156 1 (Aw [.eptr 1 1 (fun _ j_=>([.clo 112 0 dfc]:List Cl).getD j_ default) 0 0]))]:List Av).map (IP 1000 1000),wrI 1000 (.row 8 l.length (AO A4.c l) 154) (.tup []) (.row 8 l.length (AO A4.c (O9 l n)) 154))
def Ss (l:(List A4)) (n:Int):(List A4):=O9 l n
section
 open Go.Proofs.YtheobjkgllmnmaaGreat renaming nn8→mp1,tT→mp2,Vm→mp3,A4.c→mp4,Qj→mp5,Z0z→mp6,O9→mp7,pInsV→mp8,S6→mp9,Ss→mp10
 open Go.Proofs.Tryz renaming func169→mp0
theorem pStaV (l:(List A4)) (n:Int) (hn:n=(l.length:Int)) (hl:l.length<20):WrR Tryz.prog 169 1000 [.one (.own 1000 8 l.length),.one (.i n),.one (.clo 156 1 (Aw [.eptr 1 1 (gD [.clo 112 0 dfc]) 0 0]))] 8 l.length (AO A4.c l) 154 (.tup []) (AO A4.c (Ss l n)):=Z5
end
theorem Sr (l:List A4) (n:Int) (hn:n=(l.length:Int)) (hl:l.length<20):(Ss l n).length=l.length:=S6 l n hn hl
def Z0A (l:(List A4)):CT:=(169,([.one (.own 1000 8 l.length),.one (.i ((l.length:Nat):Int)),.one (.clo 156 1 (Aw [.eptr 1 1 (fun _ j_=>([.clo 112 0 dfc]:List Cl).getD j_ default) 0 0]))]:List Av).map (IP 1000 1000),wrI 1000 (.row 8 l.length (AO A4.c l) 154) (.tup []) (.row 8 l.length (AO A4.c (Ss l ((l.length:Nat):Int))) 154))
def RY (l:(List A4)):(List A4):=Ss l ((l.length:Nat):Int)
section
 open Go.Proofs.YtheobjkgllmnmaaGreat renaming Z0A→mp1,nn8→mp2,A4.c→mp3,Qj→mp4,Ss→mp5,pStaV→mp6,Sr→mp7
 open Go.Proofs.Tryz renaming func155→mp0
theorem pSrtV (l:(List A4)) (hl:l.length<20):WrR Tryz.prog 155 1000 [.one (.own 1000 8 l.length),.one (.clo 156 1 (Aw [.eptr 1 1 (gD [.clo 112 0 dfc]) 0 0]))] 8 l.length (AO A4.c l) 154 (.tup []) (AO A4.c (RY l)):=Z4
end
theorem dY (l:List A4) (hl:l.length<20):(RY l).length=l.length:=Sr l _ rfl hl
theorem nP (l:List A4):RY l=Cd (fun x y=>decide (NQ x y<0)) l:=Wq l _ rfl
def Z0B (out:List A4):CT:=(155,([.one (.own 1000 8 out.length),.one (.clo 156 1 (Aw [.eptr 1 1 (fun _ j_=>([.clo 112 0 dfc]:List Cl).getD j_ default) 0 0]))]:List Av).map (IP 1000 100000),wrI 100000 (.row 8 out.length (AO A4.c out) 154) (.tup []) (.row 8 out.length (AO A4.c (RY out)) 154))
def GM (l:(List A4)):Nat->List A4->Int->(List A4)
 | 0,_,_=>default
 | n0+1,out,v12=>bif decide ((v12:Int)<(l.length:Int)) then ((GM l n0) (out++[sO (l.getD v12.toNat default)]) (v12+1)) else (RY out)
def DI (l:(List A4)):(List A4):=GM l (((l.length:Int)-0).toNat+1) ([]:List A4) 0
section
 open Go.Proofs.YtheobjkgllmnmaaGreat renaming nn8→mp1,A4.c→mp2,nn111→mp3,Vm→mp4,nn224→mp5,Qj→mp6,A4→mp7,GM→mp8,DI→mp9,nn133→mp10,xG→mp11,YM→mp12,sO→mp13,okasV→mp14,Z0B→mp15,RY→mp16,pSrtV→mp17,dY→mp18
 open Go.Proofs.Tryz renaming func110→mp0
theorem iG (l:(List A4)) (hl:l.length<20):Fr Tryz.prog 110 [.one (lst 8 A4.c l),.one (.clo 111 0 dfc),.one (.clo 112 0 dfc)] (.row 8 (DI l).length (AO A4.c (DI l)) 154) (fun d=>tO (.own d 8 (DI l).length)):=Z3
end
def Z0C:CT:=(110,[.one (lst 8 A4.c b.Vias),.one (.clo 111 0 dfc),.one (.clo 112 0 dfc)],.new [] (.row 8 (DI b.Vias).length (AO A4.c (DI b.Vias)) 154) (fun d=>.av (.one (.own d 8 (DI b.Vias).length))))
def Az (b:AH):(List A4):=DI b.Vias
theorem qvias (b:AH) (hl:b.Vias.length<20):Fr Tryz.prog 54 [.agg (AH.c b)] (.row 8 (Az b).length (AO A4.c (Az b)) 154) (fun d=>tO (.own d 8 (Az b).length)):=by
 refine ED Tryz.func54 rfl kr (Er _ _) fun W0 M0 => ?_
 refine AB<|rn ⟨[(1,tP 1 0)],[(1,.cells (AH.c b) 41)]⟩<|AB ?_
 refine rs 5 (Z0C b) ⟨[(2,tO (.own 5 8 (DI b.Vias).length))],[(5,.row 8 (DI b.Vias).length (AO A4.c (DI b.Vias)) 154)]⟩ (Dy (fun _ _=>kr) (iG b.Vias au4))<|AG<|AW ?_
 exact xl (tO (.own 5 8 (DI b.Vias).length)) (frE (c:=A4.c) (xs:=DI b.Vias) (by rfl) kr)
def mA:CT:=(54,[.agg (AH.c b)],.new [] (.row 8 (Az b).length (AO A4.c (Az b)) 154) (fun d=>.av (.one (.own d 8 (Az b).length))))
theorem jJ (b:AH) (hl:b.Vias.length<20):OKc (mA b):=Dy (fun _ _=>kr) (qvias b hl)
theorem Wi (l:List A4):DI l=Cd (fun x y=>decide (NQ x y<0)) l:=by
 unfold DI
 have h:=dI l (GM l) (fun acc _=>RY acc) (fun m acc v=>by
  rw [GM,Int.toNat_natCast]
  rfl) l.length 0 ((((l.length:Int))-0).toNat+1) [] rfl (Nat.zero_le _) (by omega)
 rw [List.drop_zero,List.nil_append] at h
 exact h.trans (nP l)
theorem Wg (b:AH):Az b=Cd (fun x y=>decide (NQ x y<0)) b.Vias:=Wi _
theorem Od (b:AH):(Az b).length=b.Vias.length:=by rw [Wg];exact Di _ _
def sR (t:AE):AE:=t
def xJ (t:AE):CT:=(116,[.agg (AE.c t)],.val [] (.av (.agg (AE.c (sR t)))))
theorem pasQ (t:AE):PuP 116 (xJ t).2.1 (.av (.agg (AE.c (sR t)))):=by
 refine pwf Tryz.func116 fun W0 M0 => ?_
 refine AB<|rn ⟨Fg,[(1,.cells (AE.c t) 78),(2,.cells [.i 0,.s (⟨#[]⟩),.s (⟨#[]⟩),.i 0,.i 0,.i 0,.b false] 160)]⟩<|AB ?_
 refine rn ⟨[(2,tP 2 0)],[(2,.cells (AE.c t) 160)]⟩<|AW ?_
 exact xl (.av (.agg (AE.c t))) (Aa (by rfl))
theorem okasQ (t:AE):OKc (xJ t):=cPu<|pasQ t
def nO (t:AE):Int:=t.Id
def xF (t:AE):CT:=(117,[.agg (AE.c t)],.val [] (.av (.one (.i (nO t)))))
theorem pidQ (t:AE):PuP 117 (xF t).2.1 (tO (.i (nO t))):=by
 refine pwf Tryz.func117 fun W0 M0 => ?_
 refine AB<|rn ⟨[(1,tP 1 0)],[(1,.cells (AE.c t) 160)]⟩<|AB ?_
 refine rn ⟨[(2,tI t.Id)],[]⟩<|AW ?_
 exact xl (tO (.i t.Id)) (Aa (by rfl))
theorem okidQ (t:AE):OKc (xF t):=cPu<|pidQ t
def NT (a:AE) (b_:AE):Int:=CB (nO a) (nO b_)
section
 open Go.Proofs.YtheobjkgllmnmaaGreat renaming Zp→mp1,AE.c→mp2,Qi→mp3,xF→mp4,nO→mp5,okidQ→mp6
 open Go.Proofs.Tryz renaming func160→mp0
theorem pcmpQ  (a:AE) (b_:AE):E5 Tryz.prog 160 [.agg (AE.c a),.agg (AE.c b_),.one (.eptr 1 1 (gD [.clo 117 0 dfc]) 0 0)] (tO (.i (NT a b_))):=rF
end
abbrev fK:=data'.getD (W64 (j-1)).toNat default
def Z0D:CT:=(160,[.agg (AE.c (Lc data' j)),.agg (AE.c (fK data' j)),.one (.eptr 1 1 (fun _ j_=>([.clo 117 0 dfc]:List Cl).getD j_ default) 0 0)],.val [] (tI (NT (Lc data' j) (fK data' j))))
def Nb (l:(List AE)) (n:Int) (data:List AE) (i:Int) (K0:List AE->Int->(List AE)):Nat->List AE->Int->(List AE)
 | 0,_,_=>default
 | n1+1,data',j=>bif bif decide ((0:Int)<j) then decide (((NT (data'.getD j.toNat default) (data'.getD (j-1).toNat default)):Int)<0) else false then ((Nb l n data i K0 n1) ((data'.set j.toNat (data'.getD (j-1).toNat default)).set (j-1).toNat (data'.getD j.toNat default)) (j-1)) else (K0 data' (i+1))
def Nc (l:(List AE)) (n:Int):Nat->List AE->Int->(List AE)
 | 0,_,_=>default
 | n0+1,data,i=>bif decide ((i:Int)<n) then (Nb l n data i (Nc l n n0) (i.toNat+1) data i) else data
def PC (l:(List AE)) (n:Int):(List AE):=Nc l n ((n-1).toNat+1) l 1
section
 open Go.Proofs.YtheobjkgllmnmaaGreat renaming nn7→mp1,Qi→mp2,Zp→mp3,AE.c→mp4,Qi→mp5,AE→mp6,Nc→mp7,PC→mp8,Nb→mp9,Z0D→mp10,NT→mp11,pcmpQ→mp12
 open Go.Proofs.Tryz renaming func185→mp0
theorem pInsQ (l:(List AE)) (n:Int) (hn:n=(l.length:Int)) (hl:l.length<20):WrR Tryz.prog 185 1000 [.one (.own 1000 7 l.length),.one (.i 0),.one (.i n),.one (.clo 160 1 (Aw [.eptr 1 1 (gD [.clo 117 0 dfc]) 0 0]))] 7 l.length (AO AE.c l) 160 (.tup []) (AO AE.c (PC l n)):=Z6
end
section
 open Go.Proofs.YtheobjkgllmnmaaGreat renaming PC→mp0,NT→mp1,Nc→mp2,Nb→mp3
theorem Wu (l:List AE) (n:Int) (hn:n=(l.length:Int)):PC l n=Cd (fun x y=>decide (NT x y<0)) l:=kJ
end
theorem S9 (l:List AE) (n:Int) (hn:n=(l.length:Int)) (hl:l.length<20):(PC l n).length=l.length:=by rw [Wu l n hn,Di]
def Z0E (l:(List AE)) (n:Int):CT:=(185,([.one (I1 l),.one (.i 0),.one (.i n),.one (.clo 160 1 (Aw [.eptr 1 1 (fun _ j_=>([.clo 117 0 dfc]:List Cl).getD j_ default) 0 0]))]:List Av).map (IP 1000 1000),wrI 1000 (.row 7 l.length (AO AE.c l) 160) (.tup []) (.row 7 l.length (AO AE.c (PC l n)) 160))
def Sz (l:(List AE)) (n:Int):(List AE):=PC l n
section
 open Go.Proofs.YtheobjkgllmnmaaGreat renaming nn7→mp1,Qi→mp2,Zp→mp3,AE.c→mp4,Qi→mp5,Z0E→mp6,PC→mp7,pInsQ→mp8,S9→mp9,Sz→mp10
 open Go.Proofs.Tryz renaming func170→mp0
theorem pStaQ (l:(List AE)) (n:Int) (hn:n=(l.length:Int)) (hl:l.length<20):WrR Tryz.prog 170 1000 [.one (.own 1000 7 l.length),.one (.i n),.one (.clo 160 1 (Aw [.eptr 1 1 (gD [.clo 117 0 dfc]) 0 0]))] 7 l.length (AO AE.c l) 160 (.tup []) (AO AE.c (Sz l n)):=Z5
end
theorem Sy (l:List AE) (n:Int) (hn:n=(l.length:Int)) (hl:l.length<20):(Sz l n).length=l.length:=S9 l n hn hl
def Z0F (l:(List AE)):CT:=(170,([.one (I1 l),.one (.i ((l.length:Nat):Int)),.one (.clo 160 1 (Aw [.eptr 1 1 (fun _ j_=>([.clo 117 0 dfc]:List Cl).getD j_ default) 0 0]))]:List Av).map (IP 1000 1000),wrI 1000 (.row 7 l.length (AO AE.c l) 160) (.tup []) (.row 7 l.length (AO AE.c (Sz l ((l.length:Nat):Int))) 160))
def Rb (l:(List AE)):(List AE):=Sz l ((l.length:Nat):Int)
section
 open Go.Proofs.YtheobjkgllmnmaaGreat renaming Z0F→mp1,nn7→mp2,AE.c→mp3,Qi→mp4,Sz→mp5,pStaQ→mp6,Sy→mp7
 open Go.Proofs.Tryz renaming func159→mp0
theorem pSrtQ (l:(List AE)) (hl:l.length<20):WrR Tryz.prog 159 1000 [.one (.own 1000 7 l.length),.one (.clo 160 1 (Aw [.eptr 1 1 (gD [.clo 117 0 dfc]) 0 0]))] 7 l.length (AO AE.c l) 160 (.tup []) (AO AE.c (Rb l)):=Z4
end
theorem eC (l:List AE) (hl:l.length<20):(Rb l).length=l.length:=Sy l _ rfl hl
theorem nU (l:List AE):Rb l=Cd (fun x y=>decide (NT x y<0)) l:=Wu l _ rfl
def Z0G (out:List AE):CT:=(159,([.one (.own 1000 7 out.length),.one (.clo 160 1 (Aw [.eptr 1 1 (fun _ j_=>([.clo 117 0 dfc]:List Cl).getD j_ default) 0 0]))]:List Av).map (IP 1000 100000),wrI 100000 (.row 7 out.length (AO AE.c out) 160) (.tup []) (.row 7 out.length (AO AE.c (Rb out)) 160))
def GP (l:(List AE)):Nat->List AE->Int->(List AE)
 | 0,_,_=>default
 | n0+1,out,v12=>bif decide ((v12:Int)<(l.length:Int)) then ((GP l n0) (out++[sR (l.getD v12.toNat default)]) (v12+1)) else (Rb out)
def DL (l:(List AE)):(List AE):=GP l (((l.length:Int)-0).toNat+1) ([]:List AE) 0
section
 open Go.Proofs.YtheobjkgllmnmaaGreat renaming nn7→mp1,AE.c→mp2,nn116→mp3,Zp→mp4,nn228→mp5,Qi→mp6,AE→mp7,GP→mp8,DL→mp9,wC→mp10,xJ→mp11,YM→mp12,sR→mp13,okasQ→mp14,Z0G→mp15,Rb→mp16,pSrtQ→mp17,eC→mp18
 open Go.Proofs.Tryz renaming func115→mp0
theorem iJ (l:(List AE)) (hl:l.length<20):Fr Tryz.prog 115 [.one (lst 7 AE.c l),.one (.clo 116 0 dfc),.one (.clo 117 0 dfc)] (.row 7 (DL l).length (AO AE.c (DL l)) 160) (fun d=>tO (.own d 7 (DL l).length)):=Z3
end
def Z0H:CT:=(115,[.one (lst 7 AE.c b.Parts),.one (.clo 116 0 dfc),.one (.clo 117 0 dfc)],.new [] (.row 7 (DL b.Parts).length (AO AE.c (DL b.Parts)) 160) (fun d=>.av (.one (.own d 7 (DL b.Parts).length))))
def A2 (b:AH):(List AE):=DL b.Parts
theorem uR (b:AH) (hl:b.Parts.length<20):Fr Tryz.prog 61 [.agg (AH.c b)] (.row 7 (A2 b).length (AO AE.c (A2 b)) 160) (fun d=>tO (.own d 7 (A2 b).length)):=by
 refine ED Tryz.func61 rfl kr (Er _ _) fun W0 M0 => ?_
 refine AB<|rn ⟨[(1,tP 1 0)],[(1,.cells (AH.c b) 41)]⟩<|AB ?_
 refine rs 5 (Z0H b) ⟨[(2,tO (.own 5 7 (DL b.Parts).length))],[(5,.row 7 (DL b.Parts).length (AO AE.c (DL b.Parts)) 160)]⟩ (Dy (fun _ _=>kr) (iJ b.Parts au4))<|AG<|AW ?_
 exact xl (tO (.own 5 7 (DL b.Parts).length)) (frE (c:=AE.c) (xs:=DL b.Parts) (by rfl) kr)
def mH:CT:=(61,[.agg (AH.c b)],.new [] (.row 7 (A2 b).length (AO AE.c (A2 b)) 160) (fun d=>.av (.one (.own d 7 (A2 b).length))))
theorem qB (b:AH) (hl:b.Parts.length<20):OKc (mH b):=Dy (fun _ _=>kr) (uR b hl)
theorem Wl (l:List AE):DL l=Cd (fun x y=>decide (NT x y<0)) l:=by
 unfold DL
 have h:=dI l (GP l) (fun acc _=>Rb acc) (fun m acc v=>by
  rw [GP,Int.toNat_natCast]
  rfl) l.length 0 ((((l.length:Int))-0).toNat+1) [] rfl (Nat.zero_le _) (by omega)
 rw [List.drop_zero,List.nil_append] at h
 exact h.trans (nU l)
theorem Sq (b:AH):A2 b=Cd (fun x y=>decide (NT x y<0)) b.Parts:=Wl _
theorem Y7 (b:AH):(A2 b).length=b.Parts.length:=by rw [Sq];exact Di _ _
def sQ (t:Ar):Ar:=t
def xI (t:Ar):CT:=(121,[.agg (Ar.c t)],.val [] (.av (.agg (Ar.c (sQ t)))))
theorem pasS (t:Ar):PuP 121 (xI t).2.1 (.av (.agg (Ar.c (sQ t)))):=by
 refine pwf Tryz.func121 fun W0 M0 => ?_
 refine AB<|rn ⟨Fg,[(1,.cells (Ar.c t) 112),(2,.cells [.i 0,.i 0,vN,.i 0] 165)]⟩<|AB ?_
 refine rn ⟨[(2,tP 2 0)],[(2,.cells (Ar.c t) 165)]⟩<|AW ?_
 exact xl (.av (.agg (Ar.c t))) (Aa (by rfl))
theorem okasS (t:Ar):OKc (xI t):=cPu<|pasS t
def nN (t:Ar):Int:=t.Id
def xE (t:Ar):CT:=(122,[.agg (Ar.c t)],.val [] (.av (.one (.i (nN t)))))
theorem pidS (t:Ar):PuP 122 (xE t).2.1 (tO (.i (nN t))):=by
 refine pwf Tryz.func122 fun W0 M0 => ?_
 refine AB<|rn ⟨[(1,tP 1 0)],[(1,.cells (Ar.c t) 165)]⟩<|AB ?_
 refine rn ⟨[(2,tI t.Id)],[]⟩<|AW ?_
 exact xl (tO (.i t.Id)) (Aa (by rfl))
theorem okidS (t:Ar):OKc (xE t):=cPu<|pidS t
def NS (a:Ar) (b_:Ar):Int:=CB (nN a) (nN b_)
section
 open Go.Proofs.YtheobjkgllmnmaaGreat renaming Zo→mp1,Ar.c→mp2,Vk→mp3,xE→mp4,nN→mp5,okidS→mp6
 open Go.Proofs.Tryz renaming func162→mp0
theorem pcmpS  (a:Ar) (b_:Ar):E5 Tryz.prog 162 [.agg (Ar.c a),.agg (Ar.c b_),.one (.eptr 1 1 (gD [.clo 122 0 dfc]) 0 0)] (tO (.i (NS a b_))):=rF
end
def Z0I (data':List Ar) (j:Int):CT:=(162,[.agg (Ar.c (data'.getD j.toNat default)),.agg (Ar.c (data'.getD (W64 (j-1)).toNat default)),.one (.eptr 1 1 (fun _ j_=>([.clo 122 0 dfc]:List Cl).getD j_ default) 0 0)],.val [] (tI (NS (data'.getD j.toNat default) (data'.getD (W64 (j-1)).toNat default))))
def NZ (l:(List Ar)) (n:Int) (data:List Ar) (i:Int) (K0:List Ar->Int->(List Ar)):Nat->List Ar->Int->(List Ar)
 | 0,_,_=>default
 | n1+1,data',j=>bif bif decide ((0:Int)<j) then decide (((NS (data'.getD j.toNat default) (data'.getD (j-1).toNat default)):Int)<0) else false then ((NZ l n data i K0 n1) ((data'.set j.toNat (data'.getD (j-1).toNat default)).set (j-1).toNat (data'.getD j.toNat default)) (j-1)) else (K0 data' (i+1))
def Na (l:(List Ar)) (n:Int):Nat->List Ar->Int->(List Ar)
 | 0,_,_=>default
 | n0+1,data,i=>bif decide ((i:Int)<n) then (NZ l n data i (Na l n n0) (i.toNat+1) data i) else data
def PB (l:(List Ar)) (n:Int):(List Ar):=Na l n ((n-1).toNat+1) l 1
section
 open Go.Proofs.YtheobjkgllmnmaaGreat renaming nn4→mp1,tS→mp2,Zo→mp3,Ar.c→mp4,Vk→mp5,Ar→mp6,Na→mp7,PB→mp8,NZ→mp9,Z0I→mp10,NS→mp11,pcmpS→mp12
 open Go.Proofs.Tryz renaming func187→mp0
theorem pInsS (l:(List Ar)) (n:Int) (hn:n=(l.length:Int)) (hl:l.length<20):WrR Tryz.prog 187 1000 [.one (.own 1000 4 l.length),.one (.i 0),.one (.i n),.one (.clo 162 1 (Aw [.eptr 1 1 (gD [.clo 122 0 dfc]) 0 0]))] 4 l.length (AO Ar.c l) 165 (.tup []) (AO Ar.c (PB l n)):=Z6
end
section
 open Go.Proofs.YtheobjkgllmnmaaGreat renaming PB→mp0,NS→mp1,Na→mp2,NZ→mp3
theorem Wt (l:List Ar) (n:Int) (hn:n=(l.length:Int)):PB l n=Cd (fun x y=>decide (NS x y<0)) l:=kJ
end
theorem S8 (l:List Ar) (n:Int) (hn:n=(l.length:Int)) (hl:l.length<20):(PB l n).length=l.length:=by rw [Wt l n hn,Di]
def Z0J (l:(List Ar)) (n:Int):CT:=(187,([.one (.own 1000 4 l.length),.one (.i 0),.one (.i n),.one (.clo 162 1 (Aw [.eptr 1 1 (fun _ j_=>([.clo 122 0 dfc]:List Cl).getD j_ default) 0 0]))]:List Av).map (IP 1000 1000),wrI 1000 (.row 4 l.length (AO Ar.c l) 165) (.tup []) (.row 4 l.length (AO Ar.c (PB l n)) 165))
def Sx (l:(List Ar)) (n:Int):(List Ar):=PB l n
section
 open Go.Proofs.YtheobjkgllmnmaaGreat renaming nn4→mp1,tS→mp2,Zo→mp3,Ar.c→mp4,Vk→mp5,Z0J→mp6,PB→mp7,pInsS→mp8,S8→mp9,Sx→mp10
 open Go.Proofs.Tryz renaming func171→mp0
theorem pStaS (l:(List Ar)) (n:Int) (hn:n=(l.length:Int)) (hl:l.length<20):WrR Tryz.prog 171 1000 [.one (.own 1000 4 l.length),.one (.i n),.one (.clo 162 1 (Aw [.eptr 1 1 (gD [.clo 122 0 dfc]) 0 0]))] 4 l.length (AO Ar.c l) 165 (.tup []) (AO Ar.c (Sx l n)):=Z5
end
theorem Sw (l:List Ar) (n:Int) (hn:n=(l.length:Int)) (hl:l.length<20):(Sx l n).length=l.length:=S8 l n hn hl
def Z0K (l:(List Ar)):CT:=(171,([.one (.own 1000 4 l.length),.one (.i ((l.length:Nat):Int)),.one (.clo 162 1 (Aw [.eptr 1 1 (fun _ j_=>([.clo 122 0 dfc]:List Cl).getD j_ default) 0 0]))]:List Av).map (IP 1000 1000),wrI 1000 (.row 4 l.length (AO Ar.c l) 165) (.tup []) (.row 4 l.length (AO Ar.c (Sx l ((l.length:Nat):Int))) 165))
def Ra (l:(List Ar)):(List Ar):=Sx l ((l.length:Nat):Int)
section
 open Go.Proofs.YtheobjkgllmnmaaGreat renaming Z0K→mp1,nn4→mp2,Ar.c→mp3,Vk→mp4,Sx→mp5,pStaS→mp6,Sw→mp7
 open Go.Proofs.Tryz renaming func161→mp0
theorem pSrtS (l:(List Ar)) (hl:l.length<20):WrR Tryz.prog 161 1000 [.one (.own 1000 4 l.length),.one (.clo 162 1 (Aw [.eptr 1 1 (gD [.clo 122 0 dfc]) 0 0]))] 4 l.length (AO Ar.c l) 165 (.tup []) (AO Ar.c (Ra l)):=Z4
end
theorem eB (l:List Ar) (hl:l.length<20):(Ra l).length=l.length:=Sw l _ rfl hl
theorem nT (l:List Ar):Ra l=Cd (fun x y=>decide (NS x y<0)) l:=Wt l _ rfl
def Z0L (out:List Ar):CT:=(161,([.one (.own 1000 4 out.length),.one (.clo 162 1 (Aw [.eptr 1 1 (fun _ j_=>([.clo 122 0 dfc]:List Cl).getD j_ default) 0 0]))]:List Av).map (IP 1000 100000),wrI 100000 (.row 4 out.length (AO Ar.c out) 165) (.tup []) (.row 4 out.length (AO Ar.c (Ra out)) 165))
def GO (l:(List Ar)):Nat->List Ar->Int->(List Ar)
 | 0,_,_=>default
 | n0+1,out,v12=>bif decide ((v12:Int)<(l.length:Int)) then ((GO l n0) (out++[sQ (l.getD v12.toNat default)]) (v12+1)) else (Ra out)
def DK (l:(List Ar)):(List Ar):=GO l (((l.length:Int)-0).toNat+1) ([]:List Ar) 0
section
 open Go.Proofs.YtheobjkgllmnmaaGreat renaming nn4→mp1,Ar.c→mp2,nn121→mp3,Zo→mp4,nn233→mp5,Vk→mp6,Ar→mp7,GO→mp8,DK→mp9,Vm→mp10,xI→mp11,qO→mp12,sQ→mp13,okasS→mp14,Z0L→mp15,Ra→mp16,pSrtS→mp17,eB→mp18
 open Go.Proofs.Tryz renaming func120→mp0
theorem iI (l:(List Ar)) (hl:l.length<20):Fr Tryz.prog 120 [.one (lst 4 Ar.c l),.one (.clo 121 0 dfc),.one (.clo 122 0 dfc)] (.row 4 (DK l).length (AO Ar.c (DK l)) 165) (fun d=>tO (.own d 4 (DK l).length)):=Z3
end
def Z0M:CT:=(120,[.one (lst 4 Ar.c b.Slots),.one (.clo 121 0 dfc),.one (.clo 122 0 dfc)],.new [] (.row 4 (DK b.Slots).length (AO Ar.c (DK b.Slots)) 165) (fun d=>.av (.one (.own d 4 (DK b.Slots).length))))
def Bg (b:AH):(List Ar):=DK b.Slots
theorem uQ (b:AH) (hl:b.Slots.length<20):Fr Tryz.prog 64 [.agg (AH.c b)] (.row 4 (Bg b).length (AO Ar.c (Bg b)) 165) (fun d=>tO (.own d 4 (Bg b).length)):=by
 refine ED Tryz.func64 rfl kr (Er _ _) fun W0 M0 => ?_
 refine AB<|rn ⟨[(1,tP 1 0)],[(1,.cells (AH.c b) 41)]⟩<|AB ?_
 refine rs 5 (Z0M b) ⟨[(2,tO (.own 5 4 (DK b.Slots).length))],[(5,.row 4 (DK b.Slots).length (AO Ar.c (DK b.Slots)) 165)]⟩ (Dy (fun _ _=>kr) (iI b.Slots au4))<|AG<|AW ?_
 exact xl (tO (.own 5 4 (DK b.Slots).length)) (frE (c:=Ar.c) (xs:=DK b.Slots) (by rfl) kr)
def mF:CT:=(64,[.agg (AH.c b)],.new [] (.row 4 (Bg b).length (AO Ar.c (Bg b)) 165) (fun d=>.av (.one (.own d 4 (Bg b).length))))
theorem qA (b:AH) (hl:b.Slots.length<20):OKc (mF b):=Dy (fun _ _=>kr) (uQ b hl)
theorem Wk (l:List Ar):DK l=Cd (fun x y=>decide (NS x y<0)) l:=by
 unfold DK
 have h:=dI l (GO l) (fun acc _=>Ra acc) (fun m acc v=>by
  rw [GO,Int.toNat_natCast]
  rfl) l.length 0 ((((l.length:Int))-0).toNat+1) [] rfl (Nat.zero_le _) (by omega)
 rw [List.drop_zero,List.nil_append] at h
 exact h.trans (nT l)
theorem Sp (b:AH):Bg b=Cd (fun x y=>decide (NS x y<0)) b.Slots:=Wk _
theorem Y6 {b:AH} {x:Ar}:x∈Bg b↔x∈b.Slots:=by rw [Sp];exact Qx _ _ _
theorem MX (b:AH):(Bg b).length=b.Slots.length:=by rw [Sp];exact Di _ _
end
section
open Go.RowKit
def nZ (q r:Loc) (b:Nat):Prop:=only q b\/only r b
def WrA (P:Program) (f:FuncId) (vs:List Av) (sz len:Nat) (F:Nat->Nat->Cl) (tyr tyq:TypeId) (len':Nat) (F':Nat->Nat->Cl):Prop :=
 ∀ (M:Nat->Option Obj) (σ:Nat->Loc) (w:World) (args:List Value),(∀ b o,M b=some o->w.heap[b]? = some o)->BX M σ w (σ 1000) (.cells [.own 1001 sz len] tyq)->M (σ 1000).b=none->BX M σ w (σ 1001) (.row sz len F tyr)->((σ 1001).nil=true\/M (σ 1001).b=none)->((σ 1001).nil=true\/(σ 1000).b≠(σ 1001).b)->L2 (RA M σ) (vs++[.one (.ptr 1000 0)]) args ->
  Calls P f args.toArray w fun en w'=>∃ U,en=.returned U/\∃ M' x,Gg w w' M M' (nZ (σ 1000) (σ 1001))/\(x.nil=true\/((only (σ 1001) x.b\/w.heap.size<=x.b)/\M' x.b=none/\x.b≠(σ 1000).b)) /\
   (∀ (σ':Nat->Loc) d,σ' d=x->BX M' σ' w' (σ 1000) (.cells [.own d sz len'] tyq))/\∀ σ',BX M' σ' w' x (.row sz len' F' tyr)
section
variable {P:Program}
theorem PU {q r:Nat} {bq br:Blk} (hqr:q≠r) {n:Nat} {b:Blk} (h:get [(q,bq),(r,br)] n=some b):(n=q/\b=bq)\/(n=r/\b=br):=by
 simp only [get,CS] at h
 by_cases h1:q=n
 ·simp [h1] at h;exact .inl ⟨h1.symm,h.symm⟩
 by_cases h2:r=n
 ·simp [h1,h2] at h;exact .inr ⟨h2.symm,h.symm⟩
 simp [h1,h2] at h
theorem Xg {f:FuncId} {fn:Func} {c:Code} (hf:P.funcs[f]? = some fn) (hb:fn.body=some c) {vs:List Av} {sz len len':Nat} {F F':Nat->Nat->Cl} {tyr tyq:TypeId} (hN:Nat.ble (vs.length+1) fn.ntmps=true) (hK:Nat.ble fn.ntmps 1000=true)
  (h:∀ (W0:World) (M0:Nat->Option Obj) (X:Nat->Option Loc),(∀ k x,X k=some x->Au [1000,1001] k=true)->AWp P none fn.ntmps W0 X M0 c (Rg P fn.ntmps W0 X M0 fn fun r' s'=>∃ d b,Nat.beq d 1000=false/\get s'.h 1000=some (.cells [.own d sz len'] tyq)/\get s'.h d=some b/\ID b (.row sz len' F' tyr)) ⟨Dw 0 (vs++[.one (.ptr 1000 0)]),[(1000,.cells [.own 1001 sz len] tyq),(1001,.row sz len F tyr)]⟩):WrA P f vs sz len F tyr tyq len' F':=by
 intro M σ w args himm hbq hMq hbr hMr hne hargs
 have hK':=Nat.le_of_ble_eq_true hK
 have hN':(vs++[Av.one (.ptr 1000 0)]).length<=fn.ntmps:=by have:=Nat.le_of_ble_eq_true hN;simpa using this
 have hqn:(σ 1000).nil=false:=hbq.1
 obtain ⟨X,hX⟩:∃ X:Nat->Option Loc,X=fun k=>bif Nat.beq k 1000 then some (σ 1000) else bif Nat.beq k 1001 && !(σ 1001).nil then some (σ 1001) else none:=⟨_,rfl⟩
 have hX0:X 1000=some (σ 1000):=by rw [hX];rfl
 have pins:∀ n x,X n=some x->(n=1000/\x=σ 1000)\/(n=1001/\(σ 1001).nil=false/\x=σ 1001):=fun n x hx=>by
  rw [hX] at hx
  simp only at hx
  cases h1:Nat.beq n 1000 with
  | true=>rw [h1] at hx;simp at hx;exact .inl ⟨Nat.eq_of_beq_eq_true h1,hx.symm⟩
  | false =>
   rw [h1] at hx
   cases h2:Nat.beq n 1001 with
   | false=>rw [h2] at hx;simp at hx
   | true =>
    rw [h2] at hx
    cases h3:(σ 1001).nil with
    | true=>rw [h3] at hx;simp at hx
    | false=>rw [h3] at hx;simp at hx;exact .inr ⟨Nat.eq_of_beq_eq_true h2,rfl,hx.symm⟩
 have hX1:(σ 1001).nil=false->X 1001=some (σ 1001):=fun h3=>by rw [hX];simp [h3];rfl
 have hXK:∀ k x,X k=some x->Au [1000,1001] k=true:=fun k x hk=>by
  rcases pins k x hk with ⟨rfl,_⟩ | ⟨rfl,_⟩ <;> rfl
 have hin:∀ b,inX X b->nZ (σ 1000) (σ 1001) b:=fun b ⟨n,x,h1,h2⟩=>by
  rcases pins n x h1 with ⟨_,rfl⟩ | ⟨_,h3,rfl⟩
  ·exact .inl ⟨hqn,h2.symm⟩
  exact .inr ⟨h3,h2.symm⟩
 refine EW (X:=X) (σ:=σ) (h0:=[(1000,.cells [.own 1001 sz len] tyq),(1001,.row sz len F tyr)]) hf hb hN' himm hargs (fun n b hn => ?_) (fun n b hn => ?_) (fun n x hx => ?_) (fun n m b c hn hm hnm => ?_) (DH (h w M X hXK)) ?_
 ·rcases PU (by decide) hn with ⟨rfl,rfl⟩ | ⟨rfl,rfl⟩
  ·exact hbq
  exact hbr
 ·rcases PU (by decide) hn with ⟨rfl,rfl⟩ | ⟨rfl,rfl⟩
  ·exact .inr ⟨hMq,1000,_,hX0,rfl⟩
  cases h3:(σ 1001).nil with
  | true=>exact .inl rfl
  | false =>
   rcases hMr with h4 | h4
   ·rw [h3] at h4;cases h4
   exact .inr ⟨h4,1001,_,hX1 h3,rfl⟩
 ·rcases pins n x hx with ⟨rfl,rfl⟩ | ⟨rfl,_,rfl⟩
  ·exact ⟨hK',rfl⟩
  exact ⟨by omega,rfl⟩
 ·rcases PU (by decide) hn with ⟨rfl,rfl⟩ | ⟨rfl,rfl⟩ <;> rcases PU (by decide) hm with ⟨rfl,rfl⟩ | ⟨rfl,rfl⟩
  ·exact absurd rfl hnm
  ·rcases hne with h4 | h4
   ·exact .inr (.inl h4)
   exact .inr (.inr h4)
  ·rcases hne with h4 | h4
   ·exact .inl h4
   exact .inr (.inr (Ne.symm h4))
  exact absurd rfl hnm
 rintro r' s' M' σ' a' w' U ⟨d,b,hd,h1,h2,h3⟩ hs hR
 have hdn:d≠1000:=fun e=>by subst e;rw [Nat.beq_refl] at hd;cases hd
 have hp:=(hs.pin 1000 _ hX0).2
 refine ⟨U,rfl,M',σ' d,⟨hs.os,hs.tape,hs.output,hs.size,fun b hb hx=>hs.old b hb fun h4=>hx (hin b h4),hs.sub,hs.new,hs.imm⟩,?_,fun σ2 d2 e2 => ?_,fun σ2=>(Jm h3 (hs.blk d b h2):BX M' σ' w' (σ' d) (.row sz len' F' tyr))⟩
 ·cases hnil:(σ' d).nil with
  | true=>exact .inl rfl
  | false =>
   have hq:(σ' d).b≠(σ 1000).b:=by
    rcases hs.inj d 1000 b _ h2 h1 hdn with h4 | h4 | h4
    ·rw [hnil] at h4;cases h4
    ·rw [hp,hqn] at h4;cases h4
    rw [hp] at h4;exact h4
   rcases hs.loc d b h2 with h4 | ⟨h4,h5⟩
   ·rw [hnil] at h4;cases h4
   refine .inr ⟨?_,h4,hq⟩
   rcases h5 with h5 | h5
   ·exact .inr h5
   rcases hin _ h5 with h6 | h6
   ·exact absurd h6.2 hq
   exact .inl h6
 have hb1:=hs.blk 1000 _ h1
 rw [hp] at hb1
 obtain ⟨g0,cc,g1,g2⟩:=hb1
 refine ⟨g0,cc,g1,?_⟩
 cases g2 with
 | cons g3 g4 =>
  cases g4
  refine .cons ?_ .nil
  unfold R at g3 ⊢
  rw [e2];exact g3
section
variable {V:Env P} {rd:Option Nat} {N:Nat} {W0:World} {X:Nat→Option Loc} {M0 M:Nat→Option Obj} {σ:Nat→Loc} {w:World} {a:Act} {Q:Exit→AS→Prop} {s:AS}
def PZ (q r:Nat) (dst:Option Nat) (s:AS):Bool := !Nat.beq q r&&s.t.all (fun p=>p.2.no r&&(match dst with | some d => !Nat.beq p.1 d | none=>true))&&s.h.all fun p=>Nat.beq p.1 q||p.2.no r
def VG (q r:Nat) (bq br:Blk) (s:AS):AS:=⟨s.t,put (put s.h q bq) r br⟩
theorem bL {K:List Nat} {q r:Nat} {dst:Option Nat} {sz len len':Nat} {F F':Nat->Nat->Cl} {tyr tyq:TypeId} {x:Loc} {M':Nat->Option Obj} {w':World} {U:Value} (hX:∀ k x,X k=some x->Au K k=true) (hK:OD K r=true) (hok:PZ q r dst s=true) (hq:get s.h q=some (.cells [.own r sz len] tyq)) (hr:get s.h r=some (.row sz len F tyr))
  (hs:Sim N W0 X M0 M σ (get s.t) (get s.h) a w) (hk:Gg w w' M M' (nZ (σ q) (σ r))) (hx:x.nil=true\/((only (σ r) x.b\/w.heap.size<=x.b)/\M' x.b=none/\x.b≠(σ q).b)) (hbq:∀ (σ':Nat->Loc) d,σ' d=x->BX M' σ' w' (σ q) (.cells [.own d sz len'] tyq)) (hbr:∀ σ',BX M' σ' w' x (.row sz len' F' tyr)) :
  Sim N W0 X M0 M' (upd σ r x) (get (VG q r (.cells [.own r sz len'] tyq) (.row sz len' F' tyr) s).t) (get (VG q r (.cells [.own r sz len'] tyq) (.row sz len' F' tyr) s).h) (a.put dst U) w':=by
 unfold PZ at hok
 simp only [Bool.and_eq_true,Bool.not_eq_true'] at hok
 obtain ⟨⟨hqr',ht⟩,hh⟩:=hok
 have hqr:q≠r:=fun e=>by subst e;rw [Nat.beq_refl] at hqr';cases hqr'
 have hqn:(σ q).nil=false:=(hs.blk q _ hq).1
 have ht':∀ i v,get s.t i=some v->v.no r=true/\(∀ d,dst=some d->i≠d):=fun i v hv=>by
  have h1:=List.all_eq_true.1 ht (i,v) (C6 hv)
  simp only [Bool.and_eq_true] at h1
  refine ⟨h1.1,fun d hd e => ?_⟩
  subst hd e
  have:=h1.2
  simp [Nat.beq_refl] at this
 have hh':∀ n b,get s.h n=some b->n≠q->b.no r=true:=fun n b hb hn=>by
  have h1:=List.all_eq_true.1 hh (n,b) (C6 hb)
  simp only [Bool.or_eq_true] at h1
  rcases h1 with h1 | h1
  ·exact absurd (Nat.eq_of_beq_eq_true h1) hn
  exact h1
 have hXr:∀ k u,X k=some u->k≠r:=fun k u hk' e=>by
  subst e
  have h1:=List.all_eq_true.1 hK k (DE (hX k u hk'))
  simp [Nat.beq_refl] at h1
 have hg:∀ n,get (VG q r (.cells [.own r sz len'] tyq) (.row sz len' F' tyr) s).h n=if r=n then some (.row sz len' F' tyr) else if q=n then some (.cells [.own r sz len'] tyq) else get s.h n:=fun n=>by
  show get (put (put s.h q _) r _) n=_
  rw [JO,JO]
 have hlt:∀ n b,get s.h n=some b->(σ n).nil=false->(σ n).b<w.heap.size:=fun n b hb hn=>(hs.blk n b hb).lt hn
 have hup:∀ n,n≠r->upd σ r x n=σ n:=fun n hn=>CK _ _ hn
 have hMn:∀ b,b<w.heap.size->M b=none->M' b=none:=fun b hb h0=>by
  cases h1:M' b with
  | none=>rfl
  | some o=>have:=hk.new b o h1 h0;omega
 have hsame:∀ n b,get s.h n=some b->n≠q->n≠r->(σ n).nil=false->w'.heap[(σ n).b]? = w.heap[(σ n).b]? := fun n b hb h1 h2 hn=>hk.old _ (hlt n b hb hn) fun h3=>by
  rcases h3 with h3 | h3
  ·rcases hs.inj n q b _ hb hq h1 with h4 | h4 | h4
   ·rw [hn] at h4;cases h4
   ·rw [hqn] at h4;cases h4
   exact h4 h3.2
  rcases hs.inj n r b _ hb hr h2 with h4 | h4 | h4
  ·rw [hn] at h4;cases h4
  ·rw [h3.1] at h4;cases h4
  exact h4 h3.2
 refine ⟨hk.os.trans hs.os,hk.tape.trans hs.tape,hk.output.trans hs.output,Nat.le_trans hs.size hk.size,fun b hb hnx => ?_,fun b o h=>hk.sub b o (hs.sub b o h),fun b o h h0 => ?_,fun n u hu=>⟨(hs.pin n u hu).1,by rw [hup n (hXr n u hu)];exact (hs.pin n u hu).2⟩,?_,?_,fun i v hv => ?_,hk.imm,fun n b hb => ?_,fun n b hb => ?_,fun n m b c hb hc hnm => ?_⟩
 ·refine (hk.old b (Nat.lt_of_lt_of_le hb hs.size) fun h3 => ?_).trans (hs.old b hb hnx)
  rcases h3 with h3 | h3
  ·rcases hs.loc q _ hq with h4 | ⟨_,h4 | h4⟩
   ·rw [hqn] at h4;cases h4
   ·rw [<- h3.2] at h4;omega
   rw [<- h3.2] at h4;exact hnx h4
  rcases hs.loc r _ hr with h4 | ⟨_,h4 | h4⟩
  ·rw [h3.1] at h4;cases h4
  ·rw [<- h3.2] at h4;omega
  rw [<- h3.2] at h4;exact hnx h4
 ·cases h1:M b with
  | some o'=>exact hs.new b o' h1 h0
  | none=>exact Nat.le_trans hs.size (hk.new b o h h1)
 ·have:=hs.defers.mono hk.sub
  cases dst <;> exact this
 ·cases dst with
  | none=>exact hs.room
  | some d=>simpa [Act.put] using hs.room
 ·have h1:=ht' i v hv
  have h2:(a.put dst U).tmps.getD i undef=a.tmps.getD i undef:=by
   cases dst with
   | none=>rfl
   | some d=>simp [Act.put,Array.getD_eq_getD_getElem?,Array.getElem?_setIfInBounds,Ne.symm (h1.2 d rfl)]
  rw [h2]
  exact Da hk.sub (fun d hd=>hup d fun e=>by subst e;rw [h1.1] at hd;cases hd) (hs.tmps i v hv)
 ·rw [hg] at hb
  by_cases h1:r=n
  ·subst h1
   simp only [if_true,Option.some.injEq] at hb
   subst hb
   rw [BH]
   exact hbr _
  simp only [if_neg h1] at hb
  rw [hup n (Ne.symm h1)]
  by_cases h2:q=n
  ·subst h2
   simp only [if_true,Option.some.injEq] at hb
   subst hb
   exact hbq _ r (BH _ _ _)
  simp only [if_neg h2] at hb
  exact (hs.blk n b hb).mono hk.sub (fun d hd=>hup d fun e=>by subst e;rw [hh' n b hb (Ne.symm h2)] at hd;cases hd) (hsame n b hb (Ne.symm h2) (Ne.symm h1))
 ·rw [hg] at hb
  by_cases h1:r=n
  ·subst h1
   rw [BH]
   rcases hx with h3 | ⟨h3,h4,h5⟩
   ·exact .inl h3
   refine .inr ⟨h4,?_⟩
   rcases h3 with h3 | h3
   ·rcases hs.loc r _ hr with h6 | ⟨_,h6⟩
    ·rw [h3.1] at h6;cases h6
    rw [h3.2];exact h6
   exact .inl (Nat.le_trans hs.size h3)
  rw [hup n (Ne.symm h1)]
  obtain ⟨b0,hb0⟩:∃ b0,get s.h n=some b0:=by
   simp only [if_neg h1] at hb
   by_cases h2:q=n
   ·subst h2;exact ⟨_,hq⟩
   simp only [if_neg h2] at hb;exact ⟨_,hb⟩
  cases hn:(σ n).nil with
  | true=>exact .inl rfl
  | false =>
   rcases hs.loc n b0 hb0 with h6 | ⟨h6,h7⟩
   ·rw [hn] at h6;cases h6
   exact .inr ⟨hMn _ (hlt n b0 hb0 hn) h6,h7⟩
 have hold:∀ n b,get (VG q r (.cells [.own r sz len'] tyq) (.row sz len' F' tyr) s).h n=some b->n≠r->∃ b0,get s.h n=some b0:=fun n b hb h1=>by
  rw [hg] at hb
  simp only [if_neg (Ne.symm h1)] at hb
  by_cases h2:q=n
  ·subst h2;exact ⟨_,hq⟩
  simp only [if_neg h2] at hb;exact ⟨_,hb⟩
 have hrm:∀ m b0,get s.h m=some b0->m≠r->x.nil=true\/(σ m).nil=true\/x.b≠(σ m).b:=fun m b0 hb0 hm=>by
  rcases hx with h3 | ⟨h3,h4,h5⟩
  ·exact .inl h3
  cases hn:(σ m).nil with
  | true=>exact .inr (.inl rfl)
  | false =>
   refine .inr (.inr ?_)
   rcases h3 with h3 | h3
   ·rcases hs.inj m r b0 _ hb0 hr hm with h6 | h6 | h6
    ·rw [hn] at h6;cases h6
    ·rw [h3.1] at h6;cases h6
    rw [h3.2];exact Ne.symm h6
   have:=hlt m b0 hb0 hn
   omega
 by_cases h1:n=r
 ·subst h1
  obtain ⟨c0,hc0⟩:=hold m c hc (Ne.symm hnm)
  rw [BH,hup m (Ne.symm hnm)]
  exact hrm m c0 hc0 (Ne.symm hnm)
 obtain ⟨b0,hb0⟩:=hold n b hb h1
 rw [hup n h1]
 by_cases h2:m=r
 ·subst h2
  rw [BH]
  rcases hrm n b0 hb0 h1 with h3 | h3 | h3
  ·exact .inr (.inl h3)
  ·exact .inl h3
  exact .inr (.inr (Ne.symm h3))
 obtain ⟨c0,hc0⟩:=hold m c hc h2
 rw [hup m h2]
 exact hs.inj n m b0 c0 hb0 hc0 hnm
end
end
end
section
open Go.RowKit Go.MapKept
section
variable {P:Program} {V:Env P} {rd:Option Nat} {N:Nat} {W0:World} {X:Nat→Option Loc} {M0 M:Nat→Option Obj} {σ:Nat→Loc} {w:World} {a:Act} {Q:Exit→AS→Prop} {s:AS}
structure nW (P:Program) (o:Oper) (s:AS) (q r sz len:Nat) (F:Nat->Nat->Cl) (tyr tyq:TypeId) (len':Nat) (F':Nat->Nat->Cl):Prop where
 op:∃ c f g k caps vs,o.op=.call c/\c.callee=.value f/\evT (get s.t) f=some (.av (.one (.clo g k caps)))/\B4 k caps=[.one (.ptr q 0)]/\EB (evT (get s.t)) c.args.toList=some vs/\vs.all Av.dv=true/\(∀ args w,(callFunc g args).run P w=.ok (.enter g args) w)/\WrA P g vs sz len F tyr tyq len' F'
 gd:o.guard=none
 ok:PZ q r o.dst s=true
 hq:get s.h q=some (.cells [.own r sz len] tyq)
 hr:get s.h r=some (.row sz len F tyr)
theorem WX {K:List Nat} {o:Oper} {q r sz len len':Nat} {F F':Nat->Nat->Cl} {tyr tyq:TypeId} (hX:∀ k x,X k=some x->Au K k=true) (hK:OD K r=true) (hc:nW P o s q r sz len F tyr tyq len' F') (hs:Sim N W0 X M0 M σ (get s.t) (get s.h) a w) {Kk:Act->World->Prop} {Q':Exit->Act->World->Prop}
  (h:∀ M' σ' a' w',Sim N W0 X M0 M' σ' (get (VG q r (.cells [.own r sz len'] tyq) (.row sz len' F' tyr) s).t) (get (VG q r (.cells [.own r sz len'] tyq) (.row sz len' F' tyr) s).h) a' w'->Kk a' w'):o.wpIn (FW rd) 0 P a w Kk Q':=by
 obtain ⟨⟨c,f,g,k,caps,vs,ho,hcf,hf,hcl,hxs,hdv,heg,hW⟩,hgd,hok,hq,hr⟩:=hc
 have hqn:(σ q).nil=false:=(hs.blk q _ hq).1
 have hqr:q≠r:=fun e=>by
  unfold PZ at hok
  subst e
  simp [Nat.beq_refl] at hok
 have hev:∀ x v,evT (get s.t) x=some v->RT M σ v (a.eval x):=fun x v hv=>Fq hs.tmps hv
 obtain ⟨caps',hfv,hsz,hcaps⟩:=hev f _ hf
 have hargs:=Ji hev _ _ hxs
 have hcl2:L2 (RA M σ) (B4 k caps) caps'.toList:=by
  refine L2.of (by simp [B4,hsz]) fun i x y hx hy => ?_
  have hi:i<k:=by have:=(List.getElem?_eq_some_iff.1 hx).1;simpa [B4] using this
  have:=hcaps i hi
  simp only [B4,List.getElem?_map,List.getElem?_range hi,Option.map_some,Option.some.injEq] at hx
  subst hx
  have hy':caps'.getD i undef=y:=by
   simp only [Array.getD_eq_getD_getElem?]
   rw [<- Array.getElem?_toList,hy];rfl
  rw [hy'] at this
  exact this
 rw [hcl] at hcl2
 have hmap:c.args.map a.eval=(c.args.toList.map a.eval).toArray:=by apply Array.ext';simp
 have happ:(c.args.toList.map a.eval).toArray++caps'=(c.args.toList.map a.eval++caps'.toList).toArray:=by apply Array.ext';simp
 have hres:(resolve a.eval c o.type).run P w=.ok { target:=.fn (.func g) caps',args:=(c.args.toList.map a.eval).toArray } w:=by
  simp only [resolve,hcf,hfv,Deferred.ofValue,hmap]
  simp
 let σ2:Nat->Loc:=upd (upd σ 1000 (σ q)) 1001 (σ r)
 have e0:σ2 1000=σ q:=by show upd (upd σ 1000 (σ q)) 1001 (σ r) 1000=_;rw [CK _ _ (by decide),BH]
 have e1:σ2 1001=σ r:=BH _ _ _
 have hbq:=hs.blk q _ hq
 have hbq2:BX M σ2 w (σ2 1000) (.cells [.own 1001 sz len] tyq):=by
  rw [e0]
  obtain ⟨g0,cc,g1,g2⟩:=hbq
  refine ⟨g0,cc,g1,?_⟩
  cases g2 with
  | cons g3 g4 =>
   cases g4
   refine .cons ?_ .nil
   unfold R at g3 ⊢
   rw [e1];exact g3
 have hMq:M (σ2 1000).b=none:=by
  rw [e0]
  rcases hs.loc q _ hq with h1 | h1
  ·rw [hqn] at h1;cases h1
  exact h1.1
 have hMr:(σ2 1001).nil=true\/M (σ2 1001).b=none:=by
  rw [e1]
  exact (hs.loc r _ hr).imp id And.left
 have hne:(σ2 1001).nil=true\/(σ2 1000).b≠(σ2 1001).b:=by
  rw [e0,e1]
  rcases hs.inj q r _ _ hq hr hqr with h1 | h1 | h1
  ·rw [hqn] at h1;cases h1
  ·exact .inl h1
  exact .inr h1
 have hL:L2 (RA M σ2) (vs++[.one (.ptr 1000 0)]) (c.args.toList.map a.eval++caps'.toList):=by
  refine L2.append (hargs.mono fun x hx u hu=>HU (r:=.av x) (List.all_eq_true.1 hdv x hx) hu) ?_
  generalize caps'.toList=cl at hcl2
  cases hcl2 with
  | cons h1 h2 =>
   cases h2
   refine .cons ?_ .nil
   have h1:_=Value.pointer (some ⟨(σ q).b,0,none⟩):=h1
   subst h1
   show Value.pointer (some ⟨(σ q).b,0,none⟩)=Value.pointer (some ⟨(σ2 1000).b,0,none⟩)
   rw [e0]
 have hd:ZB P o a w fun U w'=>∃ M' x,Gg w w' M M' (nZ (σ q) (σ r))/\(x.nil=true\/((only (σ r) x.b\/w.heap.size<=x.b)/\M' x.b=none/\x.b≠(σ q).b))/\(∀ (σ':Nat->Loc) d,σ' d=x->BX M' σ' w' (σ q) (.cells [.own d sz len'] tyq))/\∀ σ',BX M' σ' w' x (.row sz len' F' tyr):=by
  refine .inr (.inr ⟨g,(c.args.toList.map a.eval++caps'.toList).toArray,?_,?_⟩)
  ·simp only [execOp,ho,Sem.run_bind,hres,Result.andThen_ok,invoke,happ]
   exact heg _ _
  refine (hW M σ2 w _ hs.imm hbq2 hMq (by rw [e1];exact hs.blk r _ hr) hMr hne hL).mono ?_
  rintro en w' ⟨U,rfl,M',x,h1,h2,h3,h4⟩
  rw [e0,e1] at h1 h2
  rw [e0] at h3
  exact ⟨U,rfl,M',x,h1,h2,h3,h4⟩
 refine hd.wp (fun U w' ⟨M',x,h1,h2,h3,h4⟩=>h M' _ _ w' (bL hX hK hok hq hr hs h1 h2 h3 h4)) (fun c' hc'=>by rw [ho] at hc';cases hc')
theorem dS {K:List Nat} {ops:Array Oper} {o:Oper} {l:List Oper} {Kk:AS->Prop} {q r sz len len':Nat} {F F':Nat->Nat->Cl} {tyr tyq:TypeId} (S:AS) (hX:∀ k x,X k=some x->Au K k=true) (hK:OD K r=true) (hc:nW P o s q r sz len F tyr tyq len' F') (hS:VG q r (.cells [.own r sz len'] tyq) (.row sz len' F' tyr) s=S)
  (h:AWL P rd N W0 X M0 ops l Kk S):AWL P rd N W0 X M0 ops (o::l) Kk s:=by
 subst hS
 intro M σ a w hs Q' hQ'
 refine wpListIn_step fun K0 hK' => ?_
 rw [if_pos (by simp [Region.wanted,hc.gd])]
 exact WX hX hK hc hs fun M' σ' a' w' h1=>hK' _ _ (h M' σ' a' w' h1 Q' hQ')
theorem Uv {K:List Nat} (hm:P.follows .mixedOrders=true) {E:TypeId->Option (List Kd)} (hE:Io P ⟨fun _=>none,E,fun _=>false,fun _=>none⟩) {id:Nat} {l:List Oper} (k:Nat) {o:Oper} (ho1:l[k]? = some o) (hk1:Nat.beq (k+1) l.length=true) (ow:List Nat) (qs:List (Nat×(Bool×Nat))) (tbl:List (Nat×FuncId×List Av×Ef)) (ts ns:List Nat) (cs:List Prop) (S1 S:AS) (htbl:Gm P tbl)
  (hr1:H5 P ⟨EI tbl,E,Au ow,get qs⟩ N (l.take k) ts ns s=some (cs,S1)) (hd:Q9 P ⟨EI tbl,E,Au ow,get qs⟩ N (l.take k) s=true) (hc:Bi cs) (hms:Vw (l.take k) o []=true) {q r sz len len':Nat} {F F':Nat->Nat->Cl} {tyr tyq:TypeId} (hX:∀ k x,X k=some x->Au K k=true) (hK:OD K r=true) (hca:nW P o S1 q r sz len F tyr tyq len' F')
  (hS:VG q r (.cells [.own r sz len'] tyq) (.row sz len' F' tyr) S1=S) (h:Q .normal S):AWp P rd N W0 X M0 (.region id l.toArray true) Q s:=by
 have hl:l=l.take k++[o]:=by
  obtain ⟨hk,ho2⟩:=List.getElem?_eq_some_iff.1 ho1
  have hk2:=Nat.eq_of_beq_eq_true hk1
  have h3:l.drop (k+1)=[]:=List.drop_eq_nil_of_le (by omega)
  have h4:=List.take_append_drop k l
  rw [List.drop_eq_getElem_cons hk,h3,ho2] at h4
  exact h4.symm
 clear ho1 hk1
 generalize hl1:l.take k=l1 at *
 subst hl hS
 have hV:=htbl.env (O:=Au ow) (q:=get qs) hE
 simp only [Vw,Bool.and_eq_true] at hms
 obtain ⟨⟨⟨hback,hk⟩,hlt⟩,hgs⟩:=hms
 have hguard:∀ x∈l1++[o],x.guard=none:=fun x hx=>by
  have:=List.all_eq_true.1 hgs x hx
  cases hg:x.guard with
  | none=>rfl
  | some _=>rw [hg] at this;cases this
 intro M σ a w hs
 unfold H5 at hr1
 split at hr1
 ·rename_i cs1 s1 h1
  simp only [Option.some.injEq,Prod.mk.injEq] at hr1
  obtain ⟨rfl,rfl⟩:=hr1
  obtain ⟨e1,hruns⟩:=JE (s0:=s) l1 0 s s1 cs1 (fun j=>by rw [Nat.zero_add]) rfl h1 hc
  simp only [Nat.zero_add] at e1 hruns
  obtain ⟨hback1,hord⟩:=L1 hd
  have hrep:∀ (n j:Nat),(Array.replicate n false).getD j false=false:=fun n j=>by
   by_cases hj':j<n
   ·simp [hj']
   simp [hj']
  have hs0:Sim N W0 X M0 M σ (get s.t) (get s.h) a { w with drawn:=w.drawn+1 }:=⟨hs.os,hs.tape,hs.output,hs.size,hs.old,hs.sub,hs.new,hs.pin,hs.defers,hs.room,hs.tmps,hs.imm,fun n b hb=>(hs.blk n b hb).mono (fun _ _ h=>h) (fun _ _=>rfl) (fun _=>rfl),hs.loc,hs.inj⟩
  have hinv:Wf P ⟨EI tbl,E,Au ow,get qs⟩ N W0 X M0 l1 s (Array.replicate (l1++[o]).toArray.size false) a { w with drawn:=w.drawn+1 } :=
   ⟨M,σ,get s.t,get s.h,hs0,fun x=>⟨0,Nat.zero_le _,fun j o hj hd=>⟨fun hh=>(by rw [hrep] at hh;cases hh),fun hh=>absurd hh (by omega)⟩,rfl⟩,fun m=>⟨0,Nat.zero_le _,fun j o hj hd=>⟨fun hh=>(by rw [hrep] at hh;cases hh),fun hh=>absurd hh (by omega)⟩,rfl⟩⟩
  refine wpIn_region_any hm (WD (l2:=[]) hV hruns hback1 hord hback (fun j hj=>List.all_eq_true.1 hk j (List.mem_range.2 hj)) (fun i h3 h4=>by simp at h4;omega) (fun x hx=>hguard x (List.mem_append_left _ hx)) (fun f L a1 w1 hsz hall hcnt hsim => ?_) _ _ a _ (by simp) (fun j oj _ hd=>by rw [hrep] at hd;cases hd) (fun j _=>hrep _ j) (Nat.le_trans List.countP_le_length (by simp)) hinv)
  obtain ⟨M1,σ1,hs2⟩:=hsim
  rw [<- e1] at hs2
  have hs2:=EA hs2 ts ns
  have hok:(l1++[o]).toArray[l1.length]? = some o:=by simp
  unfold wpOpIn
  rw [hok]
  have hw:∀ ys,Region.wanted o ys=true:=fun ys=>by simp [Region.wanted,hguard o (by simp)]
  simp only [hw,if_true]
  refine WX hX hK hca hs2 fun M' σ' a' w' h5 => ?_
  exact VB hback (by simp) hsz hall hcnt (fun x hx=>by cases hx) (fun _=>⟨_,M',σ',h,h5⟩) (fun u hu=>by cases hu)
 cases hr1
end
end
end Go.Proofs.YtheobjkgllmnmaaGreat
