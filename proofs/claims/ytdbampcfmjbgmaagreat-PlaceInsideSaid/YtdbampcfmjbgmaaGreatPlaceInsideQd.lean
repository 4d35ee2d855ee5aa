/-
  No statement is proved in this text. It holds a part of what the proof of PlaceInside needs.
-/
import Derived.Test.YtdbampcfmjbgmaaGreatPlaceInsideQc
namespace Go.Proofs.YtdbampcfmjbgmaaGreat
set_option maxRecDepth 100000
set_option linter.unusedVariables false
set_option linter.unusedSimpArgs false
section
open Go.RowKit
def FJ (x:Int):Bool := !decide ((x:Int)=x)
def L8 (x:Int):FuncId×List Av×Ef:=(97,[.one (.i x)],.val [] (.av (.one (.b (FJ x)))))
theorem gV (x:Int):BH Tryz.prog 97 (L8 x).2.1 (tO (.b (FJ x))):=by
 refine AO Tryz.func97 rfl kr kr fun W0 M0 => ?_
 refine AC<|rn ⟨[(0,tI x)],[]⟩<|AC ?_
 refine rn ⟨[(2,tB (!decide ((x:Int)=x)))],[]⟩<|AZ ?_
 exact ⟨_,Cv.refl _,.inl rfl,tO (.b (!decide ((x:Int)=x))),by kernel_rfl,Ad (by rfl)⟩
theorem Vg (x:Int):Aq Tryz.prog (L8 x).1 (L8 x).2.1 (L8 x).2.2:=AR (fun _ _=>kr) fun _=>gV x
def Dn (x:Int) (y:Int):Int:=bif FJ x then (bif FJ y then 0 else (-1)) else (bif FJ y then 1 else (bif decide ((x:Int)<y) then (-1) else (bif decide ((y:Int)<x) then 1 else 0)))
def I5 (x:Int) (y:Int):FuncId×List Av×Ef:=(60,[.one (.i x),.one (.i y)],.val [] (.av (.one (.i (Dn x y)))))
theorem Ys (x:Int) (y:Int):BH Tryz.prog 60 (I5 x y).2.1 (tO (.i (Dn x y))):=by
 refine AO Tryz.func60 rfl kr kr fun W0 M0 => ?_
 refine AC<|rn ⟨[(0,tI x),(1,tI y)],[]⟩<|AC ?_
 refine rs 8 (L8 x) ⟨[(0,tI x),(1,tI y),(5,tB (FJ x))],[]⟩ (Vg x)<|AH<|AC ?_
 refine rs 10 (L8 y) ⟨[(0,tI x),(1,tI y),(5,tB (FJ x)),(6,tB (FJ y))],[]⟩ (Vg y)<|AH ?_
 refine AC<|AC ?_
 refine rn ⟨[(0,tI x),(1,tI y),(6,tB (FJ y)),(11,tB (FJ x))],[]⟩ ?_
 refine AY _ rfl (fun h1 => ?_) (fun h1 => ?_)
 ·refine AC<|AC ?_
  refine rn ⟨[(12,tB (FJ y))],[]⟩ ?_
  refine AY _ rfl (fun h2 => ?_) (fun h2 => ?_)
  ·refine AC<|rn ⟨[(4,tI 0)],[]⟩ ?_
   refine AZ<|A9<|A9 ?_
   exact ⟨_,Cv.refl _,.inl rfl,tO (.i 0),by kernel_rfl,Ad (by first | (simp only [Dn,h1,h2,cond_true,cond_false] <;> rfl))⟩
  ·refine Ae<|AH<|AC ?_
   refine rn ⟨[(4,tI (-1))],[]⟩ ?_
   refine AZ<|A9 ?_
   exact ⟨_,Cv.refl _,.inl rfl,tO (.i (-1)),by kernel_rfl,Ad (by first | (simp only [Dn,h1,h2,cond_true,cond_false] <;> rfl))⟩
 ·refine Ae<|AH ?_
  refine AC<|AC ?_
  refine rn ⟨[(0,tI x),(1,tI y),(13,tB (FJ y))],[]⟩ ?_
  refine AY _ rfl (fun h2 => ?_) (fun h2 => ?_)
  ·refine AC<|rn ⟨[(4,tI 1)],[]⟩ ?_
   refine AZ<|A9 ?_
   exact ⟨_,Cv.refl _,.inl rfl,tO (.i 1),by kernel_rfl,Ad (by first | (simp only [Dn,h1,h2,cond_true,cond_false] <;> rfl))⟩
  ·refine Ae<|AH ?_
   refine AC<|AC ?_
   refine rn ⟨[(0,tI x),(1,tI y),(16,tB (decide ((x:Int)<y)))],[]⟩ ?_
   refine AY _ rfl (fun h3 => ?_) (fun h3 => ?_)
   ·have g3:=oT h3
    refine AC<|rn ⟨[(4,tI (-1))],[]⟩ ?_
    refine AZ<|A9 ?_
    exact ⟨_,Cv.refl _,.inl rfl,tO (.i (-1)),by kernel_rfl,Ad (by first | (simp only [Dn,h1,h2,h3,cond_true,cond_false] <;> rfl))⟩
   ·have g3:=oF h3
    refine Ae<|AH ?_
    refine AC<|AC ?_
    refine rn ⟨[(19,tB (decide ((y:Int)<x)))],[]⟩ ?_
    refine AY _ rfl (fun h4 => ?_) (fun h4 => ?_)
    ·have g4:=oT h4
     refine AC<|rn ⟨[(4,tI 1)],[]⟩ ?_
     refine AZ<|A9 ?_
     exact ⟨_,Cv.refl _,.inl rfl,tO (.i 1),by kernel_rfl,Ad (by first | (simp only [Dn,h1,h2,h3,h4,cond_true,cond_false] <;> rfl))⟩
    ·have g4:=oF h4
     refine Ae<|AH<|AC ?_
     refine rn ⟨[(4,tI 0)],[]⟩<|AZ ?_
     exact ⟨_,Cv.refl _,.inl rfl,tO (.i 0),by kernel_rfl,Ad (by first | (simp only [Dn,h1,h2,h3,h4,cond_true,cond_false] <;> rfl))⟩
theorem Wy (x:Int) (y:Int):Aq Tryz.prog (I5 x y).1 (I5 x y).2.1 (I5 x y).2.2:=AR (fun _ _=>kr) fun _=>Ys x y
def Mi (x:AG) (y:AG):Int:=Dn x.Id y.Id
def QI (x:AG) (y:AG):FuncId×List Av×Ef:=(59,[.agg (AG.c x),.agg (AG.c y)],.val [] (.av (.one (.i (Mi x y)))))
abbrev Il:List (Nat×Tv):=[(2,tP 2 0),(3,tP 3 0)]
theorem pcmpP (x:AG) (y:AG):BH Tryz.prog 59 (QI x y).2.1 (tO (.i (Mi x y))):=by
 refine AO Tryz.func59 rfl kr kr fun W0 M0 => ?_
 refine AC<|rn ⟨Il,[(2,.cells (AG.c x) 49),(3,.cells (AG.c y) 49)]⟩<|AC ?_
 refine rs 9 (I5 x.Id y.Id) ⟨[(4,tI (Dn x.Id y.Id))],[]⟩ (Wy x.Id y.Id)<|AH<|AZ ?_
 exact ⟨_,Cv.refl _,.inl rfl,tO (.i (Dn x.Id y.Id)),by kernel_rfl,Ad (by rfl)⟩
theorem iO (x:AG) (y:AG):Aq Tryz.prog (QI x y).1 (QI x y).2.1 (QI x y).2.2:=AR (fun _ _=>kr) fun _=>pcmpP x y
def Gf (l:(List AG)) (n:Int) (data:List AG) (i:Int) (K0:List AG->Int->(List AG)):Nat->List AG->Int->(List AG)
 | 0,_,_=>default
 | n1+1,data',j=>bif bif decide ((0:Int)<j) then decide (((Mi (data'.getD j.toNat default) (data'.getD (j-1).toNat default)):Int)<0) else false then ((Gf l n data i K0 n1) ((data'.set j.toNat (data'.getD (j-1).toNat default)).set (j-1).toNat (data'.getD j.toNat default)) (j-1)) else (K0 data' (i+1))
def EI (l:(List AG)) (n:Int):Nat->List AG->Int->(List AG)
 | 0,_,_=>default
 | n0+1,data,i=>bif decide ((i:Int)<n) then (Gf l n data i (EI l n n0) (i.toNat+1) data i) else data
def E6 (l:(List AG)) (n:Int):(List AG):=EI l n ((n-1).toNat+1) l 1
abbrev FT (j:Int):Bool:=(decide ((0:Int)<j))
abbrev QZ (data':List AG) (j:Int):=data'.set j.toNat (data'.getD (j-1).toNat default)
abbrev J0 (data':List AG) (j:Int):=data'.getD j.toNat default
abbrev YF (data':List AG) (j:Int):Nat×Blk:=(1000,.row 7 ((QZ data' j).set (j-1).toNat (J0 data' j)).length (Ak AG.c ((QZ data' j).set (j-1).toNat (J0 data' j))) 49)
abbrev J5 (l:List AG):Cl:=.own 1000 7 l.length
abbrev QY (l:List AG):Nat×Blk:=(1000,.row 7 l.length (Ak AG.c l) 49)
theorem au2 {p:Prop} (h:p:=by first | (simp;done) | (simp;omega)):p:=h
theorem lr {p:Prop} (h:p:=by repeat (first | exact .nil | refine .cons ⟨rfl,.refl _⟩ ?_)):p:=h
theorem pInsP (l:(List AG)) (n:Int) (hn:n=(l.length:Int)) (hl:l.length<20):WrR Tryz.prog 106 1000 [.one (.own 1000 7 l.length),.one (.i 0),.one (.i n),.one (.clo 59 0 (fun _=>default))] 7 l.length (Ak AG.c l) 49 (.tup []) (Ak AG.c (E6 l n)):=by
 refine KK Tryz.func106 rfl kr kr kr fun W0 M0 X hX => ?_
 refine AC<|rn ⟨[(0,tO (J5 l)),(1,tI 0),(2,tI n),(3,.av (.one (.clo 59 0 (fun _=>default)))),(8,tI 1)],[(QY l)]⟩<|Af ?_
 refine BL (ι:=Nat×List AG×Int) (fun x=>⟨[(0,tO (.own 1000 7 x.2.1.length)),(1,tI 0),(2,tI n),(3,.av (.one (.clo 59 0 (fun _=>default)))),(8,tI x.2.2)],[(1000,.row 7 x.2.1.length (Ak AG.c x.2.1) 49)]⟩) (fun x=>(n-x.2.2).toNat<x.1/\(1<=x.2.2/\x.2.1.length=l.length/\1<=x.2.2/\(x.2.2<=n\/x.2.2=1))/\EI l n x.1 x.2.1 x.2.2=E6 l n) (fun x=>x.1) ?_ ((n-1).toNat+1,l,1) ⟨Nat.lt_succ_self _,⟨ax0,ax0,ax0,ax0⟩,(by simp only [E6,cond_true,cond_false])⟩
 rintro ⟨n0,data,i⟩ ⟨hn,hinv,hF⟩
 have hm0:=hn;have hinv0:=hinv;have hF0:=hF;try dsimp only at hm0 hinv0 hF0
 clear hn hinv hF
 cases n0 with
 | zero=>exact absurd hm0 (Nat.not_lt_zero _)
 | succ n0 =>
  refine AC<|AC ?_
  refine rn ⟨[(0,tO (.own 1000 7 data.length)),(1,tI 0),(2,tI n),(3,.av (.one (.clo 59 0 (fun _=>default)))),(8,tI i),(14,tB (decide ((i:Int)<n)))],[(1000,.row 7 data.length (Ak AG.c data) 49)]⟩ ?_
  refine AY _ rfl (fun h1 => ?_) (fun h1 => ?_)
  ·have g1:=oT h1
   refine Ae<|AH ?_
   refine AC<|Af<|AC ?_
   refine rn ⟨[(0,tO (.own 1000 7 data.length)),(1,tI 0),(2,tI n),(3,.av (.one (.clo 59 0 (fun _=>default)))),(8,tI i),(9,tI i)],[(1000,.row 7 data.length (Ak AG.c data) 49)]⟩<|Af ?_
   refine BL (ι:=Nat×List AG×Int) (fun x=>⟨[(0,tO (.own 1000 7 x.2.1.length)),(1,tI 0),(2,tI n),(3,.av (.one (.clo 59 0 (fun _=>default)))),(8,tI i),(9,tI x.2.2)],[(1000,.row 7 x.2.1.length (Ak AG.c x.2.1) 49)]⟩) (fun x=>x.2.2.toNat<x.1/\(0<=x.2.2/\x.2.1.length=l.length/\x.2.2<n)/\Gf l n data i (EI l n n0) x.1 x.2.1 x.2.2=E6 l n) (fun x=>x.1) ?_ (i.toNat+1,data,i) ⟨Nat.lt_succ_self _,⟨ax0,ax0,ax0⟩,(by rw [<- hF0];simp only [EI,h1,cond_true,cond_false])⟩
   rintro ⟨n1,data',j⟩ ⟨hn,hinv,hF⟩
   have hm1:=hn;have hinv1:=hinv;have hF1:=hF;try dsimp only at hm1 hinv1 hF1
   clear hn hinv hF
   cases n1 with
   | zero=>exact absurd hm1 (Nat.not_lt_zero _)
   | succ n1 =>
    refine AC<|AC ?_
    refine dw [] [(32,QI (J0 data' j) (data'.getD (W64 (j-1)).toNat default))] [gt (FT j),gt (FT j),gk (FT j) (0<=(j:Int)/\(j:Int)<((data'.length:Nat):Int)),gt (FT j),gk (FT j) (j.toNat<data'.length),gt (FT j),gt (FT j),gt (FT j),gk (FT j) (0<=(W64 (j-1):Int)/\(W64 (j-1):Int)<((data'.length:Nat):Int)),gt (FT j),gk (FT j) ((W64 (j-1)).toNat<data'.length),gt (FT j),gt (FT j),gt (FT j),gk (FT j) (Ap (QI (data'.getD j.toNat default) (data'.getD (W64 (j-1)).toNat default)).2.1),gt (FT j),gt (FT j)] ⟨[(0,tO (.own 1000 7 data'.length)),(1,tI 0),(2,tI n),(3,.av (.one (.clo 59 0 (fun _=>default)))),(8,tI i),(9,tI j),(34,tB (bif decide ((0:Int)<j) then decide (((Mi (J0 data' j) (data'.getD (W64 (j-1)).toNat default)):Int)<0) else false))],[(1000,.row 7 data'.length (Ak AG.c data') 49)]⟩ (.cons (iO (data'.getD j.toNat default) (data'.getD (W64 (j-1)).toNat default)) .nil) (ci (ci (.cons (fun hG=>by first | exact au0 | (simp only [decide_eq_true_eq,decide_eq_false_iff_not,Bool.not_eq_true,Bool.and_eq_true] at hG <;> omega) | (simp at hG <;> omega) | (simp only [decide_eq_true_eq,decide_eq_false_iff_not] at hG;simp only [Ci];omega)) (ci (.cons (fun hG=>by first | exact au0 | (simp only [decide_eq_true_eq,decide_eq_false_iff_not,Bool.not_eq_true,Bool.and_eq_true] at hG <;> omega) | (simp at hG <;> omega) | (simp only [decide_eq_true_eq,decide_eq_false_iff_not] at hG;simp only [Ci];omega)) (ci (ci (ci (.cons (fun hG=>by first | exact au0 | (simp only [decide_eq_true_eq,decide_eq_false_iff_not,Bool.not_eq_true,Bool.and_eq_true] at hG <;> omega) | (simp at hG <;> omega) | (simp only [decide_eq_true_eq,decide_eq_false_iff_not] at hG;simp only [Ci];omega)) (ci (.cons (fun hG=>by first | exact au0 | (simp only [decide_eq_true_eq,decide_eq_false_iff_not,Bool.not_eq_true,Bool.and_eq_true] at hG <;> omega) | (simp at hG <;> omega) | (simp only [decide_eq_true_eq,decide_eq_false_iff_not] at hG;simp only [Ci];omega)) (ci (ci (ci (.cons (fun _=>rfl) (ci (ci .nil))))))))))))))))) ?_
    (try rw [(show W64 (j-1)=j-1 from Al (by omega) (by omega))])
    refine AH ?_
    refine AY _ rfl (fun h2 => ?_) (fun h2 => ?_)
    ·have g2:=Rq h2
     refine Ae<|AH ?_
     refine AC<|Af ?_
     refine dw [] [] [0<=(W64 (j-1):Int)/\(W64 (j-1):Int)<((data'.length:Nat):Int),(W64 (j-1)).toNat<data'.length,0<=(j:Int)/\(j:Int)<((data'.length:Nat):Int),j.toNat<data'.length,0<=(j:Int)/\(j:Int)<((data'.length:Nat):Int),j.toNat<data'.length,0<=(W64 (j-1):Int)/\(W64 (j-1):Int)<((data'.length:Nat):Int),(W64 (j-1)).toNat<data'.length] ⟨[(0,tO (.own 1000 7 data'.length)),(1,tI 0),(2,tI n),(3,.av (.one (.clo 59 0 (fun _=>default)))),(8,tI i),(9,tI j)],[(1000,.row 7 data'.length (fun i_ j_=>if i_=(W64 (j-1)).toNat/\0<=j_/\j_<0+7 then ((AG.c (J0 data' j)):List Cl).getD (j_-0) default else (fun i_ j_=>if i_=j.toNat/\0<=j_/\j_<0+7 then ((AG.c (data'.getD (W64 (j-1)).toNat default)):List Cl).getD (j_-0) default else (Ak AG.c data') i_ j_) i_ j_) 49)]⟩ .nil (.cons au0 (.cons au0 (.cons au0 (.cons au0 (.cons au0 (.cons au0 (.cons au0 (.cons au0 .nil)))))))) ?_
     (try rw [(show W64 (j-1)=j-1 from Al (by omega) (by omega))])
     refine BZ<|AH ?_
     refine Bq (Cv.trans (BS (⟨[(0,tO (.own 1000 7 ((QZ data' j).set (j-1).toNat (J0 data' j)).length)),(1,tI 0),(2,tI n),(3,.av (.one (.clo 59 0 (fun _=>default)))),(8,tI i),(9,tI j)],[(YF data' j)]⟩) (.cons ⟨rfl,.av (.one (.own _ _ au2))⟩ lr) (.cons ⟨rfl,Aw 49 (Ny (l:=(AG.c (data'.getD j.toNat default))) (off:=0) (q:=7) (k:=(j-1).toNat) (Ny (l:=(AG.c (data'.getD (j-1).toNat default))) (off:=0) (q:=7) (k:=j.toNat) (BR 7 AG.c data') au0 (data'.getD (j-1).toNat default) (Gq kr)) au0 (data'.getD j.toNat default) (Gq kr))⟩ .nil)) (Cv.refl _)) ?_
     refine rg ⟨[(0,tO (.own 1000 7 ((QZ data' j).set (j-1).toNat (J0 data' j)).length)),(1,tI 0),(2,tI n),(3,.av (.one (.clo 59 0 (fun _=>default)))),(8,tI i),(9,tI (W64 (j-1)))],[(YF data' j)]⟩ ?_
     (try rw [(show W64 (j-1)=j-1 from Al (by omega) (by omega))])
     refine AH ?_
     refine ⟨(n1,(data'.set j.toNat (data'.getD (j-1).toNat default)).set (j-1).toNat (data'.getD j.toNat default),j-1),⟨?_,?_,(by rw [<- hF1];simp only [Gf,h2,cond_true,cond_false])⟩,Nat.lt_succ_self _,A4 kr⟩
     ·show (j-1).toNat<n1;omega
     ·exact ⟨ax0,ax0,ax0⟩
    ·refine BP<|BE ?_
     refine BE<|BQ ?_
     refine BZ<|AH ?_
     refine rg ⟨[(0,tO (.own 1000 7 data'.length)),(1,tI 0),(2,tI n),(3,.av (.one (.clo 59 0 (fun _=>default)))),(8,tI (W64 (i+1)))],[(1000,.row 7 data'.length (Ak AG.c data') 49)]⟩ ?_
     (try rw [(show W64 (i+1)=i+1 from Al (by omega) (by omega))])
     refine AH ?_
     refine ⟨(n0,data',i+1),⟨?_,?_,(by rw [<- hF1];simp only [Gf,h2,cond_true,cond_false])⟩,Nat.lt_succ_self _,A4 kr⟩
     ·show (n-(i+1)).toNat<n0;omega
     ·exact ⟨ax0,ax0,ax0,ax0⟩
  ·have g1:=oF h1
   refine BP<|BE ?_
   refine BE<|BQ ?_
   exact ⟨_,Cv.refl _,.inr rfl,.tup [],by kernel_rfl,Ad rfl,.row 7 data.length (Ak AG.c data) 49,by kernel_rfl,Kb (c:=AG.c) (xs:=data) (by rw [<- hF0];first | (simp only [EI,h1,cond_true,cond_false] <;> rfl)) (by first | omega | (simp only [List.length_set];omega) | simp)⟩
theorem Th (l:List AG) (n:Int) (hn:n=(l.length:Int)):E6 l n=GR (fun x y=>decide (Mi x y<0)) l:=by
 unfold E6
 cases l with
 | nil=>subst hn;rfl
 | cons a l =>
  have h:=jJ (fun x y=>decide (Mi x y<0)) (a::l) (EI (a::l) n) id (fun m d i hi=>by
   rw [EI,decide_eq_false (by omega),cond_false];rfl) (fun m i out rest x hi ho=>by
   rw [EI,decide_eq_true (by omega),cond_true]
   have h1:=jI (fun x y=>decide (Mi x y<0)) (Gf (a::l) n (out++x::rest) i (EI (a::l) n m)) (fun d=>EI (a::l) n m d ((i:Int)+1)) (fun m d j=>by
    rw [Gf,Int.toNat_natCast,show ((j:Int)-1).toNat=j-1 by omega]) out rest x i ((i:Int).toNat+1) (by omega) (by omega)
   subst ho
   rw [List.take_length,List.drop_length,List.nil_append] at h1
   rw [h1]
   unfold S6
   rw [List.append_assoc];rfl) ((a::l).length-1) ((n-1).toNat+1) 1 rfl (by simp) (by omega)
  exact h
theorem Ja (l:List AG) (n:Int) (hn:n=(l.length:Int)) (hl:l.length<20):(E6 l n).length=l.length:=by rw [Th l n hn,Oc]
abbrev Ni (l:List AG):Blk:=.row 7 l.length (Ak AG.c l) 49
def Z0i (l:(List AG)) (n:Int):FuncId×List Av×Ef:=(106,([.one (J5 l),.one (.i 0),.one (.i n),.one (.clo 59 0 (fun _=>default))]:List Av).map (SF 1000 1000),wrI 1000 (Ni l) (.tup []) (.row 7 l.length (Ak AG.c (E6 l n)) 49))
def Mk (l:(List AG)) (n:Int):(List AG):=E6 l n
theorem pStaP (l:(List AG)) (n:Int) (hn:n=(l.length:Int)) (hl:l.length<20):WrR Tryz.prog 96 1000 [.one (.own 1000 7 l.length),.one (.i n),.one (.clo 59 0 (fun _=>default))] 7 l.length (Ak AG.c l) 49 (.tup []) (Ak AG.c (Mk l n)):=by
 refine KK Tryz.func96 rfl kr kr kr fun W0 M0 X hX => ?_
 refine AC<|rn ⟨[(0,tO (J5 l)),(1,tI n),(2,.av (.one (.clo 59 0 (fun _=>default)))),(6,tI 20)],[(QY l)]⟩<|AC ?_
 refine rn ⟨[(0,tO (J5 l)),(1,tI n),(2,.av (.one (.clo 59 0 (fun _=>default)))),(6,tI 20),(7,tI 0),(8,tI 20)],[(QY l)]⟩ ?_
 refine AC<|Af ?_
 refine ME 1 ?_
 refine Gb<|AC<|AC ?_
 refine rn ⟨[(0,tO (J5 l)),(1,tI n),(2,.av (.one (.clo 59 0 (fun _=>default)))),(6,tI 20),(7,tI 0),(8,tI 20),(13,tB (decide ((20:Int)<=n)))],[(QY l)]⟩ ?_
 have h1:(decide ((20:Int)<=n))=false:=decide_eq_false (by omega)
 have g1:=oF h1
 refine AY _ rfl (fun h=>absurd (h1.symm.trans h) (by decide)) (fun _ => ?_)
 refine BP<|BE ?_
 refine BE<|BQ ?_
 refine AH<|AC ?_
 refine rb 27 (Z0i l n) (Ni l) ⟨[(0,tO (J5 l)),(1,tI n),(2,.av (.one (.clo 59 0 (fun _=>default)))),(6,tI 20)],[(1000,.row 7 l.length (Ak AG.c (E6 l n)) 49)]⟩ (KZ (fun _ _=>kr) kr (pInsP l n au6 au6))<|AH ?_
 refine Bq (Cv.trans (BS (⟨[(0,tO (.own 1000 7 (E6 l n).length)),(1,tI n),(2,.av (.one (.clo 59 0 (fun _=>default)))),(6,tI 20)],[(1000,.row 7 (E6 l n).length (Ak AG.c (E6 l n)) 49)]⟩) (.cons ⟨rfl,.av (.one (.own _ _ (Ja l n au6 au6).symm))⟩ lr) (.cons ⟨rfl,Aw 49 (⟨(Ja l n au6 au6).symm,fun _ _ _ _=>.refl _⟩)⟩ .nil)) (Cv.refl _))<|Af ?_
 refine ME 1 ?_
 refine Gb<|AC<|AC ?_
 refine rn ⟨[(0,tO (.own 1000 7 (E6 l n).length)),(1,tI n),(2,.av (.one (.clo 59 0 (fun _=>default)))),(6,tI 20),(30,tB (decide ((20:Int)<n)))],[(1000,.row 7 (E6 l n).length (Ak AG.c (E6 l n)) 49)]⟩ ?_
 have h2:(decide ((20:Int)<n))=false:=decide_eq_false (by omega)
 have g2:=oF h2
 refine AY _ rfl (fun h=>absurd (h2.symm.trans h) (by decide)) (fun _ => ?_)
 refine BP<|BE ?_
 refine BE<|BQ ?_
 exact ⟨_,Cv.refl _,.inr rfl,.tup [],by kernel_rfl,Ad rfl,.row 7 (E6 l n).length (Ak AG.c (E6 l n)) 49,by kernel_rfl,Kb (c:=AG.c) (xs:=E6 l n) (by first | (simp only [Mk,h1,h2,cond_true,cond_false] <;> rfl)) (Ja l n hn hl)⟩
theorem MH (l:List AG) (n:Int) (hn:n=(l.length:Int)) (hl:l.length<20):(Mk l n).length=l.length:=Ja l n hn hl
abbrev QW (l:List AG):=(Mk l ((l.length:Nat):Int))
def Z0j (l:(List AG)):FuncId×List Av×Ef:=(96,([.one (J5 l),.one (.i ((l.length:Nat):Int)),.one (.clo 59 0 (fun _=>default))]:List Av).map (SF 1000 1000),wrI 1000 (Ni l) (.tup []) (.row 7 l.length (Ak AG.c (QW l)) 49))
def CF (l:(List AG)):(List AG):=Mk l ((l.length:Nat):Int)
theorem pSrtP (l:(List AG)) (hl:l.length<20):WrR Tryz.prog 58 1000 [.one (.own 1000 7 l.length),.one (.clo 59 0 (fun _=>default))] 7 l.length (Ak AG.c l) 49 (.tup []) (Ak AG.c (CF l)):=by
 refine KK Tryz.func58 rfl kr kr kr fun W0 M0 X hX => ?_
 refine rb 8 (Z0j l) (Ni l) ⟨[],[(1000,.row 7 l.length (Ak AG.c (QW l)) 49)]⟩ (KZ (fun _ _=>kr) kr (pStaP l ((l.length:Nat):Int) au6 au6)) ?_
 exact ⟨_,Cv.trans (BS (⟨[],[(1000,.row 7 (QW l).length (Ak AG.c (QW l)) 49)]⟩) .nil (.cons ⟨rfl,Aw 49 (⟨(MH l ((l.length:Nat):Int) au6 au6).symm,fun _ _ _ _=>.refl _⟩)⟩ .nil)) (Cv.refl _),.inr rfl,.tup [],by kernel_rfl,Ad rfl,.row 7 (Mk l ((l.length:Nat):Int)).length (Ak AG.c (Mk l ((l.length:Nat):Int))) 49,by kernel_rfl,Kb (c:=AG.c) (xs:=Mk l ((l.length:Nat):Int)) (by rfl) (MH l _ rfl hl)⟩
theorem JZ (l:List AG) (hl:l.length<20):(CF l).length=l.length:=MH l _ rfl hl
theorem aY (l:List AG):CF l=GR (fun x y=>decide (Mi x y<0)) l:=Th l _ rfl
end
section
open Go.RowKit
def Tb (p:Ay):Prop:=(p.Shape.Edges.length:Int)<=1000000
def Kh (g:A0):Prop:=(g.Legs.length:Int)<=1000000
def Ke (t:AL):Prop:=(t.Pads.length:Int)<=1000000/\(t.Gates.length:Int)<=1000000/\(∀ p∈t.Pads,Tb p)/\∀ g∈t.Gates,Kh g
def CS (l:List AL):Prop:=(l.length:Int)<=1000000/\∀ t∈l,Ke t
theorem Hz {α:Type} [Inhabited α] {p:α->Prop} {l:List α} (hd:p default) (h:∀ x∈l,p x) (k:Nat):p (l.getD k default):=by
 rw [List.getD_eq_getElem?_getD]
 cases hk:l[k]? with
 | none=>exact hd
 | some x=>exact h x (List.mem_of_getElem? hk)
theorem T4 {l:List AL} (h:CS l) (k:Nat):Ke (l.getD k default):=Hz (p:=Ke) ⟨by decide,by decide,(fun p hp=>by cases hp),fun p hp=>by cases hp⟩ h.2 k
theorem OH {t:AL} (h:Ke t) (k:Nat):((t.Pads.getD k default).Shape.Edges.length:Int)<=1000000:=Hz (p:=Tb) (by unfold Tb;decide) h.2.2.1 k
theorem P0 {t:AL} (h:Ke t) (k:Nat):((t.Gates.getD k default).Legs.length:Int)<=1000000:=Hz (p:=Kh) (by unfold Kh;decide) h.2.2.2 k
theorem au3 {p:Prop} (h:p:=by first | (unfold maxLen;omega) | (unfold maxLen;simp only [List.length_append,List.length_cons,List.length_nil];omega) | first | omega | (simp only [List.length_append,List.length_cons,List.length_nil];omega) | (simp only [dD,dC,dB];omega)):p:=h
theorem jA {p:Prop} (h:p:=by
 refine L4 mp0 rfl kr (OI _ _) fun W0 M0 => ?_
 refine AC<|rn ⟨[(0,.av (.one (.list true mp1 l.length (Ak mp2 l))))],[]⟩ ?_
 refine AC<|AC ?_
 refine rn ⟨[(0,.av (.one (.list true mp1 l.length (Ak mp2 l)))),(4,tB false)],[]⟩ ?_
 refine FI kr<|Ae ?_
 refine AH<|AC ?_
 refine DF D3 [5] [] [] [2] [7] [0=0,0+l.length<=maxLen,(0+l.length)*mp3<=140737488355328] ⟨[(2,tO (.own 7 mp1 (0+l.length)))],[(7,.row mp1 (0+l.length) (fun i_ j_=>if i_<0 then (A8 mp1 0 []) i_ j_ else (Ak mp2 l) (i_-0) j_) mp4)]⟩ .nil kr (.cons rfl (.cons au3 (.cons au3 .nil)))<|AH ?_
 refine Bq (Cv.trans (BS (⟨[(2,tO (.own 7 mp1 l.length))],[(7,.row mp1 l.length (Ak mp2 l) mp4)]⟩) (.cons ⟨rfl,.av (.one (.own _ _ au2))⟩ .nil) (.cons ⟨rfl,Aw mp4 (Bi (A3 (c:=mp2) (xs:=(([]:List mp5):List mp5)) rfl kr) (BR mp1 mp2 l))⟩ .nil)) (Cv.refl _))<|AZ ?_
 exact ⟨_,Cv.refl _,.inl rfl,tO (.own 7 mp1 l.length),by kernel_rfl,frE (c:=mp2) (xs:=l) (by rfl) kr⟩):p:=h
section
 open Go.Proofs.YtdbampcfmjbgmaaGreat renaming nn7→mp1,AE.c→mp2,dC→mp3,fX→mp4,AE→mp5
 open Go.Proofs.Tryz renaming func61→mp0
theorem Yc (l:(List AE)) (h0:(l.length:Int)<=1000000):Fr Tryz.prog 61 [.one (.list true 7 l.length (Ak AE.c l))] (.row 7 l.length (Ak AE.c l) 136) (fun d=>tO (.own d 7 l.length)):=jA
end
abbrev vN:Cl:=.val (.slice none 0 0)
theorem iZ {p:Prop} (h:p:=by
 refine L4 mp0 rfl kr (OI _ _) fun W0 M0 => ?_
 cases l with
 | cons a l=>cases h0
 | nil =>
 refine AC<|rn ⟨[(0,.av (.one vN))],[]⟩ ?_
 refine AC<|AC ?_
 refine rn ⟨[(0,.av (.one vN)),(4,tB true)],[]⟩ ?_
 refine Dz kr<|AC ?_
 refine rn ⟨[(2,.av (.one vN))],[]⟩ ?_
 refine AZ<|A9 ?_
 exact ⟨_,Cv.trans (wg (⟨[(2,tO (.own 100000 mp1 0))],[(100000,.row mp1 0 (fun _ _=>default) mp2)]⟩) 100000 mp1 (fun _ _=>default) mp2 [(2,[0])] [] (K:=[]) (fun k x h=>by cases h)) (Cv.trans (BS (⟨[(2,tO (.own 100000 mp1 ([]:List mp3).length))],[(100000,.row mp1 ([]:List mp3).length (Ak mp4 ([]:List mp3)) mp2)]⟩) (.cons ⟨rfl,.av (.one (.own _ _ au2))⟩ .nil) (.cons ⟨rfl,Aw mp2 (C3 mp1 (fun _ _=>default) mp4)⟩ .nil)) (Cv.refl _)),.inl rfl,tO (.own 100000 mp1 ([]:List mp3).length),by kernel_rfl,frE (c:=mp4) (xs:=([]:List mp3)) (by rfl) kr⟩):p:=h
section
 open Go.Proofs.YtdbampcfmjbgmaaGreat renaming nn7→mp1,fX→mp2,AE→mp3,AE.c→mp4
 open Go.Proofs.Tryz renaming func61→mp0
theorem Yd (l:(List AE)) (h0:l.length=0):Fr Tryz.prog 61 [.one vN] (.row 7 l.length (Ak AE.c l) 136) (fun d=>tO (.own d 7 l.length)):=iZ
end
def JN (l:(List AE)):FuncId×List Av×Ef:=(61,[.one (lst 7 AE.c l)],.new [] (.row 7 l.length (Ak AE.c l) 136) (fun d=>.av (.one (.own d 7 l.length))))
theorem ON (l:(List AE)) (h0:(l.length:Int)<=1000000):Aq Tryz.prog (JN l).1 (JN l).2.1 (JN l).2.2:=QJ (fun _ _=>kr) (Ur (fun hz=>Yd l hz) (Yc l h0))
section
 open Go.Proofs.YtdbampcfmjbgmaaGreat renaming nn2→mp1,Bd.c→mp2,dD→mp3,fW→mp4,Bd→mp5
 open Go.Proofs.Tryz renaming func68→mp0
theorem Ya (l:(List Bd)) (h0:(l.length:Int)<=1000000):Fr Tryz.prog 68 [.one (.list true 2 l.length (Ak Bd.c l))] (.row 2 l.length (Ak Bd.c l) 169) (fun d=>tO (.own d 2 l.length)):=jA
end
section
 open Go.Proofs.YtdbampcfmjbgmaaGreat renaming nn2→mp1,fW→mp2,Bd→mp3,Bd.c→mp4
 open Go.Proofs.Tryz renaming func68→mp0
theorem Yb (l:(List Bd)) (h0:l.length=0):Fr Tryz.prog 68 [.one vN] (.row 2 l.length (Ak Bd.c l) 169) (fun d=>tO (.own d 2 l.length)):=iZ
end
section
 open Go.Proofs.YtdbampcfmjbgmaaGreat renaming nn7→mp1,AG.c→mp2,dB→mp3,nn49→mp4,AG→mp5
 open Go.Proofs.Tryz renaming func57→mp0
theorem YY (l:(List AG)) (h0:(l.length:Int)<=1000000):Fr Tryz.prog 57 [.one (.list true 7 l.length (Ak AG.c l))] (.row 7 l.length (Ak AG.c l) 49) (fun d=>tO (.own d 7 l.length)):=jA
end
section
 open Go.Proofs.YtdbampcfmjbgmaaGreat renaming nn7→mp1,nn49→mp2,AG→mp3,AG.c→mp4
 open Go.Proofs.Tryz renaming func57→mp0
theorem YZ (l:(List AG)) (h0:l.length=0):Fr Tryz.prog 57 [.one vN] (.row 7 l.length (Ak AG.c l) 49) (fun d=>tO (.own d 7 l.length)):=iZ
end
def ND (l:(List AG)):FuncId×List Av×Ef:=(57,[.one (lst 7 AG.c l)],.new [] (Ni l) (fun d=>.av (.one (.own d 7 l.length))))
theorem Yz (l:(List AG)) (h0:(l.length:Int)<=1000000):Aq Tryz.prog (ND l).1 (ND l).2.1 (ND l).2.2:=QJ (fun _ _=>kr) (Ur (fun hz=>YZ l hz) (YY l h0))
def Gc (l:List Bd):List Bd:=l
def I3 (l:List Bd):FuncId×List Av×Ef:=(68,[.one (lst 2 Bd.c l)],.val [] (.av (.one (lst 2 Bd.c (Gc l)))))
theorem Ww (l:List Bd) (h0:(l.length:Int)<=1000000):Aq Tryz.prog (I3 l).1 (I3 l).2.1 (I3 l).2.2:=AR (fun _ _=>kr) fun _=>OA (Ur (fun hz=>Yb l hz) (Ya l h0))
def Fh (t:AL) (name:ByteArray):Bool:=(t.Name.toList==name.toList)
theorem pisTy  (t:AL) (name:ByteArray):BH Tryz.prog 67 [.agg (AL.c t),.one (.eptr 1 1 (gD [.s name]) 0 0)] (tO (.b (Fh t name))):=by
 refine AO Tryz.func67 rfl kr kr fun W0 M0 => ?_
 refine AC<|rn ⟨[(1,.av (.one (.eptr 1 1 (gD [.s name]) 0 0))),(2,tP 2 0)],[(2,.cells (AL.c t) 61)]⟩<|AC ?_
 refine rn ⟨[(3,tB (t.Name.toList==name.toList))],[]⟩<|AZ ?_
 exact ⟨_,Cv.refl _,.inl rfl,tO (.b (t.Name.toList==name.toList)),by kernel_rfl,Ad (by rfl)⟩
def Z0k (xs:(List AL)) (v8:Int) (name:ByteArray):FuncId×List Av×Ef:=(67,[.agg (AL.c (xs.getD v8.toNat default)),.one (.eptr 1 1 (fun _ j_=>([.s name]:List Cl).getD j_ default) 0 0)],.val [] (tB (Fh (xs.getD v8.toNat default) name)))
def Fe (xs:(List AL)) (name:ByteArray):Nat->Int->Int
 | 0,_=>default
 | n0+1,v8=>bif decide ((v8:Int)<(xs.length:Int)) then (bif Fh (xs.getD v8.toNat default) name then v8 else ((Fe xs name n0) (v8+1))) else (-1)
def CJ (xs:(List AL)) (name:ByteArray):Int:=Fe xs name (((xs.length:Int)-0).toNat+1) 0
abbrev NJ (name:ByteArray):Nat×Tv:=(1,.av (.one (.clo 67 1 (BU [.eptr 1 1 (gD [.s name]) 0 0]))))
abbrev J4 (xs:List AL):Nat×Tv:=(0,tO (lst 3 AL.c xs))
abbrev Lf (xs:List AL):Nat×Tv:=(7,tI (xs.length:Int))
theorem au9 {p:Prop} (h:p:=by first | omega | (simp only [List.length_drop,List.length_take] at *;omega)):p:=h
theorem pixTy  (xs:(List AL)) (name:ByteArray) (hx:(xs.length:Int)<=9223372036854775807):BH Tryz.prog 66 [.one (lst 3 AL.c xs),.one (.clo 67 1 (BU [.eptr 1 1 (gD [.s name]) 0 0]))] (tO (.i (CJ xs name))):=by
 refine AO Tryz.func66 rfl kr kr fun W0 M0 => ?_
 refine AC<|rn ⟨[(J4 xs),(NJ name)],[]⟩ ?_
 refine AC<|AC ?_
 refine rn ⟨[(J4 xs),(NJ name),(Lf xs),(8,tI 0)],[]⟩<|Af ?_
 refine BL (ι:=Nat×Int) (fun x=>⟨[(J4 xs),(NJ name),(Lf xs),(8,tI x.2)],[]⟩) (fun x=>((xs.length:Int)-x.2).toNat<x.1/\(0<=x.2/\(x.2<=(xs.length:Int)\/x.2=0))/\Fe xs name x.1 x.2=CJ xs name) (fun x=>x.1) ?_ (((xs.length:Int)-0).toNat+1,0) ⟨Nat.lt_succ_self _,⟨ax0,ax0⟩,(by simp only [CJ,cond_true,cond_false])⟩
 rintro ⟨n0,v8⟩ ⟨hn,hinv,hF⟩
 have hm0:=hn;have hinv0:=hinv;have hF0:=hF;try dsimp only at hm0 hinv0 hF0
 clear hn hinv hF
 cases n0 with
 | zero=>exact absurd hm0 (Nat.not_lt_zero _)
 | succ n0 =>
  refine AC<|rn ⟨[(J4 xs),(NJ name),(Lf xs),(8,tI v8),(9,tB (decide ((v8:Int)<(xs.length:Int))))],[]⟩<|AC ?_
  refine AY _ rfl (fun h1 => ?_) (fun h1 => ?_)
  ·have g1:=oT h1
   refine Ae<|AH ?_
   refine AC<|Af<|AC ?_
   refine rn ⟨[(J4 xs),(NJ name),(5,tI v8),(Lf xs),(8,tI v8)],[]⟩<|AC ?_
   refine rc [(16,(Z0k xs v8 name))] [0<=(v8:Int)/\(v8:Int)<((xs.length:Nat):Int),Ap (Z0k xs v8 name).2.1] ⟨[(J4 xs),(NJ name),(5,tI v8),(Lf xs),(8,tI v8),(16,tB (Fh (xs.getD v8.toNat default) name))],[]⟩ (.cons (AR (fun _ _=>kr) fun _=>pisTy (xs.getD v8.toNat default) name) .nil) (.cons au0 (.cons rfl .nil))<|AH ?_
   refine AY _ rfl (fun h2 => ?_) (fun h2 => ?_)
   ·refine AC<|rn ⟨[(4,tI v8)],[]⟩ ?_
    refine AZ<|B2 ?_
    refine A9<|A9 ?_
    refine B2<|A9 ?_
    exact ⟨_,Cv.refl _,.inl rfl,tO (.i v8),by kernel_rfl,Ad (by rw [<- hF0];first | (simp only [Fe,h1,h2,cond_true,cond_false] <;> rfl))⟩
   ·refine Ae<|BZ<|AH ?_
    refine rg ⟨[(J4 xs),(NJ name),(Lf xs),(8,tI (W64 (v8+1)))],[]⟩ ?_
    (try rw [(show W64 (v8+1)=v8+1 from Al (by omega) au9)])
    refine AH ?_
    refine ⟨(n0,v8+1),⟨?_,?_,(by rw [<- hF0];simp only [Fe,h1,h2,cond_true,cond_false])⟩,Nat.lt_succ_self _,A4 kr⟩
    ·show ((xs.length:Int)-(v8+1)).toNat<n0;omega
    ·exact ⟨ax0,ax0⟩
  ·have g1:=oF h1
   refine BP<|BE ?_
   refine BE<|BQ ?_
   refine AH<|AC ?_
   refine rn ⟨[(4,tI (-1))],[]⟩<|AZ ?_
   exact ⟨_,Cv.refl _,.inl rfl,tO (.i (-1)),by kernel_rfl,Ad (by rw [<- hF0];first | (simp only [Fe,h1,cond_true,cond_false] <;> rfl))⟩
def PF (p:Ay) (pad:ByteArray):Bool:=(p.Name.toList==pad.toList)
theorem pisPd  (p:Ay) (pad:ByteArray):BH Tryz.prog 70 [.agg (Ay.c p),.one (.eptr 1 1 (gD [.s pad]) 0 0)] (tO (.b (PF p pad))):=by
 refine AO Tryz.func70 rfl kr kr fun W0 M0 => ?_
 refine AC<|rn ⟨[(1,.av (.one (.eptr 1 1 (gD [.s pad]) 0 0))),(2,tP 2 0)],[(2,.cells (Ay.c p) 120)]⟩<|AC ?_
 refine rn ⟨[(3,tB (p.Name.toList==pad.toList))],[]⟩<|AZ ?_
 exact ⟨_,Cv.refl _,.inl rfl,tO (.b (p.Name.toList==pad.toList)),by kernel_rfl,Ad (by rfl)⟩
def Z0l (xs:(List Ay)) (v8:Int) (pad:ByteArray):FuncId×List Av×Ef:=(70,[.agg (Ay.c (xs.getD v8.toNat default)),.one (.eptr 1 1 (fun _ j_=>([.s pad]:List Cl).getD j_ default) 0 0)],.val [] (tB (PF (xs.getD v8.toNat default) pad)))
def Fg (xs:(List Ay)) (pad:ByteArray):Nat->Int->Int
 | 0,_=>default
 | n0+1,v8=>bif decide ((v8:Int)<(xs.length:Int)) then (bif PF (xs.getD v8.toNat default) pad then v8 else ((Fg xs pad n0) (v8+1))) else (-1)
def FA (xs:(List Ay)) (pad:ByteArray):Int:=Fg xs pad (((xs.length:Int)-0).toNat+1) 0
abbrev NK (pad:ByteArray):Nat×Tv:=(1,.av (.one (.clo 70 1 (BU [.eptr 1 1 (gD [.s pad]) 0 0]))))
abbrev J3 (xs:List Ay):Nat×Tv:=(0,tO (lst 7 Ay.c xs))
abbrev Ld (xs:List Ay):Nat×Tv:=(7,tI (xs.length:Int))
theorem pixPd  (xs:(List Ay)) (pad:ByteArray) (hx:(xs.length:Int)<=9223372036854775807):BH Tryz.prog 69 [.one (lst 7 Ay.c xs),.one (.clo 70 1 (BU [.eptr 1 1 (gD [.s pad]) 0 0]))] (tO (.i (FA xs pad))):=by
 refine AO Tryz.func69 rfl kr kr fun W0 M0 => ?_
 refine AC<|rn ⟨[(J3 xs),(NK pad)],[]⟩ ?_
 refine AC<|AC ?_
 refine rn ⟨[(J3 xs),(NK pad),(Ld xs),(8,tI 0)],[]⟩<|Af ?_
 refine BL (ι:=Nat×Int) (fun x=>⟨[(J3 xs),(NK pad),(Ld xs),(8,tI x.2)],[]⟩) (fun x=>((xs.length:Int)-x.2).toNat<x.1/\(0<=x.2/\(x.2<=(xs.length:Int)\/x.2=0))/\Fg xs pad x.1 x.2=FA xs pad) (fun x=>x.1) ?_ (((xs.length:Int)-0).toNat+1,0) ⟨Nat.lt_succ_self _,⟨ax0,ax0⟩,(by simp only [FA,cond_true,cond_false])⟩
 rintro ⟨n0,v8⟩ ⟨hn,hinv,hF⟩
 have hm0:=hn;have hinv0:=hinv;have hF0:=hF;try dsimp only at hm0 hinv0 hF0
 clear hn hinv hF
 cases n0 with
 | zero=>exact absurd hm0 (Nat.not_lt_zero _)
 | succ n0 =>
  refine AC<|rn ⟨[(J3 xs),(NK pad),(Ld xs),(8,tI v8),(9,tB (decide ((v8:Int)<(xs.length:Int))))],[]⟩<|AC ?_
  refine AY _ rfl (fun h1 => ?_) (fun h1 => ?_)
  ·have g1:=oT h1
   refine Ae<|AH ?_
   refine AC<|Af<|AC ?_
   refine rn ⟨[(J3 xs),(NK pad),(5,tI v8),(Ld xs),(8,tI v8)],[]⟩<|AC ?_
   refine rc [(16,(Z0l xs v8 pad))] [0<=(v8:Int)/\(v8:Int)<((xs.length:Nat):Int),Ap (Z0l xs v8 pad).2.1] ⟨[(J3 xs),(NK pad),(5,tI v8),(Ld xs),(8,tI v8),(16,tB (PF (xs.getD v8.toNat default) pad))],[]⟩ (.cons (AR (fun _ _=>kr) fun _=>pisPd (xs.getD v8.toNat default) pad) .nil) (.cons au0 (.cons rfl .nil))<|AH ?_
   refine AY _ rfl (fun h2 => ?_) (fun h2 => ?_)
   ·refine AC<|rn ⟨[(4,tI v8)],[]⟩ ?_
    refine AZ<|B2 ?_
    refine A9<|A9 ?_
    refine B2<|A9 ?_
    exact ⟨_,Cv.refl _,.inl rfl,tO (.i v8),by kernel_rfl,Ad (by rw [<- hF0];first | (simp only [Fg,h1,h2,cond_true,cond_false] <;> rfl))⟩
   ·refine Ae<|BZ<|AH ?_
    refine rg ⟨[(J3 xs),(NK pad),(Ld xs),(8,tI (W64 (v8+1)))],[]⟩ ?_
    (try rw [(show W64 (v8+1)=v8+1 from Al (by omega) au9)])
    refine AH ?_
    refine ⟨(n0,v8+1),⟨?_,?_,(by rw [<- hF0];simp only [Fg,h1,h2,cond_true,cond_false])⟩,Nat.lt_succ_self _,A4 kr⟩
    ·show ((xs.length:Int)-(v8+1)).toNat<n0;omega
    ·exact ⟨ax0,ax0⟩
  ·have g1:=oF h1
   refine BP<|BE ?_
   refine BE<|BQ ?_
   refine AH<|AC ?_
   refine rn ⟨[(4,tI (-1))],[]⟩<|AZ ?_
   exact ⟨_,Cv.refl _,.inl rfl,tO (.i (-1)),by kernel_rfl,Ad (by rw [<- hF0];first | (simp only [Fg,h1,cond_true,cond_false] <;> rfl))⟩
def PE (x:AG) (pin:Ac):Bool:=(x.Ref.toList==pin.Ref.toList)
theorem pisPl  (x:AG) (pin:Ac):BH Tryz.prog 35 [.agg (AG.c x),.one (.eptr 2 1 (gD (Ac.c pin)) 0 0)] (tO (.b (PE x pin))):=by
 refine AO Tryz.func35 rfl kr kr fun W0 M0 => ?_
 refine AC<|rn ⟨[(1,.av (.one (.eptr 2 1 (gD (Ac.c pin)) 0 0))),(2,tP 2 0)],[(2,.cells (AG.c x) 49)]⟩<|AC ?_
 refine rn ⟨[(3,tB (x.Ref.toList==pin.Ref.toList))],[]⟩<|AZ ?_
 exact ⟨_,Cv.refl _,.inl rfl,tO (.b (x.Ref.toList==pin.Ref.toList)),by kernel_rfl,Ad (by rfl)⟩
def Z0m (xs:(List AG)) (v8:Int) (pin:Ac):FuncId×List Av×Ef:=(35,[.agg (AG.c (xs.getD v8.toNat default)),.one (.eptr 2 1 (fun _ j_=>((Ac.c pin):List Cl).getD j_ default) 0 0)],.val [] (tB (PE (xs.getD v8.toNat default) pin)))
def Ff (xs:(List AG)) (pin:Ac):Nat->Int->Int
 | 0,_=>default
 | n0+1,v8=>bif decide ((v8:Int)<(xs.length:Int)) then (bif PE (xs.getD v8.toNat default) pin then v8 else ((Ff xs pin n0) (v8+1))) else (-1)
def DX (xs:(List AG)) (pin:Ac):Int:=Ff xs pin (((xs.length:Int)-0).toNat+1) 0
abbrev NL (pin:Ac):Nat×Tv:=(1,.av (.one (.clo 35 1 (BU [.eptr 2 1 (gD (Ac.c pin)) 0 0]))))
abbrev J1 (xs:List AG):Nat×Tv:=(0,tO (lst 7 AG.c xs))
abbrev Lc (xs:List AG):Nat×Tv:=(7,tI (xs.length:Int))
theorem pixPl  (xs:(List AG)) (pin:Ac) (hx:(xs.length:Int)<=9223372036854775807):BH Tryz.prog 34 [.one (lst 7 AG.c xs),.one (.clo 35 1 (BU [.eptr 2 1 (gD (Ac.c pin)) 0 0]))] (tO (.i (DX xs pin))):=by
 refine AO Tryz.func34 rfl kr kr fun W0 M0 => ?_
 refine AC<|rn ⟨[(J1 xs),(NL pin)],[]⟩ ?_
 refine AC<|AC ?_
 refine rn ⟨[(J1 xs),(NL pin),(Lc xs),(8,tI 0)],[]⟩<|Af ?_
 refine BL (ι:=Nat×Int) (fun x=>⟨[(J1 xs),(NL pin),(Lc xs),(8,tI x.2)],[]⟩) (fun x=>((xs.length:Int)-x.2).toNat<x.1/\(0<=x.2/\(x.2<=(xs.length:Int)\/x.2=0))/\Ff xs pin x.1 x.2=DX xs pin) (fun x=>x.1) ?_ (((xs.length:Int)-0).toNat+1,0) ⟨Nat.lt_succ_self _,⟨ax0,ax0⟩,(by simp only [DX,cond_true,cond_false])⟩
 rintro ⟨n0,v8⟩ ⟨hn,hinv,hF⟩
 have hm0:=hn;have hinv0:=hinv;have hF0:=hF;try dsimp only at hm0 hinv0 hF0
 clear hn hinv hF
 cases n0 with
 | zero=>exact absurd hm0 (Nat.not_lt_zero _)
 | succ n0 =>
  refine AC<|rn ⟨[(J1 xs),(NL pin),(Lc xs),(8,tI v8),(9,tB (decide ((v8:Int)<(xs.length:Int))))],[]⟩<|AC ?_
  refine AY _ rfl (fun h1 => ?_) (fun h1 => ?_)
  ·have g1:=oT h1
   refine Ae<|AH ?_
   refine AC<|Af<|AC ?_
   refine rn ⟨[(J1 xs),(NL pin),(5,tI v8),(Lc xs),(8,tI v8)],[]⟩<|AC ?_
   refine rc [(16,(Z0m xs v8 pin))] [0<=(v8:Int)/\(v8:Int)<((xs.length:Nat):Int),Ap (Z0m xs v8 pin).2.1] ⟨[(J1 xs),(NL pin),(5,tI v8),(Lc xs),(8,tI v8),(16,tB (PE (xs.getD v8.toNat default) pin))],[]⟩ (.cons (AR (fun _ _=>kr) fun _=>pisPl (xs.getD v8.toNat default) pin) .nil) (.cons au0 (.cons rfl .nil))<|AH ?_
   refine AY _ rfl (fun h2 => ?_) (fun h2 => ?_)
   ·refine AC<|rn ⟨[(4,tI v8)],[]⟩ ?_
    refine AZ<|B2 ?_
    refine A9<|A9 ?_
    refine B2<|A9 ?_
    exact ⟨_,Cv.refl _,.inl rfl,tO (.i v8),by kernel_rfl,Ad (by rw [<- hF0];first | (simp only [Ff,h1,h2,cond_true,cond_false] <;> rfl))⟩
   ·refine Ae<|BZ<|AH ?_
    refine rg ⟨[(J1 xs),(NL pin),(Lc xs),(8,tI (W64 (v8+1)))],[]⟩ ?_
    (try rw [(show W64 (v8+1)=v8+1 from Al (by omega) au9)])
    refine AH ?_
    refine ⟨(n0,v8+1),⟨?_,?_,(by rw [<- hF0];simp only [Ff,h1,h2,cond_true,cond_false])⟩,Nat.lt_succ_self _,A4 kr⟩
    ·show ((xs.length:Int)-(v8+1)).toNat<n0;omega
    ·exact ⟨ax0,ax0⟩
  ·have g1:=oF h1
   refine BP<|BE ?_
   refine BE<|BQ ?_
   refine AH<|AC ?_
   refine rn ⟨[(4,tI (-1))],[]⟩<|AZ ?_
   exact ⟨_,Cv.refl _,.inl rfl,tO (.i (-1)),by kernel_rfl,Ad (by rw [<- hF0];first | (simp only [Ff,h1,cond_true,cond_false] <;> rfl))⟩
theorem PD (xs:List AL) (c:ByteArray):CJ xs c=ixI (fun x=>Fh x c) xs:=by
 unfold CJ
 have h:=ZQ (fun x=>Fh x c) xs (Fe xs c) (fun m v=>by rw [Fe,Int.toNat_natCast]) xs.length 0 (((xs.length:Int)-0).toNat+1) rfl (Nat.zero_le _) (by omega)
 rw [List.drop_zero] at h
 refine h.trans ?_
 unfold ixI
 cases xs.findIdx? (fun x=>Fh x c) with
 | none=>rfl
 | some i=>simp
theorem jE {xs:List AL} {c:ByteArray} (h:¬ CJ xs c<0):0<=CJ xs c/\CJ xs c<(xs.length:Int):=by
 rw [PD] at *
 exact ZT h
theorem Tf (xs:List Ay) (c:ByteArray):FA xs c=ixI (fun x=>PF x c) xs:=by
 unfold FA
 have h:=ZQ (fun x=>PF x c) xs (Fg xs c) (fun m v=>by rw [Fg,Int.toNat_natCast]) xs.length 0 (((xs.length:Int)-0).toNat+1) rfl (Nat.zero_le _) (by omega)
 rw [List.drop_zero] at h
 refine h.trans ?_
 unfold ixI
 cases xs.findIdx? (fun x=>PF x c) with
 | none=>rfl
 | some i=>simp
theorem jG {xs:List Ay} {c:ByteArray} (h:¬ FA xs c<0):0<=FA xs c/\FA xs c<(xs.length:Int):=by
 rw [Tf] at *
 exact ZT h
theorem Te (xs:List AG) (c:Ac):DX xs c=ixI (fun x=>PE x c) xs:=by
 unfold DX
 have h:=ZQ (fun x=>PE x c) xs (Ff xs c) (fun m v=>by rw [Ff,Int.toNat_natCast]) xs.length 0 (((xs.length:Int)-0).toNat+1) rfl (Nat.zero_le _) (by omega)
 rw [List.drop_zero] at h
 refine h.trans ?_
 unfold ixI
 cases xs.findIdx? (fun x=>PE x c) with
 | none=>rfl
 | some i=>simp
theorem jF {xs:List AG} {c:Ac} (h:¬ DX xs c<0):0<=DX xs c/\DX xs c<(xs.length:Int):=by
 rw [Te] at *
 exact ZT h
def Z0n (types:(List AL)) (name:ByteArray) (v49:Int):A0:=(types.getD (CJ types name).toNat default).Gates.getD v49.toNat default
def Z0o (types:(List AL)) (name:ByteArray) (v26:Int):Ay:=(types.getD (CJ types name).toNat default).Pads.getD v26.toNat default
def ID (types:(List AL)) (name:ByteArray) (v7_1:List Ay) (v26:Int) (K0:List Ay->Int->(AL×Bool)):Nat->List A0->Int->(AL×Bool)
 | 0,_,_=>default
 | n1+1,v7_2,v49=>bif decide ((v49:Int)<((types.getD (CJ types name).toNat default).Gates.length:Int)) then ((ID types name v7_1 v26 K0 n1) (v7_2++[A0.mk (Z0n types name v49).Kind (Gc (Z0n types name v49).Legs)]) (v49+1)) else (AL.mk name v7_1 v7_2,true)
def FS (types:(List AL)) (name:ByteArray):Nat->List Ay->Int->(AL×Bool)
 | 0,_,_=>default
 | n0+1,v7_1,v26=>bif decide ((v26:Int)<((types.getD (CJ types name).toNat default).Pads.length:Int)) then ((FS types name n0) (v7_1++[Ay.mk (Z0o types name v26).Name (AW.mk (Z0o types name v26).Shape.Kind (Z0o types name v26).Shape.Edges (Z0o types name v26).Shape.R) (Z0o types name v26).At (Z0o types name v26).Drill]) (v26+1)) else (ID types name v7_1 v26 (FS types name n0) ((((types.getD (CJ types name).toNat default).Gates.length:Int)-0).toNat+1) ([]:List A0) 0)
def B9 (types:(List AL)) (name:ByteArray):(AL×Bool):=bif decide (((CJ types name):Int)<0) then (AL.mk (⟨#[]⟩) [] [],false) else (FS types name ((((types.getD (CJ types name).toNat default).Pads.length:Int)-0).toNat+1) ([]:List Ay) 0)
abbrev Gp (types:List AL):=lst 3 AL.c types
def U4 (types:(List AL)) (name:ByteArray):FuncId×List Av×Ef:=(36,[.one (Gp types),.one (.s name)],.val [] (.tup [.agg (AL.c (B9 types name).1),.one (.b (B9 types name).2)]))
abbrev MO (types:List AL) (name:ByteArray):=types.getD (CJ types name).toNat default
abbrev Nb:List Cl:=[.s (⟨#[]⟩),vN,vN]
abbrev Cg:Nat×Blk:=(4,.cells Nb 61)
abbrev Pa (v7_1:List Ay) (types:List AL) (name:ByteArray) (v26:Int):=v7_1++[Ay.mk (Z0o types name v26).Name (AW.mk (Z0o types name v26).Shape.Kind (Z0o types name v26).Shape.Edges (Z0o types name v26).Shape.R) (Z0o types name v26).At (Z0o types name v26).Drill]
abbrev GE (v7_1:List Ay):Nat×Blk:=(100000,.row 7 v7_1.length (Ak Ay.c v7_1) 120)
abbrev Lo (v7_2:List A0) (types:List AL) (name:ByteArray) (v49:Int):=v7_2++[A0.mk (Z0n types name v49).Kind (Gc (Z0n types name v49).Legs)]
abbrev GG (types:List AL):Nat×Tv:=(0,tO (Gp types))
abbrev Tk (types:List AL) (name:ByteArray):Nat×Tv:=(24,tO (lst 7 Ay.c (MO types name).Pads))
abbrev gN (types:List AL) (name:ByteArray):Nat×Tv:=(25,tI ((MO types name).Pads.length:Int))
abbrev NR (types:List AL) (name:ByteArray) (t_:List (Nat×Tv)):List (Nat×Tv):=(GG types)::(4,tP 4 0)::(6,tI (CJ types name))::(7,tP 7 0)::(Tk types name)::(gN types name)::t_
abbrev Qs (types:List AL) (name:ByteArray):List (Nat×Tv):=(NR types name [(26,tI 0)])
abbrev YC (types:List AL) (name:ByteArray):Nat×Tv:=(47,tO (lst 2 A0.c (MO types name).Gates))
abbrev YD (types:List AL) (name:ByteArray):Nat×Tv:=(48,tI ((MO types name).Gates.length:Int))
abbrev NO (types:List AL) (name:ByteArray) (t_:List (Nat×Tv)):List (Nat×Tv):=(4,tP 4 0)::(7,tP 7 0)::(YC types name)::(YD types name)::t_
abbrev Qq (types:List AL) (name:ByteArray):List (Nat×Tv):=(NO types name [(49,tI 0)])
abbrev Tw (types:List AL) (name:ByteArray) (v26:Int):List (Nat×Tv):=[(GG types),(4,tP 4 0),(6,tI (CJ types name)),(7,tP 7 0),(9,tP 9 0),(Tk types name),(gN types name),(26,tI v26)]
abbrev Nl (name:ByteArray) (v7_1:List Ay):Nat×Blk:=(7,.cells [.s name,.own 100000 7 v7_1.length,vN] 61)
abbrev Xz:List Av:=[.agg [.s (⟨#[]⟩),lst 7 Ay.c [],lst 2 A0.c []],.one (.b false)]
abbrev Xy:Nat×Blk:=(100000,.row 7 ([]:List Ay).length (Ak Ay.c ([]:List Ay)) 120)
abbrev Xx:Nat×Blk:=(100001,.row 2 ([]:List A0).length (Ak A0.c ([]:List A0)) 166)
abbrev Tl (name:ByteArray):List Cl:=[.s name,.own 100000 7 ([]:List Ay).length,vN]
theorem au13 {p:Prop} (h:p:=by first | (exact OH (hta _) _) | (exact P0 (hta _) _) | with_reducible assumption | omega | decide | (simp only [List.length_cons,List.length_nil,List.length_append];omega) | assumption):p:=h
theorem au20 {p:Prop} (h:p:=by first | exact jE (by assumption) | omega):p:=h
theorem pGet (types:(List AL)) (name:ByteArray) (ht:CS types):BH Tryz.prog 36 (U4 types name).2.1 (.tup [.agg (AL.c (B9 types name).1),.one (.b (B9 types name).2)]):=by
 refine AO Tryz.func36 rfl kr kr fun W0 M0 => ?_
 have ht1:=ht.1
 have hta:=T4 ht
 have htp:=(hta (CJ types name).toNat).1
 have htg:=(hta (CJ types name).toNat).2.1
 refine AC<|rn ⟨[(GG types),(3,tP 3 0),(4,tP 4 0)],[(3,.cells [.s name] 9),Cg]⟩<|AC ?_
 refine rc [(14,(66,[.one (Gp types),.one (.clo 67 1 (BU [.ptr 3 0]))],rdI [3] [.cells [.s name] 9] (tI (CJ types name))))] [Ap [.one (lst 3 AL.c types),.one (.clo 67 1 (BU [.ptr 3 0]))],O4 [.cells [.s name] 9]] ⟨[(GG types),(3,tP 3 0),(4,tP 4 0),(6,tI (CJ types name))],[(3,.cells [.s name] 9),Cg]⟩ (.cons (JP (fun _ _=>kr) kr kr (M5 (pixTy types name au13) (.cons (AvE.refl _) (.cons (.one (.clo 67 1 _ _ (Gq kr))) .nil)))) .nil) (.cons rfl (.cons rfl .nil))<|AH ?_
 refine AC<|AC ?_
 refine rn ⟨[(GG types),(3,tP 3 0),(4,tP 4 0),(6,tI (CJ types name)),(16,tB (decide (((CJ types name):Int)<0)))],[(3,.cells [.s name] 9),Cg]⟩ ?_
 refine AY _ rfl (fun h1 => ?_) (fun h1 => ?_)
 ·have g1:=oT h1
  refine AC<|rn ⟨[(4,tP 4 0),(5,tB false)],[Cg]⟩ ?_
  refine AZ<|A9 ?_
  exact ⟨_,Cv.refl _,.inl rfl,.tup [.agg Nb,.one (.b false)],by kernel_rfl,Ds (y:=.tup Xz) (.tup (.cons (.agg (rr (.cons (CV 7 Ay.c) (.cons (CV 2 A0.c) .nil)))) (.cons (AvE.refl _) .nil))) (by first | (simp only [B9,h1,cond_true,cond_false] <;> rfl))⟩
 ·have g1:=oF h1
  refine Ae<|AH<|AC ?_
  refine rn ⟨[(GG types),(4,tP 4 0),(6,tI (CJ types name)),(7,tP 7 0)],[Cg,(7,.cells [.s name,vN,vN] 61)]⟩ ?_
  refine AC<|AC ?_
  refine rc [] [0<=(CJ types name:Int)/\(CJ types name:Int)<((types.length:Nat):Int)] ⟨(Qs types name),[Cg,(7,.cells [.s name,vN,vN] 61)]⟩ .nil (.cons au20 .nil)<|AH<|Af ?_
  refine Bq (Cv.trans (wg (⟨(Qs types name),[(100000,.row 7 0 (fun _ _=>default) 120),Cg,(7,.cells [.s name,.own 100000 7 0,vN] 61)]⟩) 100000 7 (fun _ _=>default) 120 [] [(7,[1])] (K:=[]) (fun k x h=>by cases h)) (Cv.trans (BS (⟨(Qs types name),[Xy,Cg,(7,.cells (Tl name) 61)]⟩) lr (.cons ⟨rfl,Aw 120 (C3 7 (fun _ _=>default) Ay.c)⟩ (.cons ⟨rfl,.refl _⟩ (.cons ⟨rfl,.cells _ (rr (.cons (.own _ _ au2) (rr .nil)))⟩ .nil)))) (Cv.trans (ck (⟨(Qs types name),[Cg,(7,.cells (Tl name) 61),Xy]⟩)) (Cv.refl _)))) ?_
  refine BL (ι:=Nat×List Ay×Int) (fun x=>⟨(NR types name [(26,tI x.2.2)]),[Cg,(7,.cells [.s name,.own 100000 7 x.2.1.length,vN] 61),(100000,.row 7 x.2.1.length (Ak Ay.c x.2.1) 120)]⟩) (fun x=>(((types.getD (CJ types name).toNat default).Pads.length:Int)-x.2.2).toNat<x.1/\(0<=x.2.2/\(x.2.2<=((types.getD (CJ types name).toNat default).Pads.length:Int)\/x.2.2=0)/\(x.2.1.length:Int)<=0+1*(x.2.2-0))/\FS types name x.1 x.2.1 x.2.2=B9 types name) (fun x=>x.1) ?_ ((((types.getD (CJ types name).toNat default).Pads.length:Int)-0).toNat+1,([]:List Ay),0) ⟨Nat.lt_succ_self _,⟨ax0,ax0,ax0⟩,(by simp only [B9,h1,cond_true,cond_false])⟩
  rintro ⟨n0,v7_1,v26⟩ ⟨hn,hinv,hF⟩
  have hm0:=hn;have hinv0:=hinv;have hF0:=hF;try dsimp only at hm0 hinv0 hF0
  clear hn hinv hF
  cases n0 with
  | zero=>exact absurd hm0 (Nat.not_lt_zero _)
  | succ n0 =>
   refine AC<|rn ⟨(NR types name [(26,tI v26),(27,tB (decide ((v26:Int)<((types.getD (CJ types name).toNat default).Pads.length:Int))))]),[Cg,(Nl name v7_1),(GE v7_1)]⟩<|AC ?_
   refine AY _ rfl (fun h2 => ?_) (fun h2 => ?_)
   ·have g2:=oT h2
    refine Ae<|AH ?_
    refine AC<|Af<|AC ?_
    refine rc [] [0<=(v26:Int)/\(v26:Int)<(((types.getD (CJ types name).toNat default).Pads.length:Nat):Int)] ⟨(Tw types name v26),[Cg,(Nl name v7_1),(9,.cells (Ay.c (Z0o types name v26)) 120),(GE v7_1)]⟩ .nil (.cons au20 .nil)<|AH<|AC ?_
    refine rs 33 (JN (Z0o types name v26).Shape.Edges) ⟨(Tw types name v26),[Cg,(Nl name v7_1),(9,.cells [.s (Z0o types name v26).Name,.i (Z0o types name v26).Shape.Kind,.own 33 7 (Z0o types name v26).Shape.Edges.length,.i (Z0o types name v26).Shape.R,.i (Z0o types name v26).At.X,.i (Z0o types name v26).At.Y,.i (Z0o types name v26).Drill] 120),(33,.row 7 (Z0o types name v26).Shape.Edges.length (Ak AE.c (Z0o types name v26).Shape.Edges) 136),(GE v7_1)]⟩ (ON (Z0o types name v26).Shape.Edges au13)<|AH ?_
    refine Bq (Cv.trans (wf (⟨(Tw types name v26),[Cg,(Nl name v7_1),(9,.cells (Ay.c (Z0o types name v26)) 120),(GE v7_1)]⟩) 33 7 (Z0o types name v26).Shape.Edges.length (Ak AE.c (Z0o types name v26).Shape.Edges) 136 (K:=[]) (fun k x h=>by cases h) (.cons ⟨rfl,rfl⟩ .nil)) (Cv.refl _)) ?_
    refine rc [] [v7_1.length=v7_1.length,v7_1.length+1<=maxLen,(v7_1.length+1)*80<=140737488355328] ⟨(NR types name [(26,tI v26)]),[Cg,(7,.cells [.s name,.own 40 7 (v7_1.length+1),vN] 61),(40,.row 7 (v7_1.length+1) (fun i_ j_=>if i_<v7_1.length then (Ak Ay.c v7_1) i_ j_ else (A8 7 1 (Ay.c (Z0o types name v26))) (i_-v7_1.length) j_) 120)]⟩ .nil (.cons rfl (.cons au3 (.cons au3 .nil)))<|BZ<|AH ?_
    refine Bq (Cv.trans (BS (⟨(NR types name [(26,tI v26)]),[Cg,(7,.cells [.s name,.own 40 7 (Pa v7_1 types name v26).length,vN] 61),(40,.row 7 (Pa v7_1 types name v26).length (Ak Ay.c (Pa v7_1 types name v26)) 120)]⟩) lr (.cons ⟨rfl,.refl _⟩ (.cons ⟨rfl,.cells _ (rr (.cons (.own _ _ au2) (rr .nil)))⟩ (.cons ⟨rfl,Aw 120 (Bi (BR 7 Ay.c v7_1) (A3 (c:=Ay.c) (xs:=([Ay.mk (Z0o types name v26).Name (AW.mk (Z0o types name v26).Shape.Kind (Z0o types name v26).Shape.Edges (Z0o types name v26).Shape.R) (Z0o types name v26).At (Z0o types name v26).Drill]:List Ay)) rfl kr))⟩ .nil)))) (Cv.refl _)) ?_
    refine rg ⟨(NR types name [(26,tI (W64 (v26+1)))]),[Cg,(7,.cells [.s name,.own 40 7 (Pa v7_1 types name v26).length,vN] 61),(40,.row 7 (Pa v7_1 types name v26).length (Ak Ay.c (Pa v7_1 types name v26)) 120)]⟩ ?_
    (try rw [(show W64 (v26+1)=v26+1 from Al (by omega) au9)])
    refine AH ?_
    refine ⟨(n0,v7_1++[Ay.mk (Z0o types name v26).Name (AW.mk (Z0o types name v26).Shape.Kind (Z0o types name v26).Shape.Edges (Z0o types name v26).Shape.R) (Z0o types name v26).At (Z0o types name v26).Drill],v26+1),⟨?_,?_,(by rw [<- hF0];simp only [FS,h2,cond_true,cond_false])⟩,Nat.lt_succ_self _,Cv.trans (vr 40 100000 (K:=[]) (fun k x h=>by cases h)) (A4 kr)⟩
    ·show (((types.getD (CJ types name).toNat default).Pads.length:Int)-(v26+1)).toNat<n0;omega
    ·exact ⟨ax0,ax0,ax0⟩
   ·have g2:=oF h2
    refine BP<|BE ?_
    refine BE<|BQ ?_
    refine AH<|AC<|AC ?_
    refine rc [] [0<=(CJ types name:Int)/\(CJ types name:Int)<((types.length:Nat):Int)] ⟨(Qq types name),[Cg,(Nl name v7_1),(GE v7_1)]⟩ .nil (.cons au20 .nil)<|AH<|Af ?_
    refine Bq (Cv.trans (wg (⟨(Qq types name),[(100001,.row 2 0 (fun _ _=>default) 166),Cg,(7,.cells [.s name,.own 100000 7 v7_1.length,.own 100001 2 0] 61),(GE v7_1)]⟩) 100001 2 (fun _ _=>default) 166 [] [(7,[2])] (K:=[]) (fun k x h=>by cases h)) (Cv.trans (BS (⟨(Qq types name),[Xx,Cg,(7,.cells [.s name,.own 100000 7 v7_1.length,.own 100001 2 ([]:List A0).length] 61),(GE v7_1)]⟩) lr (.cons ⟨rfl,Aw 166 (C3 2 (fun _ _=>default) A0.c)⟩ (.cons ⟨rfl,.refl _⟩ (.cons ⟨rfl,.cells _ (rr (rr (.cons (.own _ _ au2) .nil)))⟩ lr)))) (Cv.trans (ck (⟨(Qq types name),[Cg,(7,.cells [.s name,.own 100000 7 v7_1.length,.own 100001 2 ([]:List A0).length] 61),(GE v7_1),Xx]⟩)) (Cv.refl _)))) ?_
    refine BL (ι:=Nat×List A0×Int) (fun x=>⟨(NO types name [(49,tI x.2.2)]),[Cg,(7,.cells [.s name,.own 100000 7 v7_1.length,.own 100001 2 x.2.1.length] 61),(GE v7_1),(100001,.row 2 x.2.1.length (Ak A0.c x.2.1) 166)]⟩) (fun x=>(((types.getD (CJ types name).toNat default).Gates.length:Int)-x.2.2).toNat<x.1/\(0<=x.2.2/\(x.2.2<=((types.getD (CJ types name).toNat default).Gates.length:Int)\/x.2.2=0)/\(x.2.1.length:Int)<=0+1*(x.2.2-0))/\ID types name v7_1 v26 (FS types name n0) x.1 x.2.1 x.2.2=B9 types name) (fun x=>x.1) ?_ ((((types.getD (CJ types name).toNat default).Gates.length:Int)-0).toNat+1,([]:List A0),0) ⟨Nat.lt_succ_self _,⟨ax0,ax0,ax0⟩,(by rw [<- hF0];simp only [FS,h2,cond_true,cond_false])⟩
    rintro ⟨n1,v7_2,v49⟩ ⟨hn,hinv,hF⟩
    have hm1:=hn;have hinv1:=hinv;have hF1:=hF;try dsimp only at hm1 hinv1 hF1
    clear hn hinv hF
    cases n1 with
    | zero=>exact absurd hm1 (Nat.not_lt_zero _)
    | succ n1 =>
     refine AC<|rn ⟨(NO types name [(49,tI v49),(50,tB (decide ((v49:Int)<((types.getD (CJ types name).toNat default).Gates.length:Int))))]),[Cg,(7,.cells [.s name,.own 100000 7 v7_1.length,.own 100001 2 v7_2.length] 61),(GE v7_1),(100001,.row 2 v7_2.length (Ak A0.c v7_2) 166)]⟩<|AC ?_
     refine AY _ rfl (fun h3 => ?_) (fun h3 => ?_)
     ·have g3:=oT h3
      refine Ae<|AH ?_
      refine AC<|Af<|AC ?_
      refine rc [] [0<=(v49:Int)/\(v49:Int)<(((types.getD (CJ types name).toNat default).Gates.length:Nat):Int)] ⟨[(4,tP 4 0),(7,tP 7 0),(11,tP 11 0),(YC types name),(YD types name),(49,tI v49)],[Cg,(7,.cells [.s name,.own 100000 7 v7_1.length,.own 100001 2 v7_2.length] 61),(11,.cells (A0.c (Z0n types name v49)) 166),(GE v7_1),(100001,.row 2 v7_2.length (Ak A0.c v7_2) 166)]⟩ .nil (.cons au20 .nil)<|AH ?_
      refine dw [] [(59,I3 (Z0n types name v49).Legs)] [Ap (I3 (Z0n types name v49).Legs).2.1,v7_2.length=v7_2.length,v7_2.length+1<=maxLen,(v7_2.length+1)*32<=140737488355328] ⟨(NO types name [(49,tI v49)]),[Cg,(7,.cells [.s name,.own 100000 7 v7_1.length,.own 62 2 (v7_2.length+1)] 61),(62,.row 2 (v7_2.length+1) (fun i_ j_=>if i_<v7_2.length then (Ak A0.c v7_2) i_ j_ else (A8 2 1 [.i (Z0n types name v49).Kind,lst 2 Bd.c (Gc (Z0n types name v49).Legs)]) (i_-v7_2.length) j_) 166),(GE v7_1)]⟩ (.cons (Ww (Z0n types name v49).Legs (by first | assumption | exact P0 (hta _) _ | exact OH (hta _) _ | omega)) .nil) (.cons rfl (.cons rfl (.cons au3 (.cons au3 .nil))))<|BZ<|AH ?_
      refine Bq (Cv.trans (BS (⟨(NO types name [(49,tI v49)]),[Cg,(7,.cells [.s name,.own 100000 7 v7_1.length,.own 62 2 (Lo v7_2 types name v49).length] 61),(62,.row 2 (Lo v7_2 types name v49).length (Ak A0.c (Lo v7_2 types name v49)) 166),(GE v7_1)]⟩) lr (.cons ⟨rfl,.refl _⟩ (.cons ⟨rfl,.cells _ (rr (rr (.cons (.own _ _ au2) .nil)))⟩ (.cons ⟨rfl,Aw 166 (Bi (BR 2 A0.c v7_2) (A3 (c:=A0.c) (xs:=([A0.mk (Z0n types name v49).Kind (Gc (Z0n types name v49).Legs)]:List A0)) rfl kr))⟩ lr)))) (Cv.refl _)) ?_
      refine rg ⟨(NO types name [(49,tI (W64 (v49+1)))]),[Cg,(7,.cells [.s name,.own 100000 7 v7_1.length,.own 62 2 (Lo v7_2 types name v49).length] 61),(62,.row 2 (Lo v7_2 types name v49).length (Ak A0.c (Lo v7_2 types name v49)) 166),(GE v7_1)]⟩ ?_
      (try rw [(show W64 (v49+1)=v49+1 from Al (by omega) au9)])
      refine AH ?_
      refine ⟨(n1,v7_2++[A0.mk (Z0n types name v49).Kind (Gc (Z0n types name v49).Legs)],v49+1),⟨?_,?_,(by rw [<- hF1];simp only [ID,h3,cond_true,cond_false])⟩,Nat.lt_succ_self _,Cv.trans (vr 62 100001 (K:=[]) (fun k x h=>by cases h)) (Cv.trans (vk [4,7,47,48,49] [4,7,100000,100001]) (A4 kr))⟩
      ·show (((types.getD (CJ types name).toNat default).Gates.length:Int)-(v49+1)).toNat<n1;omega
      ·exact ⟨ax0,ax0,ax0⟩
     ·have g3:=oF h3
      refine BP<|BE ?_
      refine BE<|BQ ?_
      refine AH<|AC ?_
      refine rn ⟨[(4,tP 4 0),(5,tB true)],[(4,.cells [.s name,.own 100000 7 v7_1.length,.own 100001 2 v7_2.length] 61),(GE v7_1),(100001,.row 2 v7_2.length (Ak A0.c v7_2) 166)]⟩<|AZ ?_
      exact ⟨_,Cv.trans (vf 100000 7 v7_1.length (Ak Ay.c v7_1) 120 (K:=[]) (fun k x h=>by cases h) (.cons ⟨rfl,rfl⟩ .nil)) (Cv.trans (vf 100001 2 v7_2.length (Ak A0.c v7_2) 166 (K:=[]) (fun k x h=>by cases h) (.cons ⟨rfl,rfl⟩ .nil)) (Cv.refl _)),.inl rfl,.tup [.agg [.s name,lst 7 Ay.c v7_1,lst 2 A0.c v7_2],.one (.b true)],by kernel_rfl,Ad (by rw [<- hF1];first | (simp only [ID,h3,cond_true,cond_false] <;> rfl))⟩
theorem fR (types:(List AL)) (name:ByteArray) (ht:CS types):Aq Tryz.prog (U4 types name).1 (U4 types name).2.1 (U4 types name).2.2:=AR (fun _ _=>kr) fun _=>pGet types name ht
def Rb (types:List AL) (name:ByteArray):AL×Bool:=match types.find? (fun t=>Fh t name) with
 | some t=>(⟨name,t.Pads,t.Gates⟩,true)
 | none=>(⟨⟨#[]⟩,[],[]⟩,false)
theorem Gy (types:List AL) (name:ByteArray):B9 types name=Rb types name:=by
 unfold B9 Rb
 rw [PD]
 cases hc:decide ((ixI (fun x=>Fh x name) types:Int)<0) with
 | true =>
  rw [ZS (oT hc)]
  rfl
 | false =>
  obtain ⟨_,h2⟩:=ZR (oF hc)
  rw [h2,cond_false]
  have e:=PD types name
  rw [<- e]
  generalize ht:types.getD (CJ types name).toNat default=t
  have h1:=fun (acc0:List Ay) (v0:Int) K0=>cp_l t.Gates (ID types name acc0 v0 K0) (fun acc _=>(AL.mk name acc0 acc,true)) (fun m acc v=>by
   rw [ID]
   unfold Z0n Gc
   rw [ht,Int.toNat_natCast]) t.Gates.length 0 ((((t.Gates.length:Int))-0).toNat+1) [] rfl (Nat.zero_le _) (by omega)
  have h0:=cp_l t.Pads (FS types name) (fun acc v=>(AL.mk name acc t.Gates,true)) (fun m acc v=>by
   rw [FS]
   unfold Z0o
   rw [ht,Int.toNat_natCast]
   have:=h1 acc v (FS types name m)
   rw [List.drop_zero,List.nil_append] at this
   cases decide ((v:Int)<(t.Pads.length:Int)) with
   | true=>rfl
   | false=>exact this) t.Pads.length 0 ((((t.Pads.length:Int))-0).toNat+1) [] rfl (Nat.zero_le _) (by omega)
  rw [List.drop_zero,List.nil_append] at h0
  exact h0
theorem Hv {types:List AL} (h:CS types) (name:ByteArray):((Rb types name).1.Pads.length:Int)<=1000000:=by
 unfold Rb
 cases hf:types.find? (fun t=>Fh t name) with
 | none=>exact (by decide:((0:Nat):Int)<=1000000)
 | some t=>exact (h.2 t (List.mem_of_find?_eq_some hf)).1
end
section
open Go.RowKit
theorem EX:∀ x:AE,∀ y∈AE.c x,NM y:=by
 intro x y hy
 simp only [AE.c,List.mem_cons,List.not_mem_nil,or_false] at hy
 rcases hy with rfl | rfl | rfl | rfl | rfl | rfl | rfl <;> first | exact .val _
theorem W3:∀ x:AW,∀ y∈AW.c x,NM y:=by
 intro x y hy
 simp only [AW.c,List.mem_cons,List.not_mem_nil,or_false] at hy
 rcases hy with rfl | rfl | rfl <;> first | exact .val _ | exact CH EX
theorem FC:∀ x:AG,∀ y∈AG.c x,NM y:=by
 intro x y hy
 simp only [AG.c,List.mem_cons,List.not_mem_nil,or_false] at hy
 rcases hy with rfl | rfl | rfl | rfl | rfl | rfl | rfl <;> first | exact .val _
theorem dG:∀ x:Ac,∀ y∈Ac.c x,NM y:=by
 intro x y hy
 simp only [Ac.c,List.mem_cons,List.not_mem_nil,or_false] at hy
 rcases hy with rfl | rfl <;> first | exact .val _
theorem RM:∀ x:BO,∀ y∈BO.c x,NM y:=by
 intro x y hy
 simp only [BO.c,List.mem_cons,List.not_mem_nil,or_false] at hy
 rcases hy with rfl | rfl <;> first | exact .val _ | exact CH dG
theorem Wz:∀ x:Az,∀ y∈Az.c x,NM y:=by
 intro x y hy
 simp only [Az.c,List.mem_cons,List.not_mem_nil,or_false] at hy
 rcases hy with rfl | rfl | rfl | rfl | rfl | rfl <;> first | exact .val _ | exact CH EX
theorem dF:∀ x:CG,∀ y∈CG.c x,NM y:=by
 intro x y hy
 simp only [CG.c,List.mem_cons,List.not_mem_nil,or_false] at hy
 rcases hy with rfl | rfl | rfl | rfl | rfl | rfl | rfl | rfl <;> first | exact .val _
theorem ZB:∀ x:An,∀ y∈An.c x,NM y:=by
 intro x y hy
 simp only [An.c,List.mem_cons,List.not_mem_nil,or_false] at hy
 rcases hy with rfl | rfl | rfl | rfl <;> first | exact .val _
theorem ZC:∀ x:Bk,∀ y∈Bk.c x,NM y:=by
 intro x y hy
 simp only [Bk.c,List.mem_cons,List.not_mem_nil,or_false] at hy
 rcases hy with rfl | rfl | rfl | rfl | rfl | rfl | rfl | rfl <;> first | exact .val _ | exact CH ZB
theorem ZD:∀ x:Cs,∀ y∈Cs.c x,NM y:=by
 intro x y hy
 simp only [Cs.c,List.mem_cons,List.not_mem_nil,or_false] at hy
 rcases hy with rfl | rfl | rfl | rfl | rfl <;> first | exact .val _ | exact CH EX
theorem ZA:∀ x:Dh,∀ y∈Dh.c x,NM y:=by
 intro x y hy
 simp only [Dh.c,List.mem_cons,List.not_mem_nil,or_false] at hy
 rcases hy with rfl | rfl | rfl | rfl <;> first | exact .val _ | exact CH EX
theorem W5:∀ x:B5,∀ y∈B5.c x,NM y:=by
 intro x y hy
 simp only [B5.c,List.mem_cons,List.not_mem_nil,or_false] at hy
 rcases hy with rfl | rfl <;> first | exact .val _ | exact CH (fun x y hy=>by rw [List.mem_singleton.1 hy];exact .val _)
theorem Ub:∀ x:B1,∀ y∈B1.c x,NM y:=by
 intro x y hy
 simp only [B1.c,List.mem_cons,List.not_mem_nil,or_false] at hy
 rcases hy with rfl | rfl | rfl <;> first | exact .val _
theorem W4:∀ x:Di,∀ y∈Di.c x,NM y:=by
 intro x y hy
 simp only [Di.c,List.mem_cons,List.not_mem_nil,or_false] at hy
 rcases hy with rfl | rfl | rfl <;> first | exact .val _ | exact CH (fun x y hy=>by rw [List.mem_singleton.1 hy];exact .val _)
theorem JF:∀ x:Ay,∀ y∈Ay.c x,NM y:=by
 intro x y hy
 simp only [Ay.c,List.mem_cons,List.not_mem_nil,or_false] at hy
 rcases hy with rfl | rfl | rfl | rfl | rfl | rfl | rfl <;> first | exact .val _ | exact CH EX
theorem dH:∀ x:Bd,∀ y∈Bd.c x,NM y:=by
 intro x y hy
 simp only [Bd.c,List.mem_cons,List.not_mem_nil,or_false] at hy
 rcases hy with rfl | rfl <;> first | exact .val _
theorem ZF:∀ x:A0,∀ y∈A0.c x,NM y:=by
 intro x y hy
 simp only [A0.c,List.mem_cons,List.not_mem_nil,or_false] at hy
 rcases hy with rfl | rfl <;> first | exact .val _ | exact CH dH
theorem OP:∀ x:AL,∀ y∈AL.c x,NM y:=by
 intro x y hy
 simp only [AL.c,List.mem_cons,List.not_mem_nil,or_false] at hy
 rcases hy with rfl | rfl | rfl <;> first | exact .val _ | exact CH ZF | exact CH JF
theorem ZE:∀ x:BV,∀ y∈BV.c x,NM y:=by
 intro x y hy
 simp only [BV.c,List.mem_cons,List.not_mem_nil,or_false] at hy
 rcases hy with rfl | rfl | rfl | rfl | rfl | rfl | rfl | rfl | rfl <;> first | exact .val _ | exact CH EX
end
section
open Go.RowKit
abbrev A6 (b:AF) (t_:List Cl):List Cl:=(.i b.Layers)::(.i b.Outline.Kind)::(lst 7 AE.c b.Outline.Edges)::(.i b.Outline.R)::(lst 7 AG.c b.Parts)::(lst 2 BO.c b.Nets)::t_
abbrev CL (b:AF) (t_:List Cl):List Cl:=(lst 6 Az.c b.Tracks)::(lst 8 CG.c b.Vias)::(lst 8 Bk.c b.Pours)::(lst 5 Cs.c b.Keeps)::(lst 4 Dh.c b.Slots)::t_
abbrev DC (b:AF):List Cl:=(A6 b (CL b [lst 2 B5.c b.Classes,.any,lst 3 B1.c b.Waivers,lst 3 Di.c b.Matches]))
theorem Lx (b:AF):∀ y∈DC b,NM y:=by
 intro y hy
 simp only [DC,List.mem_cons,List.not_mem_nil,or_false] at hy
 rcases hy with rfl | rfl | rfl | rfl | rfl | rfl | rfl | rfl | rfl | rfl | rfl | rfl | rfl | rfl | rfl <;> first | exact .val _ | exact .any | exact CH EX | exact CH FC | exact CH RM | exact CH Wz | exact CH dF | exact CH ZC | exact CH ZD | exact CH ZA | exact CH W5 | exact CH Ub | exact CH W4
def D1 (types:List AL) (p:AG):List (AG×Ay):=(B9 types p.Type').1.Pads.map fun q=>(p,q)
def Ai (b:AF) (types:List AL):List (AG×Ay):=(CF b.Parts).flatMap (D1 types)
def HM (b:AF) (types:List AL) (k:Nat):Nat:=(((CF b.Parts).take k).flatMap (D1 types)).length
theorem GQ (types:List AL) (p:AG):(D1 types p).length=(B9 types p.Type').1.Pads.length:=List.length_map _
theorem Wm (b:AF) (types:List AL):HM b types (CF b.Parts).length=(Ai b types).length:=by unfold HM Ai;rw [List.take_length]
theorem UR (b:AF) (types:List AL) {k:Nat} (h:k<(CF b.Parts).length):HM b types (k+1)=HM b types k+(B9 types ((CF b.Parts).getD k default).Type').1.Pads.length:=by
 unfold HM
 rw [(D7 _ k h).1,List.flatMap_append,List.length_append,List.flatMap_singleton,GQ]
theorem Ym (b:AF) (types:List AL) {k j:Nat} (h:k<(CF b.Parts).length) (hj:j<(B9 types ((CF b.Parts).getD k default).Type').1.Pads.length) :
  HM b types k+j<(Ai b types).length/\(Ai b types).getD (HM b types k+j) default=((CF b.Parts).getD k default,(B9 types ((CF b.Parts).getD k default).Type').1.Pads.getD j default):=by
 have e:Ai b types=((CF b.Parts).take k).flatMap (D1 types)++(D1 types ((CF b.Parts).getD k default)++((CF b.Parts).drop (k+1)).flatMap (D1 types)):=by
  unfold Ai
  rw [<- List.flatMap_cons,<- (D7 _ k h).2,<- List.flatMap_append,List.take_append_drop]
 have hl:=GQ types ((CF b.Parts).getD k default)
 rw [e]
 unfold HM
 constructor
 ·rw [List.length_append,List.length_append,hl];omega
 ·rw [List.getD_eq_getElem?_getD,List.getElem?_append_right (by omega),Nat.add_sub_cancel_left,List.getElem?_append_left (by rw [hl];exact hj)]
  unfold D1
  rw [List.getElem?_map,List.getElem?_eq_getElem hj,List.getD_eq_getElem?_getD (l:=(B9 types _).1.Pads),List.getElem?_eq_getElem hj]
  rfl
abbrev D6 (types:List AL):Nat×Tv:=(2,.av (.one (.eptr 1 1 (gD [lst 3 AL.c types]) 0 0)))
abbrev E8 (b:AF):Nat×Tv:=(17,tI ((CF b.Parts).length:Int))
abbrev E7 (b:AF):Nat×Tv:=(16,tO (lst 7 AG.c (CF b.Parts)))
theorem cF (b:AF) (types:List AL) (hb:b.Parts.length<20) (ht:CS types):JA Tryz.prog 56 2 (BU [.eptr 15 1 (gD (DC b)) 0 0,.eptr 1 1 (gD [lst 3 AL.c types]) 0 0]) (Ai b types).length (fun x=>[.agg (AG.c ((Ai b types).getD x.val default).1),.agg (Ay.c ((Ai b types).getD x.val default).2)]):=by
 refine S0 Tryz.func56 rfl rfl kr (fun i hi => ?_) ?_
 ·match i,hi with
  | 0,_=>rfl
  | 1,_=>rfl
 intro Ow n0 ly JJ hO hJg hY
 have hd:∀ (x:List (Nat×Tv)),(∀ p∈x,p.2.dv=true)->∀ i u,get x i=some u->u.dv=true:=fun x h=>BW (p:=fun u=>Tv.dv u=true) h
 refine ZX hO (BW (p:=fun u=>Tv.dv u=true) (by simp [EB,CW,Tv.dv,Av.dv,Cl.dv,List.range,List.range.loop,BU])) rfl fun W0 X1 M1 hX => ?_
 have hp1:(b.Parts.length:Int)<=1000000:=by omega
 refine rs 13 (ND b.Parts) ⟨[(0,.av (.one (.val (.func (.yield ly) #[] #[])))),(D6 types),(4,tO (.own 13 7 b.Parts.length))],[(13,.row 7 b.Parts.length (Ak AG.c b.Parts) 49)]⟩ (Yz b.Parts au13)<|AH ?_
 refine rb 15 (58,([.one (.own 1000 7 b.Parts.length),.one (.clo 59 0 (fun _=>default))]:List Av).map (SF 1000 13),wrI 13 (.row 7 b.Parts.length (Ak AG.c b.Parts) 49) (.tup []) (.row 7 b.Parts.length (Ak AG.c (CF b.Parts)) 49)) (.row 7 b.Parts.length (Ak AG.c b.Parts) 49) ⟨[(0,.av (.one (.val (.func (.yield ly) #[] #[])))),(D6 types),(4,tO (.own 13 7 b.Parts.length))],[(13,.row 7 b.Parts.length (Ak AG.c (CF b.Parts)) 49)]⟩ (KZ (fun _ _=>kr) kr (pSrtP b.Parts au13)) ?_
 refine ⟨rfl,⟨[(0,.av (.one (.val (.func (.yield ly) #[] #[])))),(D6 types),(4,tO (lst 7 AG.c (CF b.Parts)))],[]⟩,fun W2 M2=>Cv.trans (BS (⟨[(0,.av (.one (.val (.func (.yield ly) #[] #[])))),(D6 types),(4,tO (.own 13 7 (CF b.Parts).length))],[(13,.row 7 (CF b.Parts).length (Ak AG.c (CF b.Parts)) 49)]⟩) (.cons ⟨rfl,.refl _⟩ (.cons ⟨rfl,.refl _⟩ (.cons ⟨rfl,.av (.one (.own _ _ (JZ b.Parts au13).symm))⟩ .nil))) (.cons ⟨rfl,Aw 49 (⟨(JZ b.Parts au13).symm,fun _ _ _ _=>.refl _⟩)⟩ .nil)) (Cv.trans (wf (⟨[(0,.av (.one (.val (.func (.yield ly) #[] #[])))),(D6 types),(4,tO (lst 7 AG.c (CF b.Parts)))],[]⟩) 13 7 (CF b.Parts).length (Ak AG.c (CF b.Parts)) 49 (K:=[]) (fun k x h=>by cases h) (.cons ⟨rfl,rfl⟩ .nil)) (Cv.refl _)),?_⟩
 have hps:=JZ b.Parts hb
 refine Cy ?_
 refine DZ hO (hd _ (by simp only [List.forall_mem_cons];exact ⟨rfl,rfl,rfl,fun x hx=>by cases hx⟩)) rfl fun W0 X1 M1 => ?_
 refine rg ⟨[(0,.av (.one (.val (.func (.yield ly) #[] #[])))),(D6 types),(E7 b),(E8 b),(18,tI 0)],[]⟩ ?_
 refine DA ?_
 refine Fb ?_
 refine M9 (ι:=Nat) (fun k=>⟨[(0,.av (.one (.val (.func (.yield ly) #[] #[])))),(D6 types),(E7 b),(E8 b),(18,tI (k:Int))],[]⟩) (fun k=>JJ (HM b types k)) (fun k=>k<=(CF b.Parts).length) (fun k=>(CF b.Parts).length-k) (fun k hk => ?_) 0 (Nat.zero_le _)
 refine Cy ?_
 refine DZ hO (hd _ (by simp only [List.forall_mem_cons];exact ⟨rfl,rfl,rfl,rfl,rfl,fun x hx=>by cases hx⟩)) rfl fun W0 X1 M1 => ?_
 refine rg ⟨[(0,.av (.one (.val (.func (.yield ly) #[] #[])))),(D6 types),(E7 b),(E8 b),(18,tI (k:Int)),(19,tB (decide (((k:Int):Int)<((CF b.Parts).length:Int))))],[]⟩ ?_
 refine DA ?_
 refine Cy ?_
 refine FO (decide (((k:Int):Int)<((CF b.Parts).length:Int))) kr (fun hc => ?_) (fun hc => ?_)
 ·have hlt:k<(CF b.Parts).length:=by have:=oT hc;omega
  refine Gs ?_
  refine DA ?_
  refine Cy ?_
  refine Fb ?_
  refine Cy ?_
  refine Ob [0,2,16,17,18] ⟨[(0,.av (.one (.val (.func (.yield ly) #[] #[])))),(D6 types),(E7 b),(E8 b),(18,tI (k:Int))],[]⟩ kr ?_
  refine DZ hO (hd _ (by simp only [List.forall_mem_cons];exact ⟨rfl,rfl,rfl,rfl,rfl,fun x hx=>by cases hx⟩)) rfl fun W0 X1 M1 => ?_
  refine rc [] [0<=((k:Int):Int)/\((k:Int):Int)<(((CF b.Parts).length:Nat):Int)] ⟨[(0,.av (.one (.val (.func (.yield ly) #[] #[])))),(D6 types),(6,tP 6 0),(E7 b),(E8 b),(18,tI (k:Int))],[(6,.cells (AG.c ((CF b.Parts).getD (k:Int).toNat default)) 49)]⟩ .nil (.cons au0 .nil) ?_
  refine DA ?_
  refine ZY (S:=⟨[(0,.av (.one (.val (.func (.yield ly) #[] #[])))),(D6 types),(6,.av (.one (.eptr 7 1 (gD (AG.c ((CF b.Parts).getD (k:Int).toNat default))) 0 0))),(E7 b),(E8 b),(18,tI (k:Int))],[]⟩) hO (fun W0 M1=>I2 _ 6 (AG.c ((CF b.Parts).getD (k:Int).toNat default)) 49 (K:=[]) (fun k x h=>by cases h) kr kr kr kr) ?_
  have hns:=UR b types hlt
  have hat:=fun j hj=>Ym b types (j:=j) hlt hj
  rw [Int.toNat_natCast]
  generalize hp:(CF b.Parts).getD k default=p at *
  refine Cy ?_
  have hgl:=Gy types p.Type'
  have hpl:((B9 types p.Type').1.Pads.length:Int)<=1000000:=by rw [hgl];exact Hv ht _
  refine DZ hO (hd _ (by simp only [List.forall_mem_cons];exact ⟨rfl,rfl,rfl,rfl,rfl,rfl,fun x hx=>by cases hx⟩)) rfl fun W0 X1 M1 => ?_
  refine rs 26 (U4 types p.Type') ⟨[(0,.av (.one (.val (.func (.yield ly) #[] #[])))),(D6 types),(6,.av (.one (.eptr 7 1 (gD (AG.c p)) 0 0))),(7,tP 7 0),(E7 b),(E8 b),(18,tI (k:Int))],[(7,.cells (AL.c (B9 types p.Type').1) 61)]⟩ (fR types p.Type' au13) ?_
  refine DA ?_
  refine ZY (S:=⟨[(0,.av (.one (.val (.func (.yield ly) #[] #[])))),(D6 types),(6,.av (.one (.eptr 7 1 (gD (AG.c p)) 0 0))),(7,.av (.one (.eptr 3 1 (gD (AL.c (B9 types p.Type').1)) 0 0))),(E7 b),(E8 b),(18,tI (k:Int))],[]⟩) hO (fun W0 M1=>I2 _ 7 (AL.c (B9 types p.Type').1) 61 (K:=[]) (fun k x h=>by cases h) kr kr kr kr) ?_
  refine Cy ?_
  refine DZ hO (hd _ (by simp only [List.forall_mem_cons];exact ⟨rfl,rfl,rfl,rfl,rfl,rfl,rfl,fun x hx=>by cases hx⟩)) rfl fun W0 X1 M1 => ?_
  refine rg ⟨[(0,.av (.one (.val (.func (.yield ly) #[] #[])))),(D6 types),(6,.av (.one (.eptr 7 1 (gD (AG.c p)) 0 0))),(E7 b),(E8 b),(18,tI (k:Int)),(30,tO (lst 7 Ay.c (B9 types p.Type').1.Pads)),(31,tI ((B9 types p.Type').1.Pads.length:Int)),(32,tI 0)],[]⟩ ?_
  refine DA ?_
  refine Fb ?_
  refine M9 (ι:=Nat) (fun j=>⟨[(0,.av (.one (.val (.func (.yield ly) #[] #[])))),(D6 types),(6,.av (.one (.eptr 7 1 (gD (AG.c p)) 0 0))),(E7 b),(E8 b),(18,tI (k:Int)),(30,tO (lst 7 Ay.c (B9 types p.Type').1.Pads)),(31,tI ((B9 types p.Type').1.Pads.length:Int)),(32,tI (j:Int))],[]⟩) (fun j=>JJ (HM b types k+j)) (fun j=>j<=(B9 types p.Type').1.Pads.length) (fun j=>(B9 types p.Type').1.Pads.length-j) (fun j hj => ?_) 0 (Nat.zero_le _)
  refine Cy ?_
  refine DZ hO (hd _ (by simp only [List.forall_mem_cons];exact ⟨rfl,rfl,rfl,rfl,rfl,rfl,rfl,rfl,rfl,fun x hx=>by cases hx⟩)) rfl fun W0 X1 M1 => ?_
  refine rg ⟨[(0,.av (.one (.val (.func (.yield ly) #[] #[])))),(D6 types),(6,.av (.one (.eptr 7 1 (gD (AG.c p)) 0 0))),(E7 b),(E8 b),(18,tI (k:Int)),(30,tO (lst 7 Ay.c (B9 types p.Type').1.Pads)),(31,tI ((B9 types p.Type').1.Pads.length:Int)),(32,tI (j:Int)),(33,tB (decide (((j:Int):Int)<((B9 types p.Type').1.Pads.length:Int))))],[]⟩ ?_
  refine DA ?_
  refine Cy ?_
  refine FO (decide (((j:Int):Int)<((B9 types p.Type').1.Pads.length:Int))) kr (fun hc2 => ?_) (fun hc2 => ?_)
  ·have hlt2:j<(B9 types p.Type').1.Pads.length:=by have:=oT hc2;omega
   obtain ⟨hat1,hat2⟩:=hat j hlt2
   refine Gs ?_
   refine DA ?_
   refine Cy ?_
   refine Fb ?_
   refine Cy ?_
   refine Ob [0,2,6,16,17,18,30,31,32] ⟨[(0,.av (.one (.val (.func (.yield ly) #[] #[])))),(D6 types),(6,.av (.one (.eptr 7 1 (gD (AG.c p)) 0 0))),(E7 b),(E8 b),(18,tI (k:Int)),(30,tO (lst 7 Ay.c (B9 types p.Type').1.Pads)),(31,tI ((B9 types p.Type').1.Pads.length:Int)),(32,tI (j:Int))],[]⟩ kr ?_
   refine DZ hO (hd _ (by simp only [List.forall_mem_cons];exact ⟨rfl,rfl,rfl,rfl,rfl,rfl,rfl,rfl,rfl,fun x hx=>by cases hx⟩)) rfl fun W0 X1 M1 => ?_
   refine rc [] [0<=((j:Int):Int)/\((j:Int):Int)<(((B9 types p.Type').1.Pads.length:Nat):Int)] ⟨[(0,.av (.one (.val (.func (.yield ly) #[] #[])))),(D6 types),(6,.av (.one (.eptr 7 1 (gD (AG.c p)) 0 0))),(10,tP 10 0),(E7 b),(E8 b),(18,tI (k:Int)),(30,tO (lst 7 Ay.c (B9 types p.Type').1.Pads)),(31,tI ((B9 types p.Type').1.Pads.length:Int)),(32,tI (j:Int))],[(10,.cells (Ay.c ((B9 types p.Type').1.Pads.getD (j:Int).toNat default)) 120)]⟩ .nil (.cons au0 .nil) ?_
   refine DA ?_
   refine ZY (S:=⟨[(0,.av (.one (.val (.func (.yield ly) #[] #[])))),(D6 types),(6,.av (.one (.eptr 7 1 (gD (AG.c p)) 0 0))),(10,.av (.one (.eptr 7 1 (gD (Ay.c ((B9 types p.Type').1.Pads.getD (j:Int).toNat default))) 0 0))),(E7 b),(E8 b),(18,tI (k:Int)),(30,tO (lst 7 Ay.c (B9 types p.Type').1.Pads)),(31,tI ((B9 types p.Type').1.Pads.length:Int)),(32,tI (j:Int))],[]⟩) hO (fun W0 M1=>I2 _ 10 (Ay.c ((B9 types p.Type').1.Pads.getD (j:Int).toNat default)) 120 (K:=[]) (fun k x h=>by cases h) kr kr kr kr) ?_
   rw [Int.toNat_natCast]
   generalize hq:(B9 types p.Type').1.Pads.getD j default=q at *
   refine Cy ?_
   refine Oa ?_
   refine K7 hO D3 3 [0,2,6,10,16,17,18,30,31,32,36,37,38] [] [(0,.av (.one (.val (.func (.yield ly) #[] #[])))),(2,.av (.one (.eptr 1 1 (gD [lst 3 AL.c types]) 0 0))),(6,.av (.one (.eptr 7 1 (gD (AG.c p)) 0 0))),(10,.av (.one (.eptr 7 1 (gD (Ay.c q)) 0 0))),(16,tO (lst 7 AG.c (CF b.Parts))),(17,tI ((CF b.Parts).length:Int)),(18,tI (k:Int)),(30,tO (lst 7 Ay.c (B9 types p.Type').1.Pads)),(31,tI ((B9 types p.Type').1.Pads.length:Int)),(32,tI (j:Int)),(36,.av (.one (.val (.func (.yield ly) #[] #[])))),(37,.av (.agg (AG.c p))),(38,.av (.agg (Ay.c q)))] kr .nil (hd _ (by simp only [List.forall_mem_cons];exact ⟨rfl,rfl,rfl,rfl,rfl,rfl,rfl,rfl,rfl,rfl,fun x hx=>by cases hx⟩)) rfl ?_
   refine Uk (ly:=ly) (d:=39) hO rfl [.agg (AG.c p),.agg (Ay.c q)] rfl rfl kr kr kr ?hvm rfl kr ?hT1 (fun A B=>hJg _ A B) (JJ (HM b types k+j+1)) ?hY rfl ?ht
   case hvm =>
    intro x hx
    simp only [List.mem_cons,List.not_mem_nil,or_false] at hx
    rcases hx with rfl | rfl
    ·exact FC _
    ·exact JF _
   case hT1=>exact BW (p:=fun u=>Tv.dv u=true/\TvM u) (by
    simp only [List.forall_mem_cons]
    exact ⟨⟨rfl,BC (.val _)⟩,⟨rfl,BC (ET (by simp only [List.forall_mem_cons];exact ⟨(CH OP),fun x hx=>by cases hx⟩))⟩,⟨rfl,BC (ET (FC _))⟩,⟨rfl,BC (ET (JF _))⟩,⟨rfl,BC (CH FC)⟩,⟨rfl,BC (.val _)⟩,⟨rfl,BC (.val _)⟩,⟨rfl,BC (CH JF)⟩,⟨rfl,BC (.val _)⟩,⟨rfl,BC (.val _)⟩,⟨rfl,BC (.val _)⟩,⟨rfl,(FC _)⟩,⟨rfl,(JF _)⟩,fun x hx=>by cases hx⟩)
   case hY =>
    intro W v hW hv
    refine hY _ hat1 W v hW ?_
    show fB (fun _=>none) Ow [.agg (AG.c ((Ai b types).getD (HM b types k+j) default).1),.agg (Ay.c ((Ai b types).getD (HM b types k+j) default).2)] v W
    rw [hat2]
    exact hv
   case ht =>
    refine OZ [0,2,6,16,17,18,30,31,32,39] ⟨[(0,.av (.one (.val (.func (.yield ly) #[] #[])))),(D6 types),(6,.av (.one (.eptr 7 1 (gD (AG.c p)) 0 0))),(E7 b),(E8 b),(18,tI (k:Int)),(30,tO (lst 7 Ay.c (B9 types p.Type').1.Pads)),(31,tI ((B9 types p.Type').1.Pads.length:Int)),(32,tI (j:Int)),(39,tB true)],[]⟩ kr ?_
    refine K7 hO D3 1 [0,2,6,16,17,18,30,31,32,40] [] [(0,.av (.one (.val (.func (.yield ly) #[] #[])))),(2,.av (.one (.eptr 1 1 (gD [lst 3 AL.c types]) 0 0))),(6,.av (.one (.eptr 7 1 (gD (AG.c p)) 0 0))),(16,tO (lst 7 AG.c (CF b.Parts))),(17,tI ((CF b.Parts).length:Int)),(18,tI (k:Int)),(30,tO (lst 7 Ay.c (B9 types p.Type').1.Pads)),(31,tI ((B9 types p.Type').1.Pads.length:Int)),(32,tI (j:Int)),(40,tB false)] kr .nil (hd _ (by simp only [List.forall_mem_cons];exact ⟨rfl,rfl,rfl,rfl,rfl,rfl,rfl,rfl,rfl,rfl,fun x hx=>by cases hx⟩)) rfl ?_
    refine RX ?_
    refine DA ?_
    refine FO false kr (fun h=>by cases h) (fun _ => ?_)
    refine Gs ?_
    refine V7 ?_
    refine DA ?_
    refine DZ hO (hd _ (by simp only [List.forall_mem_cons];exact ⟨rfl,rfl,rfl,rfl,rfl,rfl,rfl,rfl,rfl,rfl,fun x hx=>by cases hx⟩)) rfl fun W0 X1 M1 => ?_
    refine rg ⟨[(0,.av (.one (.val (.func (.yield ly) #[] #[])))),(D6 types),(6,.av (.one (.eptr 7 1 (gD (AG.c p)) 0 0))),(E7 b),(E8 b),(18,tI (k:Int)),(30,tO (lst 7 Ay.c (B9 types p.Type').1.Pads)),(31,tI ((B9 types p.Type').1.Pads.length:Int)),(32,tI (W64 ((j:Int)+1)))],[]⟩ ?_
    refine DA ?_
    refine ⟨j+1,by omega,by omega,?_,by rw [Nat.add_assoc],rfl⟩
    rw [Al (by omega) (by omega)]
    rfl
  ·have hjl:j=(B9 types p.Type').1.Pads.length:=by have:=oF hc2;omega
   refine NA ?_
   refine Ma ?_
   refine Ma ?_
   refine NB ?_
   refine V7 ?_
   refine DA ?_
   refine Ob [0,2,16,17,18] ⟨[(0,.av (.one (.val (.func (.yield ly) #[] #[])))),(D6 types),(E7 b),(E8 b),(18,tI (k:Int))],[]⟩ kr ?_
   refine DZ hO (hd _ (by simp only [List.forall_mem_cons];exact ⟨rfl,rfl,rfl,rfl,rfl,fun x hx=>by cases hx⟩)) rfl fun W0 X1 M1 => ?_
   refine rg ⟨[(0,.av (.one (.val (.func (.yield ly) #[] #[])))),(D6 types),(E7 b),(E8 b),(18,tI (W64 ((k:Int)+1)))],[]⟩ ?_
   refine DA ?_
   refine ⟨k+1,by omega,by omega,?_,by rw [hjl,hns],rfl⟩
   rw [Al (by omega) (by omega)]
   rfl
 ·have hkl:k=(CF b.Parts).length:=by have:=oF hc;omega
  refine NA ?_
  refine Ma ?_
  refine Ma ?_
  refine NB ?_
  exact ⟨.inr rfl,by rw [hkl,Wm]⟩
end
section
open Go.RowKit
section
variable (len:Nat) (g:Nat→Nat→Value)
abbrev Rn:Cl:=aG false 2 len (fun i j=>.val (g i j))
theorem dE:NM (Rn len g):=ET fun y hy=>by rw [List.mem_singleton.1 hy];exact .list _ _ _ _ fun i j=>.val _
abbrev ylB (ly:Nat):Tv:=.av (.one (.val (.func (.yield ly) #[] #[])))
abbrev tB1 (c:Cl):Tv:=.av (.one c)
abbrev avB (k:Nat):Av:=.agg [.val (g k 0),.val (g k 1)]
theorem aK (hl:(len:Int)<=1000000) (h1:∀ i j,i<len->j<2->(g i j).oneCell'=true):JA Tryz.prog 55 1 (BU [Rn len g]) len (fun x=>[.one (.i ((len:Int)-1-(x.val:Int))),avB g (len-1-x.val)]):=by
 refine XI Tryz.func55 rfl rfl (fun x=>rfl) (fun x e he c hc => ?_) kr (fun i hi => ?_) ?_
 ·simp only [List.mem_cons,List.not_mem_nil,or_false] at he
  rcases he with rfl | rfl
  ·rw [List.mem_singleton.1 hc];rfl
  ·simp only [Av.cells,List.mem_cons,List.not_mem_nil,or_false] at hc
   have:=x.isLt
   rcases hc with rfl | rfl <;> exact h1 _ _ (by omega) (by decide)
 ·match i,hi with
  | 0,_=>rfl
 intro Ow n0 ly JJ Jx hO hJg hY
 have hd:∀ (x:List (Nat×Tv)),(∀ p∈x,p.2.dv=true)->∀ i u,get x i=some u->u.dv=true:=fun x h=>BW (p:=fun u=>Tv.dv u=true) h
 refine Cy ?_
 refine DZ hO (BW (p:=fun u=>Tv.dv u=true) (by simp [EB,CW,Tv.dv,Av.dv,Cl.dv,List.range,List.range.loop,BU])) rfl fun W0 X1 M1 => ?_
 refine rg ⟨[(0,ylB ly),(1,tB1 (Rn len g)),(3,tI (W64 ((len:Int)-1)))],[]⟩ ?_
 refine DA ?_
 refine Fb ?_
 rw [show W64 ((len:Int)-1)=(len:Int)-1-((0:Nat):Int) by rw [Al (by omega) (by omega)];omega]
 refine M9 (ι:=Nat) (fun k=>⟨[(0,ylB ly),(1,tB1 (Rn len g)),(3,tI ((len:Int)-1-(k:Int)))],[]⟩) (fun k=>JJ k) (fun k=>k<=len) (fun k=>len-k) (fun k hk => ?_) 0 (Nat.zero_le _)
 refine Cy ?_
 refine Cy ?_
 refine DZ hO (hd _ (by simp only [List.forall_mem_cons];exact ⟨rfl,rfl,rfl,fun x hx=>by cases hx⟩)) rfl fun W0 X1 M1 => ?_
 refine rg ⟨[(0,ylB ly),(1,tB1 (Rn len g)),(3,tI ((len:Int)-1-(k:Int))),(8,tB (decide ((0:Int)<=((len:Int)-1-(k:Int)))))],[]⟩ ?_
 refine DA ?_
 refine FO (decide ((0:Int)<=((len:Int)-1-(k:Int)))) kr (fun hc => ?_) (fun hc => ?_)
 ·have hlt:k<len:=by have:=oT hc;omega
  obtain ⟨m,hm⟩:∃ m:Nat,(len:Int)-1-(k:Int)=(m:Int):=⟨len-1-k,by omega⟩
  have hm2:m=len-1-k:=by omega
  refine Gs ?_
  refine DA ?_
  refine Cy ?_
  refine Fb ?_
  refine Cy ?_
  refine Oa ?_
  rw [hm]
  refine K7 hO D3 6 [0,1,3,11,12,16] [0<=(m:Int)/\(m:Int)<((len:Nat):Int)] [(0,ylB ly),(1,tB1 (Rn len g)),(3,tI (m:Int)),(11,ylB ly),(12,tI (m:Int)),(16,.av (avB g (m:Int).toNat))] kr (.cons ⟨by omega,by omega⟩ .nil) (hd _ (by simp only [List.forall_mem_cons];exact ⟨rfl,rfl,rfl,rfl,fun x hx=>by cases hx⟩)) rfl ?_
  rw [Int.toNat_natCast]
  refine Ul (ly:=ly) (d:=17) hO rfl [.one (.i (m:Int)),avB g m] rfl rfl kr kr rfl rfl kr ?hT1 (fun A B=>hJg _ A B) (JJ (k+1)) (Jx (k+1)) ?hY [] ?htf rfl ?ht ?hf
  case hT1=>exact BW (p:=fun u=>Tv.dv u=true/\TvM u) (by
   simp only [List.forall_mem_cons]
   exact ⟨⟨rfl,BC (.val _)⟩,⟨rfl,BC (dE len g)⟩,⟨rfl,BC (.val _)⟩,⟨rfl,BC (.val _)⟩,⟨rfl,BC (.val _)⟩,⟨rfl,fun c hc=>by
    simp only [Av.cells,List.mem_cons,List.not_mem_nil,or_false] at hc
    rcases hc with rfl | rfl <;> exact .val _⟩,fun x hx=>by cases hx⟩)
  case hY =>
   intro W hW
   have:=hY k hlt W hW
   simp only [hm,<- hm2] at this
   exact this
  case htf=>exact fun i v hv=>by cases hv
  case ht =>
   refine OZ [0,1,3,17] ⟨[(0,ylB ly),(1,tB1 (Rn len g)),(3,tI (m:Int)),(17,tB true)],[]⟩ kr ?_
   refine K7 hO D3 1 [0,1,3,18] [] [(0,ylB ly),(1,tB1 (Rn len g)),(3,tI (m:Int)),(18,tB false)] kr .nil (hd _ (by simp only [List.forall_mem_cons];exact ⟨rfl,rfl,rfl,rfl,fun x hx=>by cases hx⟩)) rfl ?_
   refine RX ?_
   refine DA ?_
   refine FO false kr (fun h=>by cases h) (fun _ => ?_)
   refine Gs ?_
   refine V7 ?_
   refine DA ?_
   refine DZ hO (hd _ (by simp only [List.forall_mem_cons];exact ⟨rfl,rfl,rfl,rfl,fun x hx=>by cases hx⟩)) rfl fun W0 X1 M1 => ?_
   refine rg ⟨[(0,ylB ly),(1,tB1 (Rn len g)),(3,tI (W64 ((m:Int)-1)))],[]⟩ ?_
   refine DA ?_
   refine ⟨k+1,by omega,by omega,?_,rfl,rfl⟩
   rw [Al (by omega) (by omega),show (m:Int)-1=(len:Int)-1-((k+1:Nat):Int) by omega]
  case hf =>
   refine OZ [17] ⟨[(17,tB false)],[]⟩ kr ?_
   refine K7 hO D3 1 [18] [] [(18,tB true)] kr .nil (hd _ (by simp only [List.forall_mem_cons];exact ⟨rfl,fun x hx=>by cases hx⟩)) rfl ?_
   refine RX ?_
   refine DA ?_
   refine FO true kr (fun _ => ?_) (fun h=>by cases h)
   refine ZW ?_
   exact ⟨.inl rfl,.inr ⟨_,hlt,rfl⟩⟩
 ·have hkl:k=len:=by have:=oF hc;omega
  refine NA ?_
  refine Ma ?_
  refine Ma ?_
  refine NB ?_
  exact ⟨.inr rfl,.inl (by rw [hkl])⟩
end
theorem eS (l:List BO) (hl:(l.length:Int)<=1000000):JA Tryz.prog 55 1 (BU [.eptr 1 1 (fun _ j=>([lst 2 BO.c l]:List Cl).getD j default) 0 0]) l.length (fun x=>[.one (.i ((l.length:Int)-1-(x.val:Int))),.agg (BO.c (l.getD (l.length-1-x.val) default))]):=by
 refine Um (t:=false) (sz:=2) (len:=l.length) (f:=fun i j=>(BO.c (l.getD i default)).getD j default) (fun g x=>[.one (.i ((l.length:Int)-1-(x.val:Int))),avB g (l.length-1-x.val)]) rfl (by decide) (fun g h1 => ?_) (fun g x=>rfl) (fun M g x vs h2 hL => ?_)
 ·refine Un (fun i hi => ?_) (aK l.length g hl h1)
  match i,hi with
  | 0,_=>rfl
 ·cases hL with
  | cons a1 a2 =>
   cases a2 with
   | cons a3 a4 =>
    refine .cons a1 (.cons (fun σ => ?_) a4)
    obtain ⟨us,hu,hus⟩:=a3 σ
    refine ⟨us,hu,?_⟩
    have hx:l.length-1-x.val<l.length:=by have:=x.isLt;omega
    cases hus with
    | cons b1 b2 =>
     cases b2 with
     | cons b3 b4 =>
      cases b4
      have e1:=b1.1
      have e2:=b3.1
      subst e1 e2
      exact .cons ((IR rfl).2 (h2 _ 0 hx (by decide))) (.cons ((IR rfl).2 (h2 _ 1 hx (by decide))) .nil)
end
section
open Go.RowKit
theorem Wl  (l:(List BO)):BH Tryz.prog 27 [.one (lst 2 BO.c l)] (.av (.one (.clo 55 1 (BU [.eptr 1 1 (gD [lst 2 BO.c l]) 0 0])))):=by
 refine AO Tryz.func27 rfl kr kr fun W0 M0 => ?_
 refine AC<|rn ⟨[(1,tP 1 0)],[(1,.cells [lst 2 BO.c l] 29)]⟩<|AC ?_
 refine rn ⟨[(2,tO (.clo 55 1 (BU [.ptr 1 0])))],[(1,.cells [lst 2 BO.c l] 29)]⟩<|AZ ?_
 exact ⟨_,Cv.trans (I2 (⟨[(2,.av (.one (.clo 55 1 (BU [.eptr 1 1 (gD [lst 2 BO.c l]) 0 0]))))],[]⟩) 1 [lst 2 BO.c l] 29 (K:=[]) (fun k x h=>by cases h) kr kr kr kr) (Cv.refl _),.inl rfl,.av (.one (.clo 55 1 (BU [.eptr 1 1 (gD [lst 2 BO.c l]) 0 0]))),by kernel_rfl,Ad rfl⟩
def cpads (b:AF) (types:(List AL)):FuncId×List Av×Ef:=(28,[.agg (DC b),.one (Gp types)],.val [] (.av (.one (.clo 56 2 (BU [.eptr 15 1 (fun _ j_=>((DC b):List Cl).getD j_ default) 0 0,.eptr 1 1 (fun _ j_=>([lst 3 AL.c types]:List Cl).getD j_ default) 0 0])))))
abbrev NH (b:AF) (types:List AL):Av:=.one (.clo 56 2 (BU [.eptr 15 1 (gD (DC b)) 0 0,.eptr 1 1 (gD [lst 3 AL.c types]) 0 0]))
abbrev Hi (b:AF):Nat×Blk:=(2,.cells (DC b) 40)
theorem ppads (b:AF) (types:(List AL)):BH Tryz.prog 28 (cpads b types).2.1 (.av (.one (.clo 56 2 (BU [.eptr 15 1 (gD (DC b)) 0 0,.eptr 1 1 (gD [lst 3 AL.c types]) 0 0])))):=by
 refine AO Tryz.func28 rfl kr kr fun W0 M0 => ?_
 refine AC<|rn ⟨Il,[(Hi b),(3,.cells [lst 3 AL.c types] 41)]⟩<|AC ?_
 refine rn ⟨[(4,tO (.clo 56 2 (BU [.ptr 2 0,.ptr 3 0])))],[(Hi b),(3,.cells [lst 3 AL.c types] 41)]⟩<|AZ ?_
 exact ⟨_,Cv.trans (I2 (⟨[(4,.av (.one (.clo 56 2 (BU [.eptr 15 1 (gD (DC b)) 0 0,.ptr 3 0]))))],[(3,.cells [lst 3 AL.c types] 41)]⟩) 2 (DC b) 40 (K:=[]) (fun k x h=>by cases h) kr kr kr kr) (Cv.trans (I2 (⟨[(4,.av (NH b types))],[]⟩) 3 [lst 3 AL.c types] 41 (K:=[]) (fun k x h=>by cases h) kr kr kr kr) (Cv.refl _)),.inl rfl,.av (NH b types),by kernel_rfl,Ad rfl⟩
def FL (s:AW) (m:Ab):Nat->List AE->Int->AW
 | 0,_,_=>default
 | n0+1,s_1,v13=>bif decide ((v13:Int)<((s.Edges.length:Nat):Int)) then ((FL s m n0) (s_1.set v13.toNat (EG (s_1.getD v13.toNat default) m)) (v13+1)) else (AW.mk s.Kind s_1 s.R)
def Dk (s:AW) (m:Ab):AW:=FL s m ((((s.Edges.length:Nat):Int)-0).toNat+1) s.Edges 0
def MB (s:AW) (m:Ab):FuncId×List Av×Ef:=(30,[.agg (AW.c s),.agg (Ab.c m)],.val [] (.av (.agg (AW.c (Dk s m)))))
abbrev J9 (m:Ab):Nat×Blk:=(3,.cells (Ab.c m) 51)
abbrev NI:Nat×Blk:=(4,.cells [.i 0,vN,.i 0] 27)
abbrev Xk (s:AW) (m:Ab):List (Nat×Blk):=[(2,.cells [.i s.Kind,.own 8 7 s.Edges.length,.i s.R] 27),(J9 m),NI,(8,.row 7 s.Edges.length (Ak AE.c s.Edges) 136)]
abbrev KD (s:AW):Nat×Tv:=(12,tI ((s.Edges.length:Nat):Int))
abbrev Ic (t_:List (Nat×Tv)):List (Nat×Tv):=(2,tP 2 0)::(3,tP 3 0)::(4,tP 4 0)::t_
abbrev Lp:List (Nat×Tv):=(Ic [])
abbrev Tz (s_1:List AE) (v13:Int) (m:Ab):=s_1.set v13.toNat (EG (s_1.getD v13.toNat default) m)
abbrev QT (s:AW) (s_1:List AE):List Cl:=[.i s.Kind,.own 8 7 s_1.length,.i s.R]
abbrev Xs (s:AW) (s_1:List AE) (v13:Int) (m:Ab):List (Nat×Blk):=[(2,.cells [.i s.Kind,.own 8 7 (Tz s_1 v13 m).length,.i s.R] 27),(J9 m),NI,(8,.row 7 (Tz s_1 v13 m).length (Ak AE.c (Tz s_1 v13 m)) 136)]
theorem gZ (s:AW) (m:Ab) (h0:(s.Edges.length:Int)<=1000000):BH Tryz.prog 30 (MB s m).2.1 (.av (.agg (AW.c (Dk s m)))):=by
 refine AO Tryz.func30 rfl kr kr fun W0 M0 => ?_
 refine AC<|rn ⟨Lp,[(2,.cells (AW.c s) 27),(J9 m),NI]⟩<|AC ?_
 refine rs 8 (JN s.Edges) ⟨Lp,(Xk s m)⟩ (ON s.Edges au13)<|AH ?_
 refine Bq (Cv.trans (BS (⟨Lp,(Xk s m)⟩) lr (.cons ⟨rfl,.cells _ (rr (.cons (.own _ _ au2) (rr .nil)))⟩ (.cons ⟨rfl,.refl _⟩ (.cons ⟨rfl,.refl _⟩ (.cons ⟨rfl,Aw 136 (BR 7 AE.c s.Edges)⟩ .nil))))) (Cv.refl _))<|AC<|AC ?_
 refine rn ⟨(Ic [(KD s),(13,tI 0)]),(Xk s m)⟩<|Af ?_
 refine BL (ι:=Nat×List AE×Int) (fun x=>⟨(Ic [(KD s),(13,tI x.2.2)]),[(2,.cells [.i s.Kind,.own 8 7 x.2.1.length,.i s.R] 27),(J9 m),NI,(8,.row 7 x.2.1.length (Ak AE.c x.2.1) 136)]⟩) (fun x=>(((s.Edges.length:Nat):Int)-x.2.2).toNat<x.1/\(x.2.1.length=s.Edges.length/\0<=x.2.2/\(x.2.2<=((s.Edges.length:Nat):Int)\/x.2.2=0))/\FL s m x.1 x.2.1 x.2.2=Dk s m) (fun x=>x.1) ?_ ((((s.Edges.length:Nat):Int)-0).toNat+1,s.Edges,0) ⟨Nat.lt_succ_self _,⟨ax0,ax0,ax0⟩,(by simp only [Dk,cond_true,cond_false])⟩
 rintro ⟨n0,s_1,v13⟩ ⟨hn,hinv,hF⟩
 have hm0:=hn;have hinv0:=hinv;have hF0:=hF;try dsimp only at hm0 hinv0 hF0
 clear hn hinv hF
 cases n0 with
 | zero=>exact absurd hm0 (Nat.not_lt_zero _)
 | succ n0 =>
  refine AC<|rn ⟨(Ic [(KD s),(13,tI v13),(14,tB (decide ((v13:Int)<((s.Edges.length:Nat):Int))))]),[(2,.cells (QT s s_1) 27),(J9 m),NI,(8,.row 7 s_1.length (Ak AE.c s_1) 136)]⟩<|AC ?_
  refine AY _ rfl (fun h1 => ?_) (fun h1 => ?_)
  ·have g1:=oT h1
   refine Ae<|AH ?_
   refine AC<|Af<|AC ?_
   refine rn ⟨(Ic [(5,tI v13),(KD s),(13,tI v13)]),[(2,.cells (QT s s_1) 27),(J9 m),NI,(8,.row 7 s_1.length (Ak AE.c s_1) 136)]⟩ ?_
   refine dw [] [(25,QK (s_1.getD v13.toNat default) m)] [0<=(v13:Int)/\(v13:Int)<((s_1.length:Nat):Int),v13.toNat<s_1.length,Ap (QK (s_1.getD v13.toNat default) m).2.1,0<=(v13:Int)/\(v13:Int)<((s_1.length:Nat):Int),v13.toNat<s_1.length] ⟨(Ic [(KD s),(13,tI v13)]),[(2,.cells (QT s s_1) 27),(J9 m),NI,(8,.row 7 s_1.length (fun i_ j_=>if i_=v13.toNat/\0<=j_/\j_<0+7 then ((AE.c (EG (s_1.getD v13.toNat default) m)):List Cl).getD (j_-0) default else (Ak AE.c s_1) i_ j_) 136)]⟩ (.cons (iP (s_1.getD v13.toNat default) m) .nil) (.cons au0 (.cons au0 (.cons rfl (.cons au0 (.cons au0 .nil)))))<|BZ<|AH ?_
   refine Bq (Cv.trans (BS (⟨(Ic [(KD s),(13,tI v13)]),(Xs s s_1 v13 m)⟩) lr (.cons ⟨rfl,.cells _ (rr (.cons (.own _ _ au2) (rr .nil)))⟩ (.cons ⟨rfl,.refl _⟩ (.cons ⟨rfl,.refl _⟩ (.cons ⟨rfl,Aw 136 (Ny (l:=(AE.c (EG (s_1.getD v13.toNat default) m))) (off:=0) (q:=7) (k:=v13.toNat) (BR 7 AE.c s_1) au0 (EG (s_1.getD v13.toNat default) m) (Gq kr))⟩ .nil))))) (Cv.refl _)) ?_
   refine rg ⟨(Ic [(KD s),(13,tI (W64 (v13+1)))]),(Xs s s_1 v13 m)⟩ ?_
   (try rw [(show W64 (v13+1)=v13+1 from Al (by omega) au9)])
   refine AH ?_
   refine ⟨(n0,s_1.set v13.toNat (EG (s_1.getD v13.toNat default) m),v13+1),⟨?_,?_,(by rw [<- hF0];simp only [FL,h1,cond_true,cond_false])⟩,Nat.lt_succ_self _,A4 kr⟩
   ·show (((s.Edges.length:Nat):Int)-(v13+1)).toNat<n0;omega
   ·exact ⟨ax0,ax0,ax0⟩
  ·have g1:=oF h1
   refine BP<|BE ?_
   refine BE<|BQ ?_
   refine AH<|AC ?_
   refine rn ⟨[(4,tP 4 0)],[(4,.cells (QT s s_1) 27),(8,.row 7 s_1.length (Ak AE.c s_1) 136)]⟩<|AZ ?_
   exact ⟨_,Cv.trans (vf 8 7 s_1.length (Ak AE.c s_1) 136 (K:=[]) (fun k x h=>by cases h) (.cons ⟨rfl,rfl⟩ .nil)) (Cv.refl _),.inl rfl,.av (.agg [.i s.Kind,lst 7 AE.c s_1,.i s.R]),by kernel_rfl,Ad (by rw [<- hF0];first | (simp only [FL,h1,cond_true,cond_false] <;> rfl))⟩
theorem cW (s:AW) (m:Ab) (h0:(s.Edges.length:Int)<=1000000):Aq Tryz.prog (MB s m).1 (MB s m).2.1 (MB s m).2.2:=AR (fun _ _=>kr) fun _=>gZ s m h0
def Bb (p:Ac):Value:=.agg #[.string p.Ref,.string p.Pad]
def Ar (a b:Ac):Bool:=eqS a.Ref b.Ref&&eqS a.Pad b.Pad
theorem P8 (a b:Ac):Ar a b=true↔Bb a=Bb b:=by
 unfold Ar Bb
 rw [Bool.and_eq_true,Uw,Uw]
 simp
theorem TN (k:Ac):E3 Tryz.prog eqE 65 (Bb k):=.inr ⟨_,_,_,rfl,rfl,by kernel_rfl,rfl,rfl⟩
theorem Wn {b:AF} {types:List AL} (ht:CS types) (k:Nat):(((Ai b types).getD k default).2.Shape.Edges.length:Int)<=1000000:=by
 refine Hz (p:=fun x:AG×Ay=>(x.2.Shape.Edges.length:Int)<=1000000) (by decide) (fun x hx => ?_) k
 unfold Ai at hx
 obtain ⟨p,_,hp⟩:=List.mem_flatMap.1 hx
 unfold D1 at hp
 obtain ⟨q,hq,rfl⟩:=List.mem_map.1 hp
 rw [Gy] at hq
 unfold Rb at hq
 cases hf:types.find? (fun t=>Fh t p.Type') with
 | none=>rw [hf] at hq;cases hq
 | some t=>rw [hf] at hq;exact (ht.2 t (List.mem_of_find?_eq_some hf)).2.2.1 q hq
theorem Wp {b:AF} {types:List AL} (hp:b.Parts.length<20) (ht:CS types):((Ai b types).length:Int)<=20000000:=by
 have key:∀ l:List AG,((l.flatMap (D1 types)).length:Int)<=1000000*(l.length:Int):=by
  intro l
  induction l with
  | nil=>simp
  | cons p l ih =>
   rw [List.flatMap_cons,List.length_append,GQ,Gy,List.length_cons]
   have:=Hv ht p.Type'
   omega
 have h1:=key (CF b.Parts)
 have h2:=JZ b.Parts hp
 unfold Ai
 omega
def CT (x0:AG):Ab:=Ab.mk x0.At x0.Turn x0.Under
def FR (x0:AG):FuncId×List Av×Ef:=(8,[.agg (AG.c x0)],.val [] (.av (.agg (Ab.c (CT x0)))))
abbrev Qc (x0:AG):List Cl:=[.i x0.At.X,.i x0.At.Y,.i x0.Turn,.b x0.Under]
abbrev Nh:List (Nat×Tv):=[(1,tP 1 0),(2,tP 2 0)]
theorem cH (x0:AG):BH Tryz.prog 8 (FR x0).2.1 (.av (.agg (Ab.c (CT x0)))):=by
 refine AO Tryz.func8 rfl kr kr fun W0 M0 => ?_
 refine AC<|rn ⟨Nh,[(1,.cells (AG.c x0) 49),(2,.cells [.i 0,.i 0,.i 0,.b false] 51)]⟩<|AC ?_
 refine rn ⟨[(2,tP 2 0)],[(2,.cells (Qc x0) 51)]⟩<|AZ ?_
 exact ⟨_,Cv.refl _,.inl rfl,.av (.agg (Qc x0)),by kernel_rfl,Ad (by rfl)⟩
theorem OO (x0:AG):Aq Tryz.prog (FR x0).1 (FR x0).2.1 (FR x0).2.2:=AR (fun _ _=>kr) fun _=>cH x0
def DW (b:AF) (p:AG):Int:=bif p.Under then b.Layers else 1
def Jv (b:AF) (p:AG):FuncId×List Av×Ef:=(29,[.agg (DC b),.agg (AG.c p)],.val [] (.av (.one (.i (DW b p)))))
theorem pside (b:AF) (p:AG):BH Tryz.prog 29 (Jv b p).2.1 (tO (.i (DW b p))):=by
 refine AO Tryz.func29 rfl kr kr fun W0 M0 => ?_
 refine AC<|rn ⟨Il,[(Hi b),(3,.cells (AG.c p) 49)]⟩ ?_
 refine AC<|AC ?_
 refine rn ⟨[(2,tP 2 0),(6,tB p.Under)],[(Hi b)]⟩ ?_
 refine AY p.Under kr (fun h1 => ?_) (fun h1 => ?_)
 ·refine AC<|rn ⟨[(4,tI b.Layers)],[]⟩ ?_
  refine AZ<|A9 ?_
  exact ⟨_,Cv.refl _,.inl rfl,tO (.i b.Layers),by kernel_rfl,Ad (by first | (simp only [DW,h1,cond_true,cond_false] <;> rfl))⟩
 ·refine Ae<|AH<|AC ?_
  refine rn ⟨[(4,tI 1)],[]⟩<|AZ ?_
  exact ⟨_,Cv.refl _,.inl rfl,tO (.i 1),by kernel_rfl,Ad (by first | (simp only [DW,h1,cond_true,cond_false] <;> rfl))⟩
theorem UV (b:AF) (p:AG):Aq Tryz.prog (Jv b p).1 (Jv b p).2.1 (Jv b p).2.2:=AR (fun _ _=>kr) fun _=>pside b p
end
section
open Go.RowKit
def Z0p (b:AF):FuncId×List Av×Ef:=(27,[.one (lst 2 BO.c b.Nets)],.val [] (.av (.one (.clo 55 1 (BU [.eptr 1 1 (fun _ j_=>([lst 2 BO.c b.Nets]:List Cl).getD j_ default) 0 0])))))
def Z0q (b:AF) (types:(List AL)):FuncId×List Av×Ef:=(28,[.agg (DC b),.one (Gp types)],.val [] (.av (.one (.clo 56 2 (BU [.eptr 15 1 (fun _ j_=>((DC b):List Cl).getD j_ default) 0 0,.eptr 1 1 (fun _ j_=>([lst 3 AL.c types]:List Cl).getD j_ default) 0 0])))))
def Gd (b:AF) (types:(List AL)) (AM:List (Ac×ByteArray)) (x0:Nat) (K0:List (Ac×ByteArray)->(List BV)):Nat->List (Ac×ByteArray)->Int->(List BV)
 | 0,_,_=>default
 | n1+1,As,v23=>bif decide ((v23:Int)<((b.Nets.getD (b.Nets.length-1-x0) default).Pins.length:Int)) then ((Gd b types AM x0 K0 n1) (Fp Ar As ((b.Nets.getD (b.Nets.length-1-x0) default).Pins.getD v23.toNat default) (b.Nets.getD (b.Nets.length-1-x0) default).Name) (v23+1)) else (K0 As)
def DP (b:AF) (types:(List AL)) (AM:List (Ac×ByteArray)) (K0:List (Ac×ByteArray)->(List BV)):Nat->Nat->List BV->(List BV)
 | 0,_,Ao=>Ao
 | m+1,x,Ao=>(DP b types AM K0 m (x+1)) (Ao++[BV.mk ((Ai b types).getD x default).1.Id ((Ai b types).getD x default).2.Name 1 (bif C9 Ar AM (Ac.mk ((Ai b types).getD x default).1.Ref ((Ai b types).getD x default).2.Name) then (AM.getD (DJ Ar AM (Ac.mk ((Ai b types).getD x default).1.Ref ((Ai b types).getD x default).2.Name)) default).2 else ⟨#[]⟩) (bif decide ((((Ai b types).getD x default).2.Drill:Int)=0) then (DW b ((Ai b types).getD x default).1) else 1) (bif decide ((((Ai b types).getD x default).2.Drill:Int)=0) then (DW b ((Ai b types).getD x default).1) else b.Layers) (Dk ((Ai b types).getD x default).2.Shape (CT ((Ai b types).getD x default).1))])
def Ct (b:AF) (types:(List AL)):Nat->Nat->List (Ac×ByteArray)->(List BV)
 | 0,_,AM=>DP b types AM (fun _=>default) (Ai b types).length 0 ([]:List BV)
 | m+1,x,AM=>Gd b types AM x (Ct b types m (x+1)) ((((b.Nets.getD (b.Nets.length-1-x) default).Pins.length:Int)-0).toNat+1) AM 0
def BF (b:AF) (types:(List AL)):(List BV):=Ct b types b.Nets.length 0 ([]:List (Ac×ByteArray))
abbrev Jg (b:AF) (types:List AL) (x2_:Nat):=Ac.mk ((Ai b types).getD x2_ default).1.Ref ((Ai b types).getD x2_ default).2.Name
abbrev FU (b:AF) (x0_:Nat):=b.Nets.getD (b.Nets.length-1-x0_) default
abbrev Ez (types:List AL):Nat×Tv:=(1,tO (Gp types))
abbrev DV:Nat×Blk:=(200005,.cells [.om 200014] 112)
abbrev NV (b:AF):Nat×Tv:=(17,.av (.one (.clo 55 1 (BU [.eptr 1 1 (gD [lst 2 BO.c b.Nets]) 0 0]))))
abbrev II (b:AF) (types:List AL) (x2_:Nat):=Dk ((Ai b types).getD x2_ default).2.Shape (CT ((Ai b types).getD x2_ default).1)
abbrev DU (b:AF):Nat×Blk:=(200002,.cells (DC b) 40)
abbrev Eo (b:AF) (types:List AL) (x2_:Nat):=DW b ((Ai b types).getD x2_ default).1
abbrev IZ (Ao:List BV):Nat×Blk:=(100000,.row 9 Ao.length (Ak BV.c Ao) 63)
abbrev VM (b:AF) (types:List AL) (x2_:Nat):Nat×Tv:=(11,.av (.one (.eptr 7 1 (gD (AG.c ((Ai b types).getD x2_ default).1)) 0 0)))
abbrev Ji (Ao:List BV):Nat×Blk:=(200010,.cells [.own 100000 9 Ao.length] 55)
abbrev Xh (b:AF) (types:List AL) (x2_:Nat):Nat×Tv:=(12,.av (.one (.eptr 7 1 (gD (Ay.c ((Ai b types).getD x2_ default).2)) 0 0)))
abbrev FB (AM:List (Ac×ByteArray)) (b:AF) (types:List AL) (x2_:Nat):=AM.getD (DJ Ar AM (Jg b types x2_)) default
abbrev Ie (t_:List (Nat×Tv)):List (Nat×Tv):=(2,tP 200002 0)::(5,tP 200005 0)::(10,tP 200010 0)::t_
abbrev Qp (b:AF) (types:List AL) (x2_:Nat):List (Nat×Tv):=(Ie [(VM b types x2_),(Xh b types x2_),(13,tP 13 0),(34,.av (NH b types))])
abbrev Tx (b:AF) (x0_:Nat):Nat×Tv:=(7,.av (.one (.eptr 2 1 (gD (BO.c (FU b x0_))) 0 0)))
abbrev Ns (b:AF) (types:List AL):List (Nat×Tv):=(Ie [(34,.av (NH b types))])
abbrev YB (b:AF) (x0_:Nat):Nat×Tv:=(22,tI ((FU b x0_).Pins.length:Int))
abbrev YA (b:AF) (x0_:Nat):Nat×Tv:=(21,tO (lst 2 Ac.c (FU b x0_).Pins))
abbrev Jz (b:AF) (types:List AL) (x2_:Nat) (t_:List Cl):List Cl:=(.i ((Ai b types).getD x2_ default).1.Id)::(.s ((Ai b types).getD x2_ default).2.Name)::(.i 1)::t_
abbrev Fk (types:List AL) (t_:List (Nat×Tv)):List (Nat×Tv):=(Ez types)::(2,tP 200002 0)::(5,tP 200005 0)::t_
abbrev LU (b:AF) (x0_:Nat) (t_:List (Nat×Tv)):List (Nat×Tv):=(Tx b x0_)::(NV b)::(YA b x0_)::(YB b x0_)::t_
theorem qPads (b:AF) (types:(List AL)) (hn:(b.Nets.length:Int)<=1000000) (hp:b.Parts.length<20) (ht:CS types) (hm:((Ai b types).length:Int)<=20000000) (hq:∀ n∈b.Nets,(n.Pins.length:Int)<=1000000):Fr Tryz.prog 11 [.agg (DC b),.one (lst 3 AL.c types)] (.row 9 (BF b types).length (Ak BV.c (BF b types)) 63) (fun d=>tO (.own d 9 (BF b types).length)):=by
 refine L4 Tryz.func11 rfl kr (OI _ _) fun W0 M0 => ?_
 refine AC<|rn ⟨[(Ez types),(2,tP 2 0)],[(Hi b)]⟩<|AC ?_
 refine rn ⟨[(Ez types),(2,tP 2 0),(5,tP 5 0)],[(Hi b),(5,.cells [.om 14] 112),(14,.omap false 1 0 (fun _=>undef) (fun _ _=>default))]⟩ ?_
 refine Bq (Cv.trans (BS (⟨[(Ez types),(2,tP 2 0),(5,tP 5 0)],[(Hi b),(5,.cells [.om 14] 112),(14,.omap false 1 ([]:List (Ac×ByteArray)).length (kfG Bb ([]:List (Ac×ByteArray))) (vfG (fun x=>[.s x]) ([]:List (Ac×ByteArray))))]⟩) lr (.cons ⟨rfl,.refl _⟩ (.cons ⟨rfl,.refl _⟩ (.cons ⟨rfl,aI (ck:=Bb) (cv:=(fun x=>[.s x]))⟩ .nil)))) (Cv.refl _))<|AC<|AC ?_
 refine rs 17 (Z0p b) ⟨[(Ez types),(2,tP 2 0),(5,tP 5 0),(NV b)],[(Hi b),(5,.cells [.om 14] 112),(14,.omap false 1 ([]:List (Ac×ByteArray)).length (kfG Bb ([]:List (Ac×ByteArray))) (vfG (fun x=>[.s x]) ([]:List (Ac×ByteArray))))]⟩ (AR (fun _ _=>kr) fun _=>Wl b.Nets)<|AH<|Af ?_
 refine Bq (Cv.trans (vr 2 200002 (K:=[]) (fun k x h=>by cases h)) (Cv.trans (vr 5 200005 (K:=[]) (fun k x h=>by cases h)) (Cv.trans (wr (⟨(Fk types [(NV b)]),[(DU b),DV,(200014,.omap false 1 ([]:List (Ac×ByteArray)).length (kfG Bb ([]:List (Ac×ByteArray))) (vfG (fun x=>[.s x]) ([]:List (Ac×ByteArray))))]⟩) 14 200014 (K:=[]) (fun k x h=>by cases h)) (Cv.refl _)))) ?_
 refine O2 (ι:=List (Ac×ByteArray)) [200002,200005,200014] 299999 200002 9999 299998 (fun x=>[(200002,.cells (DC b) 40),(200005,.cells [.om 200014] 112),(200014,.omap false 1 x.length (kfG Bb x) (vfG (fun x=>[.s x]) x))]) (fun x0=>[(1,tO (lst 3 AL.c types)),(2,tP 200002 0),(5,tP 200005 0),(7,.av (.one (.eptr 2 1 (gD (BO.c (b.Nets.getD (b.Nets.length-1-x0.val) default))) 0 0))),(17,.av (.one (.clo 55 1 (BU [.eptr 1 1 (gD [lst 2 BO.c b.Nets]) 0 0]))))]) (fun j x=>True) (fun y x=>Ct b types (b.Nets.length-y) y x=BF b types) ([]:List (Ac×ByteArray)) (fun _=>rfl) kr kr (fun _ _=>kr) (eS b.Nets (by omega)) kr (fun _=>by kernel_rfl) (fun _=>rfl) (fun _=>rfl) (fun x=>(BW (p:=BkN) (by simp only [List.forall_mem_cons];exact ⟨TX (Lx _),TX (by simp only [List.forall_mem_cons];exact ⟨(.om _),fun x hx=>by cases hx⟩),gH (fun x y hy=>by rw [List.mem_singleton.1 hy];exact (.val _)),fun x hx=>by cases hx⟩))) (fun x0=>(BW (p:=TvM) (by simp only [List.forall_mem_cons];exact ⟨BC (CH OP),BC (.ptr _ _),BC (.ptr _ _),BC (ET (RM _)),BC (Ua (by simp only [List.forall_mem_cons];exact ⟨(ET (by simp only [List.forall_mem_cons];exact ⟨(CH RM),fun x hx=>by cases hx⟩)),fun x hx=>by cases hx⟩)),fun x hx=>by cases hx⟩))) (fun _=>by kernel_rfl) ax0 (by simp only [BF,Nat.sub_zero,cond_true,cond_false]) (fun l1 W1 M1 X1 x0 j AM hinv hPX => ?_) (fun l2 W2 M2 X2 x0 j AM hPX hj hinv => ?_) (fun AM hinv hF0 => ?_)
 ·have hinv0:True:=hinv;clear hinv
  refine Dx ?_
  refine rg ⟨(Fk types [(7,tP 7 0),(NV b)]),[(7,.cells (BO.c (FU b x0.val)) 84),(DU b),DV,(200014,.omap false 1 AM.length (kfG Bb AM) (vfG (fun x=>[.s x]) AM))]⟩ ?_
  exact ⟨_,Cv.trans (Oo (⟨(Fk types [(Tx b x0.val),(NV b)]),[(DU b),DV,(200014,.omap false 1 AM.length (kfG Bb AM) (vfG (fun x=>[.s x]) AM))]⟩) 7 (BO.c (b.Nets.getD (b.Nets.length-1-x0.val) default)) 84 [200002,200005,200014] 299998 hPX kr (fun h=>by obtain ⟨_,h⟩:=h;cases h) kr kr kr) (Cv.refl _),rfl,rfl⟩
 ·have hinv0:True:=hinv;clear hinv
  obtain ⟨Xb0,hXb0⟩:∃ Xb,Ct b types (b.Nets.length-x0.val) x0.val AM=Xb:=⟨_,rfl⟩
  have hF0:=hXb0
  rw [show b.Nets.length-x0.val=(b.Nets.length-(x0.val+1))+1 by have:=x0.isLt;omega] at hF0
  have hqx:=Hz (p:=fun n:BO=>(n.Pins.length:Int)<=1000000) (by decide) hq (b.Nets.length-1-x0.val)
  refine Dx<|Af<|AC ?_
  refine rn ⟨(Fk types (LU b x0.val [(23,tI 0)])),[(DU b),DV,(200014,.omap false 1 AM.length (kfG Bb AM) (vfG (fun x=>[.s x]) AM))]⟩<|Af ?_
  refine BL (ι:=Nat×List (Ac×ByteArray)×Int) (fun x=>⟨(Fk types (LU b x0.val [(23,tI x.2.2)])),[(DU b),DV,(200014,.omap false 1 x.2.1.length (kfG Bb x.2.1) (vfG (fun x=>[.s x]) x.2.1))]⟩) (fun x=>(((b.Nets.getD (b.Nets.length-1-x0.val) default).Pins.length:Int)-x.2.2).toNat<x.1/\(0<=x.2.2/\(x.2.2<=((b.Nets.getD (b.Nets.length-1-x0.val) default).Pins.length:Int)\/x.2.2=0))/\Gd b types AM x0.val (Ct b types (b.Nets.length-(x0.val+1)) (x0.val+1)) x.1 x.2.1 x.2.2=Xb0) (fun x=>x.1) ?_ ((((b.Nets.getD (b.Nets.length-1-x0.val) default).Pins.length:Int)-0).toNat+1,AM,0) ⟨Nat.lt_succ_self _,⟨ax0,ax0⟩,(by rw [<- hF0];simp only [Ct,cond_true,cond_false])⟩
  rintro ⟨n1,As,v23⟩ ⟨hn,hinv,hF⟩
  have hm1:=hn;have hinv1:=hinv;have hF1:=hF;try dsimp only at hm1 hinv1 hF1
  clear hn hinv hF
  cases n1 with
  | zero=>exact absurd hm1 (Nat.not_lt_zero _)
  | succ n1 =>
   refine AC<|rn ⟨(Fk types (LU b x0.val [(23,tI v23),(24,tB (decide ((v23:Int)<((b.Nets.getD (b.Nets.length-1-x0.val) default).Pins.length:Int))))])),[(DU b),DV,(200014,.omap false 1 As.length (kfG Bb As) (vfG (fun x=>[.s x]) As))]⟩<|AC ?_
   refine AY _ rfl (fun h1 => ?_) (fun h1 => ?_)
   ·have g1:=oT h1
    refine Ae<|AH ?_
    refine AC<|Af<|AC ?_
    refine rc [] [0<=(v23:Int)/\(v23:Int)<(((b.Nets.getD (b.Nets.length-1-x0.val) default).Pins.length:Nat):Int)] ⟨(Fk types [(Tx b x0.val),(9,tP 9 0),(NV b),(YA b x0.val),(YB b x0.val),(23,tI v23)]),[(9,.cells (Ac.c ((FU b x0.val).Pins.getD v23.toNat default)) 65),(DU b),DV,(200014,.omap false 1 As.length (kfG Bb As) (vfG (fun x=>[.s x]) As))]⟩ .nil (.cons au0 .nil)<|AH ?_
    refine DF D3 [] [(999999,((C9 Ar As ((FU b x0.val).Pins.getD v23.toNat default)),(DJ Ar As ((FU b x0.val).Pins.getD v23.toNat default))))] [] [1,2,5,7,17,21,22,23] [200002,200005,200014] [Td Tryz.prog eqE 65 As.length (kfG Bb As) (Bb ((b.Nets.getD (b.Nets.length-1-x0.val) default).Pins.getD v23.toNat default)) (C9 Ar As ((b.Nets.getD (b.Nets.length-1-x0.val) default).Pins.getD v23.toNat default)) (DJ Ar As ((b.Nets.getD (b.Nets.length-1-x0.val) default).Pins.getD v23.toNat default))] ⟨(Fk types (LU b x0.val [(23,tI v23)])),[(DU b),DV,(200014,.omap false 1 (bif C9 Ar As ((FU b x0.val).Pins.getD v23.toNat default) then As.length else As.length+1) (fun j=>bif Nat.beq j (bif C9 Ar As ((FU b x0.val).Pins.getD v23.toNat default) then DJ Ar As ((FU b x0.val).Pins.getD v23.toNat default) else As.length) then Bb ((FU b x0.val).Pins.getD v23.toNat default) else kfG Bb As j) (fun j c=>bif Nat.beq j (bif C9 Ar As ((FU b x0.val).Pins.getD v23.toNat default) then DJ Ar As ((FU b x0.val).Pins.getD v23.toNat default) else As.length) then ([.s (FU b x0.val).Name]:List Cl).getD c default else vfG (fun x=>[.s x]) As j c))]⟩ .nil kr (.cons (Sx P8 TN _ _) .nil)<|BZ<|AH ?_
    refine Bq (Cv.trans (BS (⟨(Fk types (LU b x0.val [(23,tI v23)])),[(DU b),DV,(200014,.omap false 1 (Fp Ar As ((FU b x0.val).Pins.getD v23.toNat default) (FU b x0.val).Name).length (kfG Bb (Fp Ar As ((FU b x0.val).Pins.getD v23.toNat default) (FU b x0.val).Name)) (vfG (fun x=>[.s x]) (Fp Ar As ((FU b x0.val).Pins.getD v23.toNat default) (FU b x0.val).Name)))]⟩) lr (.cons ⟨rfl,.refl _⟩ (.cons ⟨rfl,.refl _⟩ (.cons ⟨rfl,aH (ck:=Bb) (cv:=(fun x=>[.s x])) (eq:=Ar) As ((b.Nets.getD (b.Nets.length-1-x0.val) default).Pins.getD v23.toNat default) (b.Nets.getD (b.Nets.length-1-x0.val) default).Name [.s (b.Nets.getD (b.Nets.length-1-x0.val) default).Name] rfl⟩ .nil)))) (Cv.refl _)) ?_
    refine rg ⟨(Fk types (LU b x0.val [(23,tI (W64 (v23+1)))])),[(DU b),DV,(200014,.omap false 1 (Fp Ar As ((FU b x0.val).Pins.getD v23.toNat default) (FU b x0.val).Name).length (kfG Bb (Fp Ar As ((FU b x0.val).Pins.getD v23.toNat default) (FU b x0.val).Name)) (vfG (fun x=>[.s x]) (Fp Ar As ((FU b x0.val).Pins.getD v23.toNat default) (FU b x0.val).Name)))]⟩ ?_
    (try rw [(show W64 (v23+1)=v23+1 from Al (by omega) au9)])
    refine AH ?_
    refine ⟨(n1,Fp Ar As ((b.Nets.getD (b.Nets.length-1-x0.val) default).Pins.getD v23.toNat default) (b.Nets.getD (b.Nets.length-1-x0.val) default).Name,v23+1),⟨?_,?_,(by rw [<- hF1];simp only [Gd,h1,cond_true,cond_false])⟩,Nat.lt_succ_self _,A4 kr⟩
    ·show (((b.Nets.getD (b.Nets.length-1-x0.val) default).Pins.length:Int)-(v23+1)).toNat<n1;omega
    ·exact ⟨ax0,ax0⟩
   ·have g1:=oF h1
    refine BP<|BE ?_
    refine BE<|BQ<|BZ ?_
    refine ⟨_,Cv.trans (ck (⟨(Fk types [(NV b)]),[(DU b),DV,(200014,.omap false 1 As.length (kfG Bb As) (vfG (fun x=>[.s x]) As))]⟩)) (Cv.refl _),rfl,As,ax0,fun hk hF => ?_,fun _ _ h=>h⟩
    have e0:Ct b types (b.Nets.length-(x0.val+1)) (x0.val+1) As=Xb0:=by
     rw [<- hF1]
     first | (simp only [Gd,h1,cond_true,cond_false] <;> rfl)
    subst hk
    change Ct b types (b.Nets.length-x0.val) x0.val AM=BF b types at hF
    show Ct b types (b.Nets.length-(x0.val+1)) (x0.val+1) As=BF b types
    exact e0.trans (hXb0.symm.trans hF)
 ·have hinv0:True:=hinv;clear hinv
  change Ct b types (b.Nets.length-b.Nets.length) b.Nets.length AM=BF b types at hF0
  rw [Nat.sub_self] at hF0
  refine BZ<|AH<|AC ?_
  refine rn ⟨(Fk types [(10,tP 10 0)]),[(10,.cells [vN] 55),(DU b),DV,(200014,.omap false 1 AM.length (kfG Bb AM) (vfG (fun x=>[.s x]) AM))]⟩ ?_
  refine AC<|AC ?_
  refine rs 34 (Z0q b types) ⟨[(2,tP 200002 0),(5,tP 200005 0),(10,tP 10 0),(34,.av (NH b types))],[(10,.cells [vN] 55),(DU b),DV,(200014,.omap false 1 AM.length (kfG Bb AM) (vfG (fun x=>[.s x]) AM))]⟩ (AR (fun _ _=>kr) fun _=>ppads b types)<|AH<|Af ?_
  refine Bq (Cv.trans (vr 10 200010 (K:=[]) (fun k x h=>by cases h)) (Cv.trans (vk [2,5,10,34] [200002,200005,200010,200014]) (Cv.trans (wg (⟨(Ns b types),[(100000,.row 9 0 (fun _ _=>default) 63),(DU b),DV,(200010,.cells [.own 100000 9 0] 55),(200014,.omap false 1 AM.length (kfG Bb AM) (vfG (fun x=>[.s x]) AM))]⟩) 100000 9 (fun _ _=>default) 63 [] [(200010,[0])] (K:=[]) (fun k x h=>by cases h)) (Cv.trans (BS (⟨(Ns b types),[(100000,.row 9 ([]:List BV).length (Ak BV.c ([]:List BV)) 63),(DU b),DV,(200010,.cells [.own 100000 9 ([]:List BV).length] 55),(200014,.omap false 1 AM.length (kfG Bb AM) (vfG (fun x=>[.s x]) AM))]⟩) lr (.cons ⟨rfl,Aw 63 (C3 9 (fun _ _=>default) BV.c)⟩ (.cons ⟨rfl,.refl _⟩ (.cons ⟨rfl,.refl _⟩ (.cons ⟨rfl,.cells _ (.cons (.own _ _ au2) .nil)⟩ lr))))) (Cv.refl _))))) ?_
  refine O2 (ι:=List BV) [200002,200005,200010,200014] 299999 200010 0 100000 (fun x=>[(100000,.row 9 x.length (Ak BV.c x) 63),(200002,.cells (DC b) 40),(200005,.cells [.om 200014] 112),(200010,.cells [.own 100000 9 x.length] 55),(200014,.omap false 1 AM.length (kfG Bb AM) (vfG (fun x=>[.s x]) AM))]) (fun x2=>[(2,tP 200002 0),(5,tP 200005 0),(10,tP 200010 0),(11,.av (.one (.eptr 7 1 (gD (AG.c ((Ai b types).getD x2.val default).1)) 0 0))),(12,.av (.one (.eptr 7 1 (gD (Ay.c ((Ai b types).getD x2.val default).2)) 0 0))),(34,.av (.one (.clo 56 2 (BU [.eptr 15 1 (gD (DC b)) 0 0,.eptr 1 1 (gD [lst 3 AL.c types]) 0 0]))))]) (fun j x=>x.length<=j) (fun y x=>DP b types AM (fun _=>default) ((Ai b types).length-y) y x=BF b types) ([]:List BV) (fun _=>rfl) kr kr (fun _ _=>kr) (cF b types hp ht) kr (fun _=>by kernel_rfl) (fun _=>rfl) (fun _=>rfl) (fun x=>(BW (p:=BkN) (by simp only [List.forall_mem_cons];exact ⟨bkN_r ZE,TX (Lx _),TX (by simp only [List.forall_mem_cons];exact ⟨(.om _),fun x hx=>by cases hx⟩),TX (by simp only [List.forall_mem_cons];exact ⟨(.own _ _ _),fun x hx=>by cases hx⟩),gH (fun x y hy=>by rw [List.mem_singleton.1 hy];exact (.val _)),fun x hx=>by cases hx⟩))) (fun x2=>(BW (p:=TvM) (by simp only [List.forall_mem_cons];exact ⟨BC (.ptr _ _),BC (.ptr _ _),BC (.ptr _ _),BC (ET (FC _)),BC (ET (JF _)),BC (Ua (by simp only [List.forall_mem_cons];exact ⟨(ET (Lx _)),(ET (by simp only [List.forall_mem_cons];exact ⟨(CH OP),fun x hx=>by cases hx⟩)),fun x hx=>by cases hx⟩)),fun x hx=>by cases hx⟩))) (fun _=>by kernel_rfl) ax0 (by rw [<- hF0];simp only [Ct,Nat.sub_zero,cond_true,cond_false]) (fun l1 W1 M1 X1 x2 j Ao hinv hPX => ?_) (fun l2 W2 M2 X2 x2 j Ao hPX hj hinv => ?_) (fun Ao hinv hF2 => ?_)
  ·have hinv2:Ao.length<=j:=hinv;clear hinv
   refine Dx<|AC ?_
   refine rn ⟨(Ie [(11,tP 11 0),(34,.av (NH b types)),(36,.av (.agg (Ay.c ((Ai b types).getD x2.val default).2)))]),[(11,.cells (AG.c ((Ai b types).getD x2.val default).1) 49),(IZ Ao),(DU b),DV,(Ji Ao),(200014,.omap false 1 AM.length (kfG Bb AM) (vfG (fun x=>[.s x]) AM))]⟩ ?_
   refine rg ⟨(Ie [(11,tP 11 0),(12,tP 12 0),(34,.av (NH b types))]),[(11,.cells (AG.c ((Ai b types).getD x2.val default).1) 49),(12,.cells (Ay.c ((Ai b types).getD x2.val default).2) 120),(IZ Ao),(DU b),DV,(Ji Ao),(200014,.omap false 1 AM.length (kfG Bb AM) (vfG (fun x=>[.s x]) AM))]⟩ ?_
   exact ⟨_,Cv.trans (Oo (⟨(Ie [(VM b types x2.val),(12,tP 12 0),(34,.av (NH b types))]),[(12,.cells (Ay.c ((Ai b types).getD x2.val default).2) 120),(IZ Ao),(DU b),DV,(Ji Ao),(200014,.omap false 1 AM.length (kfG Bb AM) (vfG (fun x=>[.s x]) AM))]⟩) 11 (AG.c ((Ai b types).getD x2.val default).1) 49 [200002,200005,200010,200014] 100000 hPX kr (fun _=>⟨_,rfl⟩) kr kr kr) (Cv.trans (Oo (⟨(Ie [(VM b types x2.val),(Xh b types x2.val),(34,.av (NH b types))]),[(IZ Ao),(DU b),DV,(Ji Ao),(200014,.omap false 1 AM.length (kfG Bb AM) (vfG (fun x=>[.s x]) AM))]⟩) 12 (Ay.c ((Ai b types).getD x2.val default).2) 120 [200002,200005,200010,200014] 100000 hPX kr (fun _=>⟨_,rfl⟩) kr kr kr) (Cv.refl _)),rfl,rfl⟩
  ·have hinv2:Ao.length<=j:=hinv;clear hinv
   obtain ⟨Xb2,hXb2⟩:∃ Xb,DP b types AM (fun _=>default) ((Ai b types).length-x2.val) x2.val Ao=Xb:=⟨_,rfl⟩
   have hF2:=hXb2
   rw [show (Ai b types).length-x2.val=((Ai b types).length-(x2.val+1))+1 by have:=x2.isLt;omega] at hF2
   have hpe:=Wn (b:=b) ht x2.val
   refine Dx<|Af<|AC ?_
   refine WM Vq D3 [] [(47,((C9 Ar AM (Jg b types x2.val)),(DJ Ar AM (Jg b types x2.val))))] [] [2,5,10,11,12,13,34] [13,100000,200002,200005,200010,200014] [Td Tryz.prog eqE 65 AM.length (kfG Bb AM) (Bb (Ac.mk ((Ai b types).getD x2.val default).1.Ref ((Ai b types).getD x2.val default).2.Name)) (C9 Ar AM (Ac.mk ((Ai b types).getD x2.val default).1.Ref ((Ai b types).getD x2.val default).2.Name)) (DJ Ar AM (Ac.mk ((Ai b types).getD x2.val default).1.Ref ((Ai b types).getD x2.val default).2.Name))] ⟨(Qp b types x2.val),[(13,.cells (Jz b types x2.val [.s (bif C9 Ar AM (Jg b types x2.val) then (FB AM b types x2.val).2 else ⟨#[]⟩),.i 1,.i b.Layers,.i 0,vN,.i 0]) 63),(IZ Ao),(DU b),DV,(Ji Ao),(200014,.omap false 1 AM.length (kfG Bb AM) (vfG (fun x=>[.s x]) AM))]⟩ .nil kr kr (.cons (Sx P8 TN _ _) .nil)<|AH ?_
   refine AC<|AC ?_
   refine rn ⟨(Ie [(VM b types x2.val),(Xh b types x2.val),(13,tP 13 0),(34,.av (NH b types)),(53,tB (decide ((((Ai b types).getD x2.val default).2.Drill:Int)=0)))]),[(13,.cells (Jz b types x2.val [.s (bif C9 Ar AM (Jg b types x2.val) then (FB AM b types x2.val).2 else ⟨#[]⟩),.i 1,.i b.Layers,.i 0,vN,.i 0]) 63),(IZ Ao),(DU b),DV,(Ji Ao),(200014,.omap false 1 AM.length (kfG Bb AM) (vfG (fun x=>[.s x]) AM))]⟩ ?_
   refine Bc (⟨(Qp b types x2.val),[(13,.cells (Jz b types x2.val [.s (bif C9 Ar AM (Jg b types x2.val) then (FB AM b types x2.val).2 else ⟨#[]⟩),.i (bif decide ((((Ai b types).getD x2.val default).2.Drill:Int)=0) then (Eo b types x2.val) else 1),.i (bif decide ((((Ai b types).getD x2.val default).2.Drill:Int)=0) then (Eo b types x2.val) else b.Layers),.i 0,vN,.i 0]) 63),(IZ Ao),(DU b),DV,(Ji Ao),(200014,.omap false 1 AM.length (kfG Bb AM) (vfG (fun x=>[.s x]) AM))]⟩) ?_ ?_
   ·refine AY _ rfl (fun h1 => ?_) (fun h1 => ?_)
    ·have g1:=oT h1
     refine dw [] [(56,Jv b ((Ai b types).getD x2.val default).1),(59,Jv b ((Ai b types).getD x2.val default).1)] [Ap (Jv b ((Ai b types).getD x2.val default).1).2.1,Ap (Jv b ((Ai b types).getD x2.val default).1).2.1] ⟨(Qp b types x2.val),[(13,.cells (Jz b types x2.val [.s (bif C9 Ar AM (Jg b types x2.val) then (FB AM b types x2.val).2 else ⟨#[]⟩),.i (Eo b types x2.val),.i (Eo b types x2.val),.i 0,vN,.i 0]) 63),(IZ Ao),(DU b),DV,(Ji Ao),(200014,.omap false 1 AM.length (kfG Bb AM) (vfG (fun x=>[.s x]) AM))]⟩ (.cons (UV b ((Ai b types).getD x2.val default).1) (.cons (UV b ((Ai b types).getD x2.val default).1) .nil)) (.cons rfl (.cons rfl .nil))<|AH ?_
     refine A4 ?_
     first | rfl | (simp only [h1,cond_true,cond_false] <;> rfl)
    ·have g1:=oF h1
     refine Ae<|AH ?_
     refine Cv.trans (ck (⟨(Qp b types x2.val),[(13,.cells (Jz b types x2.val [.s (bif C9 Ar AM (Jg b types x2.val) then (FB AM b types x2.val).2 else ⟨#[]⟩),.i 1,.i b.Layers,.i 0,vN,.i 0]) 63),(IZ Ao),(DU b),DV,(Ji Ao),(200014,.omap false 1 AM.length (kfG Bb AM) (vfG (fun x=>[.s x]) AM))]⟩)) (A4 ?_)
     first | rfl | (simp only [h1,cond_true,cond_false] <;> rfl)
   refine AC<|dw [] [(65,FR ((Ai b types).getD x2.val default).1),(66,MB ((Ai b types).getD x2.val default).2.Shape (CT ((Ai b types).getD x2.val default).1))] [Ap (FR ((Ai b types).getD x2.val default).1).2.1,Ap (MB ((Ai b types).getD x2.val default).2.Shape (CT ((Ai b types).getD x2.val default).1)).2.1] ⟨(Ie [(13,tP 13 0),(34,.av (NH b types))]),[(13,.cells (Jz b types x2.val [.s (bif C9 Ar AM (Jg b types x2.val) then (FB AM b types x2.val).2 else ⟨#[]⟩),.i (bif decide ((((Ai b types).getD x2.val default).2.Drill:Int)=0) then (Eo b types x2.val) else 1),.i (bif decide ((((Ai b types).getD x2.val default).2.Drill:Int)=0) then (Eo b types x2.val) else b.Layers),.i (II b types x2.val).Kind,lst 7 AE.c (II b types x2.val).Edges,.i (II b types x2.val).R]) 63),(IZ Ao),(DU b),DV,(Ji Ao),(200014,.omap false 1 AM.length (kfG Bb AM) (vfG (fun x=>[.s x]) AM))]⟩ (.cons (OO ((Ai b types).getD x2.val default).1) (.cons (cW ((Ai b types).getD x2.val default).2.Shape (CT ((Ai b types).getD x2.val default).1) au13) .nil)) (.cons rfl (.cons rfl .nil))<|AH ?_
   refine rc [] [Ao.length=Ao.length,Ao.length+1<=maxLen,(Ao.length+1)*104<=140737488355328] ⟨(Ns b types),[(71,.row 9 (Ao.length+1) (fun i_ j_=>if i_<Ao.length then (Ak BV.c Ao) i_ j_ else (A8 9 1 (Jz b types x2.val [.s (bif C9 Ar AM (Jg b types x2.val) then (FB AM b types x2.val).2 else ⟨#[]⟩),.i (bif decide ((((Ai b types).getD x2.val default).2.Drill:Int)=0) then (Eo b types x2.val) else 1),.i (bif decide ((((Ai b types).getD x2.val default).2.Drill:Int)=0) then (Eo b types x2.val) else b.Layers),.i (II b types x2.val).Kind,lst 7 AE.c (II b types x2.val).Edges,.i (II b types x2.val).R])) (i_-Ao.length) j_) 63),(DU b),DV,(200010,.cells [.own 71 9 (Ao.length+1)] 55),(200014,.omap false 1 AM.length (kfG Bb AM) (vfG (fun x=>[.s x]) AM))]⟩ .nil (.cons rfl (.cons au3 (.cons au3 .nil)))<|BZ ?_
   refine ⟨_,Cv.trans (BS (⟨(Ns b types),[(71,.row 9 (Ao++[BV.mk ((Ai b types).getD x2.val default).1.Id ((Ai b types).getD x2.val default).2.Name 1 (bif C9 Ar AM (Jg b types x2.val) then (FB AM b types x2.val).2 else ⟨#[]⟩) (bif decide ((((Ai b types).getD x2.val default).2.Drill:Int)=0) then (Eo b types x2.val) else 1) (bif decide ((((Ai b types).getD x2.val default).2.Drill:Int)=0) then (Eo b types x2.val) else b.Layers) (II b types x2.val)]).length (Ak BV.c (Ao++[BV.mk ((Ai b types).getD x2.val default).1.Id ((Ai b types).getD x2.val default).2.Name 1 (bif C9 Ar AM (Jg b types x2.val) then (FB AM b types x2.val).2 else ⟨#[]⟩) (bif decide ((((Ai b types).getD x2.val default).2.Drill:Int)=0) then (Eo b types x2.val) else 1) (bif decide ((((Ai b types).getD x2.val default).2.Drill:Int)=0) then (Eo b types x2.val) else b.Layers) (II b types x2.val)])) 63),(DU b),DV,(200010,.cells [.own 71 9 (Ao++[BV.mk ((Ai b types).getD x2.val default).1.Id ((Ai b types).getD x2.val default).2.Name 1 (bif C9 Ar AM (Jg b types x2.val) then (FB AM b types x2.val).2 else ⟨#[]⟩) (bif decide ((((Ai b types).getD x2.val default).2.Drill:Int)=0) then (Eo b types x2.val) else 1) (bif decide ((((Ai b types).getD x2.val default).2.Drill:Int)=0) then (Eo b types x2.val) else b.Layers) (II b types x2.val)]).length] 55),(200014,.omap false 1 AM.length (kfG Bb AM) (vfG (fun x=>[.s x]) AM))]⟩) lr (.cons ⟨rfl,Aw 63 (Bi (BR 9 BV.c Ao) (A3 (c:=BV.c) (xs:=([BV.mk ((Ai b types).getD x2.val default).1.Id ((Ai b types).getD x2.val default).2.Name 1 (bif C9 Ar AM (Ac.mk ((Ai b types).getD x2.val default).1.Ref ((Ai b types).getD x2.val default).2.Name) then (AM.getD (DJ Ar AM (Ac.mk ((Ai b types).getD x2.val default).1.Ref ((Ai b types).getD x2.val default).2.Name)) default).2 else ⟨#[]⟩) (bif decide ((((Ai b types).getD x2.val default).2.Drill:Int)=0) then (DW b ((Ai b types).getD x2.val default).1) else 1) (bif decide ((((Ai b types).getD x2.val default).2.Drill:Int)=0) then (DW b ((Ai b types).getD x2.val default).1) else b.Layers) (Dk ((Ai b types).getD x2.val default).2.Shape (CT ((Ai b types).getD x2.val default).1))]:List BV)) rfl kr))⟩ (.cons ⟨rfl,.refl _⟩ (.cons ⟨rfl,.refl _⟩ (.cons ⟨rfl,.cells _ (.cons (.own _ _ au2) .nil)⟩ lr))))) (Cv.trans (wr (⟨(Ns b types),[(100000,.row 9 (Ao++[BV.mk ((Ai b types).getD x2.val default).1.Id ((Ai b types).getD x2.val default).2.Name 1 (bif C9 Ar AM (Jg b types x2.val) then (FB AM b types x2.val).2 else ⟨#[]⟩) (bif decide ((((Ai b types).getD x2.val default).2.Drill:Int)=0) then (Eo b types x2.val) else 1) (bif decide ((((Ai b types).getD x2.val default).2.Drill:Int)=0) then (Eo b types x2.val) else b.Layers) (II b types x2.val)]).length (Ak BV.c (Ao++[BV.mk ((Ai b types).getD x2.val default).1.Id ((Ai b types).getD x2.val default).2.Name 1 (bif C9 Ar AM (Jg b types x2.val) then (FB AM b types x2.val).2 else ⟨#[]⟩) (bif decide ((((Ai b types).getD x2.val default).2.Drill:Int)=0) then (Eo b types x2.val) else 1) (bif decide ((((Ai b types).getD x2.val default).2.Drill:Int)=0) then (Eo b types x2.val) else b.Layers) (II b types x2.val)])) 63),(DU b),DV,(200010,.cells [.own 100000 9 (Ao++[BV.mk ((Ai b types).getD x2.val default).1.Id ((Ai b types).getD x2.val default).2.Name 1 (bif C9 Ar AM (Jg b types x2.val) then (FB AM b types x2.val).2 else ⟨#[]⟩) (bif decide ((((Ai b types).getD x2.val default).2.Drill:Int)=0) then (Eo b types x2.val) else 1) (bif decide ((((Ai b types).getD x2.val default).2.Drill:Int)=0) then (Eo b types x2.val) else b.Layers) (II b types x2.val)]).length] 55),(200014,.omap false 1 AM.length (kfG Bb AM) (vfG (fun x=>[.s x]) AM))]⟩) 71 100000 (K:=[299999,200002,200005,200010,200014]) hPX) (Cv.refl _)),rfl,(Ao++[BV.mk ((Ai b types).getD x2.val default).1.Id ((Ai b types).getD x2.val default).2.Name 1 (bif C9 Ar AM (Ac.mk ((Ai b types).getD x2.val default).1.Ref ((Ai b types).getD x2.val default).2.Name) then (AM.getD (DJ Ar AM (Ac.mk ((Ai b types).getD x2.val default).1.Ref ((Ai b types).getD x2.val default).2.Name)) default).2 else ⟨#[]⟩) (bif decide ((((Ai b types).getD x2.val default).2.Drill:Int)=0) then (DW b ((Ai b types).getD x2.val default).1) else 1) (bif decide ((((Ai b types).getD x2.val default).2.Drill:Int)=0) then (DW b ((Ai b types).getD x2.val default).1) else b.Layers) (Dk ((Ai b types).getD x2.val default).2.Shape (CT ((Ai b types).getD x2.val default).1))]),ax0,fun hk hF => ?_,fun _ _ h=>h⟩
   have e0:DP b types AM (fun _=>default) ((Ai b types).length-(x2.val+1)) (x2.val+1) (Ao++[BV.mk ((Ai b types).getD x2.val default).1.Id ((Ai b types).getD x2.val default).2.Name 1 (bif C9 Ar AM (Ac.mk ((Ai b types).getD x2.val default).1.Ref ((Ai b types).getD x2.val default).2.Name) then (AM.getD (DJ Ar AM (Ac.mk ((Ai b types).getD x2.val default).1.Ref ((Ai b types).getD x2.val default).2.Name)) default).2 else ⟨#[]⟩) (bif decide ((((Ai b types).getD x2.val default).2.Drill:Int)=0) then (DW b ((Ai b types).getD x2.val default).1) else 1) (bif decide ((((Ai b types).getD x2.val default).2.Drill:Int)=0) then (DW b ((Ai b types).getD x2.val default).1) else b.Layers) (Dk ((Ai b types).getD x2.val default).2.Shape (CT ((Ai b types).getD x2.val default).1))])=Xb2:=by
    rw [<- hF2]
    first | (simp only [DP,cond_true,cond_false] <;> rfl)
   subst hk
   change DP b types AM (fun _=>default) ((Ai b types).length-x2.val) x2.val Ao=BF b types at hF
   show DP b types AM (fun _=>default) ((Ai b types).length-(x2.val+1)) (x2.val+1) (Ao++[BV.mk ((Ai b types).getD x2.val default).1.Id ((Ai b types).getD x2.val default).2.Name 1 (bif C9 Ar AM (Ac.mk ((Ai b types).getD x2.val default).1.Ref ((Ai b types).getD x2.val default).2.Name) then (AM.getD (DJ Ar AM (Ac.mk ((Ai b types).getD x2.val default).1.Ref ((Ai b types).getD x2.val default).2.Name)) default).2 else ⟨#[]⟩) (bif decide ((((Ai b types).getD x2.val default).2.Drill:Int)=0) then (DW b ((Ai b types).getD x2.val default).1) else 1) (bif decide ((((Ai b types).getD x2.val default).2.Drill:Int)=0) then (DW b ((Ai b types).getD x2.val default).1) else b.Layers) (Dk ((Ai b types).getD x2.val default).2.Shape (CT ((Ai b types).getD x2.val default).1))])=BF b types
   exact e0.trans (hXb2.symm.trans hF)
  ·have hinv2:Ao.length<=(Ai b types).length:=hinv;clear hinv
   change DP b types AM (fun _=>default) ((Ai b types).length-(Ai b types).length) (Ai b types).length Ao=BF b types at hF2
   rw [Nat.sub_self] at hF2
   refine BZ<|AH<|AC ?_
   refine rn ⟨[(4,tO (.own 100000 9 Ao.length))],[(IZ Ao)]⟩<|AZ ?_
   exact ⟨_,Cv.refl _,.inl rfl,tO (.own 100000 9 Ao.length),by kernel_rfl,frE (c:=BV.c) (xs:=Ao) (by rw [<- hF2];first | (simp only [DP,cond_true,cond_false] <;> rfl)) kr⟩
end
section
open Go.RowKit
theorem PO {types:List AL} (h:CS types) (name:ByteArray):((B9 types name).1.Pads.length:Int)<=1000000:=by rw [Gy];exact Hv h name
def KT (b:AF) (v:List (Ac×ByteArray)) (x:AG×Ay):BV:=BV.mk x.1.Id x.2.Name 1 (bif C9 Ar v (Ac.mk x.1.Ref x.2.Name) then (v.getD (DJ Ar v (Ac.mk x.1.Ref x.2.Name)) default).2 else ⟨#[]⟩) (bif decide (x.2.Drill=0) then DW b x.1 else 1) (bif decide (x.2.Drill=0) then DW b x.1 else b.Layers) (Dk x.2.Shape (CT x.1))
def ZG (v:List (Ac×ByteArray)) (n:BO):List (Ac×ByteArray):=n.Pins.foldl (fun v p=>Fp Ar v p n.Name) v
def MT (b:AF):List (Ac×ByteArray):=b.Nets.reverse.foldl ZG []
theorem PG (b:AF) (types:List AL):BF b types=(Ai b types).map (KT b (MT b)):=by
 have h2:∀ v K0,DP b types v K0 (Ai b types).length 0 []=(Ai b types).map (KT b v):=fun v K0=>by
  have:=Zp (Ai b types) (fun acc x=>acc++[KT b v x]) (DP b types v K0) id (fun x acc=>by rw [DP];rfl) (fun m x acc hx=>by rw [DP];rfl) (Ai b types).length 0 [] (by omega)
  rw [this,List.drop_zero,P3,List.nil_append];rfl
 have hrev:∀ x,x<b.Nets.reverse.length->b.Nets.getD (b.Nets.length-1-x) default=b.Nets.reverse.getD x default:=fun x hx=>by
  rw [List.length_reverse] at hx
  rw [List.getD_eq_getElem?_getD,List.getD_eq_getElem?_getD,List.getElem?_reverse hx]
 unfold BF
 have:=Zp b.Nets.reverse ZG (Ct b types) (fun v=>(Ai b types).map (KT b v)) (fun x acc=>by rw [Ct];exact h2 _ _) (fun m x acc hx=>by
  rw [Ct,hrev x hx]
  have h1:=jM (b.Nets.reverse.getD x default).Pins (fun v p=>Fp Ar v p (b.Nets.reverse.getD x default).Name) (Gd b types acc x (Ct b types m (x+1))) (fun v _=>Ct b types m (x+1) v) (fun m v k=>by rw [Gd,hrev x hx,Int.toNat_natCast]) (b.Nets.reverse.getD x default).Pins.length 0 ((((b.Nets.reverse.getD x default).Pins.length:Int)-0).toNat+1) acc rfl (Nat.zero_le _) (by omega)
  rw [List.drop_zero] at h1
  exact h1) b.Nets.length 0 [] (by rw [List.length_reverse];omega)
 rw [this,List.drop_zero];rfl
theorem MI (b:AF) (types:List AL):(BF b types).length=(Ai b types).length:=by rw [PG,List.length_map]
def Ov (b:AF) (types:(List AL)):FuncId×List Av×Ef:=(11,[.agg (DC b),.one (Gp types)],.val [] (.av (.one (lst 9 BV.c (BF b types)))))
theorem Vh (b:AF) (types:(List AL)) (hn:(b.Nets.length:Int)<=1000000) (hp:b.Parts.length<20) (ht:CS types) (hm:((Ai b types).length:Int)<=20000000) (hq:∀ n∈b.Nets,(n.Pins.length:Int)<=1000000):Aq Tryz.prog (Ov b types).1 (Ov b types).2.1 (Ov b types).2.2:=AR (fun _ _=>kr) fun _=>OA (qPads b types hn hp ht hm hq)
def Z0r:Blk:=.cells [.s (⟨#[]⟩),.i 0,vN,.i 0,.i 0,.i 0,.i 0] 120
def Z0s (t:AL) (pad:ByteArray):Ay:=t.Pads.getD (FA t.Pads pad).toNat default
def Z0t (t:AL) (pad:ByteArray):Blk:=.cells [.s (Z0s t pad).Name,.i (Z0s t pad).Shape.Kind,.own 23 7 (Z0s t pad).Shape.Edges.length,.i (Z0s t pad).Shape.R,.i (Z0s t pad).At.X,.i (Z0s t pad).At.Y,.i (Z0s t pad).Drill] 120
def Z0u (t:AL) (pad:ByteArray):Blk:=.row 7 (Z0s t pad).Shape.Edges.length (Ak AE.c (Z0s t pad).Shape.Edges) 136
def Fi (t:AL) (pad:ByteArray):(Ay×Bool):=bif decide (((FA t.Pads pad):Int)<0) then (Ay.mk (⟨#[]⟩) (AW.mk 0 [] 0) (AB.mk 0 0) 0,false) else (Ay.mk (Z0s t pad).Name (AW.mk (Z0s t pad).Shape.Kind (Z0s t pad).Shape.Edges (Z0s t pad).Shape.R) (Z0s t pad).At (Z0s t pad).Drill,true)
def TW (t:AL) (pad:ByteArray):FuncId×List Av×Ef:=(37,[.agg (AL.c t),.one (.s pad)],.val [] (.tup [.agg (Ay.c (Fi t pad).1),.one (.b (Fi t pad).2)]))
theorem pFind (t:AL) (pad:ByteArray) (h0:(t.Pads.length:Int)<=1000000) (ha:∀ k,((t.Pads.getD k default).Shape.Edges.length:Int)<=1000000):BH Tryz.prog 37 (TW t pad).2.1 (.tup [.agg (Ay.c (Fi t pad).1),.one (.b (Fi t pad).2)]):=by
 refine AO Tryz.func37 rfl kr kr fun W0 M0 => ?_
 have ha1:=ha (FA t.Pads pad).toNat
 refine AC<|rn ⟨Lp,[(2,.cells (AL.c t) 61),(3,.cells [.s pad] 9),(4,Z0r)]⟩<|AC ?_
 refine rc [(11,(69,[.one (lst 7 Ay.c t.Pads),.one (.clo 70 1 (BU [.ptr 3 0]))],rdI [3] [.cells [.s pad] 9] (tI (FA t.Pads pad))))] [Ap [.one (lst 7 Ay.c t.Pads),.one (.clo 70 1 (BU [.ptr 3 0]))],O4 [.cells [.s pad] 9]] ⟨[(2,tP 2 0),(4,tP 4 0),(6,tI (FA t.Pads pad))],[(2,.cells (AL.c t) 61),(4,Z0r)]⟩ (.cons (JP (fun _ _=>kr) kr kr (M5 (pixPd t.Pads pad au13) (.cons (AvE.refl _) (.cons (.one (.clo 70 1 _ _ (Gq kr))) .nil)))) .nil) (.cons rfl (.cons rfl .nil))<|AH ?_
 refine AC<|AC ?_
 refine rn ⟨[(2,tP 2 0),(4,tP 4 0),(6,tI (FA t.Pads pad)),(13,tB (decide (((FA t.Pads pad):Int)<0)))],[(2,.cells (AL.c t) 61),(4,Z0r)]⟩ ?_
 refine AY _ rfl (fun h1 => ?_) (fun h1 => ?_)
 ·have g1:=oT h1
  refine AC<|rn ⟨[(4,tP 4 0),(5,tB false)],[(4,Z0r)]⟩ ?_
  refine AZ<|A9 ?_
  exact ⟨_,Cv.refl _,.inl rfl,.tup [.agg [.s (⟨#[]⟩),.i 0,vN,.i 0,.i 0,.i 0,.i 0],.one (.b false)],by kernel_rfl,Ds (y:=.tup [.agg [.s (⟨#[]⟩),.i 0,lst 7 AE.c [],.i 0,.i 0,.i 0,.i 0],.one (.b false)]) (.tup (.cons (.agg (rr (rr (.cons (CV 7 AE.c) (rr (rr (rr (rr .nil)))))))) (.cons (AvE.refl _) .nil))) (by first | (simp only [Fi,h1,cond_true,cond_false] <;> rfl))⟩
 ·have g1:=oF h1
  refine Ae<|AH<|AC ?_
  refine rc [] [0<=(FA t.Pads pad:Int)/\(FA t.Pads pad:Int)<((t.Pads.length:Nat):Int)] ⟨[(4,tP 4 0),(7,tP 7 0)],[(4,Z0r),(7,.cells (Ay.c (Z0s t pad)) 120)]⟩ .nil (.cons (by first | exact jG (by assumption) | omega) .nil)<|AH<|AC ?_
  refine rs 23 (JN (Z0s t pad).Shape.Edges) ⟨[(4,tP 4 0),(7,tP 7 0)],[(4,Z0r),(7,Z0t t pad),(23,Z0u t pad)]⟩ (ON (Z0s t pad).Shape.Edges au13)<|AH<|AC ?_
  refine rn ⟨[(4,tP 4 0),(5,tB true)],[(4,Z0t t pad),(23,Z0u t pad)]⟩<|AZ ?_
  exact ⟨_,Cv.trans (vf 23 7 (Z0s t pad).Shape.Edges.length (Ak AE.c (Z0s t pad).Shape.Edges) 136 (K:=[]) (fun k x h=>by cases h) (.cons ⟨rfl,rfl⟩ .nil)) (Cv.refl _),.inl rfl,.tup [.agg (Ay.c (Z0s t pad)),.one (.b true)],by kernel_rfl,Ad (by first | (simp only [Fi,h1,cond_true,cond_false] <;> rfl))⟩
theorem iR (t:AL) (pad:ByteArray) (h0:(t.Pads.length:Int)<=1000000) (ha:∀ k,((t.Pads.getD k default).Shape.Edges.length:Int)<=1000000):Aq Tryz.prog (TW t pad).1 (TW t pad).2.1 (TW t pad).2.2:=AR (fun _ _=>kr) fun _=>pFind t pad h0 ha
theorem TD {types:List AL} (h:CS types) (name:ByteArray):∀ k,(((B9 types name).1.Pads.getD k default).Shape.Edges.length:Int)<=1000000:=by
 rw [Gy]
 unfold Rb
 cases hf:types.find? (fun t=>Fh t name) with
 | none=>exact fun k=>(by decide:((0:Nat):Int)<=1000000)
 | some t=>exact fun k=>OH (h.2 t (List.mem_of_find?_eq_some hf)) k
def Z0v (types:(List AL)) (b:AF) (p:Ac):AL:=(B9 types (b.Parts.getD (DX b.Parts p).toNat default).Type').1
def Z0w (b:AF) (p:Ac):AG:=b.Parts.getD (DX b.Parts p).toNat default
def Z0x (b:AF) (p:Ac) (types:(List AL)):AB:=Aa (CT (Z0w b p)) (Fi (Z0v types b p) p.Pad).1.At
def FAt (b:AF) (types:(List AL)) (p:Ac):(AB×Int×Bool):=bif decide (((DX b.Parts p):Int)<0) then (AB.mk 0 0,0,false) else (bif !((Fi (Z0v types b p) p.Pad).2) then (AB.mk 0 0,0,false) else (Z0x b p types,DW b (Z0w b p),true))
def cAt (b:AF) (types:(List AL)) (p:Ac):FuncId×List Av×Ef:=(13,[.agg (DC b),.one (Gp types),.agg (Ac.c p)],.val [] (.tup [.agg (AB.c (FAt b types p).1),.one (.i (FAt b types p).2.1),.one (.b (FAt b types p).2.2)]))
abbrev Gj:Nat×Blk:=(6,.cells [.i 0,.i 0] 47)
abbrev LZ (b:AF):Nat×Blk:=(3,.cells (DC b) 40)
theorem au18 {p:Prop} (h:p:=by first | (exact TD ht _) | (exact PO ht _) | with_reducible assumption | omega | decide | (simp only [List.length_cons,List.length_nil,List.length_append];omega) | assumption):p:=h
theorem au21 {p:Prop} (h:p:=by first | exact jF (by assumption) | omega):p:=h
theorem pAt (b:AF) (types:(List AL)) (p:Ac) (hp:(b.Parts.length:Int)<=1000000) (ht:CS types):BH Tryz.prog 13 (cAt b types p).2.1 (.tup [.agg (AB.c (FAt b types p).1),.one (.i (FAt b types p).2.1),.one (.b (FAt b types p).2.2)]):=by
 refine AO Tryz.func13 rfl kr kr fun W0 M0 => ?_
 refine AC<|rn ⟨[(Ez types),(3,tP 3 0),(5,tP 5 0),(6,tP 6 0)],[(LZ b),(5,.cells (Ac.c p) 65),Gj]⟩<|AC ?_
 refine rc [(17,(34,[.one (lst 7 AG.c b.Parts),.one (.clo 35 1 (BU [.ptr 5 0]))],rdI [5] [.cells (Ac.c p) 65] (tI (DX b.Parts p))))] [Ap [.one (lst 7 AG.c b.Parts),.one (.clo 35 1 (BU [.ptr 5 0]))],O4 [.cells (Ac.c p) 65]] ⟨[(Ez types),(3,tP 3 0),(5,tP 5 0),(6,tP 6 0),(9,tI (DX b.Parts p))],[(LZ b),(5,.cells (Ac.c p) 65),Gj]⟩ (.cons (JP (fun _ _=>kr) kr kr (M5 (pixPl b.Parts p au18) (.cons (AvE.refl _) (.cons (.one (.clo 35 1 _ _ (Gq kr))) .nil)))) .nil) (.cons rfl (.cons rfl .nil))<|AH ?_
 refine AC<|AC ?_
 refine rn ⟨[(Ez types),(3,tP 3 0),(5,tP 5 0),(6,tP 6 0),(9,tI (DX b.Parts p)),(19,tB (decide (((DX b.Parts p):Int)<0)))],[(LZ b),(5,.cells (Ac.c p) 65),Gj]⟩ ?_
 refine AY _ rfl (fun h1 => ?_) (fun h1 => ?_)
 ·have g1:=oT h1
  refine AC<|rn ⟨[(6,tP 6 0),(7,tI 0),(8,tB false)],[Gj]⟩ ?_
  refine AZ<|A9 ?_
  exact ⟨_,Cv.refl _,.inl rfl,.tup [.agg [.i 0,.i 0],.one (.i 0),.one (.b false)],by kernel_rfl,Ad (by first | (simp only [FAt,h1,cond_true,cond_false] <;> rfl))⟩
 ·have g1:=oF h1
  refine Ae<|AH<|AC ?_
  refine rc [(29,U4 types (b.Parts.getD (DX b.Parts p).toNat default).Type')] [0<=(DX b.Parts p:Int)/\(DX b.Parts p:Int)<((b.Parts.length:Nat):Int),Ap (U4 types (b.Parts.getD (DX b.Parts p).toNat default).Type').2.1] ⟨[(3,tP 3 0),(5,tP 5 0),(6,tP 6 0),(9,tI (DX b.Parts p)),(10,tP 10 0)],[(LZ b),(5,.cells (Ac.c p) 65),Gj,(10,.cells (AL.c (Z0v types b p)) 61)]⟩ (.cons (fR types (b.Parts.getD (DX b.Parts p).toNat default).Type' au18) .nil) (.cons au21 (.cons rfl .nil))<|AH<|AC ?_
  refine rs 36 (TW (Z0v types b p) p.Pad) ⟨[(3,tP 3 0),(6,tP 6 0),(9,tI (DX b.Parts p)),(12,tP 12 0),(13,tB (Fi (Z0v types b p) p.Pad).2)],[(LZ b),Gj,(12,.cells (Ay.c (Fi (Z0v types b p) p.Pad).1) 120)]⟩ (iR (Z0v types b p) p.Pad au18 au18)<|AH ?_
  refine AC<|AC ?_
  refine rn ⟨[(3,tP 3 0),(6,tP 6 0),(9,tI (DX b.Parts p)),(12,tP 12 0),(40,tB (!((Fi (Z0v types b p) p.Pad).2)))],[(LZ b),Gj,(12,.cells (Ay.c (Fi (Z0v types b p) p.Pad).1) 120)]⟩ ?_
  refine AY _ rfl (fun h2 => ?_) (fun h2 => ?_)
  ·refine AC<|rn ⟨[(6,tP 6 0),(7,tI 0),(8,tB false)],[Gj]⟩ ?_
   refine AZ<|A9 ?_
   exact ⟨_,Cv.refl _,.inl rfl,.tup [.agg [.i 0,.i 0],.one (.i 0),.one (.b false)],by kernel_rfl,Ad (by first | (simp only [FAt,h1,h2,cond_true,cond_false] <;> rfl))⟩
  ·refine Ae<|AH<|AC ?_
   refine dw [] [(47,FR (Z0w b p)),(50,Bl (CT (Z0w b p)) (Fi (Z0v types b p) p.Pad).1.At),(57,Jv b (Z0w b p))] [0<=(DX b.Parts p:Int)/\(DX b.Parts p:Int)<((b.Parts.length:Nat):Int),Ap (FR (Z0w b p)).2.1,Ap (Bl (CT (Z0w b p)) (Fi (Z0v types b p) p.Pad).1.At).2.1,0<=(DX b.Parts p:Int)/\(DX b.Parts p:Int)<((b.Parts.length:Nat):Int),Ap (Jv b (Z0w b p)).2.1] ⟨[(6,tP 6 0),(7,tI (DW b (Z0w b p))),(8,tB true)],[(6,.cells (AB.c (Z0x b p types)) 47)]⟩ (.cons (OO (Z0w b p)) (.cons (DQ (CT (Z0w b p)) (Fi (Z0v types b p) p.Pad).1.At) (.cons (UV b (Z0w b p)) .nil))) (.cons au21 (.cons rfl (.cons rfl (.cons au21 (.cons rfl .nil)))))<|AH<|AZ ?_
   exact ⟨_,Cv.refl _,.inl rfl,.tup [.agg (AB.c (Z0x b p types)),.one (.i (DW b (Z0w b p))),.one (.b true)],by kernel_rfl,Ad (by first | (simp only [FAt,h1,h2,cond_true,cond_false] <;> rfl))⟩
theorem okAt (b:AF) (types:(List AL)) (p:Ac) (hp:(b.Parts.length:Int)<=1000000) (ht:CS types):Aq Tryz.prog (cAt b types p).1 (cAt b types p).2.1 (cAt b types p).2.2:=AR (fun _ _=>kr) fun _=>pAt b types p hp ht
end
section
open Go.RowKit
def Z0y:Blk:=.cells Nb 61
def Z0z (types:(List AL)) (k:Int) (name:ByteArray):Bool:=((types.getD k.toNat default).Name.toList==name.toList)
def Dm (types:(List AL)) (name:ByteArray):Nat->Int->(AL×Bool)
 | 0,_=>default
 | n0+1,k=>bif decide ((k:Int)<(types.length:Int)) then (bif Z0z types k name then (types.getD k.toNat default,true) else ((Dm types name n0) (k+1))) else (AL.mk (⟨#[]⟩) [] [],false)
def BX (types:(List AL)) (name:ByteArray):(AL×Bool):=Dm types name (((types.length:Int)-0).toNat+1) 0
def Ka (types:(List AL)) (name:ByteArray):FuncId×List Av×Ef:=(32,[.one (Gp types),.one (.s name)],.val [] (.tup [.agg (AL.c (BX types name).1),.one (.b (BX types name).2)]))
theorem iE (types:(List AL)) (name:ByteArray) (h0:(types.length:Int)<=1000000):BH Tryz.prog 32 (Ka types name).2.1 (.tup [.agg (AL.c (BX types name).1),.one (.b (BX types name).2)]):=by
 refine AO Tryz.func32 rfl kr kr fun W0 M0 => ?_
 refine AC<|rn ⟨[(GG types),(1,tO (.s name)),(4,tP 4 0)],[(4,Z0y)]⟩ ?_
 refine AC<|AC ?_
 refine rn ⟨[(GG types),(1,tO (.s name)),(4,tP 4 0),(6,tI 0)],[(4,Z0y)]⟩<|Af ?_
 refine BL (ι:=Nat×Int) (fun x=>⟨[(GG types),(1,tO (.s name)),(4,tP 4 0),(6,tI x.2)],[(4,Z0y)]⟩) (fun x=>((types.length:Int)-x.2).toNat<x.1/\(0<=x.2/\0<=x.2/\(x.2<=(types.length:Int)\/x.2=0))/\Dm types name x.1 x.2=BX types name) (fun x=>x.1) ?_ (((types.length:Int)-0).toNat+1,0) ⟨Nat.lt_succ_self _,⟨ax0,ax0,ax0⟩,(by simp only [BX,cond_true,cond_false])⟩
 rintro ⟨n0,k⟩ ⟨hn,hinv,hF⟩
 have hm0:=hn;have hinv0:=hinv;have hF0:=hF;try dsimp only at hm0 hinv0 hF0
 clear hn hinv hF
 cases n0 with
 | zero=>exact absurd hm0 (Nat.not_lt_zero _)
 | succ n0 =>
  refine AC<|AC ?_
  refine rn ⟨[(GG types),(1,tO (.s name)),(4,tP 4 0),(6,tI k),(10,tB (decide ((k:Int)<(types.length:Int))))],[(4,Z0y)]⟩ ?_
  refine AY _ rfl (fun h1 => ?_) (fun h1 => ?_)
  ·have g1:=oT h1
   refine Ae<|AH ?_
   refine AC<|Af<|AC ?_
   refine rc [] [0<=(k:Int)/\(k:Int)<((types.length:Nat):Int)] ⟨[(GG types),(1,tO (.s name)),(4,tP 4 0),(6,tI k),(19,tB (Z0z types k name))],[(4,Z0y)]⟩ .nil (.cons au0 .nil)<|AH ?_
   refine AY _ rfl (fun h2 => ?_) (fun h2 => ?_)
   ·refine AC<|rc [] [0<=(k:Int)/\(k:Int)<((types.length:Nat):Int)] ⟨[(4,tP 4 0),(5,tB true)],[(4,.cells (AL.c (types.getD k.toNat default)) 61)]⟩ .nil (.cons au0 .nil)<|AH ?_
    refine AZ<|B2 ?_
    refine A9<|A9 ?_
    refine B2<|A9 ?_
    exact ⟨_,Cv.refl _,.inl rfl,.tup [.agg (AL.c (types.getD k.toNat default)),.one (.b true)],by kernel_rfl,Ad (by rw [<- hF0];first | (simp only [Dm,h1,h2,cond_true,cond_false] <;> rfl))⟩
   ·refine Ae<|BZ<|AH ?_
    refine rg ⟨[(GG types),(1,tO (.s name)),(4,tP 4 0),(6,tI (W64 (k+1)))],[(4,Z0y)]⟩ ?_
    (try rw [(show W64 (k+1)=k+1 from Al (by omega) (by omega))])
    refine AH ?_
    refine ⟨(n0,k+1),⟨?_,?_,(by rw [<- hF0];simp only [Dm,h1,h2,cond_true,cond_false])⟩,Nat.lt_succ_self _,A4 kr⟩
    ·show ((types.length:Int)-(k+1)).toNat<n0;omega
    ·exact ⟨ax0,ax0,ax0⟩
  ·have g1:=oF h1
   refine BP<|BE ?_
   refine BE<|BQ ?_
   refine AH<|AC ?_
   refine rn ⟨[(4,tP 4 0),(5,tB false)],[(4,Z0y)]⟩<|AZ ?_
   exact ⟨_,Cv.refl _,.inl rfl,.tup [.agg Nb,.one (.b false)],by kernel_rfl,Ds (y:=.tup Xz) (.tup (.cons (.agg (rr (.cons (CV 7 Ay.c) (.cons (CV 2 A0.c) .nil)))) (.cons (AvE.refl _) .nil))) (by rw [<- hF0];first | (simp only [Dm,h1,cond_true,cond_false] <;> rfl))⟩
theorem Vi (types:(List AL)) (name:ByteArray) (h0:(types.length:Int)<=1000000):Aq Tryz.prog (Ka types name).1 (Ka types name).2.1 (Ka types name).2.2:=AR (fun _ _=>kr) fun _=>iE types name h0
theorem Rf {α β:Type} [Inhabited α] (f:α->Bool) (K:α->β) (D:β) (xs:List α) (g:Nat->Int->β) (hg:∀ m (v:Nat),g (m+1) v=bif decide ((v:Int)<(xs.length:Int)) then (bif f (xs.getD v default) then K (xs.getD v default) else g m ((v:Int)+1)) else D) :
  ∀ (k v m:Nat),xs.length-v=k->v<=xs.length->k<m->g m v=match (xs.drop v).find? f with | some x=>K x | none=>D:=by
 intro k
 induction k with
 | zero =>
  intro v m hk hv hm
  obtain ⟨m,rfl⟩:∃ k,m=k+1:=⟨m-1,by omega⟩
  rw [hg,decide_eq_false (by omega),cond_false,List.drop_eq_nil_of_le (by omega)]
  rfl
 | succ k ih =>
  intro v m hk hv hm
  obtain ⟨m,rfl⟩:∃ k,m=k+1:=⟨m-1,by omega⟩
  have hlt:v<xs.length:=by omega
  have e:xs.getD v default=xs[v]:=by rw [List.getD_eq_getElem?_getD,List.getElem?_eq_getElem hlt];rfl
  rw [hg,decide_eq_true (by omega),cond_true,e,List.drop_eq_getElem_cons hlt,List.find?_cons]
  cases f xs[v] with
  | true=>rfl
  | false=>exact ih (v+1) m (by omega) (by omega) (by omega)
theorem WL {a c:ByteArray} (h:(a.toList==c.toList)=true):a=c:=by have:=(Uw a c).1 h;cases this;rfl
theorem QS (types:List AL) (name:ByteArray):BX types name=B9 types name:=by
 rw [Gy]
 unfold BX Rb
 have h:=Rf (fun t=>Fh t name) (fun t=>((t,true):AL×Bool)) (⟨⟨#[]⟩,[],[]⟩,false) types (Dm types name) (fun m v=>by rw [Dm];unfold Z0z;rw [Int.toNat_natCast];rfl) types.length 0 (((types.length:Int)-0).toNat+1) rfl (Nat.zero_le _) (by omega)
 rw [List.drop_zero] at h
 refine h.trans ?_
 cases hf:types.find? (fun t=>Fh t name) with
 | none=>rfl
 | some t =>
  have e:t.Name=name:=WL (List.find?_some (p:=fun t=>Fh t name) hf)
  subst e
  rfl
theorem cB {b:AF} (h:∀ n∈b.Nets,(n.Pins.length:Int)<=1000000) (k:Nat):((b.Nets.getD k default).Pins.length:Int)<=1000000:=Hz (p:=fun n:BO=>(n.Pins.length:Int)<=1000000) (by decide) h k
end
section
open Go.RowKit
def Z0A (s:AW):Blk:=.cells (An.c (AV (s.Edges.getD 0 default))) 74
def Z0B (s:AW):Tv:=tI (((((s.Edges.length:Nat):Int):Int).toNat-(1:Int).toNat:Nat):Int)
def Z0C (s:AW):Tv:=.av (.one (lst 7 AE.c (s.Edges.drop (1:Int).toNat)))
def Z0D (s:AW) (v21:Int):AE:=(s.Edges.drop (1:Int).toNat).getD v21.toNat default
def Z0E (v3:An) (s:AW) (v21:Int):Blk:=.cells [.i (min v3.X0 (AV (Z0D s v21)).X0),.i (min v3.Y0 (AV (Z0D s v21)).Y0),.i (max v3.X1 (AV (Z0D s v21)).X1),.i (max v3.Y1 (AV (Z0D s v21)).Y1)] 74
def LR (s:AW):Nat->An->Int->An
 | 0,_,_=>default
 | n0+1,v3,v21=>bif decide ((v21:Int)<(((((s.Edges.length:Nat):Int):Int).toNat-(1:Int).toNat:Nat):Int)) then ((LR s n0) (An.mk (min v3.X0 (AV (Z0D s v21)).X0) (min v3.Y0 (AV (Z0D s v21)).Y0) (max v3.X1 (AV (Z0D s v21)).X1) (max v3.Y1 (AV (Z0D s v21)).Y1)) (v21+1)) else (An.mk (W64 (v3.X0-s.R)) (W64 (v3.Y0-s.R)) (W64 (v3.X1+s.R)) (W64 (v3.Y1+s.R)))
def Fj (s:AW):An:=bif decide (((s.Edges.length:Int):Int)=0) then (An.mk 0 0 0 0) else (LR s (((((((s.Edges.length:Nat):Int):Int).toNat-(1:Int).toNat:Nat):Int)-0).toNat+1) (AV (s.Edges.getD 0 default)) 0)
def U5 (s:AW):FuncId×List Av×Ef:=(18,[.agg (AW.c s)],.val [] (.av (.agg (An.c (Fj s)))))
abbrev IH:Nat×Blk:=(2,.cells [.i 0,.i 0,.i 0,.i 0] 74)
abbrev IG (s:AW):Nat×Blk:=(1,.cells (AW.c s) 27)
abbrev Xu (v3:An) (s:AW):List Cl:=[.i (W64 (v3.X0-s.R)),.i (W64 (v3.Y0-s.R)),.i (W64 (v3.X1+s.R)),.i (W64 (v3.Y1+s.R))]
abbrev Hg (t_:List (Nat×Tv)):List (Nat×Tv):=(1,tP 1 0)::(2,tP 2 0)::(3,tP 3 0)::t_
theorem pBox (s:AW) (h0:(s.Edges.length:Int)<=1000000):BH Tryz.prog 18 (U5 s).2.1 (.av (.agg (An.c (Fj s)))):=by
 refine AO Tryz.func18 rfl kr kr fun W0 M0 => ?_
 refine AC<|rn ⟨Nh,[(IG s),IH]⟩ ?_
 refine AC<|AC ?_
 refine rn ⟨[(1,tP 1 0),(2,tP 2 0),(10,tB (decide (((s.Edges.length:Int):Int)=0)))],[(IG s),IH]⟩ ?_
 refine AY _ rfl (fun h1 => ?_) (fun h1 => ?_)
 ·have g1:=oT h1
  refine AC<|rn ⟨[(2,tP 2 0)],[IH]⟩ ?_
  refine AZ<|A9 ?_
  exact ⟨_,Cv.refl _,.inl rfl,.av (.agg [.i 0,.i 0,.i 0,.i 0]),by kernel_rfl,Ad (by first | (simp only [Fj,h1,cond_true,cond_false] <;> rfl))⟩
 ·have g1:=oF h1
  refine Ae<|AH<|AC ?_
  refine rc [(16,EE (s.Edges.getD 0 default))] [0<=(0:Int)/\(0:Int)<((s.Edges.length:Nat):Int),Ap (EE (s.Edges.getD 0 default)).2.1] ⟨(Hg []),[(IG s),IH,(3,Z0A s)]⟩ (.cons (F8 (s.Edges.getD 0 default)) .nil) (.cons au0 (.cons rfl .nil))<|AH ?_
  refine AC<|AC ?_
  refine rc [] [0<=(1:Int)/\(1:Int)<=(((s.Edges.length:Nat):Int):Int)/\(((s.Edges.length:Nat):Int):Int)<=((s.Edges.length:Nat):Int)] ⟨(Hg [(19,.av (.one (.list false 7 ((((s.Edges.length:Nat):Int):Int).toNat-(1:Int).toNat) (fun i_ j_=>(Ak AE.c s.Edges) (i_+(1:Int).toNat) j_)))),(20,Z0B s),(21,tI 0)]),[(IG s),IH,(3,Z0A s)]⟩ .nil (.cons au0 .nil)<|AH ?_
  refine Bq (Cv.trans (BS (⟨(Hg [(19,Z0C s),(20,Z0B s),(21,tI 0)]),[(IG s),IH,(3,Z0A s)]⟩) (.cons ⟨rfl,.refl _⟩ (.cons ⟨rfl,.refl _⟩ (.cons ⟨rfl,.refl _⟩ (.cons ⟨rfl,.av (.one (Bj false (WV (a:=1) (BR 7 AE.c s.Edges) (by have hc:=(show 0<=(1:Int)/\(1:Int)<=(((s.Edges.length:Nat):Int):Int)/\(((s.Edges.length:Nat):Int):Int)<=((s.Edges.length:Nat):Int) from au0);exact hc.1) (by have hc:=(show 0<=(1:Int)/\(1:Int)<=(((s.Edges.length:Nat):Int):Int)/\(((s.Edges.length:Nat):Int):Int)<=((s.Edges.length:Nat):Int) from au0);exact hc.2.1))))⟩ lr)))) lr) (Cv.refl _))<|Af ?_
  refine BL (ι:=Nat×An×Int) (fun x=>⟨(Hg [(19,Z0C s),(20,Z0B s),(21,tI x.2.2)]),[(IG s),IH,(3,.cells (An.c x.2.1) 74)]⟩) (fun x=>((((((s.Edges.length:Nat):Int):Int).toNat-(1:Int).toNat:Nat):Int)-x.2.2).toNat<x.1/\(0<=x.2.2/\(x.2.2<=(((((s.Edges.length:Nat):Int):Int).toNat-(1:Int).toNat:Nat):Int)\/x.2.2=0))/\LR s x.1 x.2.1 x.2.2=Fj s) (fun x=>x.1) ?_ (((((((s.Edges.length:Nat):Int):Int).toNat-(1:Int).toNat:Nat):Int)-0).toNat+1,AV (s.Edges.getD 0 default),0) ⟨Nat.lt_succ_self _,⟨ax0,ax0⟩,(by simp only [Fj,h1,cond_true,cond_false])⟩
  rintro ⟨n0,v3,v21⟩ ⟨hn,hinv,hF⟩
  have hm0:=hn;have hinv0:=hinv;have hF0:=hF;try dsimp only at hm0 hinv0 hF0
  clear hn hinv hF
  cases n0 with
  | zero=>exact absurd hm0 (Nat.not_lt_zero _)
  | succ n0 =>
   refine AC<|rn ⟨(Hg [(19,Z0C s),(20,Z0B s),(21,tI v21),(22,tB (decide ((v21:Int)<(((((s.Edges.length:Nat):Int):Int).toNat-(1:Int).toNat:Nat):Int))))]),[(IG s),IH,(3,.cells (An.c v3) 74)]⟩<|AC ?_
   refine AY (decide ((v21:Int)<(((((s.Edges.length:Nat):Int):Int).toNat-(1:Int).toNat:Nat):Int))) kr (fun h2 => ?_) (fun h2 => ?_)
   ·have g2:=oT h2
    refine Ae<|AH ?_
    refine AC<|Af<|AC ?_
    refine rc [] [0<=(v21:Int)/\(v21:Int)<(((s.Edges.drop (1:Int).toNat).length:Nat):Int)] ⟨(Hg [(5,tP 5 0),(19,Z0C s),(20,Z0B s),(21,tI v21)]),[(IG s),IH,(3,.cells (An.c v3) 74),(5,.cells (AE.c (Z0D s v21)) 136)]⟩ .nil (.cons au0 .nil)<|AH<|AC ?_
    refine rs 26 (EE (Z0D s v21)) ⟨(Hg [(6,tP 6 0),(19,Z0C s),(20,Z0B s),(21,tI v21)]),[(IG s),IH,(3,.cells (An.c v3) 74),(6,.cells (An.c (AV (Z0D s v21))) 74)]⟩ (F8 (Z0D s v21))<|AH ?_
    refine rg ⟨(Hg [(19,Z0C s),(20,Z0B s),(21,tI v21)]),[(IG s),IH,(3,Z0E v3 s v21)]⟩<|BZ<|AH ?_
    refine rg ⟨(Hg [(19,Z0C s),(20,Z0B s),(21,tI (W64 (v21+1)))]),[(IG s),IH,(3,Z0E v3 s v21)]⟩ ?_
    (try rw [(show W64 (v21+1)=v21+1 from Al (by omega) au9)])
    refine AH ?_
    refine ⟨(n0,An.mk (min v3.X0 (AV (Z0D s v21)).X0) (min v3.Y0 (AV (Z0D s v21)).Y0) (max v3.X1 (AV (Z0D s v21)).X1) (max v3.Y1 (AV (Z0D s v21)).Y1),v21+1),⟨?_,?_,(by rw [<- hF0];simp only [LR,h2,cond_true,cond_false])⟩,Nat.lt_succ_self _,A4 kr⟩
    ·show ((((((s.Edges.length:Nat):Int):Int).toNat-(1:Int).toNat:Nat):Int)-(v21+1)).toNat<n0;omega
    ·exact ⟨ax0,ax0⟩
   ·have g2:=oF h2
    refine BP<|BE ?_
    refine BE<|BQ ?_
    refine AH<|AC ?_
    refine rn ⟨[(2,tP 2 0)],[(2,.cells (Xu v3 s) 74)]⟩<|AZ ?_
    exact ⟨_,Cv.refl _,.inl rfl,.av (.agg (Xu v3 s)),by kernel_rfl,Ad (by rw [<- hF0];first | (simp only [LR,h2,cond_true,cond_false] <;> rfl))⟩
theorem fS (s:AW) (h0:(s.Edges.length:Int)<=1000000):Aq Tryz.prog (U5 s).1 (U5 s).2.1 (U5 s).2.2:=AR (fun _ _=>kr) fun _=>pBox s h0
def Z0F:Blk:=.cells [.i 0,vN,.i 0] 27
def Z0G:Blk:=.row 7 ([]:List AE).length (Ak AE.c ([]:List AE)) 136
def Z0H:Blk:=.cells [.i 2,.own 100000 7 ([]:List AE).length,.i 0] 27
def Z0I (l:(List AB)) (k:Int):AB:=l.getD (Int.tmod (W64 (k+1)) (l.length:Int)).toNat default
abbrev Tn (l:List AB) (k:Int):=[AE.mk 1 (l.getD k.toNat default) (Z0I l k) (AB.mk 0 0)]
def Z0J (s_1:List AE) (l:(List AB)) (k:Int):Blk:=.cells [.i 2,.own 28 7 (s_1++(Tn l k)).length,.i 0] 27
def Z0K (s_1:List AE) (l:(List AB)) (k:Int):Blk:=.row 7 (s_1++(Tn l k)).length (Ak AE.c (s_1++(Tn l k))) 136
def Ge (l:(List AB)):Nat->List AE->Int->AW
 | 0,_,_=>default
 | n0+1,s_1,k=>bif decide ((k:Int)<(l.length:Int)) then ((Ge l n0) (s_1++[AE.mk 1 (l.getD k.toNat default) (Z0I l k) (AB.mk 0 0)]) (k+1)) else (AW.mk 2 s_1 0)
def Mp (l:(List AB)):AW:=Ge l (((l.length:Int)-0).toNat+1) ([]:List AE) 0
def TV (l:(List AB)):FuncId×List Av×Ef:=(86,[.one (lst 2 AB.c l)],.val [] (.av (.agg (AW.c (Mp l)))))
abbrev KC (l:List AB):Nat×Tv:=(0,tO (lst 2 AB.c l))
abbrev Qh (l:List AB):List (Nat×Tv):=[(KC l),(2,tP 2 0),(3,tP 3 0),(4,tI 0)]
theorem pLoop (l:(List AB)) (h0:(l.length:Int)<=1000000):BH Tryz.prog 86 (TV l).2.1 (.av (.agg (AW.c (Mp l)))):=by
 refine AO Tryz.func86 rfl kr kr fun W0 M0 => ?_
 refine AC<|rn ⟨[(KC l),(2,tP 2 0)],[(2,Z0F)]⟩<|AC ?_
 refine rn ⟨[(KC l),(2,tP 2 0),(3,tP 3 0)],[(2,Z0F),(3,.cells [.i 2,vN,.i 0] 27)]⟩ ?_
 refine AC<|AC ?_
 refine rn ⟨(Qh l),[(2,Z0F),(3,.cells [.i 2,vN,.i 0] 27)]⟩<|Af ?_
 refine Bq (Cv.trans (wg (⟨(Qh l),[(100000,.row 7 0 (fun _ _=>default) 136),(2,Z0F),(3,.cells [.i 2,.own 100000 7 0,.i 0] 27)]⟩) 100000 7 (fun _ _=>default) 136 [] [(3,[1])] (K:=[]) (fun k x h=>by cases h)) (Cv.trans (BS (⟨(Qh l),[(100000,Z0G),(2,Z0F),(3,Z0H)]⟩) lr (.cons ⟨rfl,Aw 136 (C3 7 (fun _ _=>default) AE.c)⟩ (.cons ⟨rfl,.refl _⟩ (.cons ⟨rfl,.cells _ (rr (.cons (.own _ _ au2) (rr .nil)))⟩ .nil)))) (Cv.trans (ck (⟨(Qh l),[(2,Z0F),(3,Z0H),(100000,Z0G)]⟩)) (Cv.refl _)))) ?_
 refine BL (ι:=Nat×List AE×Int) (fun x=>⟨[(KC l),(2,tP 2 0),(3,tP 3 0),(4,tI x.2.2)],[(2,Z0F),(3,.cells [.i 2,.own 100000 7 x.2.1.length,.i 0] 27),(100000,.row 7 x.2.1.length (Ak AE.c x.2.1) 136)]⟩) (fun x=>((l.length:Int)-x.2.2).toNat<x.1/\(0<=x.2.2/\(x.2.2<=(l.length:Int)\/x.2.2=0)/\(x.2.1.length:Int)<=0+1*(x.2.2-0))/\Ge l x.1 x.2.1 x.2.2=Mp l) (fun x=>x.1) ?_ (((l.length:Int)-0).toNat+1,([]:List AE),0) ⟨Nat.lt_succ_self _,⟨ax0,ax0,ax0⟩,(by simp only [Mp,cond_true,cond_false])⟩
 rintro ⟨n0,s_1,k⟩ ⟨hn,hinv,hF⟩
 have hm0:=hn;have hinv0:=hinv;have hF0:=hF;try dsimp only at hm0 hinv0 hF0
 clear hn hinv hF
 cases n0 with
 | zero=>exact absurd hm0 (Nat.not_lt_zero _)
 | succ n0 =>
  refine AC<|AC ?_
  refine rn ⟨[(KC l),(2,tP 2 0),(3,tP 3 0),(4,tI k),(9,tB (decide ((k:Int)<(l.length:Int))))],[(2,Z0F),(3,.cells [.i 2,.own 100000 7 s_1.length,.i 0] 27),(100000,.row 7 s_1.length (Ak AE.c s_1) 136)]⟩ ?_
  refine AY _ rfl (fun h1 => ?_) (fun h1 => ?_)
  ·have g1:=oT h1
   refine Ae<|AH ?_
   refine AC<|Af ?_
   refine dw [] [] [0<=(k:Int)/\(k:Int)<((l.length:Nat):Int),((l.length:Int):Int)≠0,0<=(Int.tmod (W64 (k+1)) (l.length:Int):Int)/\(Int.tmod (W64 (k+1)) (l.length:Int):Int)<((l.length:Nat):Int),s_1.length=s_1.length,s_1.length+1<=maxLen,(s_1.length+1)*56<=140737488355328] ⟨[(KC l),(2,tP 2 0),(3,tP 3 0),(4,tI k)],[(2,Z0F),(3,.cells [.i 2,.own 28 7 (s_1.length+1),.i 0] 27),(28,.row 7 (s_1.length+1) (fun i_ j_=>if i_<s_1.length then (Ak AE.c s_1) i_ j_ else (A8 7 1 [.i 1,.i (l.getD k.toNat default).X,.i (l.getD k.toNat default).Y,.i (Z0I l k).X,.i (Z0I l k).Y,.i 0,.i 0]) (i_-s_1.length) j_) 136)]⟩ .nil (.cons au0 (.cons au14 (.cons au0 (.cons rfl (.cons au3 (.cons au3 .nil))))))<|BZ<|AH ?_
   refine Bq (Cv.trans (BS (⟨[(KC l),(2,tP 2 0),(3,tP 3 0),(4,tI k)],[(2,Z0F),(3,Z0J s_1 l k),(28,Z0K s_1 l k)]⟩) lr (.cons ⟨rfl,.refl _⟩ (.cons ⟨rfl,.cells _ (rr (.cons (.own _ _ au2) (rr .nil)))⟩ (.cons ⟨rfl,Aw 136 (Bi (BR 7 AE.c s_1) (A3 (c:=AE.c) (xs:=([AE.mk 1 (l.getD k.toNat default) (Z0I l k) (AB.mk 0 0)]:List AE)) rfl kr))⟩ .nil)))) (Cv.refl _)) ?_
   refine rg ⟨[(KC l),(2,tP 2 0),(3,tP 3 0),(4,tI (W64 (k+1)))],[(2,Z0F),(3,Z0J s_1 l k),(28,Z0K s_1 l k)]⟩ ?_
   (try rw [(show W64 (k+1)=k+1 from Al (by omega) au9)])
   refine AH ?_
   refine ⟨(n0,s_1++[AE.mk 1 (l.getD k.toNat default) (Z0I l k) (AB.mk 0 0)],k+1),⟨?_,?_,(by rw [<- hF0];simp only [Ge,h1,cond_true,cond_false])⟩,Nat.lt_succ_self _,Cv.trans (vr 28 100000 (K:=[]) (fun k x h=>by cases h)) (A4 kr)⟩
   ·show ((l.length:Int)-(k+1)).toNat<n0;omega
   ·exact ⟨ax0,ax0,ax0⟩
  ·have g1:=oF h1
   refine BP<|BE ?_
   refine BE<|BQ ?_
   refine AH<|AC ?_
   refine rn ⟨[(2,tP 2 0)],[(2,.cells [.i 2,.own 100000 7 s_1.length,.i 0] 27),(100000,.row 7 s_1.length (Ak AE.c s_1) 136)]⟩<|AZ ?_
   exact ⟨_,Cv.trans (vf 100000 7 s_1.length (Ak AE.c s_1) 136 (K:=[]) (fun k x h=>by cases h) (.cons ⟨rfl,rfl⟩ .nil)) (Cv.refl _),.inl rfl,.av (.agg [.i 2,lst 7 AE.c s_1,.i 0]),by kernel_rfl,Ad (by rw [<- hF0];first | (simp only [Ge,h1,cond_true,cond_false] <;> rfl))⟩
theorem iQ (l:(List AB)) (h0:(l.length:Int)<=1000000):Aq Tryz.prog (TV l).1 (TV l).2.1 (TV l).2.2:=AR (fun _ _=>kr) fun _=>pLoop l h0
def Z0L (r:An):AW:=Mp [AB.mk r.X0 r.Y0,AB.mk r.X1 r.Y0,AB.mk r.X1 r.Y1,AB.mk r.X0 r.Y1]
def Cn (r:An):AW:=Z0L r
def Ga (r:An):FuncId×List Av×Ef:=(44,[.agg (An.c r)],.val [] (.av (.agg (AW.c (Cn r)))))
theorem gX (r:An):BH Tryz.prog 44 (Ga r).2.1 (.av (.agg (AW.c (Cn r)))):=by
 refine AO Tryz.func44 rfl kr kr fun W0 M0 => ?_
 refine AC<|rn ⟨Nh,[(1,.cells (An.c r) 74),(2,.cells [.i 0,vN,.i 0] 27)]⟩<|AC ?_
 refine rs 24 (ceI [.one (.list true 2 4 (A8 2 4 [.i r.X0,.i r.Y0,.i r.X1,.i r.Y0,.i r.X1,.i r.Y1,.i r.X0,.i r.Y1]))] (TV [AB.mk r.X0 r.Y0,AB.mk r.X1 r.Y0,AB.mk r.X1 r.Y1,AB.mk r.X0 r.Y1])) ⟨[(2,tP 2 0)],[(2,.cells (AW.c (Z0L r)) 27)]⟩ (C1 (iQ [AB.mk r.X0 r.Y0,AB.mk r.X1 r.Y0,AB.mk r.X1 r.Y1,AB.mk r.X0 r.Y1] au6) (.cons (.one (Bj true (A3 (c:=AB.c) (xs:=([AB.mk r.X0 r.Y0,AB.mk r.X1 r.Y0,AB.mk r.X1 r.Y1,AB.mk r.X0 r.Y1]:List AB)) rfl kr))) .nil))<|AH<|AZ ?_
 exact ⟨_,Cv.refl _,.inl rfl,.av (.agg (AW.c (Z0L r))),by kernel_rfl,Ad (by rfl)⟩
theorem M7 (r:An):Aq Tryz.prog (Ga r).1 (Ga r).2.1 (Ga r).2.2:=AR (fun _ _=>kr) fun _=>gX r
def DD (x0:AB) (x1:Int):AW:=AW.mk 1 [AE.mk 1 x0 x0 (AB.mk 0 0)] x1
def I4 (x0:AB) (x1:Int):FuncId×List Av×Ef:=(25,[.agg (AB.c x0),.one (.i x1)],.val [] (.av (.agg (AW.c (DD x0 x1)))))
theorem iF (x0:AB) (x1:Int):BH Tryz.prog 25 (I4 x0 x1).2.1 (.av (.agg (AW.c (DD x0 x1)))):=by
 refine AO Tryz.func25 rfl kr kr fun W0 M0 => ?_
 refine AC<|rn ⟨[(1,tI x1),(2,tP 2 0),(4,tP 4 0)],[(2,.cells (AB.c x0) 47),NI]⟩<|AC ?_
 refine rn ⟨[(4,tP 4 0)],[(4,.cells [.i 1,.list true 7 1 (A8 7 1 [.i 1,.i x0.X,.i x0.Y,.i x0.X,.i x0.Y,.i 0,.i 0]),.i x1] 27)]⟩<|AZ ?_
 exact ⟨_,Cv.refl _,.inl rfl,.av (.agg [.i 1,.list true 7 1 (A8 7 1 [.i 1,.i x0.X,.i x0.Y,.i x0.X,.i x0.Y,.i 0,.i 0]),.i x1]),by kernel_rfl,Ds (y:=.av (.agg [.i 1,lst 7 AE.c [AE.mk 1 x0 x0 (AB.mk 0 0)],.i x1])) (.av (.agg (rr (.cons (Bj true (A3 (c:=AE.c) (xs:=([AE.mk 1 x0 x0 (AB.mk 0 0)]:List AE)) rfl kr)) (rr .nil))))) (by rfl)⟩
theorem Vj (x0:AB) (x1:Int):Aq Tryz.prog (I4 x0 x1).1 (I4 x0 x1).2.1 (I4 x0 x1).2.2:=AR (fun _ _=>kr) fun _=>iF x0 x1
end
section
open Go.RowKit
abbrev Ry:List Cl:=[.i 0,.i 0,vN,.i 0,vN,vN,vN,vN,vN,vN,vN,vN,vN,vN,vN]
def Z0M:Blk:=.cells Ry 40
abbrev Lm:=Cn (An.mk 10 (-3) 20 3)
abbrev Li:=DD (AB.mk 0 0) 5
def Z0N:Blk:=.cells [.s ({ data := #[84] }:ByteArray),.list true 7 2 (A8 7 2 [.s ({ data := #[65] }:ByteArray),.i Li.Kind,lst 7 AE.c Li.Edges,.i Li.R,.i 0,.i 0,.i 4,.s ({ data := #[66] }:ByteArray),.i Lm.Kind,lst 7 AE.c Lm.Edges,.i Lm.R,.i 15,.i 0,.i 0]),vN] 61
def Z0O:Blk:=.cells [.i 2,.i 0,vN,.i 0,.list true 7 2 (A8 7 2 [.i 7,.s ({ data := #[85,49] }:ByteArray),.s ({ data := #[84] }:ByteArray),.i 100,.i 50,.i 1,.b false,.i 3,.s ({ data := #[85,50] }:ByteArray),.s ({ data := #[84] }:ByteArray),.i 0,.i 0,.i 0,.b true]),.list true 2 1 (A8 2 1 [.s ({ data := #[78] }:ByteArray),.list true 2 2 (A8 2 2 [.s ({ data := #[85,49] }:ByteArray),.s ({ data := #[66] }:ByteArray),.s ({ data := #[85,50] }:ByteArray),.s ({ data := #[65] }:ByteArray)])]),vN,vN,vN,vN,vN,vN,vN,vN,vN] 40
def AQ:(AF×(List AL)):=(AF.mk 2 (AW.mk 0 [] 0) [AG.mk 7 ({ data := #[85,49] }:ByteArray) ({ data := #[84] }:ByteArray) (AB.mk 100 50) 1 false,AG.mk 3 ({ data := #[85,50] }:ByteArray) ({ data := #[84] }:ByteArray) (AB.mk 0 0) 0 true] [BO.mk ({ data := #[78] }:ByteArray) [Ac.mk ({ data := #[85,49] }:ByteArray) ({ data := #[66] }:ByteArray),Ac.mk ({ data := #[85,50] }:ByteArray) ({ data := #[65] }:ByteArray)]] [] [] [] [] [] [] [] [] [],[AL.mk ({ data := #[84] }:ByteArray) [Ay.mk ({ data := #[65] }:ByteArray) (DD (AB.mk 0 0) 5) (AB.mk 0 0) 4,Ay.mk ({ data := #[66] }:ByteArray) (Cn (An.mk 10 (-3) 20 3)) (AB.mk 15 0) 0] []])
def FF:FuncId×List Av×Ef:=(16,[],.val [] (.tup [.agg (AF.c AQ.1),.one (lst 3 AL.c AQ.2)]))
theorem UO  : BH Tryz.prog 16 (FF ).2.1 (.tup [.agg (AF.c AQ.1),.one (lst 3 AL.c AQ.2)]):=by
 refine AO Tryz.func16 rfl kr kr fun W0 M0 => ?_
 refine AC<|rn ⟨[(0,tP 0 0)],[(0,Z0M)]⟩<|AC ?_
 refine rc [(5,I4 (AB.mk 0 0) 5),(8,Ga (An.mk 10 (-3) 20 3))] [Ap (I4 (AB.mk 0 0) 5).2.1,Ap (Ga (An.mk 10 (-3) 20 3)).2.1] ⟨[(0,tP 0 0),(2,tP 2 0)],[(0,Z0M),(2,Z0N)]⟩ (.cons (Vj (AB.mk 0 0) 5) (.cons (M7 (An.mk 10 (-3) 20 3)) .nil)) (.cons rfl (.cons rfl .nil))<|AH<|AC ?_
 refine rn ⟨[(0,tP 0 0),(2,tP 2 0),(3,tP 3 0)],[(0,Z0M),(2,Z0N),(3,.cells [.i 2,.i 0,vN,.i 0,.list true 7 2 (A8 7 2 [.i 7,.s ({ data := #[85,49] }:ByteArray),.s ({ data := #[84] }:ByteArray),.i 100,.i 50,.i 1,.b false,.i 3,.s ({ data := #[85,50] }:ByteArray),.s ({ data := #[84] }:ByteArray),.i 0,.i 0,.i 0,.b true]),vN,vN,vN,vN,vN,vN,vN,vN,vN,vN] 40)]⟩<|AC ?_
 refine rn ⟨[(0,tP 0 0),(2,tP 2 0),(3,tP 3 0)],[(0,Z0M),(2,Z0N),(3,Z0O)]⟩<|AC ?_
 refine dw [] [] [] ⟨[(0,tP 0 0),(1,.av (.one (.list true 3 1 (A8 3 1 [.s ({ data := #[84] }:ByteArray),.list true 7 2 (A8 7 2 [.s ({ data := #[65] }:ByteArray),.i Li.Kind,lst 7 AE.c Li.Edges,.i Li.R,.i 0,.i 0,.i 4,.s ({ data := #[66] }:ByteArray),.i Lm.Kind,lst 7 AE.c Lm.Edges,.i Lm.R,.i 15,.i 0,.i 0]),vN]))))],[(0,Z0O)]⟩ .nil .nil<|AH<|AZ ?_
 exact ⟨_,Cv.refl _,.inl rfl,.tup [.agg [.i 2,.i 0,vN,.i 0,.list true 7 2 (A8 7 2 [.i 7,.s ({ data := #[85,49] }:ByteArray),.s ({ data := #[84] }:ByteArray),.i 100,.i 50,.i 1,.b false,.i 3,.s ({ data := #[85,50] }:ByteArray),.s ({ data := #[84] }:ByteArray),.i 0,.i 0,.i 0,.b true]),.list true 2 1 (A8 2 1 [.s ({ data := #[78] }:ByteArray),.list true 2 2 (A8 2 2 [.s ({ data := #[85,49] }:ByteArray),.s ({ data := #[66] }:ByteArray),.s ({ data := #[85,50] }:ByteArray),.s ({ data := #[65] }:ByteArray)])]),vN,vN,vN,vN,vN,vN,vN,vN,vN],.one (.list true 3 1 (A8 3 1 [.s ({ data := #[84] }:ByteArray),.list true 7 2 (A8 7 2 [.s ({ data := #[65] }:ByteArray),.i (DD (AB.mk 0 0) 5).Kind,lst 7 AE.c (DD (AB.mk 0 0) 5).Edges,.i (DD (AB.mk 0 0) 5).R,.i 0,.i 0,.i 4,.s ({ data := #[66] }:ByteArray),.i (Cn (An.mk 10 (-3) 20 3)).Kind,lst 7 AE.c (Cn (An.mk 10 (-3) 20 3)).Edges,.i (Cn (An.mk 10 (-3) 20 3)).R,.i 15,.i 0,.i 0]),vN]))],by kernel_rfl,Ds (y:=.tup [.agg [.i 2,.i 0,lst 7 AE.c [],.i 0,lst 7 AG.c [AG.mk 7 ({ data := #[85,49] }:ByteArray) ({ data := #[84] }:ByteArray) (AB.mk 100 50) 1 false,AG.mk 3 ({ data := #[85,50] }:ByteArray) ({ data := #[84] }:ByteArray) (AB.mk 0 0) 0 true],lst 2 BO.c [BO.mk ({ data := #[78] }:ByteArray) [Ac.mk ({ data := #[85,49] }:ByteArray) ({ data := #[66] }:ByteArray),Ac.mk ({ data := #[85,50] }:ByteArray) ({ data := #[65] }:ByteArray)]],lst 6 Az.c [],lst 8 CG.c [],lst 8 Bk.c [],lst 5 Cs.c [],lst 4 Dh.c [],lst 2 B5.c [],lst 20 A5.c [],lst 3 B1.c [],lst 3 Di.c []],.one (lst 3 AL.c [AL.mk ({ data := #[84] }:ByteArray) [Ay.mk ({ data := #[65] }:ByteArray) (DD (AB.mk 0 0) 5) (AB.mk 0 0) 4,Ay.mk ({ data := #[66] }:ByteArray) (Cn (An.mk 10 (-3) 20 3)) (AB.mk 15 0) 0] []])]) (.tup (.cons (.agg (rr (rr (.cons (CV 7 AE.c) (rr (.cons (Bj true (A3 (c:=AG.c) (xs:=([AG.mk 7 ({ data := #[85,49] }:ByteArray) ({ data := #[84] }:ByteArray) (AB.mk 100 50) 1 false,AG.mk 3 ({ data := #[85,50] }:ByteArray) ({ data := #[84] }:ByteArray) (AB.mk 0 0) 0 true]:List AG)) rfl kr)) (.cons (Bj true (Er (c:=BO.c) (xs:=([BO.mk ({ data := #[78] }:ByteArray) [Ac.mk ({ data := #[85,49] }:ByteArray) ({ data := #[66] }:ByteArray),Ac.mk ({ data := #[85,50] }:ByteArray) ({ data := #[65] }:ByteArray)]]:List BO)) (y:=[[.s ({ data := #[78] }:ByteArray),.list true 2 2 (A8 2 2 [.s ({ data := #[85,49] }:ByteArray),.s ({ data := #[66] }:ByteArray),.s ({ data := #[85,50] }:ByteArray),.s ({ data := #[65] }:ByteArray)])]]) (z:=[[.s ({ data := #[78] }:ByteArray),lst 2 Ac.c [Ac.mk ({ data := #[85,49] }:ByteArray) ({ data := #[66] }:ByteArray),Ac.mk ({ data := #[85,50] }:ByteArray) ({ data := #[65] }:ByteArray)]]]) rfl kr kr (.cons (rr (.cons (Bj true (A3 (c:=Ac.c) (xs:=([Ac.mk ({ data := #[85,49] }:ByteArray) ({ data := #[66] }:ByteArray),Ac.mk ({ data := #[85,50] }:ByteArray) ({ data := #[65] }:ByteArray)]:List Ac)) rfl kr)) .nil)) .nil))) (.cons (CV 6 Az.c) (.cons (CV 8 CG.c) (.cons (CV 8 Bk.c) (.cons (CV 5 Cs.c) (.cons (CV 4 Dh.c) (.cons (CV 2 B5.c) (.cons (CV 20 A5.c) (.cons (CV 3 B1.c) (.cons (CV 3 Di.c) .nil)))))))))))))))) (.cons (.one (Bj true (Er (c:=AL.c) (xs:=([AL.mk ({ data := #[84] }:ByteArray) [Ay.mk ({ data := #[65] }:ByteArray) (DD (AB.mk 0 0) 5) (AB.mk 0 0) 4,Ay.mk ({ data := #[66] }:ByteArray) (Cn (An.mk 10 (-3) 20 3)) (AB.mk 15 0) 0] []]:List AL)) (y:=[[.s ({ data := #[84] }:ByteArray),.list true 7 2 (A8 7 2 [.s ({ data := #[65] }:ByteArray),.i (DD (AB.mk 0 0) 5).Kind,lst 7 AE.c (DD (AB.mk 0 0) 5).Edges,.i (DD (AB.mk 0 0) 5).R,.i 0,.i 0,.i 4,.s ({ data := #[66] }:ByteArray),.i (Cn (An.mk 10 (-3) 20 3)).Kind,lst 7 AE.c (Cn (An.mk 10 (-3) 20 3)).Edges,.i (Cn (An.mk 10 (-3) 20 3)).R,.i 15,.i 0,.i 0]),vN]]) (z:=[[.s ({ data := #[84] }:ByteArray),lst 7 Ay.c [Ay.mk ({ data := #[65] }:ByteArray) (DD (AB.mk 0 0) 5) (AB.mk 0 0) 4,Ay.mk ({ data := #[66] }:ByteArray) (Cn (An.mk 10 (-3) 20 3)) (AB.mk 15 0) 0],lst 2 A0.c []]]) rfl kr kr (.cons (rr (.cons (Bj true (A3 (c:=Ay.c) (xs:=([Ay.mk ({ data := #[65] }:ByteArray) (DD (AB.mk 0 0) 5) (AB.mk 0 0) 4,Ay.mk ({ data := #[66] }:ByteArray) (Cn (An.mk 10 (-3) 20 3)) (AB.mk 15 0) 0]:List Ay)) rfl kr)) (.cons (CV 2 A0.c) .nil))) .nil)))) .nil))) (by rfl)⟩
theorem MR  : Aq Tryz.prog (FF ).1 (FF ).2.1 (FF ).2.2:=AR (fun _ _=>kr) fun _=>UO
def QP (x:BV) (id_:Int) (pad:ByteArray) (net:ByteArray) (from_:Int) (to_:Int):Bool:=bif bif bif bif bif decide ((x.Id:Int)=id_) then (x.Pad.toList==pad.toList) else false then (x.Net.toList==net.toList) else false then decide ((x.From:Int)=from_) else false then decide ((x.To:Int)=to_) else false then decide ((x.Kind:Int)=1) else false
def IL (x:BV) (id_:Int) (pad:ByteArray) (net:ByteArray) (from_:Int) (to_:Int):FuncId×List Av×Ef:=(17,[.agg (BV.c x),.one (.i id_),.one (.s pad),.one (.s net),.one (.i from_),.one (.i to_)],.val [] (.av (.one (.b (QP x id_ pad net from_ to_)))))
theorem pis18 (x:BV) (id_:Int) (pad:ByteArray) (net:ByteArray) (from_:Int) (to_:Int):BH Tryz.prog 17 (IL x id_ pad net from_ to_).2.1 (tO (.b (QP x id_ pad net from_ to_))):=by
 refine AO Tryz.func17 rfl kr kr fun W0 M0 => ?_
 refine AC<|rn ⟨[(1,tI id_),(2,tO (.s pad)),(3,tO (.s net)),(4,tI from_),(5,tI to_),(6,tP 6 0)],[(6,.cells (BV.c x) 63)]⟩<|AC ?_
 refine rc [] [gt (decide ((x.Id:Int)=id_)),gt (decide ((x.Id:Int)=id_)),gt (decide ((x.Id:Int)=id_)),gt (decide ((x.Id:Int)=id_)),gt (bif decide ((x.Id:Int)=id_) then (x.Pad.toList==pad.toList) else false),gt (bif decide ((x.Id:Int)=id_) then (x.Pad.toList==pad.toList) else false),gt (bif decide ((x.Id:Int)=id_) then (x.Pad.toList==pad.toList) else false),gt (bif decide ((x.Id:Int)=id_) then (x.Pad.toList==pad.toList) else false),gt (bif bif decide ((x.Id:Int)=id_) then (x.Pad.toList==pad.toList) else false then (x.Net.toList==net.toList) else false),gt (bif bif decide ((x.Id:Int)=id_) then (x.Pad.toList==pad.toList) else false then (x.Net.toList==net.toList) else false),gt (bif bif decide ((x.Id:Int)=id_) then (x.Pad.toList==pad.toList) else false then (x.Net.toList==net.toList) else false),gt (bif bif decide ((x.Id:Int)=id_) then (x.Pad.toList==pad.toList) else false then (x.Net.toList==net.toList) else false),gt (bif bif bif decide ((x.Id:Int)=id_) then (x.Pad.toList==pad.toList) else false then (x.Net.toList==net.toList) else false then decide ((x.From:Int)=from_) else false),gt (bif bif bif decide ((x.Id:Int)=id_) then (x.Pad.toList==pad.toList) else false then (x.Net.toList==net.toList) else false then decide ((x.From:Int)=from_) else false),gt (bif bif bif decide ((x.Id:Int)=id_) then (x.Pad.toList==pad.toList) else false then (x.Net.toList==net.toList) else false then decide ((x.From:Int)=from_) else false),gt (bif bif bif decide ((x.Id:Int)=id_) then (x.Pad.toList==pad.toList) else false then (x.Net.toList==net.toList) else false then decide ((x.From:Int)=from_) else false),gt (bif bif bif bif decide ((x.Id:Int)=id_) then (x.Pad.toList==pad.toList) else false then (x.Net.toList==net.toList) else false then decide ((x.From:Int)=from_) else false then decide ((x.To:Int)=to_) else false),gt (bif bif bif bif decide ((x.Id:Int)=id_) then (x.Pad.toList==pad.toList) else false then (x.Net.toList==net.toList) else false then decide ((x.From:Int)=from_) else false then decide ((x.To:Int)=to_) else false),gt (bif bif bif bif decide ((x.Id:Int)=id_) then (x.Pad.toList==pad.toList) else false then (x.Net.toList==net.toList) else false then decide ((x.From:Int)=from_) else false then decide ((x.To:Int)=to_) else false)] ⟨[(12,tB (bif bif bif bif bif decide ((x.Id:Int)=id_) then (x.Pad.toList==pad.toList) else false then (x.Net.toList==net.toList) else false then decide ((x.From:Int)=from_) else false then decide ((x.To:Int)=to_) else false then decide ((x.Kind:Int)=1) else false))],[]⟩ .nil (ci (ci (ci (ci (ci (ci (ci (ci (ci (ci (ci (ci (ci (ci (ci (ci (ci (ci (ci .nil)))))))))))))))))))<|AH<|AZ ?_
 exact ⟨_,Cv.refl _,.inl rfl,tO (.b (bif bif bif bif bif decide ((x.Id:Int)=id_) then (x.Pad.toList==pad.toList) else false then (x.Net.toList==net.toList) else false then decide ((x.From:Int)=from_) else false then decide ((x.To:Int)=to_) else false then decide ((x.Kind:Int)=1) else false)),by kernel_rfl,Ad (by rfl)⟩
theorem RE (x:BV) (id_:Int) (pad:ByteArray) (net:ByteArray) (from_:Int) (to_:Int):Aq Tryz.prog (IL x id_ pad net from_ to_).1 (IL x id_ pad net from_ to_).2.1 (IL x id_ pad net from_ to_).2.2:=AR (fun _ _=>kr) fun _=>pis18 x id_ pad net from_ to_
theorem Zu:CS AQ.2:=by
 refine ⟨by decide,fun t ht => ?_⟩
 rw [show AQ.2=[AQ.2.getD 0 default] from rfl,List.mem_singleton] at ht
 subst ht
 refine ⟨by decide,by decide,fun p hp => ?_,fun g hg=>by cases hg⟩
 have hl:(AQ.2.getD 0 default).Pads=[(AQ.2.getD 0 default).Pads.getD 0 default,(AQ.2.getD 0 default).Pads.getD 1 default]:=rfl
 rw [hl] at hp
 simp only [List.mem_cons,List.not_mem_nil,or_false] at hp
 rcases hp with rfl | rfl <;> (unfold Tb;decide)
theorem eI:∀ n∈AQ.1.Nets,(n.Pins.length:Int)<=1000000:=by
 intro n hn
 rw [show AQ.1.Nets=[AQ.1.Nets.getD 0 default] from rfl,List.mem_singleton] at hn
 subst hn
 decide
def Z0P (ref:ByteArray) (pad:ByteArray):AB:=(FAt AQ.1 AQ.2 (Ac.mk ref pad)).1
def Z0Q (ref:ByteArray) (pad:ByteArray):Bool:=(FAt AQ.1 AQ.2 (Ac.mk ref pad)).2.2
def QQ (ref:ByteArray) (pad:ByteArray) (x:Int) (y:Int) (layer:Int):Bool:=bif bif ((Z0Q ref pad)==(decide ((0:Int)<layer))) then (decide ((Z0P ref pad).X=x)&&(decide ((Z0P ref pad).Y=y)&&true)) else false then decide (((FAt AQ.1 AQ.2 (Ac.mk ref pad)).2.1:Int)=layer) else false
def IM (ref:ByteArray) (pad:ByteArray) (x:Int) (y:Int) (layer:Int):FuncId×List Av×Ef:=(19,[.one (.s ref),.one (.s pad),.one (.i x),.one (.i y),.one (.i layer)],.val [] (.av (.one (.b (QQ ref pad x y layer)))))
abbrev G3 (layer:Int):Bool:=(decide ((0:Int)<layer))
theorem au15 {p:Prop} (h:p:=by first | (exact Zu) | (exact eI) | (decide +kernel) | with_reducible assumption | omega | decide | (simp only [List.length_cons,List.length_nil,List.length_append];omega) | assumption):p:=h
theorem pat18 (ref:ByteArray) (pad:ByteArray) (x:Int) (y:Int) (layer:Int):BH Tryz.prog 19 (IM ref pad x y layer).2.1 (tO (.b (QQ ref pad x y layer))):=by
 refine AO Tryz.func19 rfl kr kr fun W0 M0 => ?_
 refine AC<|rn ⟨[(0,tO (.s ref)),(1,tO (.s pad)),(2,tI x),(3,tI y),(4,tI layer)],[]⟩<|AC ?_
 refine rs 17 FF ⟨[(0,tO (.s ref)),(1,tO (.s pad)),(2,tI x),(3,tI y),(4,tI layer),(11,tP 11 0),(12,tO (lst 3 AL.c AQ.2))],[(11,.cells (AF.c AQ.1) 40)]⟩ MR<|AH<|AC ?_
 refine rs 26 (ceI [.agg (AF.c AQ.1),.one (lst 3 AL.c AQ.2),.agg [.s ref,.s pad]] (cAt AQ.1 AQ.2 (Ac.mk ref pad))) ⟨[(2,tI x),(3,tI y),(4,tI layer),(13,tP 13 0),(14,tI (FAt AQ.1 AQ.2 (Ac.mk ref pad)).2.1),(15,tB (Z0Q ref pad))],[(13,.cells (AB.c (Z0P ref pad)) 47)]⟩ (C1 (okAt AQ.1 AQ.2 (Ac.mk ref pad) au15 au15) (.cons (.agg (rr (rr (rr (rr (rr (rr (rr (rr (rr (rr (rr (rr (.cons (.any _) (rr (rr .nil)))))))))))))))) (.cons (AvE.refl _) (.cons (AvE.refl _) .nil))))<|AH<|AC ?_
 refine rc [] [gt ((Z0Q ref pad)==(G3 layer)),gt ((Z0Q ref pad)==(G3 layer)),gt ((Z0Q ref pad)==(G3 layer)),gt ((Z0Q ref pad)==(G3 layer)),gt ((Z0Q ref pad)==(G3 layer)),gt (bif ((Z0Q ref pad)==(G3 layer)) then (decide ((Z0P ref pad).X=x)&&(decide ((Z0P ref pad).Y=y)&&true)) else false),gt (bif ((Z0Q ref pad)==(G3 layer)) then (decide ((Z0P ref pad).X=x)&&(decide ((Z0P ref pad).Y=y)&&true)) else false),gt (bif ((Z0Q ref pad)==(G3 layer)) then (decide ((Z0P ref pad).X=x)&&(decide ((Z0P ref pad).Y=y)&&true)) else false)] ⟨[(10,tB (bif bif ((Z0Q ref pad)==(G3 layer)) then (decide ((Z0P ref pad).X=x)&&(decide ((Z0P ref pad).Y=y)&&true)) else false then decide (((FAt AQ.1 AQ.2 (Ac.mk ref pad)).2.1:Int)=layer) else false))],[]⟩ .nil (ci (ci (ci (ci (ci (ci (ci (ci .nil))))))))<|AH<|AZ ?_
 exact ⟨_,Cv.refl _,.inl rfl,tO (.b (bif bif ((Z0Q ref pad)==(G3 layer)) then (decide ((Z0P ref pad).X=x)&&(decide ((Z0P ref pad).Y=y)&&true)) else false then decide (((FAt AQ.1 AQ.2 (Ac.mk ref pad)).2.1:Int)=layer) else false)),by kernel_rfl,Ad (by rfl)⟩
theorem RF (ref:ByteArray) (pad:ByteArray) (x:Int) (y:Int) (layer:Int):Aq Tryz.prog (IM ref pad x y layer).1 (IM ref pad x y layer).2.1 (IM ref pad x y layer).2.2:=AR (fun _ _=>kr) fun _=>pat18 ref pad x y layer
abbrev NS:=BF AQ.1 AQ.2
def Z0R:Tv:=.av (.one (lst 9 BV.c NS))
def Z0S:Bool := !decide ((((BF AQ.1 AQ.2).length:Int):Int)=4)
def Z0T:Bool:=bif Z0S then true else !(decide ((CT (AQ.1.Parts.getD 1 default)).At.X=0)&&(decide ((CT (AQ.1.Parts.getD 1 default)).At.Y=0)&&(decide ((CT (AQ.1.Parts.getD 1 default)).Turn=0)&&(((CT (AQ.1.Parts.getD 1 default)).Mirror==true)&&true))))
def Z0U:BV:=(BF AQ.1 AQ.2).getD 0 default
def Z0V:Bool:=QP Z0U 3 ({ data := #[65] }:ByteArray) ({ data := #[78] }:ByteArray) 1 2
def Z0W:Bool:=bif Z0V then QP ((BF AQ.1 AQ.2).getD 1 default) 3 ({ data := #[66] }:ByteArray) ({ data := #[] }:ByteArray) 2 2 else false
def Z0X:Bool:=bif Z0W then QP ((BF AQ.1 AQ.2).getD 2 default) 7 ({ data := #[65] }:ByteArray) ({ data := #[] }:ByteArray) 1 2 else false
def Z0Y:Bool:=bif Z0X then QP ((BF AQ.1 AQ.2).getD 3 default) 7 ({ data := #[66] }:ByteArray) ({ data := #[78] }:ByteArray) 1 1 else false
def Z0Z:Bool:=bif Z0Y then (decide ((Fj ((BF AQ.1 AQ.2).getD 3 default).Shape).X0=97)&&(decide ((Fj ((BF AQ.1 AQ.2).getD 3 default).Shape).Y0=60)&&(decide ((Fj ((BF AQ.1 AQ.2).getD 3 default).Shape).X1=103)&&(decide ((Fj ((BF AQ.1 AQ.2).getD 3 default).Shape).Y1=70)&&true)))) else false
def Z10:Bool:=bif Z0Z then QQ ({ data := #[85,49] }:ByteArray) ({ data := #[66] }:ByteArray) 100 65 1 else false
def Z11:Bool:=bif Z10 then QQ ({ data := #[85,50] }:ByteArray) ({ data := #[66] }:ByteArray) (-15) 0 2 else false
def Z12:Bool:=bif Z11 then QQ ({ data := #[85,51] }:ByteArray) ({ data := #[65] }:ByteArray) 0 0 0 else false
def Z13:Bool:=bif Z12 then QQ ({ data := #[85,49] }:ByteArray) ({ data := #[67] }:ByteArray) 0 0 0 else false
def B7:Bool:=bif Z0T then false else Z13
def HV:FuncId×List Av×Ef:=(5,[],.val [] (.av (.one (.b B7))))
theorem Wf  : BH Tryz.prog 5 (HV ).2.1 (tO (.b B7)):=by
 refine AO Tryz.func5 rfl kr kr fun W0 M0 => ?_
 refine AC<|rn ⟨[],[]⟩<|AC ?_
 refine rs 6 FF ⟨[(1,tP 1 0),(2,tO (lst 3 AL.c AQ.2))],[(1,.cells (AF.c AQ.1) 40)]⟩ MR<|AH<|AC ?_
 refine rs 11 (ceI [.agg (AF.c AQ.1),.one (lst 3 AL.c AQ.2)] (Ov AQ.1 AQ.2)) ⟨[(1,tP 1 0),(3,Z0R)],[(1,.cells (AF.c AQ.1) 40)]⟩ (C1 (Vh AQ.1 AQ.2 au15 au15 au15 au15 au15) (.cons (.agg (rr (rr (rr (rr (rr (rr (rr (rr (rr (rr (rr (rr (.cons (.any _) (rr (rr .nil)))))))))))))))) (.cons (AvE.refl _) .nil)))<|AH ?_
 refine AC<|AC ?_
 refine rc [(20,FR (AQ.1.Parts.getD 1 default))] [(Z0S=false)->(Z0S=false),(Z0S=false)->(Z0S=false),(Z0S=false)->(0<=(1:Int)/\(1:Int)<((AQ.1.Parts.length:Nat):Int)),(Z0S=false)->(Z0S=false),(Z0S=false)->(Z0S=false),(Z0S=false)->(Ap (FR (AQ.1.Parts.getD 1 default)).2.1),(Z0S=false)->(Z0S=false),(Z0S=false)->(Z0S=false),Z0S=false->(Z0S=false)] ⟨[(3,Z0R),(23,tB Z0T)],[]⟩ (.cons (OO (AQ.1.Parts.getD 1 default)) .nil) (ci (ci (.cons (fun hG=>by first | exact (by decide +kernel) | (simp only [decide_eq_true_eq,decide_eq_false_iff_not,Bool.not_eq_true,Bool.and_eq_true] at hG <;> omega) | (simp at hG <;> omega) | (simp only [decide_eq_true_eq,decide_eq_false_iff_not] at hG;simp only [Ci];omega)) (ci (ci (.cons (fun _=>rfl) (ci (ci (ci .nil)))))))))<|AH ?_
 refine AY _ rfl (fun h1 => ?_) (fun h1 => ?_)
 ·refine AC<|rn ⟨[(0,tB false)],[]⟩ ?_
  refine AZ<|A9 ?_
  exact ⟨_,Cv.refl _,.inl rfl,tO (.b false),by kernel_rfl,Ad (by first | (simp only [B7,h1,cond_true,cond_false] <;> rfl))⟩
 ·refine Ae<|AH<|AC ?_
  refine rc [(27,IL Z0U 3 ({ data := #[65] }:ByteArray) ({ data := #[78] }:ByteArray) 1 2),(32,IL (NS.getD 1 default) 3 ({ data := #[66] }:ByteArray) ({ data := #[] }:ByteArray) 2 2),(38,IL (NS.getD 2 default) 7 ({ data := #[65] }:ByteArray) ({ data := #[] }:ByteArray) 1 2),(44,IL (NS.getD 3 default) 7 ({ data := #[66] }:ByteArray) ({ data := #[78] }:ByteArray) 1 1)] [0<=(0:Int)/\(0:Int)<(((BF AQ.1 AQ.2).length:Nat):Int),Ap (IL Z0U 3 ({ data := #[65] }:ByteArray) ({ data := #[78] }:ByteArray) 1 2).2.1,(Z0V=true)->(Z0V=true),(Z0V=true)->(0<=(1:Int)/\(1:Int)<(((BF AQ.1 AQ.2).length:Nat):Int)),(Z0V=true)->(Z0V=true),(Z0V=true)->(Z0V=true),(Z0V=true)->(Ap (IL ((BF AQ.1 AQ.2).getD 1 default) 3 ({ data := #[66] }:ByteArray) ({ data := #[] }:ByteArray) 2 2).2.1),Z0V=true->(Z0V=true),(Z0W=true)->(Z0W=true),(Z0W=true)->(0<=(2:Int)/\(2:Int)<(((BF AQ.1 AQ.2).length:Nat):Int)),(Z0W=true)->(Z0W=true),(Z0W=true)->(Z0W=true),(Z0W=true)->(Ap (IL ((BF AQ.1 AQ.2).getD 2 default) 7 ({ data := #[65] }:ByteArray) ({ data := #[] }:ByteArray) 1 2).2.1),Z0W=true->(Z0W=true),(Z0X=true)->(Z0X=true),(Z0X=true)->(0<=(3:Int)/\(3:Int)<(((BF AQ.1 AQ.2).length:Nat):Int)),(Z0X=true)->(Z0X=true),(Z0X=true)->(Z0X=true),(Z0X=true)->(Ap (IL ((BF AQ.1 AQ.2).getD 3 default) 7 ({ data := #[66] }:ByteArray) ({ data := #[78] }:ByteArray) 1 1).2.1),Z0X=true->(Z0X=true)] ⟨[(3,Z0R),(4,tB Z0Y)],[]⟩ (.cons (RE Z0U 3 ({ data := #[65] }:ByteArray) ({ data := #[78] }:ByteArray) 1 2) (.cons (RE ((BF AQ.1 AQ.2).getD 1 default) 3 ({ data := #[66] }:ByteArray) ({ data := #[] }:ByteArray) 2 2) (.cons (RE ((BF AQ.1 AQ.2).getD 2 default) 7 ({ data := #[65] }:ByteArray) ({ data := #[] }:ByteArray) 1 2) (.cons (RE ((BF AQ.1 AQ.2).getD 3 default) 7 ({ data := #[66] }:ByteArray) ({ data := #[78] }:ByteArray) 1 1) .nil)))) (.cons (by decide +kernel) (.cons rfl (ci (.cons (fun hG=>by first | exact (by decide +kernel) | (simp only [decide_eq_true_eq,decide_eq_false_iff_not,Bool.not_eq_true,Bool.and_eq_true] at hG <;> omega) | (simp at hG <;> omega) | (simp only [decide_eq_true_eq,decide_eq_false_iff_not] at hG;simp only [Ci];omega)) (ci (ci (.cons (fun _=>rfl) (ci (ci (.cons (fun hG=>by first | exact (by decide +kernel) | (simp only [decide_eq_true_eq,decide_eq_false_iff_not,Bool.not_eq_true,Bool.and_eq_true] at hG <;> omega) | (simp at hG <;> omega) | (simp only [decide_eq_true_eq,decide_eq_false_iff_not] at hG;simp only [Ci];omega)) (ci (ci (.cons (fun _=>rfl) (ci (ci (.cons (fun hG=>by first | exact (by decide +kernel) | (simp only [decide_eq_true_eq,decide_eq_false_iff_not,Bool.not_eq_true,Bool.and_eq_true] at hG <;> omega) | (simp at hG <;> omega) | (simp only [decide_eq_true_eq,decide_eq_false_iff_not] at hG;simp only [Ci];omega)) (ci (ci (.cons (fun _=>rfl) (ci .nil))))))))))))))))))))<|AH<|AC ?_
  refine rc [(52,U5 (NS.getD 3 default).Shape),(57,IM ({ data := #[85,49] }:ByteArray) ({ data := #[66] }:ByteArray) 100 65 1),(60,IM ({ data := #[85,50] }:ByteArray) ({ data := #[66] }:ByteArray) (-15) 0 2),(63,IM ({ data := #[85,51] }:ByteArray) ({ data := #[65] }:ByteArray) 0 0 0),(66,IM ({ data := #[85,49] }:ByteArray) ({ data := #[67] }:ByteArray) 0 0 0)] [(Z0Y=true)->(Z0Y=true),(Z0Y=true)->(0<=(3:Int)/\(3:Int)<(((BF AQ.1 AQ.2).length:Nat):Int)),(Z0Y=true)->(Z0Y=true),(Z0Y=true)->(Z0Y=true),(Z0Y=true)->(Z0Y=true),(Z0Y=true)->(Ap (U5 ((BF AQ.1 AQ.2).getD 3 default).Shape).2.1),(Z0Y=true)->(Z0Y=true),(Z0Y=true)->(Z0Y=true),Z0Y=true->(Z0Y=true),(Z0Z=true)->(Ap (IM ({ data := #[85,49] }:ByteArray) ({ data := #[66] }:ByteArray) 100 65 1).2.1),Z0Z=true->(Z0Z=true),(Z10=true)->(Ap (IM ({ data := #[85,50] }:ByteArray) ({ data := #[66] }:ByteArray) (-15) 0 2).2.1),Z10=true->(Z10=true),(Z11=true)->(Ap (IM ({ data := #[85,51] }:ByteArray) ({ data := #[65] }:ByteArray) 0 0 0).2.1),Z11=true->(Z11=true),(Z12=true)->(Ap (IM ({ data := #[85,49] }:ByteArray) ({ data := #[67] }:ByteArray) 0 0 0).2.1),Z12=true->(Z12=true)] ⟨[(0,tB Z13)],[]⟩ (.cons (fS ((BF AQ.1 AQ.2).getD 3 default).Shape au15) (.cons (RF ({ data := #[85,49] }:ByteArray) ({ data := #[66] }:ByteArray) 100 65 1) (.cons (RF ({ data := #[85,50] }:ByteArray) ({ data := #[66] }:ByteArray) (-15) 0 2) (.cons (RF ({ data := #[85,51] }:ByteArray) ({ data := #[65] }:ByteArray) 0 0 0) (.cons (RF ({ data := #[85,49] }:ByteArray) ({ data := #[67] }:ByteArray) 0 0 0) .nil))))) (ci (.cons (fun hG=>by first | exact (by decide +kernel) | (simp only [decide_eq_true_eq,decide_eq_false_iff_not,Bool.not_eq_true,Bool.and_eq_true] at hG <;> omega) | (simp at hG <;> omega) | (simp only [decide_eq_true_eq,decide_eq_false_iff_not] at hG;simp only [Ci];omega)) (ci (ci (ci (.cons (fun _=>rfl) (ci (ci (ci (.cons (fun _=>rfl) (ci (.cons (fun _=>rfl) (ci (.cons (fun _=>rfl) (ci (.cons (fun _=>rfl) (ci .nil)))))))))))))))))<|AH<|AZ ?_
  exact ⟨_,Cv.refl _,.inl rfl,tO (.b Z13),by kernel_rfl,Ad (by first | (simp only [B7,h1,cond_true,cond_false] <;> rfl))⟩
theorem UW  : Aq Tryz.prog (HV ).1 (HV ).2.1 (HV ).2.2:=AR (fun _ _=>kr) fun _=>Wf
theorem gS:B7=true:=by decide +kernel
end
section
open Go.RowKit
def Aj (k:Int):ByteArray:=([({ data := #[80,49] }:ByteArray),({ data := #[80,50] }:ByteArray),({ data := #[80,51] }:ByteArray),({ data := #[80,52] }:ByteArray),({ data := #[80,53] }:ByteArray),({ data := #[80,54] }:ByteArray)]:List ByteArray).getD k.toNat ⟨#[]⟩
def CB (k:Int):FuncId×List Av×Ef:=(87,[.one (.i k)],.val [] (.av (.one (.s (Aj k)))))
theorem Yh (k:Int) (hk:0<=k/\k<6):BH Tryz.prog 87 (CB k).2.1 (tO (.s (Aj k))):=by
 refine AO Tryz.func87 rfl kr kr fun W0 M0 => ?_
 refine AC<|rn ⟨[(0,tI k)],[]⟩<|AC ?_
 refine rc [] [0<=(k:Int)/\(k:Int)<((6:Nat):Int)] ⟨[(2,tO (.s (([({ data := #[80,49] }:ByteArray),({ data := #[80,50] }:ByteArray),({ data := #[80,51] }:ByteArray),({ data := #[80,52] }:ByteArray),({ data := #[80,53] }:ByteArray),({ data := #[80,54] }:ByteArray)]:List ByteArray).getD k.toNat ⟨#[]⟩)))],[]⟩ .nil (.cons au0 .nil)<|AH<|AZ ?_
 exact ⟨_,Cv.refl _,.inl rfl,tO (.s (([({ data := #[80,49] }:ByteArray),({ data := #[80,50] }:ByteArray),({ data := #[80,51] }:ByteArray),({ data := #[80,52] }:ByteArray),({ data := #[80,53] }:ByteArray),({ data := #[80,54] }:ByteArray)]:List ByteArray).getD k.toNat ⟨#[]⟩)),by kernel_rfl,Ad (by rfl)⟩
theorem EK (k:Int) (hk:0<=k/\k<6):Aq Tryz.prog (CB k).1 (CB k).2.1 (CB k).2.2:=AR (fun _ _=>kr) fun _=>Yh k hk
def GC (x0:AG):Ab:=Ab.mk x0.At x0.Turn x0.Under
def F9 (x0:AG):FuncId×List Av×Ef:=(105,[.agg (AG.c x0)],.val [] (.av (.agg (Ab.c (GC x0)))))
theorem Ws (x0:AG):BH Tryz.prog 105 (F9 x0).2.1 (.av (.agg (Ab.c (GC x0)))):=by
 refine AO Tryz.func105 rfl kr kr fun W0 M0 => ?_
 refine AC<|rn ⟨Nh,[(1,.cells (AG.c x0) 49),(2,.cells [.i 0,.i 0,.i 0,.b false] 51)]⟩<|AC ?_
 refine rn ⟨[(2,tP 2 0)],[(2,.cells (Qc x0) 51)]⟩<|AZ ?_
 exact ⟨_,Cv.refl _,.inl rfl,.av (.agg (Qc x0)),by kernel_rfl,Ad (by rfl)⟩
theorem UZ (x0:AG):Aq Tryz.prog (F9 x0).1 (F9 x0).2.1 (F9 x0).2.2:=AR (fun _ _=>kr) fun _=>Ws x0
def Em (x0:AB) (x1:AB):AE:=AE.mk 1 x0 x1 (AB.mk 0 0)
def CY (x0:AB) (x1:AB):FuncId×List Av×Ef:=(54,[.agg (AB.c x0),.agg (AB.c x1)],.val [] (.av (.agg (AE.c (Em x0 x1)))))
abbrev Qa (x0:AB) (x1:AB):List Cl:=[.i 1,.i x0.X,.i x0.Y,.i x1.X,.i x1.Y,.i 0,.i 0]
abbrev X3 (x0:AB) (x1:AB):List (Nat×Blk):=[(2,.cells (AB.c x0) 47),(3,.cells (AB.c x1) 47),(4,.cells [.i 0,.i 0,.i 0,.i 0,.i 0,.i 0,.i 0] 136)]
theorem UI (x0:AB) (x1:AB):BH Tryz.prog 54 (CY x0 x1).2.1 (.av (.agg (AE.c (Em x0 x1)))):=by
 refine AO Tryz.func54 rfl kr kr fun W0 M0 => ?_
 refine AC<|rn ⟨Lp,(X3 x0 x1)⟩<|AC ?_
 refine rn ⟨[(4,tP 4 0)],[(4,.cells (Qa x0 x1) 136)]⟩<|AZ ?_
 exact ⟨_,Cv.refl _,.inl rfl,.av (.agg (Qa x0 x1)),by kernel_rfl,Ad (by rfl)⟩
theorem FX (x0:AB) (x1:AB):Aq Tryz.prog (CY x0 x1).1 (CY x0 x1).2.1 (CY x0 x1).2.2:=AR (fun _ _=>kr) fun _=>UI x0 x1
def AU (l:(List (List Int))) (k:Int):(List Int):=bif decide ((k:Int)<(l.length:Int)) then (l.getD k.toNat default) else ([])
def Du (l:(List (List Int))) (k:Int):FuncId×List Av×Ef:=(47,[.one (lst 1 (fun x=>[lst 1 (fun x=>[.i x]) x]) l),.one (.i k)],.val [] (.av (.one (lst 1 (fun x=>[.i x]) (AU l k)))))
abbrev oL (l:List (List Int)):Av:=.one (lst 1 (fun x=>[lst 1 (fun x=>[.i x]) x]) l)
theorem bX (l:(List (List Int))) (k:Int) (hk:0<=k):BH Tryz.prog 47 (Du l k).2.1 (tO (lst 1 (fun x=>[.i x]) (AU l k))):=by
 refine AO Tryz.func47 rfl kr kr fun W0 M0 => ?_
 refine AC<|rn ⟨[(0,.av (oL l)),(1,tI k)],[]⟩ ?_
 refine AC<|AC ?_
 refine rn ⟨[(0,.av (oL l)),(1,tI k),(8,tB (decide ((k:Int)<(l.length:Int))))],[]⟩ ?_
 refine AY _ rfl (fun h1 => ?_) (fun h1 => ?_)
 ·have g1:=oT h1
  refine AC<|rc [] [0<=(k:Int)/\(k:Int)<((l.length:Nat):Int)] ⟨[(4,tO (lst 1 (fun x=>[.i x]) (l.getD k.toNat default)))],[]⟩ .nil (.cons au0 .nil)<|AH ?_
  refine AZ<|A9 ?_
  exact ⟨_,Cv.refl _,.inl rfl,tO (lst 1 (fun x=>[.i x]) (l.getD k.toNat default)),by kernel_rfl,Ad (by first | (simp only [AU,h1,cond_true,cond_false] <;> rfl))⟩
 ·have g1:=oF h1
  refine Ae<|AH<|AC ?_
  refine rn ⟨[(4,.av (.one vN))],[]⟩<|AZ ?_
  exact ⟨_,Cv.refl _,.inl rfl,.av (.one vN),by kernel_rfl,Ds (y:=tO (lst 1 (fun x=>[.i x]) [])) (.av (.one (CV 1 (fun x=>[.i x])))) (by first | (simp only [AU,h1,cond_true,cond_false] <;> rfl))⟩
theorem FY (l:(List (List Int))) (k:Int) (hk:0<=k):Aq Tryz.prog (Du l k).1 (Du l k).2.1 (Du l k).2.2:=AR (fun _ _=>kr) fun _=>bX l k hk
abbrev Jh:List Av:=[.one (.ptr 1000 0),.one (.i 4)]
abbrev G2 (d:AD):Blk:=.cells (AD.c d) 146
def Z14 (d:AD):FuncId×List Av×Ef:=(48,(Jh:List Av).map (Bh 1000 1000),wrI 1000 (G2 d) (tI (AA d 4).1) (.cells (AD.c (AA d 4).2) 146))
def Z15 (a:AB) (b_:AB):AE:=Em a (AB.mk (bif (decide (a.X=b_.X)&&(decide (a.Y=b_.Y)&&true)) then (W64 (b_.X+20)) else b_.X) a.Y)
def Z16 (a:AB) (b_:AB):AE:=Em (AB.mk (bif (decide (a.X=b_.X)&&(decide (a.Y=b_.Y)&&true)) then (W64 (b_.X+20)) else b_.X) a.Y) (AB.mk (bif (decide (a.X=b_.X)&&(decide (a.Y=b_.Y)&&true)) then (W64 (b_.X+20)) else b_.X) b_.Y)
def Z17 (d:AD):FuncId×List Av×Ef:=(48,([.one (.ptr 1000 0),.one (.i 20)]:List Av).map (Bh 1000 1000),wrI 1000 (.cells (AD.c (AA d 4).2) 146) (tI (AA (AA d 4).2 20).1) (.cells (AD.c (AA (AA d 4).2 20).2) 146))
def Z18 (d:AD):Blk:=.cells (AD.c (AA (AA d 4).2 20).2) 146
def Z19 (a:AB) (b_:AB) (d:AD):AE:=Ev (AB.mk (bif (decide (a.X=b_.X)&&(decide (a.Y=b_.Y)&&true)) then (W64 (b_.X+20)) else b_.X) (W64 (b_.Y+(W64 (5+(AA (AA d 4).2 20).1))))) (W64 (5+(AA (AA d 4).2 20).1)) 3 2
def Z1a (a:AB) (b_:AB):AE:=Em a (AB.mk (bif (decide (a.X=b_.X)&&(decide (a.Y=b_.Y)&&true)) then (W64 (b_.X+20)) else b_.X) b_.Y)
def CO (a:AB) (b_:AB) (d:AD):((List AE)×AD):=bif bif bif bif decide ((0:Int)<(AA d 4).1) then decide (((AA d 4).1:Int)<3) else false then !(decide ((bif (decide (a.X=b_.X)&&(decide (a.Y=b_.Y)&&true)) then (W64 (b_.X+20)) else b_.X)=a.X)&&(decide (a.Y=a.Y)&&true)) else false then !(decide ((bif (decide (a.X=b_.X)&&(decide (a.Y=b_.Y)&&true)) then (W64 (b_.X+20)) else b_.X)=(bif (decide (a.X=b_.X)&&(decide (a.Y=b_.Y)&&true)) then (W64 (b_.X+20)) else b_.X))&&(decide (a.Y=b_.Y)&&true)) else false then ([Z15 a b_,Z16 a b_],(AA d 4).2) else (bif decide (((AA d 4).1:Int)=3) then ([Z1a a b_,Z19 a b_ d],(AA (AA d 4).2 20).2) else ([Z1a a b_],(AA d 4).2))
abbrev ES (a:AB) (b_:AB):Bool:=decide (a.X=b_.X)&&(decide (a.Y=b_.Y)&&true)
abbrev GH (a:AB):Nat×Blk:=(3,.cells (AB.c a) 47)
abbrev Ik (d:AD):Nat×Blk:=(1000,.cells (AD.c d) 146)
abbrev LW (t_:List (Nat×Tv)):List (Nat×Tv):=(2,tP 1000 0)::(3,tP 3 0)::(4,tP 4 0)::t_
abbrev Qd:List (Nat×Tv):=(LW [])
abbrev Nk (d:AD):Nat×Blk:=(1000,.cells (AD.c (AA d 4).2) 146)
theorem au17 {p:Prop} (h:p:=by repeat (first | assumption | exact CX (by assumption) | refine BI ?_ | refine Ce ?_ ?_ | refine hKd _ _ ?_ | refine cond_dk _ ?_)):p:=h
theorem au7 {p:Prop} (h:p:=by first | decide | omega | (simp only [Ci];omega)):p:=h
theorem Yj  (a:AB) (b_:AB) (d:AD) (hd:Ba d):Wr Tryz.prog 91 1000 [.agg (AB.c a),.agg (AB.c b_),.one (.ptr 1000 0)] (.cells (AD.c d) 146) (tO (lst 7 AE.c (CO a b_ d).1)) (.cells (AD.c (CO a b_ d).2) 146):=by
 refine HI Tryz.func91 rfl kr kr kr kr fun W0 M0 X hX => ?_
 refine AC<|rn ⟨Qd,[(GH a),(4,.cells (AB.c b_) 47),(Ik d)]⟩ ?_
 refine AC<|AC ?_
 refine rn ⟨(LW [(13,tB (ES a b_))]),[(GH a),(4,.cells (AB.c b_) 47),(Ik d)]⟩ ?_
 refine Bc (⟨Qd,[(GH a),(4,.cells [.i (bif (ES a b_) then (W64 (b_.X+20)) else b_.X),.i b_.Y] 47),(Ik d)]⟩) ?_ ?_
 ·refine AY _ rfl (fun h1 => ?_) (fun h1 => ?_)
  ·refine rn ⟨Qd,[(GH a),(4,.cells [.i (W64 (b_.X+20)),.i b_.Y] 47),(Ik d)]⟩ ?_
   refine A4 ?_
   first | rfl | (simp only [h1,cond_true,cond_false] <;> rfl)
  ·refine Ae<|AH ?_
   refine Cv.trans (ck (⟨Qd,[(GH a),(4,.cells (AB.c b_) 47),(Ik d)]⟩)) (A4 ?_)
   first | rfl | (simp only [h1,cond_true,cond_false] <;> rfl)
 refine AC<|rn ⟨(LW [(7,tP 7 0)]),[(GH a),(4,.cells [.i (bif (ES a b_) then (W64 (b_.X+20)) else b_.X),.i b_.Y] 47),(7,.cells [.i (bif (ES a b_) then (W64 (b_.X+20)) else b_.X),.i a.Y] 47),(Ik d)]⟩ ?_
 refine AC<|AC ?_
 refine rb 24 (Z14 d) (G2 d) ⟨(LW [(7,tP 7 0),(8,tI (AA d 4).1)]),[(GH a),(4,.cells [.i (bif (ES a b_) then (W64 (b_.X+20)) else b_.X),.i b_.Y] 47),(7,.cells [.i (bif (ES a b_) then (W64 (b_.X+20)) else b_.X),.i a.Y] 47),(Nk d)]⟩ (Ag (fun _ _=>kr) kr kr (BJ d 4 au17 au7))<|AH ?_
 refine Af<|AC ?_
 refine rc [] [gt (decide ((0:Int)<(AA d 4).1)),gt (decide ((0:Int)<(AA d 4).1)),gt (bif decide ((0:Int)<(AA d 4).1) then decide (((AA d 4).1:Int)<3) else false),gt (bif decide ((0:Int)<(AA d 4).1) then decide (((AA d 4).1:Int)<3) else false),gt (bif decide ((0:Int)<(AA d 4).1) then decide (((AA d 4).1:Int)<3) else false),gt (bif bif decide ((0:Int)<(AA d 4).1) then decide (((AA d 4).1:Int)<3) else false then !(decide ((bif (ES a b_) then (W64 (b_.X+20)) else b_.X)=a.X)&&(decide (a.Y=a.Y)&&true)) else false),gt (bif bif decide ((0:Int)<(AA d 4).1) then decide (((AA d 4).1:Int)<3) else false then !(decide ((bif (ES a b_) then (W64 (b_.X+20)) else b_.X)=a.X)&&(decide (a.Y=a.Y)&&true)) else false),gt (bif bif decide ((0:Int)<(AA d 4).1) then decide (((AA d 4).1:Int)<3) else false then !(decide ((bif (ES a b_) then (W64 (b_.X+20)) else b_.X)=a.X)&&(decide (a.Y=a.Y)&&true)) else false)] ⟨(LW [(7,tP 7 0),(8,tI (AA d 4).1),(25,tB (bif bif bif decide ((0:Int)<(AA d 4).1) then decide (((AA d 4).1:Int)<3) else false then !(decide ((bif (decide (a.X=b_.X)&&(decide (a.Y=b_.Y)&&true)) then (W64 (b_.X+20)) else b_.X)=a.X)&&(decide (a.Y=a.Y)&&true)) else false then !(decide ((bif (decide (a.X=b_.X)&&(decide (a.Y=b_.Y)&&true)) then (W64 (b_.X+20)) else b_.X)=(bif (decide (a.X=b_.X)&&(decide (a.Y=b_.Y)&&true)) then (W64 (b_.X+20)) else b_.X))&&(decide (a.Y=b_.Y)&&true)) else false))]),[(GH a),(4,.cells [.i (bif (ES a b_) then (W64 (b_.X+20)) else b_.X),.i b_.Y] 47),(7,.cells [.i (bif (ES a b_) then (W64 (b_.X+20)) else b_.X),.i a.Y] 47),(Nk d)]⟩ .nil (ci (ci (ci (ci (ci (ci (ci (ci .nil))))))))<|AH ?_
 refine AY (bif bif bif decide ((0:Int)<(AA d 4).1) then decide (((AA d 4).1:Int)<3) else false then !(decide ((bif (ES a b_) then (W64 (b_.X+20)) else b_.X)=a.X)&&(decide (a.Y=a.Y)&&true)) else false then !(decide ((bif (ES a b_) then (W64 (b_.X+20)) else b_.X)=(bif (ES a b_) then (W64 (b_.X+20)) else b_.X))&&(decide (a.Y=b_.Y)&&true)) else false) kr (fun h1 => ?_) (fun h1 => ?_)
 ·refine AC<|dw [] [(44,CY a (AB.mk (bif (ES a b_) then (W64 (b_.X+20)) else b_.X) a.Y)),(47,CY (AB.mk (bif (ES a b_) then (W64 (b_.X+20)) else b_.X) a.Y) (AB.mk (bif (ES a b_) then (W64 (b_.X+20)) else b_.X) b_.Y))] [Ap (CY a (AB.mk (bif (ES a b_) then (W64 (b_.X+20)) else b_.X) a.Y)).2.1,Ap (CY (AB.mk (bif (ES a b_) then (W64 (b_.X+20)) else b_.X) a.Y) (AB.mk (bif (ES a b_) then (W64 (b_.X+20)) else b_.X) b_.Y)).2.1] ⟨[(6,.av (.one (.list true 7 2 (A8 7 2 [.i (Z15 a b_).Kind,.i (Z15 a b_).A.X,.i (Z15 a b_).A.Y,.i (Z15 a b_).B.X,.i (Z15 a b_).B.Y,.i (Z15 a b_).C.X,.i (Z15 a b_).C.Y,.i (Z16 a b_).Kind,.i (Z16 a b_).A.X,.i (Z16 a b_).A.Y,.i (Z16 a b_).B.X,.i (Z16 a b_).B.Y,.i (Z16 a b_).C.X,.i (Z16 a b_).C.Y]))))],[(Nk d)]⟩ (.cons (FX a (AB.mk (bif (ES a b_) then (W64 (b_.X+20)) else b_.X) a.Y)) (.cons (FX (AB.mk (bif (ES a b_) then (W64 (b_.X+20)) else b_.X) a.Y) (AB.mk (bif (ES a b_) then (W64 (b_.X+20)) else b_.X) b_.Y)) .nil)) (.cons rfl (.cons rfl .nil))<|AH ?_
  refine AZ<|B2<|A9 ?_
  exact ⟨_,Cv.refl _,.inl rfl,.av (.one (.list true 7 2 (A8 7 2 [.i (Z15 a b_).Kind,.i (Z15 a b_).A.X,.i (Z15 a b_).A.Y,.i (Z15 a b_).B.X,.i (Z15 a b_).B.Y,.i (Z15 a b_).C.X,.i (Z15 a b_).C.Y,.i (Z16 a b_).Kind,.i (Z16 a b_).A.X,.i (Z16 a b_).A.Y,.i (Z16 a b_).B.X,.i (Z16 a b_).B.Y,.i (Z16 a b_).C.X,.i (Z16 a b_).C.Y]))),by kernel_rfl,⟨Ds (y:=tO (lst 7 AE.c [Z15 a b_,Z16 a b_])) (.av (.one (Bj true (A3 (c:=AE.c) (xs:=([Z15 a b_,Z16 a b_]:List AE)) rfl kr)))) (by unfold CO;rw [h1];rfl),.cells (AD.c (AA d 4).2) 146,by kernel_rfl,Dg (by unfold CO;rw [h1];kernel_rfl)⟩⟩
 ·refine AC<|rn ⟨(LW [(49,tB (decide (((AA d 4).1:Int)=3)))]),[(GH a),(4,.cells [.i (bif (ES a b_) then (W64 (b_.X+20)) else b_.X),.i b_.Y] 47),(Nk d)]⟩ ?_
  refine AY _ rfl (fun h2 => ?_) (fun h2 => ?_)
  ·have g2:=oT h2
   refine AC<|rb 53 (Z17 d) (.cells (AD.c (AA d 4).2) 146) ⟨[(3,tP 3 0),(4,tP 4 0),(9,tI (W64 (5+(AA (AA d 4).2 20).1)))],[(GH a),(4,.cells [.i (bif (ES a b_) then (W64 (b_.X+20)) else b_.X),.i b_.Y] 47),(1000,Z18 d)]⟩ (Ag (fun _ _=>kr) kr kr (BJ (AA d 4).2 20 au17 au7))<|AH<|AC ?_
   refine rs 63 (Bu (AB.mk (bif (ES a b_) then (W64 (b_.X+20)) else b_.X) (W64 (b_.Y+(W64 (5+(AA (AA d 4).2 20).1))))) (W64 (5+(AA (AA d 4).2 20).1)) 3 2) ⟨[(3,tP 3 0),(4,tP 4 0),(10,tP 10 0)],[(GH a),(4,.cells [.i (bif (ES a b_) then (W64 (b_.X+20)) else b_.X),.i b_.Y] 47),(10,.cells (AE.c (Z19 a b_ d)) 136),(1000,Z18 d)]⟩ (Dt (AB.mk (bif (ES a b_) then (W64 (b_.X+20)) else b_.X) (W64 (b_.Y+(W64 (5+(AA (AA d 4).2 20).1))))) (W64 (5+(AA (AA d 4).2 20).1)) 3 2)<|AH<|AC ?_
   refine dw [] [(66,CY a (AB.mk (bif (ES a b_) then (W64 (b_.X+20)) else b_.X) b_.Y))] [Ap (CY a (AB.mk (bif (ES a b_) then (W64 (b_.X+20)) else b_.X) b_.Y)).2.1] ⟨[(6,.av (.one (.list true 7 2 (A8 7 2 [.i (Z1a a b_).Kind,.i (Z1a a b_).A.X,.i (Z1a a b_).A.Y,.i (Z1a a b_).B.X,.i (Z1a a b_).B.Y,.i (Z1a a b_).C.X,.i (Z1a a b_).C.Y,.i (Z19 a b_ d).Kind,.i (Z19 a b_ d).A.X,.i (Z19 a b_ d).A.Y,.i (Z19 a b_ d).B.X,.i (Z19 a b_ d).B.Y,.i (Z19 a b_ d).C.X,.i (Z19 a b_ d).C.Y]))))],[(1000,Z18 d)]⟩ (.cons (FX a (AB.mk (bif (ES a b_) then (W64 (b_.X+20)) else b_.X) b_.Y)) .nil) (.cons rfl .nil)<|AH ?_
   refine AZ<|B2<|A9 ?_
   exact ⟨_,Cv.refl _,.inl rfl,.av (.one (.list true 7 2 (A8 7 2 [.i (Z1a a b_).Kind,.i (Z1a a b_).A.X,.i (Z1a a b_).A.Y,.i (Z1a a b_).B.X,.i (Z1a a b_).B.Y,.i (Z1a a b_).C.X,.i (Z1a a b_).C.Y,.i (Z19 a b_ d).Kind,.i (Z19 a b_ d).A.X,.i (Z19 a b_ d).A.Y,.i (Z19 a b_ d).B.X,.i (Z19 a b_ d).B.Y,.i (Z19 a b_ d).C.X,.i (Z19 a b_ d).C.Y]))),by kernel_rfl,⟨Ds (y:=tO (lst 7 AE.c [Z1a a b_,Z19 a b_ d])) (.av (.one (Bj true (A3 (c:=AE.c) (xs:=([Z1a a b_,Z19 a b_ d]:List AE)) rfl kr)))) (by unfold CO;rw [h1,h2];rfl),.cells (AD.c (AA (AA d 4).2 20).2) 146,by kernel_rfl,Dg (by unfold CO;rw [h1,h2];kernel_rfl)⟩⟩
  ·have g2:=oF h2
   refine Ae<|BZ ?_
   refine AH<|AC ?_
   refine rs 71 (CY a (AB.mk (bif (ES a b_) then (W64 (b_.X+20)) else b_.X) b_.Y)) ⟨[(6,.av (.one (.list true 7 1 (A8 7 1 (AE.c (Z1a a b_))))))],[(Nk d)]⟩ (FX a (AB.mk (bif (ES a b_) then (W64 (b_.X+20)) else b_.X) b_.Y))<|AH<|AZ ?_
   exact ⟨_,Cv.refl _,.inl rfl,.av (.one (.list true 7 1 (A8 7 1 (AE.c (Z1a a b_))))),by kernel_rfl,⟨Ds (y:=tO (lst 7 AE.c [Z1a a b_])) (.av (.one (Bj true (A3 (c:=AE.c) (xs:=([Z1a a b_]:List AE)) rfl kr)))) (by unfold CO;rw [h1,h2];rfl),.cells (AD.c (AA d 4).2) 146,by kernel_rfl,Dg (by unfold CO;rw [h1,h2];kernel_rfl)⟩⟩
def Z1b (b:AF) (d:AD):FuncId×List Av×Ef:=(48,([.one (.ptr 1000 0),.one (.i (b.Nets.length:Int))]:List Av).map (Bh 1000 1001),wrI 1001 (G2 d) (tI (AA d (b.Nets.length:Int)).1) (.cells (AD.c (AA d (b.Nets.length:Int)).2) 146))
def CR (b:AF) (d:AD):(ByteArray×AD):=((b.Nets.getD (AA d (b.Nets.length:Int)).1.toNat default).Name,(AA d (b.Nets.length:Int)).2)
abbrev D4:List (Nat×Tv):=[(0,tP 1000 0),(1,tP 1001 0)]
abbrev Xo (b:AF) (vs:Nat->Value):List Cl:=(A6 b [.val (vs 6),.val (vs 7),.val (vs 8),.val (vs 9),.val (vs 10),.val (vs 11),.val (vs 12),.val (vs 13),.val (vs 14)])
theorem Q2  (b:AF) (d:AD) (vs:Nat->Value) (hd:Ba d) (hn:1<=(b.Nets.length:Int)/\(b.Nets.length:Int)<=1000000):Wr2 Tryz.prog 90 1000 1001 [.one (.ptr 1000 0),.one (.ptr 1001 0)] (.cells [.i b.Layers,.i b.Outline.Kind,lst 7 AE.c b.Outline.Edges,.i b.Outline.R,lst 7 AG.c b.Parts,lst 2 BO.c b.Nets,.val (vs 6),.val (vs 7),.val (vs 8),.val (vs 9),.val (vs 10),.val (vs 11),.val (vs 12),.val (vs 13),.val (vs 14)] 40) (.cells (AD.c d) 146) (tO (.s (CR b d).1)) (.cells [.i b.Layers,.i b.Outline.Kind,lst 7 AE.c b.Outline.Edges,.i b.Outline.R,lst 7 AG.c b.Parts,lst 2 BO.c b.Nets,.val (vs 6),.val (vs 7),.val (vs 8),.val (vs 9),.val (vs 10),.val (vs 11),.val (vs 12),.val (vs 13),.val (vs 14)] 40) (.cells (AD.c (CR b d).2) 146):=by
 refine Nv Tryz.func90 rfl kr kr kr rfl kr kr kr fun W0 M0 X hX => ?_
 have hnb:=Cx d (b.Nets.length:Int) (by omega) (by omega)
 refine AC<|rn ⟨D4,[(1000,.cells (Xo b vs) 40),(1001,.cells (AD.c d) 146)]⟩<|AC ?_
 refine dw [] [(15,(Z1b b d))] [Ap (Z1b b d).2.1,Bo (G2 d),0<=((AA d (b.Nets.length:Int)).1:Int)/\((AA d (b.Nets.length:Int)).1:Int)<((b.Nets.length:Nat):Int)] ⟨[(4,tO (.s (b.Nets.getD (AA d (b.Nets.length:Int)).1.toNat default).Name))],[(1000,.cells (Xo b vs) 40),(1001,.cells (AD.c (AA d (b.Nets.length:Int)).2) 146)]⟩ (.cons (Ag (fun _ _=>kr) kr kr (BJ d (b.Nets.length:Int) au17 au7)) .nil) (.cons rfl (.cons rfl (.cons (by omega) .nil)))<|AH<|AZ ?_
 exact ⟨_,Cv.refl _,.inl rfl,tO (.s (b.Nets.getD (AA d (b.Nets.length:Int)).1.toNat default).Name),by kernel_rfl,⟨Ad (by rfl),⟨.cells (Xo b vs) 40,by kernel_rfl,Dg rfl⟩,.cells (AD.c (AA d (b.Nets.length:Int)).2) 146,by kernel_rfl,Dg kr⟩⟩
theorem LI {p q:Prop} [Decidable p] [Decidable q] (h:(bif decide p then decide q else false)=true):q:=by
 by_cases hp:p
 ·rw [decide_eq_true hp] at h;exact oT h
 ·rw [decide_eq_false hp] at h;cases h
def NE (b:AF) (types:List AL):Prop:=∀ k:Int,0<=k->k<(b.Parts.length:Int)->1<=((BX types (b.Parts.getD k.toNat default).Type').1.Pads.length:Int)
theorem R9 {b:AF} {d:AD} (h:(bif decide ((AA d 12).1<8) then decide ((0:Int)<(b.Parts.length:Int)) else false)=true):0<=Int.tmod (AA d 12).1 (b.Parts.length:Int)/\Int.tmod (AA d 12).1 (b.Parts.length:Int)<(b.Parts.length:Int):=K8 (Cx d 12 (by decide) (by decide)).1 (LI h)
theorem Ko {b:AF} {types:List AL} {d:AD} (hg:NE b types) (h:(bif decide ((AA d 12).1<8) then decide ((0:Int)<(b.Parts.length:Int)) else false)=true):1<=((BX types (b.Parts.getD (Int.tmod (AA d 12).1 (b.Parts.length:Int)).toNat default).Type').1.Pads.length:Int):=hg _ (R9 h).1 (R9 h).2
abbrev fG (b:AF):List Cl:=[.i b.Layers,.i b.Outline.Kind,lst 7 AE.c b.Outline.Edges,.i b.Outline.R,lst 7 AG.c b.Parts,.any,.any,.any,.any,.any,.any,.any,.any,.any,.any]
def Z1c (b:AF):Blk:=.cells (fG b) 40
abbrev Tm:List Av:=[.one (.ptr 1000 0),.one (.i 12)]
def Z1d (d:AD):FuncId×List Av×Ef:=(48,(Tm:List Av).map (Bh 1000 1000),wrI 1000 (G2 d) (tI (AA d 12).1) (.cells (AD.c (AA d 12).2) 146))
abbrev Nn:List Av:=[.one (.ptr 1000 0),.one (.i 6)]
def Z1e (d:AD):FuncId×List Av×Ef:=(48,(Nn:List Av).map (Bh 1000 1000),wrI 1000 (.cells (AD.c (AA d 12).2) 146) (tI (AA (AA d 12).2 6).1) (.cells (AD.c (AA (AA d 12).2 6).2) 146))
def Z1f (d:AD):Blk:=.cells (AD.c (AA (AA d 12).2 6).2) 146
def Z1g (b:AF) (d:AD):AG:=b.Parts.getD (Int.tmod (AA d 12).1 (b.Parts.length:Int)).toNat default
def Z1h (types:(List AL)) (b:AF) (d:AD):AB:=((BX types (Z1g b d).Type').1.Pads.getD (Int.tmod (AA (AA d 12).2 6).1 ((BX types (Z1g b d).Type').1.Pads.length:Int)).toNat default).At
def Z1i (b:AF) (d:AD) (types:(List AL)):AB:=Ew (GC (Z1g b d)) (Z1h types b d)
def Be (b:AF) (types:(List AL)) (d:AD):(AB×AD):=bif bif decide (((AA d 12).1:Int)<8) then decide ((0:Int)<(b.Parts.length:Int)) else false then (Z1i b d types,(AA (AA d 12).2 6).2) else (AB.mk (W64 (30+(Int.tmod (W64 (40*(AA d 12).1)) 360))) (W64 (30+(W64 (60*(AA (AA d 12).2 6).1)))),(AA (AA d 12).2 6).2)
abbrev X6 (d:AD):List Cl:=[.i (W64 (30+(Int.tmod (W64 (40*(AA d 12).1)) 360))),.i (W64 (30+(W64 (60*(AA (AA d 12).2 6).1))))]
abbrev QX (d:AD):Bool:=(decide (((AA d 12).1:Int)<8))
theorem Kr  (b:AF) (types:(List AL)) (d:AD) (hd:Ba d) (hb:(b.Parts.length:Int)<=1000000) (ht:(types.length:Int)<=1000000) (hg:NE b types):Wr Tryz.prog 92 1000 [.agg [.i b.Layers,.i b.Outline.Kind,lst 7 AE.c b.Outline.Edges,.i b.Outline.R,lst 7 AG.c b.Parts,.any,.any,.any,.any,.any,.any,.any,.any,.any,.any],.one (lst 3 AL.c types),.one (.ptr 1000 0)] (.cells (AD.c d) 146) (.av (.agg (AB.c (Be b types d).1))) (.cells (AD.c (Be b types d).2) 146):=by
 refine HI Tryz.func92 rfl kr kr kr kr fun W0 M0 X hX => ?_
 refine AC<|rn ⟨[(Ez types),(2,tP 1000 0),(3,tP 3 0),(6,tP 6 0)],[(3,Z1c b),Gj,(Ik d)]⟩<|AC ?_
 refine rb 13 (Z1d d) (G2 d) ⟨[(Ez types),(2,tP 1000 0),(3,tP 3 0),(6,tP 6 0),(7,tI (AA d 12).1)],[(3,Z1c b),Gj,(1000,.cells (AD.c (AA d 12).2) 146)]⟩ (Ag (fun _ _=>kr) kr kr (BJ d 12 au17 au7))<|AH<|AC ?_
 refine rb 15 (Z1e d) (.cells (AD.c (AA d 12).2) 146) ⟨[(Ez types),(3,tP 3 0),(6,tP 6 0),(7,tI (AA d 12).1),(8,tI (AA (AA d 12).2 6).1)],[(3,Z1c b),Gj,(1000,Z1f d)]⟩ (Ag (fun _ _=>kr) kr kr (BJ (AA d 12).2 6 au17 au7))<|AH ?_
 refine AC<|AC ?_
 refine rc [] [gt (QX d),gt (QX d),gt (QX d),gt (QX d)] ⟨[(Ez types),(3,tP 3 0),(6,tP 6 0),(7,tI (AA d 12).1),(8,tI (AA (AA d 12).2 6).1),(23,tB (bif decide (((AA d 12).1:Int)<8) then decide ((0:Int)<(b.Parts.length:Int)) else false))],[(3,Z1c b),Gj,(1000,Z1f d)]⟩ .nil (ci (ci (ci (ci .nil))))<|AH ?_
 refine AY _ rfl (fun h1 => ?_) (fun h1 => ?_)
 ·have g1:=Rq h1
  refine AC<|dw [] [] [((b.Parts.length:Int):Int)≠0,0<=(Int.tmod (AA d 12).1 (b.Parts.length:Int):Int)/\(Int.tmod (AA d 12).1 (b.Parts.length:Int):Int)<((b.Parts.length:Nat):Int)] ⟨[(Ez types),(6,tP 6 0),(8,tI (AA (AA d 12).2 6).1),(9,tP 9 0)],[Gj,(9,.cells (AG.c (Z1g b d)) 49),(1000,Z1f d)]⟩ .nil (.cons (by first | decide | (have hq:=LI h1;omega) | (have hq:=Ko hg h1;show ¬ ((BX types (b.Parts.getD (Int.tmod (AA d 12).1 (b.Parts.length:Int)).toNat default).Type').1.Pads.length:Int)=0;omega)) (.cons (by first | exact R9 h1 | exact K8 (Cx _ 6 (by decide) (by decide)).1 (by have hq:=Ko hg h1;show (0:Int)<((BX types (b.Parts.getD (Int.tmod (AA d 12).1 (b.Parts.length:Int)).toNat default).Type').1.Pads.length:Int);omega) | decide | omega) .nil))<|AH<|AC ?_
  refine rs 37 (Ka types (Z1g b d).Type') ⟨[(6,tP 6 0),(8,tI (AA (AA d 12).2 6).1),(9,tP 9 0),(10,tP 10 0)],[Gj,(9,.cells (AG.c (Z1g b d)) 49),(10,.cells (AL.c (BX types (Z1g b d).Type').1) 61),(1000,Z1f d)]⟩ (Vi types (Z1g b d).Type' au6)<|AH<|AC ?_
  refine dw [] [(41,F9 (Z1g b d)),(52,Dp (GC (Z1g b d)) (Z1h types b d))] [Ap (F9 (Z1g b d)).2.1,(((BX types (Z1g b d).Type').1.Pads.length:Int):Int)≠0,0<=(Int.tmod (AA (AA d 12).2 6).1 ((BX types (Z1g b d).Type').1.Pads.length:Int):Int)/\(Int.tmod (AA (AA d 12).2 6).1 ((BX types (Z1g b d).Type').1.Pads.length:Int):Int)<(((BX types (Z1g b d).Type').1.Pads.length:Nat):Int),Ap (Dp (GC (Z1g b d)) (Z1h types b d)).2.1] ⟨[(6,tP 6 0)],[(6,.cells (AB.c (Z1i b d types)) 47),(1000,Z1f d)]⟩ (.cons (UZ (Z1g b d)) (.cons (Hr (GC (Z1g b d)) (Z1h types b d)) .nil)) (.cons rfl (.cons (by first | decide | (have hq:=LI h1;omega) | (have hq:=Ko hg h1;show ¬ ((BX types (b.Parts.getD (Int.tmod (AA d 12).1 (b.Parts.length:Int)).toNat default).Type').1.Pads.length:Int)=0;omega)) (.cons (by first | exact R9 h1 | exact K8 (Cx _ 6 (by decide) (by decide)).1 (by have hq:=Ko hg h1;show (0:Int)<((BX types (b.Parts.getD (Int.tmod (AA d 12).1 (b.Parts.length:Int)).toNat default).Type').1.Pads.length:Int);omega) | decide | omega) (.cons rfl .nil))))<|AH ?_
  refine AZ<|A9 ?_
  exact ⟨_,Cv.refl _,.inl rfl,.av (.agg (AB.c (Z1i b d types))),by kernel_rfl,⟨Ad (by first | (simp only [Be,h1,cond_true,cond_false] <;> rfl)),.cells (AD.c (AA (AA d 12).2 6).2) 146,by kernel_rfl,Dg (by first | (simp only [Be,h1,cond_true,cond_false];done) | (simp only [Be,h1,cond_true,cond_false];kernel_rfl))⟩⟩
 ·refine Ae<|AH<|AC ?_
  refine rc [] [(360:Int)≠0] ⟨[(6,tP 6 0)],[(6,.cells (X6 d) 47),(1000,Z1f d)]⟩ .nil (.cons (by first | decide | (have hq:=LI h1;omega) | (have hq:=Ko hg h1;show ¬ ((BX types (b.Parts.getD (Int.tmod (AA d 12).1 (b.Parts.length:Int)).toNat default).Type').1.Pads.length:Int)=0;omega)) .nil)<|AH<|AZ ?_
  exact ⟨_,Cv.refl _,.inl rfl,.av (.agg (X6 d)),by kernel_rfl,⟨Ad (by first | (simp only [Be,h1,cond_true,cond_false] <;> rfl)),.cells (AD.c (AA (AA d 12).2 6).2) 146,by kernel_rfl,Dg (by first | (simp only [Be,h1,cond_true,cond_false];done) | (simp only [Be,h1,cond_true,cond_false];kernel_rfl))⟩⟩
theorem De {α:Type} {c:Bool} {a b:α×AD} (ha:Ba a.2) (hb:Ba b.2):Ba (bif c then a else b).2:=by cases c <;> assumption
theorem EU {b:AF} {d:AD} (h:Ba d):Ba (CR b d).2:=BI h
theorem C5 {a c:AB} {d:AD} (h:Ba d):Ba (CO a c d).2:=by
 unfold CO
 exact De (BI h) (De (BI (BI h)) (BI h))
theorem DY {b:AF} {types:List AL} {d:AD} (h:Ba d):Ba (Be b types d).2:=by
 unfold Be
 exact De (BI (BI h)) (BI (BI h))
theorem DH {l:List (List Int)} (hl:∀ x∈l,(x.length:Int)<=9223372036854775807) (k:Int):((AU l k).length:Int)<=9223372036854775807:=by
 unfold AU
 by_cases h:k<(l.length:Int)
 ·rw [decide_eq_true h]
  simp only [cond_true]
  by_cases hk:k.toNat<l.length
  ·rw [List.getD_eq_getElem?_getD,List.getElem?_eq_getElem hk]
   exact hl _ (List.getElem_mem _)
  ·rw [List.getD_eq_getElem?_getD,List.getElem?_eq_none (by omega)]
   decide
 ·rw [decide_eq_false h]
  exact Int.le_of_lt (by decide:((([]:List Int).length:Nat):Int)<9223372036854775807)
theorem RR {v:Int} {d:AD} {n:Int} (h:v<(AA d n).1) (h0:0<n) (h1:n<=1000000):v<n:=by
 have:=Cx d n h0 (by omega)
 omega
end
end Go.Proofs.YtdbampcfmjbgmaaGreat
