/-
  Proved: the statement of ItemsOn; the parts before it hold what its proof needs.
-/
import Derived.Test.YtheobjkgllmnmaaGreatItemsOnQf
namespace Go.Proofs.YtheobjkgllmnmaaGreat
set_option maxRecDepth 100000
set_option linter.unusedVariables false
set_option linter.unusedSimpArgs false
open Go.RowKit
theorem iN {α:Type} (out:List α) (z x:α) (a:Nat) (h:a<=out.length):(GX (out++[z]) (a+1) a (Nat.min ((out++[z]).length-a) ((out++[z]).length-(a+1)))).set a x=out.take a++x::out.drop a:=by
 have hl:(out++[z]).length=out.length+1:=by simp
 have hm:Nat.min ((out++[z]).length-a) ((out++[z]).length-(a+1))=out.length-a:=by
  rw [hl,show out.length+1-(a+1)=out.length-a by omega]
  exact Nat.min_eq_right (by omega)
 rw [hm]
 unfold GX
 have e1:(out++[z]).take (a+1)=out.take a++[(out++[z])[a]'(by omega)]:=by
  rw [List.take_succ_eq_append_getElem (by omega),List.take_append_of_le_length h]
 have e2:((out++[z]).drop a).take (out.length-a)=out.drop a:=by
  rw [List.drop_append_of_le_length h,List.take_append_of_le_length (by rw [List.length_drop];exact Nat.le_refl _),List.take_of_length_le (by rw [List.length_drop];exact Nat.le_refl _)]
 have e3:(out++[z]).drop (a+1+(out.length-a))=[]:=List.drop_eq_nil_of_le (by omega)
 rw [e1,e2,e3,List.append_nil]
 have ht:(out.take a).length=a:=by rw [List.length_take];omega
 rw [List.append_assoc,List.set_append_right _ _ (by omega),ht,Nat.sub_self]
 rfl
theorem TT {α:Type} [Inhabited α] (lt:α->α->Bool) (xs:List α) (z:α) (g0:Nat->List α->Int->List α) (g1:List α->Int->(List α->Int->List α)->Nat->Int->List α)
  (h1:∀ out k K n a,g1 out k K (n+1) a=bif bif decide ((0:Int)<a) then lt (xs.getD k.toNat default) (out.getD (a-1).toNat default) else false then g1 out k K n (a-1) else K ((GX (out++[z]) (W64 (a+1)).toNat a.toNat (Nat.min ((((out++[z]).length:Nat):Int).toNat-a.toNat) ((((out++[z]).length:Nat):Int).toNat-(W64 (a+1)).toNat))).set a.toNat (xs.getD k.toNat default)) (k+1))
  (h0:∀ n out k,g0 (n+1) out k=bif decide (k<(xs.length:Int)) then g1 out k (g0 n) (((out.length:Nat):Int).toNat+1) ((out.length:Nat):Int) else out)
  (hp:(xs.length:Int)<=1000000):g0 (((xs.length:Int)-0).toNat+1) [] 0=B9 lt xs:=by
 have hi:∀ (out:List α) (k:Nat) (K:List α->Int->List α),(out.length:Int)<=1000000->∀ (j m:Nat),j<=out.length->j<m->g1 out k K m j=K (out.take (E0 (lt (xs.getD k default)) out j)++xs.getD k default::out.drop (E0 (lt (xs.getD k default)) out j)) ((k:Int)+1):=by
  intro out k K ho j
  have fin:∀ (n j:Nat),j<=out.length->K ((GX (out++[z]) (W64 ((j:Int)+1)).toNat (Int.toNat (j:Int)) (Nat.min ((((out++[z]).length:Nat):Int).toNat-Int.toNat (j:Int)) ((((out++[z]).length:Nat):Int).toNat-(W64 ((j:Int)+1)).toNat))).set (Int.toNat (j:Int)) (xs.getD (Int.toNat (k:Int)) default)) ((k:Int)+1)=K (out.take j++xs.getD k default::out.drop j) ((k:Int)+1):=fun n j hj=>by
   rw [Ah (by omega) (by omega),show ((j:Int)+1).toNat=j+1 by omega,Int.toNat_natCast,Int.toNat_natCast,Int.toNat_natCast,iN out z _ j hj]
  induction j with
  | zero =>
   intro m hj hm
   obtain ⟨m,rfl⟩:∃ k,m=k+1:=⟨m-1,by omega⟩
   rw [h1,decide_eq_false (by decide),cond_false,cond_false]
   exact fin 0 0 (Nat.zero_le _)
  | succ j ih =>
   intro m hj hm
   obtain ⟨m,rfl⟩:∃ k,m=k+1:=⟨m-1,by omega⟩
   rw [h1,E0,decide_eq_true (show (0:Int)<((j+1:Nat):Int) by omega),cond_true,show (((j+1:Nat):Int)-1)=(j:Int) by omega]
   rw [Int.toNat_natCast,Int.toNat_natCast]
   cases lt (xs.getD k default) (out.getD j default) with
   | true=>exact ih m (by omega) (by omega)
   | false=>exact fin 0 (j+1) hj
 have key:∀ n k:Nat,xs.length-k<n->k<=xs.length->g0 n (B9 lt (xs.take k)) (k:Int)=B9 lt xs:=by
  intro n
  induction n with
  | zero=>intro k h _;exact absurd h (Nat.not_lt_zero _)
  | succ n ih =>
   intro k h hk
   rw [h0]
   by_cases hc:k<xs.length
   ·rw [decide_eq_true (show (k:Int)<(xs.length:Int) by omega),cond_true]
    have hl:(B9 lt (xs.take k)).length=k:=by rw [Cc,List.length_take];omega
    rw [Int.toNat_natCast,hi _ k _ (by omega) _ _ (Nat.le_refl _) (by omega)]
    have e:xs.take (k+1)=xs.take k++[xs.getD k default]:=by
     rw [List.take_succ_eq_append_getElem hc,List.getD_eq_getElem?_getD,List.getElem?_eq_getElem hc];rfl
    have:=ih (k+1) (by omega) hc
    rw [e,JS,show ((k+1:Nat):Int)=(k:Int)+1 by omega] at this
    exact this
   rw [decide_eq_false (show ¬ (k:Int)<(xs.length:Int) by omega),cond_false,List.take_of_length_le (by omega)]
 exact key _ 0 (by omega) (Nat.zero_le _)
theorem NT (b:AG) (h:(b.Tracks.length:Int)<=1000000):Az b=B9 (fun x y=>decide (x.Id<y.Id)) b.Tracks:=TT (fun x y:AM=>decide (x.Id<y.Id)) b.Tracks (AM.mk 0 (⟨#[]⟩) 0 (AQ.mk 0 [] 0)) (ER b) (FA b) (fun _ _ _ _ _=>rfl) (fun _ _ _=>rfl) h
theorem Y5 (b:AG) (h:(b.Vias.length:Int)<=1000000):BG b=B9 (fun x y=>decide (x.Id<y.Id)) b.Vias:=TT (fun x y:Ag=>decide (x.Id<y.Id)) b.Vias (Ag.mk 0 (⟨#[]⟩) (AC.mk 0 0) 0 0 0 0) (Fe b) (Gf b) (fun _ _ _ _ _=>rfl) (fun _ _ _=>rfl) h
theorem Lp (b:AG) (h:(b.Tracks.length:Int)<=1000000):(Az b).length=b.Tracks.length:=by rw [NT b h];exact Cc _ _
theorem Pq (b:AG) (h:(b.Vias.length:Int)<=1000000):(BG b).length=b.Vias.length:=by rw [Y5 b h];exact Cc _ _
theorem IL {b:AG} (h:(b.Tracks.length:Int)<=1000000) (ht:∀ t∈b.Tracks,(t.Shape.Edges.length:Int)<=1000000) (k:Nat):(((Az b).getD k default).Shape.Edges.length:Int)<=1000000:=Ft (p:=fun t:AM=>(t.Shape.Edges.length:Int)<=1000000) (by decide) (fun x hx=>ht x (by rw [NT b h,Ks] at hx;exact hx)) k
section
open Go.RowKit
variable (b:AG) (l:List AN) (k layer:Int) (a:AN) (out:List Int) (types:List AR) (v7 v9:Int)
def Z6X:Tv:=.av (.one (.own 12 9 (C0 b types).length))
def Z6Y:Blk:=.row 9 (C0 b types).length (AL AN.c (C0 b types)) 61
def Z6Z:Tv:=.av (.one (.own 14 6 (Az b).length))
def Z70:Blk:=.row 6 (Az b).length (AL AM.c (Az b)) 131
def Z71:Tv:=.av (.one (.own 52 8 (BG b).length))
def Z72:Blk:=.row 8 (BG b).length (AL Ag.c (BG b)) 133
def Z73:AQ:=LG ((BG b).getD v9.toNat default).At ((BG b).getD v9.toNat default).R
def Z74:AQ:=((Az b).getD v7.toNat default).Shape
abbrev Wz:=[AN.mk ((Az b).getD v7.toNat default).Id (⟨#[]⟩) 2 ((Az b).getD v7.toNat default).Net ((Az b).getD v7.toNat default).Layer ((Az b).getD v7.toNat default).Layer (Fw (Z74 b v7))]
def Z75 (v5:List AN) (b:AG) (v7:Int):Tv:=.av (.one (.own 50 9 (v5++(Wz b v7)).length))
def Z76 (v5:List AN) (b:AG) (v7:Int):Blk:=.row 9 (v5++(Wz b v7)).length (AL AN.c (v5++(Wz b v7))) 61
abbrev Wy:=[AN.mk ((BG b).getD v9.toNat default).Id (⟨#[]⟩) 3 ((BG b).getD v9.toNat default).Net ((BG b).getD v9.toNat default).From ((BG b).getD v9.toNat default).To (Z73 b v9)]
def Z77 (v5':List AN) (b:AG) (v9:Int):Tv:=.av (.one (.own 93 9 (v5'++(Wy b v9)).length))
def Z78 (v5':List AN) (b:AG) (v9:Int):Blk:=.row 9 (v5'++(Wy b v9)).length (AL AN.c (v5'++(Wy b v9))) 61
def Z79 (v5':List AN) (b:AG) (v9:Int):Tv:=.av (.one (.own 12 9 (v5'++(Wy b v9)).length))
def Z7a (v5:List AN) (b:AG) (v7:Int):Tv:=.av (.one (.own 12 9 (v5++(Wz b v7)).length))
def GE (b:AG) (types:(List AR)) (v5:List AN) (v7:Int) (K0:List AN->Int->(List AN)):Nat->List AN->Int->(List AN)
 | 0,_,_=>default
 | n1+1,v5',v9=>bif decide ((v9:Int)<(((BG b).length:Nat):Int)) then ((GE b types v5 v7 K0 n1) (v5'++[AN.mk ((BG b).getD v9.toNat default).Id (⟨#[]⟩) 3 ((BG b).getD v9.toNat default).Net ((BG b).getD v9.toNat default).From ((BG b).getD v9.toNat default).To (Z73 b v9)]) (v9+1)) else v5'
def FO (b:AG) (types:(List AR)):Nat->List AN->Int->(List AN)
 | 0,_,_=>default
 | n0+1,v5,v7=>bif decide ((v7:Int)<(((Az b).length:Nat):Int)) then ((FO b types n0) (v5++[AN.mk ((Az b).getD v7.toNat default).Id (⟨#[]⟩) 2 ((Az b).getD v7.toNat default).Net ((Az b).getD v7.toNat default).Layer ((Az b).getD v7.toNat default).Layer (Fw (Z74 b v7))]) (v7+1)) else (GE b types v5 v7 (FO b types n0) (((((BG b).length:Nat):Int)-0).toNat+1) v5 0)
def KI (b:AG) (types:(List AR)):(List AN):=FO b types (((((Az b).length:Nat):Int)-0).toNat+1) (C0 b types) 0
theorem qAllR (b:AG) (types:(List AR)) (hp:b.Parts.length<20) (ht:B4 types) (hn:(b.Nets.length:Int)<=1000000) (hq:∀ n∈b.Nets,(n.Pins.length:Int)<=1000000) (h3:(b.Tracks.length:Int)<=1000000) (h4:(b.Vias.length:Int)<=1000000) (hte:∀ t∈b.Tracks,(t.Shape.Edges.length:Int)<=1000000):Fr Tryz.prog 15 [.agg (CB b),.one (lst 3 AR.c types)] (.row 9 (KI b types).length (AL AN.c (KI b types)) 61) (fun d=>tO (.own d 9 (KI b types).length)):=by
 refine Cu Tryz.func15 rfl kr (DQ _ _) fun W0 M0 => ?_
 have hpl:=Hp hp ht
 have hp1:=M8 b types
 have hp2:(C0 b types).length=(DV b types).length:=by rw [Py]
 have ht1:=Lp b h3
 have hv1:=Pq b h4
 refine AB<|rn ⟨[(Cn types),(2,tP 2 0)],[(CD b)]⟩<|AB ?_
 refine rs 12 (Xz b types) ⟨[(2,tP 2 0),(5,Z6X b types)],[(CD b),(12,Z6Y b types)]⟩ (bP b types (by first | (exact IL h3 hte _) | with_reducible assumption | omega | decide | (simp only [List.length_cons,List.length_nil,List.length_append];omega) | assumption) (by first | (exact IL h3 hte _) | with_reducible assumption | omega | decide | (simp only [List.length_cons,List.length_nil,List.length_append];omega) | assumption) (by first | (exact IL h3 hte _) | with_reducible assumption | omega | decide | (simp only [List.length_cons,List.length_nil,List.length_append];omega) | assumption) (by first | (exact IL h3 hte _) | with_reducible assumption | omega | decide | (simp only [List.length_cons,List.length_nil,List.length_append];omega) | assumption))<|AF<|AB ?_
 refine rs 14 (Ub b) ⟨[(2,tP 2 0),(5,Z6X b types),(6,Z6Z b)],[(CD b),(12,Z6Y b types),(14,Z70 b)]⟩ (Yb b (by first | (exact IL h3 hte _) | with_reducible assumption | omega | decide | (simp only [List.length_cons,List.length_nil,List.length_append];omega) | assumption))<|AF ?_
 refine AB<|AB ?_
 refine rn ⟨[(2,tP 2 0),(5,Z6X b types),(6,Z6Z b),(7,tI 0)],[(CD b),(12,Z6Y b types),(14,Z70 b)]⟩<|AO ?_
 refine A0 (ι:=Nat×List AN×Int) (fun x=>⟨[(2,tP 2 0),(5,tO (.own 12 9 x.2.1.length)),(6,Z6Z b),(7,tI x.2.2)],[(CD b),(12,.row 9 x.2.1.length (AL AN.c x.2.1) 61),(14,Z70 b)]⟩) (fun x=>((((Az b).length:Nat):Int)-x.2.2).toNat<x.1/\(0<=x.2.2/\(x.2.2<=(((Az b).length:Nat):Int)\/x.2.2=0)/\(x.2.1.length:Int)<=((C0 b types).length:Int)+1*(x.2.2-0))/\FO b types x.1 x.2.1 x.2.2=KI b types) (fun x=>x.1) ?_ (((((Az b).length:Nat):Int)-0).toNat+1,C0 b types,0) ⟨Nat.lt_succ_self _,⟨ax0,ax0,ax0⟩,(by simp only [KI,cond_true,cond_false])⟩
 rintro ⟨n0,v5,v7⟩ ⟨hm0,hinv0,hF0⟩
 try dsimp only at hm0 hinv0 hF0
 cases n0 with | zero=>exact nz hm0 | succ n0 => ?_
 refine AB<|AB ?_
 refine rn ⟨[(2,tP 2 0),(5,tO (.own 12 9 v5.length)),(6,Z6Z b),(7,tI v7),(18,tB (decide ((v7:Int)<(((Az b).length:Nat):Int))))],[(CD b),(12,.row 9 v5.length (AL AN.c v5) 61),(14,Z70 b)]⟩ ?_
 refine AW _ rfl (fun h1 => ?_) (fun h1 => ?_)
 ·have g1:=oT h1
  refine AV<|AF ?_
  refine AB<|AO ?_
  refine dw [] [(47,N1 (Z74 b v7))] [0<=(v7:Int)/\(v7:Int)<(((Az b).length:Nat):Int),v7.toNat<(Az b).length,0<=(v7:Int)/\(v7:Int)<(((Az b).length:Nat):Int),v7.toNat<(Az b).length,0<=(v7:Int)/\(v7:Int)<(((Az b).length:Nat):Int),v7.toNat<(Az b).length,0<=(v7:Int)/\(v7:Int)<(((Az b).length:Nat):Int),v7.toNat<(Az b).length,0<=(v7:Int)/\(v7:Int)<(((Az b).length:Nat):Int),v7.toNat<(Az b).length,Aq (N1 (Z74 b v7)).2.1,v5.length=v5.length,v5.length+1<=maxLen,(v5.length+1)*104<=140737488355328] ⟨[(2,tP 2 0),(5,tO (.own 50 9 (v5.length+1))),(6,Z6Z b),(7,tI v7)],[(CD b),(14,Z70 b),(50,.row 9 (v5.length+1) (fun i_ j_=>if i_<v5.length then (AL AN.c v5) i_ j_ else (Ap 9 1 [.i ((Az b).getD v7.toNat default).Id,.s (⟨#[]⟩),.i 2,.s ((Az b).getD v7.toNat default).Net,.i ((Az b).getD v7.toNat default).Layer,.i ((Az b).getD v7.toNat default).Layer,.i (Fw (Z74 b v7)).Kind,lst 7 AH.c (Fw (Z74 b v7)).Edges,.i (Fw (Z74 b v7)).R]) (i_-v5.length) j_) 61)]⟩ (.cons (bN (Z74 b v7) (by first | (exact IL h3 hte _) | with_reducible assumption | omega | decide | (simp only [List.length_cons,List.length_nil,List.length_append];omega) | assumption)) .nil) (.cons au0 (.cons au0 (.cons au0 (.cons au0 (.cons au0 (.cons au0 (.cons au0 (.cons au0 (.cons au0 (.cons au0 (.cons rfl (.cons rfl (.cons au3 (.cons au3 .nil))))))))))))))<|BA<|AF ?_
  refine BI (Cv.trans (A7 (⟨[(2,tP 2 0),(5,Z75 v5 b v7),(6,Z6Z b),(7,tI v7)],[(CD b),(14,Z70 b),(50,Z76 v5 b v7)]⟩) (.cons ⟨rfl,.refl _⟩ (.cons ⟨rfl,.av (.one (.own _ _ au2))⟩ lr)) (.cons ⟨rfl,.refl _⟩ (.cons ⟨rfl,.refl _⟩ (.cons ⟨rfl,Ad 61 (A8 (Ay 9 AN.c v5) (Al (c:=AN.c) (xs:=([AN.mk ((Az b).getD v7.toNat default).Id (⟨#[]⟩) 2 ((Az b).getD v7.toNat default).Net ((Az b).getD v7.toNat default).Layer ((Az b).getD v7.toNat default).Layer (Fw (Z74 b v7))]:List AN)) rfl kr))⟩ .nil)))) (Cv.refl _)) ?_
  refine rg ⟨[(2,tP 2 0),(5,Z75 v5 b v7),(6,Z6Z b),(7,tI (W64 (v7+1)))],[(CD b),(14,Z70 b),(50,Z76 v5 b v7)]⟩ ?_
  (try rw [(show W64 (v7+1)=v7+1 from Ah oM au5)])
  refine AF ?_
  refine ⟨(n0,v5++[AN.mk ((Az b).getD v7.toNat default).Id (⟨#[]⟩) 2 ((Az b).getD v7.toNat default).Net ((Az b).getD v7.toNat default).Layer ((Az b).getD v7.toNat default).Layer (Fw (Z74 b v7))],v7+1),⟨?_,?_,(by rw [<- hF0];simp only [FO,h1,cond_true,cond_false])⟩,Nat.lt_succ_self _,Cv.trans (vr 50 12 hk0) (Cv.trans (vk [2,5,6,7] [2,12,14]) (Aw kr))⟩
  ·show ((((Az b).length:Nat):Int)-(v7+1)).toNat<n0;omega
  exact ⟨ax0,ax0,ax0⟩
 have g1:=oF h1
 refine A3<|Ar ?_
 refine Ar<|A4 ?_
 refine AF<|AB ?_
 refine rs 52 (dX b) ⟨[(5,tO (.own 12 9 v5.length)),(8,Z71 b)],[(12,.row 9 v5.length (AL AN.c v5) 61),(52,Z72 b)]⟩ (iP b (by first | (exact IL h3 hte _) | with_reducible assumption | omega | decide | (simp only [List.length_cons,List.length_nil,List.length_append];omega) | assumption))<|AF ?_
 refine AB<|AB ?_
 refine rn ⟨[(5,tO (.own 12 9 v5.length)),(8,Z71 b),(9,tI 0)],[(12,.row 9 v5.length (AL AN.c v5) 61),(52,Z72 b)]⟩<|AO ?_
 refine A0 (ι:=Nat×List AN×Int) (fun x=>⟨[(5,tO (.own 12 9 x.2.1.length)),(8,Z71 b),(9,tI x.2.2)],[(12,.row 9 x.2.1.length (AL AN.c x.2.1) 61),(52,Z72 b)]⟩) (fun x=>((((BG b).length:Nat):Int)-x.2.2).toNat<x.1/\(0<=x.2.2/\(x.2.2<=(((BG b).length:Nat):Int)\/x.2.2=0)/\(x.2.1.length:Int)<=(v5.length:Int)+1*(x.2.2-0))/\GE b types v5 v7 (FO b types n0) x.1 x.2.1 x.2.2=KI b types) (fun x=>x.1) ?_ (((((BG b).length:Nat):Int)-0).toNat+1,v5,0) ⟨Nat.lt_succ_self _,⟨ax0,ax0,ax0⟩,(by rw [<- hF0];simp only [FO,h1,cond_true,cond_false])⟩
 rintro ⟨n1,v5',v9⟩ ⟨hm1,hinv1,hF1⟩
 try dsimp only at hm1 hinv1 hF1
 cases n1 with | zero=>exact nz hm1 | succ n1 => ?_
 refine AB<|AB ?_
 refine rn ⟨[(5,tO (.own 12 9 v5'.length)),(8,Z71 b),(9,tI v9),(56,tB (decide ((v9:Int)<(((BG b).length:Nat):Int))))],[(12,.row 9 v5'.length (AL AN.c v5') 61),(52,Z72 b)]⟩ ?_
 refine AW _ rfl (fun h2 => ?_) (fun h2 => ?_)
 ·have g2:=oT h2
  refine AV<|AF ?_
  refine AB<|AO ?_
  refine dw [] [(90,Mu ((BG b).getD v9.toNat default).At ((BG b).getD v9.toNat default).R)] [0<=(v9:Int)/\(v9:Int)<(((BG b).length:Nat):Int),v9.toNat<(BG b).length,0<=(v9:Int)/\(v9:Int)<(((BG b).length:Nat):Int),v9.toNat<(BG b).length,0<=(v9:Int)/\(v9:Int)<(((BG b).length:Nat):Int),v9.toNat<(BG b).length,0<=(v9:Int)/\(v9:Int)<(((BG b).length:Nat):Int),v9.toNat<(BG b).length,0<=(v9:Int)/\(v9:Int)<(((BG b).length:Nat):Int),v9.toNat<(BG b).length,0<=(v9:Int)/\(v9:Int)<(((BG b).length:Nat):Int),v9.toNat<(BG b).length,Aq (Mu ((BG b).getD v9.toNat default).At ((BG b).getD v9.toNat default).R).2.1,v5'.length=v5'.length,v5'.length+1<=maxLen,(v5'.length+1)*104<=140737488355328] ⟨[(5,tO (.own 93 9 (v5'.length+1))),(8,Z71 b),(9,tI v9)],[(52,Z72 b),(93,.row 9 (v5'.length+1) (fun i_ j_=>if i_<v5'.length then (AL AN.c v5') i_ j_ else (Ap 9 1 [.i ((BG b).getD v9.toNat default).Id,.s (⟨#[]⟩),.i 3,.s ((BG b).getD v9.toNat default).Net,.i ((BG b).getD v9.toNat default).From,.i ((BG b).getD v9.toNat default).To,.i (Z73 b v9).Kind,lst 7 AH.c (Z73 b v9).Edges,.i (Z73 b v9).R]) (i_-v5'.length) j_) 61)]⟩ (.cons (XO ((BG b).getD v9.toNat default).At ((BG b).getD v9.toNat default).R) .nil) (.cons au0 (.cons au0 (.cons au0 (.cons au0 (.cons au0 (.cons au0 (.cons au0 (.cons au0 (.cons au0 (.cons au0 (.cons au0 (.cons au0 (.cons rfl (.cons rfl (.cons au3 (.cons au3 .nil))))))))))))))))<|BA<|AF ?_
  refine BI (Cv.trans (A7 (⟨[(5,Z77 v5' b v9),(8,Z71 b),(9,tI v9)],[(52,Z72 b),(93,Z78 v5' b v9)]⟩) (.cons ⟨rfl,.av (.one (.own _ _ au2))⟩ lr) (.cons ⟨rfl,.refl _⟩ (.cons ⟨rfl,Ad 61 (A8 (Ay 9 AN.c v5') (Al (c:=AN.c) (xs:=([AN.mk ((BG b).getD v9.toNat default).Id (⟨#[]⟩) 3 ((BG b).getD v9.toNat default).Net ((BG b).getD v9.toNat default).From ((BG b).getD v9.toNat default).To (Z73 b v9)]:List AN)) rfl kr))⟩ .nil))) (Cv.refl _)) ?_
  refine rg ⟨[(5,Z77 v5' b v9),(8,Z71 b),(9,tI (W64 (v9+1)))],[(52,Z72 b),(93,Z78 v5' b v9)]⟩ ?_
  (try rw [(show W64 (v9+1)=v9+1 from Ah oM au5)])
  refine AF ?_
  refine ⟨(n1,v5'++[AN.mk ((BG b).getD v9.toNat default).Id (⟨#[]⟩) 3 ((BG b).getD v9.toNat default).Net ((BG b).getD v9.toNat default).From ((BG b).getD v9.toNat default).To (Z73 b v9)],v9+1),⟨?_,?_,(by rw [<- hF1];simp only [GE,h2,cond_true,cond_false])⟩,Nat.lt_succ_self _,Cv.trans (vr 93 12 hk0) (Cv.trans (vk [5,8,9] [12,52]) (Aw kr))⟩
  ·show ((((BG b).length:Nat):Int)-(v9+1)).toNat<n1;omega
  exact ⟨ax0,ax0,ax0⟩
 refine A3<|Ar ?_
 refine Ar<|A4 ?_
 refine AF<|AB ?_
 refine rn ⟨[(4,tO (.own 12 9 v5'.length))],[(12,.row 9 v5'.length (AL AN.c v5') 61)]⟩<|Ab ?_
 exact xl (tO (.own 12 9 v5'.length)) (frE (c:=AN.c) (xs:=v5') (by rw [<- hF1];first | (simp only [GE,h2,cond_true,cond_false] <;> rfl)) kr)
def Wd:CT:=(15,[.agg (CB b),.one (Fz types)],.val [] (.av (.one (lst 9 AN.c (KI b types)))))
theorem iY (b:AG) (types:(List AR)) (hp:b.Parts.length<20) (ht:B4 types) (hn:(b.Nets.length:Int)<=1000000) (hq:∀ n∈b.Nets,(n.Pins.length:Int)<=1000000) (h3:(b.Tracks.length:Int)<=1000000) (h4:(b.Vias.length:Int)<=1000000) (hte:∀ t∈b.Tracks,(t.Shape.Edges.length:Int)<=1000000):OKc (Wd b types):=cPu<|IP (qAllR b types hp ht hn hq h3 h4 hte)
theorem eS {α:Type} (c:Bool) (l:List α) (x:α):(((bif c then l++[x] else l).length:Nat):Int)<=(l.length:Int)+1:=by cases c <;> simp <;> omega
def Z7b:Blk:=.row 1 out.length (AL eIn out) 3
def Z7c (out:List Int) (k:Int):Blk:=.row 1 (out++[k]).length (AL eIn (out++[k])) 3
def Iu (l:(List AN)) (layer:Int):Nat->List Int->Int->(List Int)
 | 0,_,_=>default
 | n0+1,out,k=>bif decide ((k:Int)<(l.length:Int)) then ((Iu l layer n0) (bif bif decide (((l.getD k.toNat default).From:Int)<=layer) then decide ((layer:Int)<=(l.getD k.toNat default).To) else false then (out++[k]) else out) (k+1)) else out
def E2 (l:(List AN)) (layer:Int):(List Int):=Iu l layer (((l.length:Int)-0).toNat+1) ([]:List Int) 0
def HI:CT:=(21,[.one (lst 9 AN.c l),.one (.i layer)],.val [] (.av (.one (lst 1 eIn (E2 l layer)))))
abbrev VP:=(bif bif decide (((l.getD k.toNat default).From:Int)<=layer) then decide ((layer:Int)<=(l.getD k.toNat default).To) else false then (out++[k]) else out)
theorem pOnR (l:(List AN)) (layer:Int) (h0:(l.length:Int)<=1000000):PuP 21 (HI l layer).2.1 (tO (lst 1 eIn (E2 l layer))):=by
 refine pwf Tryz.func21 fun W0 M0 => ?_
 refine AB<|rn ⟨[(El l),(1,tI layer)],[]⟩<|AB ?_
 refine rn ⟨[(El l),(1,tI layer),KR],[]⟩ ?_
 refine AB<|AB ?_
 refine rn ⟨[(El l),(1,tI layer),KR,(6,tI 0)],[]⟩<|AO ?_
 refine BI (Cv.trans (wg (⟨[(El l),(1,tI layer),(5,tO (.own 100000 1 0)),(6,tI 0)],[(100000,.row 1 0 (fun _ _=>default) 3)]⟩) 100000 1 (fun _ _=>default) 3 [(5,[0])] [] hk0) (Cv.trans (A7 (⟨[(El l),(1,tI layer),(5,tO (.own 100000 1 ([]:List Int).length)),(6,tI 0)],[(100000,.row 1 ([]:List Int).length (AL eIn ([]:List Int)) 3)]⟩) (.cons ⟨rfl,.refl _⟩ (.cons ⟨rfl,.refl _⟩ (.cons ⟨rfl,.av (.one (.own _ _ au2))⟩ lr))) (.cons ⟨rfl,Ad 3 (B3 1 (fun _ _=>default) eIn)⟩ .nil)) (Cv.refl _))) ?_
 refine A0 (ι:=Nat×List Int×Int) (fun x=>⟨[(El l),(1,tI layer),(5,tO (.own 100000 1 x.2.1.length)),(6,tI x.2.2)],[(100000,.row 1 x.2.1.length (AL eIn x.2.1) 3)]⟩) (fun x=>((l.length:Int)-x.2.2).toNat<x.1/\((x.2.1.length:Int)<=x.2.2/\0<=x.2.2/\(x.2.2<=(l.length:Int)\/x.2.2=0))/\Iu l layer x.1 x.2.1 x.2.2=E2 l layer) (fun x=>x.1) ?_ (((l.length:Int)-0).toNat+1,([]:List Int),0) ⟨Nat.lt_succ_self _,⟨ax0,ax0,ax0⟩,(by simp only [E2,cond_true,cond_false])⟩
 rintro ⟨n0,out,k⟩ ⟨hm0,hinv0,hF0⟩
 try dsimp only at hm0 hinv0 hF0
 cases n0 with | zero=>exact nz hm0 | succ n0 => ?_
 refine AB<|AB ?_
 refine rn ⟨[(El l),(1,tI layer),(5,tO (.own 100000 1 out.length)),(6,tI k),(10,tB (decide ((k:Int)<(l.length:Int))))],[(100000,Z7b out)]⟩ ?_
 refine AW _ rfl (fun h1 => ?_) (fun h1 => ?_)
 ·have g1:=oT h1
  refine AV<|AF<|AB ?_
  refine Bb (⟨[(El l),(1,tI layer),(5,tO (.own 100001 1 (bif bif decide (((l.getD k.toNat default).From:Int)<=layer) then decide ((layer:Int)<=(l.getD k.toNat default).To) else false then (out++[k]) else out).length)),(6,tI k)],[(100001,.row 1 (bif bif decide (((l.getD k.toNat default).From:Int)<=layer) then decide ((layer:Int)<=(l.getD k.toNat default).To) else false then (out++[k]) else out).length (AL eIn (bif bif decide (((l.getD k.toNat default).From:Int)<=layer) then decide ((layer:Int)<=(l.getD k.toNat default).To) else false then (out++[k]) else out)) 3)]⟩) ?_ ?_
  ·refine AO<|AB ?_
   refine rc [] ((0<=(k:Int)/\(k:Int)<((l.length:Nat):Int))::(t2 (decide (((l.getD k.toNat default).From:Int)<=layer)) ((gk (decide (((l.getD k.toNat default).From:Int)<=layer)) (0<=(k:Int)/\(k:Int)<((l.length:Nat):Int)))::(t5 (decide (((l.getD k.toNat default).From:Int)<=layer)) [])))) ⟨[(El l),(1,tI layer),(5,tO (.own 100000 1 out.length)),(6,tI k),(28,tB (bif decide (((l.getD k.toNat default).From:Int)<=layer) then decide ((layer:Int)<=(l.getD k.toNat default).To) else false))],[(100000,Z7b out)]⟩ .nil (.cons au0 (c2 (.cons (fun hG=>by first | exact au0 | (simp only [decide_eq_true_eq,decide_eq_false_iff_not,Bool.not_eq_true,Bool.and_eq_true] at hG <;> omega) | (simp at hG <;> omega) | (simp only [decide_eq_true_eq,decide_eq_false_iff_not] at hG;simp only [Bk];omega)) (c5 .nil))))<|AF ?_
   refine AW _ rfl (fun h2 => ?_) (fun h2 => ?_)
   ·have g2:=HT h2
    refine rc [] [out.length=out.length,out.length+1<=maxLen,(out.length+1)*8<=140737488355328] ⟨[(El l),(1,tI layer),(5,tO (.own 32 1 (out.length+1))),(6,tI k)],[(32,.row 1 (out.length+1) (fun i_ j_=>if i_<out.length then (AL eIn out) i_ j_ else (Ap 1 1 [.i k]) (i_-out.length) j_) 3)]⟩ .nil (.cons rfl (.cons au3 (.cons au3 .nil)))<|BA<|AF ?_
    refine Cv.trans (A7 (⟨[(El l),(1,tI layer),(5,tO (.own 32 1 (out++[k]).length)),(6,tI k)],[(32,Z7c out k)]⟩) (.cons ⟨rfl,.refl _⟩ (.cons ⟨rfl,.refl _⟩ (.cons ⟨rfl,.av (.one (.own _ _ au2))⟩ lr))) (.cons ⟨rfl,Ad 3 (A8 (Ay 1 eIn out) (Al (c:=eIn) (xs:=([k]:List Int)) rfl kr))⟩ .nil)) (Cv.trans (wr (⟨[(El l),(1,tI layer),(5,tO (.own 100001 1 (out++[k]).length)),(6,tI k)],[(100001,Z7c out k)]⟩) 32 100001 hk0) (Aw ?_))
    first | rfl | (simp only [h2,cond_true,cond_false] <;> rfl)
   refine AV<|BA<|AF ?_
   refine Cv.trans (vk [0,1,5,6] [100000]) (Cv.trans (wr (⟨[(El l),(1,tI layer),(5,tO (.own 100001 1 out.length)),(6,tI k)],[(100001,Z7b out)]⟩) 100000 100001 hk0) (Aw ?_))
   first | rfl | (simp only [h2,cond_true,cond_false] <;> rfl)
  refine rg ⟨[(El l),(1,tI layer),(5,tO (.own 100001 1 (VP l k layer out).length)),(6,tI (W64 (k+1)))],[(100001,.row 1 (VP l k layer out).length (AL eIn (VP l k layer out)) 3)]⟩ ?_
  (try rw [(show W64 (k+1)=k+1 from Ah oM au5)])
  refine AF ?_
  refine ⟨(n0,bif bif decide (((l.getD k.toNat default).From:Int)<=layer) then decide ((layer:Int)<=(l.getD k.toNat default).To) else false then (out++[k]) else out,k+1),⟨?_,?_,(by rw [<- hF0];simp only [Iu,h1,cond_true,cond_false])⟩,Nat.lt_succ_self _,Cv.trans (vr 100001 100000 hk0) (Aw kr)⟩
  ·show ((l.length:Int)-(k+1)).toNat<n0;omega
  exact (by show ((bif bif decide (((l.getD k.toNat default).From:Int)<=layer) then decide ((layer:Int)<=(l.getD k.toNat default).To) else false then (out++[k]) else out).length:Int)<=(k+1)/\0<=(k+1)/\((k+1)<=(l.length:Int)\/(k+1)=0);exact ⟨Int.le_trans (eS _ _ _) oM,by omega,by omega⟩)
 refine A3<|Ar ?_
 refine Ar<|A4 ?_
 refine AF<|AB ?_
 refine rn ⟨[(4,tO (.own 100000 1 out.length))],[(100000,Z7b out)]⟩<|Ab ?_
 exact yl (Cv.trans (vf 100000 1 out.length (AL eIn out) 3 hk0 (.cons ⟨rfl,rfl⟩ .nil)) (Cv.refl _)) (tO (lst 1 eIn out)) (Ae (by rw [<- hF0];first | (simp only [Iu,h1,cond_true,cond_false] <;> rfl)))
theorem KB (l:(List AN)) (layer:Int) (h0:(l.length:Int)<=1000000):OKc (HI l layer):=cPu<|pOnR l layer h0
def Bx (a:AN) (b:AN):(Int×Int×Bool):=bif decide (((min a.To b.To):Int)<(max a.From b.From)) then (0,0,false) else (max a.From b.From,min a.To b.To,true)
def Lg (b:AN):CT:=(23,[.agg (AN.c a),.agg (AN.c b)],.val [] (.tup [.one (.i (Bx a b).1),.one (.i (Bx a b).2.1),.one (.b (Bx a b).2.2)]))
theorem aY (a:AN) (b:AN):PuP 23 (Lg a b).2.1 (.tup [.one (.i (Bx a b).1),.one (.i (Bx a b).2.1),.one (.b (Bx a b).2.2)]):=by
 refine pwf Tryz.func23 fun W0 M0 => ?_
 refine AB<|rn ⟨Gr,(Om a b)⟩<|AB ?_
 refine rn ⟨[(2,tP 2 0),(3,tP 3 0),(7,tI (max a.From b.From))],(Om a b)⟩<|AB ?_
 refine rn ⟨[(7,tI (max a.From b.From)),(8,tI (min a.To b.To))],[]⟩ ?_
 refine AB<|AB ?_
 refine rn ⟨(Zf a b),[]⟩ ?_
 refine AW _ rfl (fun h1 => ?_) (fun h1 => ?_)
 ·refine AB<|rn ⟨[(4,tI 0),(5,tI 0),(6,tB false)],[]⟩ ?_
  refine Ab<|An ?_
  exact xl (.tup [.one (.i 0),.one (.i 0),.one (.b false)]) (Ae (by simp only [Bx,h1,cond_true,cond_false] <;> rfl))
 refine AV<|AF<|AB ?_
 refine rn ⟨[(4,tI (max a.From b.From)),(5,tI (min a.To b.To)),(6,tB true)],[]⟩<|Ab ?_
 exact xl (.tup [.one (.i (max a.From b.From)),.one (.i (min a.To b.To)),.one (.b true)]) (Ae (by simp only [Bx,h1,cond_true,cond_false] <;> rfl))
theorem QX (a:AN) (b:AN):OKc (Lg a b):=cPu<|aY a b
end
theorem Yn {α:Type} [Inhabited α] (lt:α->α->Bool) (l:List α) (h:∀ k,k+1<l.length->lt (l.getD (k+1) default) (l.getD k default)=false):B9 lt l=l:=by
 have key:∀ n,n<=l.length->B9 lt (l.take n)=l.take n:=by
  intro n
  induction n with
  | zero=>intro _;rfl
  | succ n ih =>
   intro hn
   have e:l.take (n+1)=l.take n++[l.getD n default]:=by
    rw [List.take_succ_eq_append_getElem (by omega),List.getD_eq_getElem?_getD,List.getElem?_eq_getElem (by omega)];rfl
   rw [e,JS,ih (by omega)]
   have hl:(l.take n).length=n:=by rw [List.length_take];omega
   have hp:E0 (lt (l.getD n default)) (l.take n) (l.take n).length=n:=by
    rw [hl]
    cases n with
    | zero=>rfl
    | succ m =>
     unfold E0
     rw [show (l.take (m+1)).getD m default=l.getD m default by rw [List.getD_eq_getElem?_getD,List.getElem?_take_of_lt (by omega),<- List.getD_eq_getElem?_getD],h m (by omega)]
     rfl
   unfold QB
   rw [hp,List.take_of_length_le (by omega),List.drop_eq_nil_of_le (by omega)]
 have:=key l.length (Nat.le_refl _)
 rwa [List.take_length] at this
theorem oO {x y:Int} (h:y<=x):decide (CX x y<0)=false:=by
 unfold CX FL
 by_cases h2:y<x
 ·simp [show ¬ x<y by omega,h2]
 simp [show ¬ x<y by omega,h2]
theorem WH {B:AG} {T:List AR} {l:List (List Int)} (h:Lm B T l):CJ B.Parts=B.Parts:=by
 rw [Ur]
 exact Yn _ _ fun k hk=>oO (by rw [(h.par k (by omega)).id,(h.par (k+1) hk).id];omega)
theorem UA (l:List (List Int)):Nc (BW l).1:=by
 have h:=cJ l
 obtain ⟨p,q,r,e,h1,h2,h3⟩:=h.net
 refine ⟨by have:=h.parl;omega,by have:=h.trkl;omega,by have:=h.vial;omega,by have:=h.slotl;omega,?_,?_,?_,?_⟩
 ·rw [e];show ((3:Nat):Int)<=1000000;decide
 ·rw [e]
  intro n hn
  simp only [List.mem_cons,List.not_mem_nil,or_false] at hn
  rcases hn with rfl | rfl | rfl <;> (simp only;omega)
 ·intro t ht
  obtain ⟨k,hk,_,hm⟩:=cS h.trk ht
  obtain ⟨a,c,d,_,_,e2⟩:=hm.edg
  rw [e2]
  have:=Q1 a c d
  omega
 intro s hs
 obtain ⟨r,p,_,_,_,e2⟩:=h.slot s hs
 rw [e2]
 show ((1:Nat):Int)<=1000000
 decide
def trkR (t:AM):AN:=AN.mk t.Id ⟨#[]⟩ 2 t.Net t.Layer t.Layer (Fw t.Shape)
def gA (v:Ag):AN:=AN.mk v.Id ⟨#[]⟩ 3 v.Net v.From v.To (LG v.At v.R)
theorem fW (b:AG) (types:List AR):KI b types=C0 b types++(Az b).map trkR++(BG b).map gA:=by
 have h1:∀ v5 v7 K0,GE b types v5 v7 K0 (((((BG b).length:Nat):Int)-0).toNat+1) v5 0=v5++(BG b).map gA:=fun v5 v7 K0=>by
  have:=Mi (BG b) (fun acc x=>acc++[gA x]) (GE b types v5 v7 K0) (fun acc _=>acc) (fun m acc v=>by
   rw [GE]
   unfold Z73
   rw [Int.toNat_natCast]
   rfl) (BG b).length 0 (((((((BG b).length:Nat):Int)))-0).toNat+1) v5 rfl (Nat.zero_le _) (by omega)
  rw [List.drop_zero,Hy] at this
  exact this
 have:=Mi (Az b) (fun acc x=>acc++[trkR x]) (FO b types) (fun acc _=>acc++(BG b).map gA) (fun m acc v=>by
  rw [FO]
  unfold Z74
  rw [Int.toNat_natCast,h1]
  rfl) (Az b).length 0 (((((((Az b).length:Nat):Int)))-0).toNat+1) (C0 b types) rfl (Nat.zero_le _) (by omega)
 rw [List.drop_zero,Hy] at this
 exact this
theorem YV (l:List (List Int)):(Af (BW l).1 (BW l).2).length<=18:=by
 have hq:=cJ l
 have hp:Af (BW l).1 (BW l).2=(BW l).1.Parts.flatMap (FE (BW l).2):=by unfold Af;rw [WH hq]
 have h3:=hq.parl
 have key:∀ v:List AE,(∀ x∈v,x∈(BW l).1.Parts)->(v.flatMap (FE (BW l).2)).length<=6*v.length:=by
  intro v
  induction v with
  | nil=>intro _;exact Nat.le_refl _
  | cons x v ih =>
   intro hx
   have:=ih fun y hy=>hx y (List.mem_cons_of_mem _ hy)
   obtain ⟨i,hi,e,hm⟩:=cS hq.par (hx x (List.mem_cons_self ..))
   have:=US l hm.typ
   rw [<- hq.types,H7] at this
   rw [List.flatMap_cons,List.length_append,IW,List.length_cons]
   omega
 have:=key _ fun x hx=>hx
 rw [hp]
 omega
theorem fD (l:List (List Int)):((KI (BW l).1 (BW l).2).length:Int)<=1000000:=by
 have hB:=UA l
 have h1:=hB.tracks
 have h2:=hB.vias
 have h3:=YV l
 rw [fW,Py,List.length_append,List.length_append,List.length_map,List.length_map,Lp _ (by omega),Pq _ (by omega),M8]
 omega
theorem fV (l:List AN) (layer:Int):FOn l layer=lyL l layer:=by
 have key:∀ m x v,x+m=(lyL l layer).length->Fh l layer m x v=v++(lyL l layer).drop x:=by
  intro m
  induction m with
  | zero =>
   intro x v h
   rw [Fh,List.drop_eq_nil_of_le (by omega),List.append_nil]
  | succ m ih =>
   intro x v h
   have hx:x<(lyL l layer).length:=by omega
   rw [Fh,ih (x+1) _ (by omega),List.append_assoc,List.drop_eq_getElem_cons hx]
   congr 2
   rw [List.getD_eq_getElem?_getD,List.getElem?_eq_getElem hx]
   rfl
 unfold FOn
 rw [key _ 0 [] (by omega)]
 rfl
theorem QW {l:List AN} (h:(l.length:Int)<=1000000) (n:Int):((FOn l n).length:Int)<=1000000000:=by
 rw [fV]
 have:=Xh l n
 omega
section
open Go.RowKit
variable (c:D2) (raw:List AN) (v63 layer v63' v69:Int)
def Z7d:(List AN):=KI (BW c.Board).1 (BW c.Board).2
def Z7e:Tv:=.av (.one (.list true 1 2 (Ap 1 2 [lst 9 AN.c (Z7d c),.list false 9 ((min (raw.length:Int) 6:Int).toNat-(0:Int).toNat) (fun i_ j_=>(AL AN.c raw) (i_+(0:Int).toNat) j_)])))
def Z7f:Tv:=.av (.one (lst 9 AN.c (Z7d c)))
def Z7g:Tv:=.av (.one (.list true 1 5 (Ap 1 5 [.i layer,.i 0,.i 1,.i 2,.i 3])))
def Z7h:Bool:=Ch (FOn (Z7d c) layer) (E2 (Z7d c) layer)
def Z7i:Bool:=Ch (FOn (Z7d c) 0) (E2 (Z7d c) 0)
def Z7j:Bool:=Ch (FOn (Z7d c) 1) (E2 (Z7d c) 1)
def Z7k:Bool:=Ch (FOn (Z7d c) 2) (E2 (Z7d c) 2)
def Z7l:Bool:=Ch (FOn (Z7d c) 3) (E2 (Z7d c) 3)
def Z7m:Blk:=.cells (AN.c ((Z7d c).getD v63.toNat default)) 61
def Z7n:Bool:=(Bd ((Z7d c).getD v63.toNat default) ((Z7d c).getD v69.toNat default)).2.2
abbrev Ot:=Bd ((Z7d c).getD v63.toNat default) ((Z7d c).getD v69.toNat default)
def Z7o:Tv:=tI (Ot c v63 v69).1
def Z7p:Tv:=tI (Ot c v63 v69).2.1
def Z7q:Bool:=(Bx ((Z7d c).getD v63.toNat default) ((Z7d c).getD v69.toNat default)).2.2
abbrev I0:=(raw.take (min (raw.length:Int) 6:Int).toNat)
def Z7r:Tv:=.av (.one (lst 9 AN.c (I0 raw)))
def Z7s:(List Int):=FOn (raw.take (min (raw.length:Int) 6:Int).toNat) layer
def Z7t:(List Int):=E2 (raw.take (min (raw.length:Int) 6:Int).toNat) layer
def Z7u:Bool:=Ch (Z7s raw layer) (Z7t raw layer)
def Z7v:(List Int):=FOn (raw.take (min (raw.length:Int) 6:Int).toNat) 0
def Z7w:(List Int):=E2 (raw.take (min (raw.length:Int) 6:Int).toNat) 0
def Z7x:Bool:=Ch (Z7v raw) (Z7w raw)
def Z7y:(List Int):=FOn (raw.take (min (raw.length:Int) 6:Int).toNat) 1
def Z7z:(List Int):=E2 (raw.take (min (raw.length:Int) 6:Int).toNat) 1
def Z7A:Bool:=Ch (Z7y raw) (Z7z raw)
def Z7B:(List Int):=FOn (raw.take (min (raw.length:Int) 6:Int).toNat) 2
def Z7C:(List Int):=E2 (raw.take (min (raw.length:Int) 6:Int).toNat) 2
def Z7D:Bool:=Ch (Z7B raw) (Z7C raw)
def Z7E:(List Int):=FOn (raw.take (min (raw.length:Int) 6:Int).toNat) 3
def Z7F:(List Int):=E2 (raw.take (min (raw.length:Int) 6:Int).toNat) 3
def Z7G:Bool:=Ch (Z7E raw) (Z7F raw)
def Z7H:Tv:=tI ((I0 raw).length:Int)
def Z7I:AN:=(raw.take (min (raw.length:Int) 6:Int).toNat).getD v69.toNat default
def Z7J:AN:=(raw.take (min (raw.length:Int) 6:Int).toNat).getD v63'.toNat default
def Z7K:Blk:=.cells (AN.c (Z7J raw v63')) 61
def Z7L:Bool:=(Bd (Z7J raw v63') (Z7I raw v69)).2.2
def Z7M:Bool:=(Bx (Z7J raw v63') (Z7I raw v69)).2.2
def Ds (c:D2) (raw:(List AN)) (layer:Int) (v63:Int) (K0:Int->Bool):Nat->Int->Bool
 | 0,_=>default
 | n3+1,v69=>bif decide ((v69:Int)<((Z7d c).length:Int)) then (bif bif bif !decide (((Bd ((Z7d c).getD v63.toNat default) ((Z7d c).getD v69.toNat default)).1:Int)=(Bx ((Z7d c).getD v63.toNat default) ((Z7d c).getD v69.toNat default)).1) then true else !decide (((Bd ((Z7d c).getD v63.toNat default) ((Z7d c).getD v69.toNat default)).2.1:Int)=(Bx ((Z7d c).getD v63.toNat default) ((Z7d c).getD v69.toNat default)).2.1) then true else !((Z7n c v63 v69)==(Z7q c v63 v69)) then false else ((Ds c raw layer v63 K0 n3) (v69+1))) else (K0 (v63+1))
def Dr (c:D2) (raw:(List AN)) (layer:Int) (v63:Int) (v63':Int) (K0:Int->Bool) (K1:Int->Bool):Nat->Int->Bool
 | 0,_=>default
 | n6+1,v69=>bif decide ((v69:Int)<((raw.take (min (raw.length:Int) 6:Int).toNat).length:Int)) then (bif bif bif !decide (((Bd (Z7J raw v63') (Z7I raw v69)).1:Int)=(Bx (Z7J raw v63') (Z7I raw v69)).1) then true else !decide (((Bd (Z7J raw v63') (Z7I raw v69)).2.1:Int)=(Bx (Z7J raw v63') (Z7I raw v69)).2.1) then true else !((Z7L raw v63' v69)==(Z7M raw v63' v69)) then false else ((Dr c raw layer v63 v63' K0 K1 n6) (v69+1))) else (K1 (v63'+1))
def Cs (c:D2) (raw:(List AN)) (layer:Int) (v63:Int) (K0:Int->Bool):Nat->Int->Bool
 | 0,_=>default
 | n5+1,v63'=>bif decide ((v63':Int)<((raw.take (min (raw.length:Int) 6:Int).toNat).length:Int)) then (Dr c raw layer v63 v63' K0 (Cs c raw layer v63 K0 n5) ((((raw.take (min (raw.length:Int) 6:Int).toNat).length:Int)-0).toNat+1) 0) else CQ
def Ba (c:D2) (raw:(List AN)) (layer:Int):Nat->Int->Bool
 | 0,_=>default
 | n2+1,v63=>bif decide ((v63:Int)<((Z7d c).length:Int)) then (Ds c raw layer v63 (Ba c raw layer n2) ((((Z7d c).length:Int)-0).toNat+1) 0) else (bif !(Z7u raw layer) then false else (bif !(Z7x raw) then false else (bif !(Z7A raw) then false else (bif !(Z7D raw) then false else (bif !(Z7G raw) then false else (Cs c raw layer v63 (Ba c raw layer n2) ((((raw.take (min (raw.length:Int) 6:Int).toNat).length:Int)-0).toNat+1) 0))))))
def DW (c:D2) (raw:(List AN)) (layer:Int):Bool:=bif !(Z7h c layer) then false else (bif !(Z7i c) then false else (bif !(Z7j c) then false else (bif !(Z7k c) then false else (bif !(Z7l c) then false else (Ba c raw layer ((((Z7d c).length:Int)-0).toNat+1) 0)))))
def eL:CT:=(4,[.agg (D2.c c),.one (lst 9 AN.c raw),.one (.i layer)],.val [] (.av (.one (.b (DW c raw layer)))))
abbrev MU:Nat×Tv:=(62,tI ((Z7d c).length:Int))
abbrev Oq:=Bx ((Z7d c).getD v63.toNat default) ((Z7d c).getD v69.toNat default)
abbrev Rz:Nat×Tv:=(68,tI ((Z7d c).length:Int))
abbrev EG (layer:Int) (raw:List AN) (c:D2) (t_:List (Nat×Tv)):List (Nat×Tv):=(2,tI layer)::(7,tB CQ)::(11,Z7r raw)::(39,Z7e c raw)::(40,tI 2)::(41,tI 1)::(46,Z7g layer)::(47,tI 5)::t_
abbrev EF (layer:Int) (c:D2) (raw:List AN) (t_:List (Nat×Tv)):List (Nat×Tv):=(2,tI layer)::(7,tB CQ)::(11,Z7f c)::(39,Z7e c raw)::(40,tI 2)::(41,tI 0)::(46,Z7g layer)::(47,tI 5)::t_
abbrev OJ (layer:Int) (raw:List AN) (c:D2) (v63':Int) (t_:List (Nat×Tv)):List (Nat×Tv):=(2,tI layer)::(7,tB CQ)::(11,Z7r raw)::(15,tP 15 0)::(39,Z7e c raw)::(40,tI 2)::(41,tI 1)::(61,Z7r raw)::(62,Z7H raw)::(63,tI v63')::(67,Z7r raw)::(68,Z7H raw)::t_
abbrev OI (layer:Int) (c:D2) (raw:List AN) (v63:Int) (t_:List (Nat×Tv)):List (Nat×Tv):=(2,tI layer)::(7,tB CQ)::(11,Z7f c)::(15,tP 15 0)::(39,Z7e c raw)::(40,tI 2)::(41,tI 0)::(61,Z7f c)::(MU c)::(63,tI v63)::(67,Z7f c)::(Rz c)::t_
abbrev RV (layer:Int) (raw:List AN) (c:D2) (t_:List (Nat×Tv)):List (Nat×Tv):=(2,tI layer)::(7,tB CQ)::(11,Z7r raw)::(39,Z7e c raw)::(40,tI 2)::(41,tI 1)::(61,Z7r raw)::(62,Z7H raw)::t_
abbrev RU (layer:Int) (c:D2) (raw:List AN) (t_:List (Nat×Tv)):List (Nat×Tv):=(2,tI layer)::(7,tB CQ)::(11,Z7f c)::(39,Z7e c raw)::(40,tI 2)::(41,tI 0)::(61,Z7f c)::(MU c)::t_
abbrev L9 (layer:Int) (c:D2) (raw:List AN) (t_:List (Nat×Tv)):List (Nat×Tv):=(2,tI layer)::(7,tB CQ)::(39,Z7e c raw)::(40,tI 2)::t_
abbrev DX (t_:List (Nat×Tv)):List (Nat×Tv):=(2,tI layer)::(7,tB CQ)::t_
theorem au7 {p:Prop} (h:p:=by first | (with_reducible exact WG _) | (with_reducible exact hBp) | (with_reducible exact hBn) | (with_reducible exact hBq) | (with_reducible exact hBt) | (with_reducible exact hAl) | (with_reducible exact hOn _) | ((simp only [List.length_take];omega)) | with_reducible assumption | omega | decide | (simp only [List.length_cons,List.length_nil,List.length_append];omega) | assumption):p:=h
set_option maxHeartbeats 40000000 in
theorem bA (c:D2) (raw:(List AN)) (layer:Int) (hcb:(c.Board.length:Int)<=9223372036854775807) (hll:∀ x∈c.Board,(x.length:Int)<=9223372036854775807) (hr:(raw.length:Int)<=9223372036854775807):PuP 4 (eL c raw layer).2.1 (tO (.b (DW c raw layer))):=by
 refine pwf Tryz.func4 fun W0 M0 => ?_
 have hB:=UA c.Board
 have hBp:=hB.parts
 have hBn:=hB.nets
 have hBq:=hB.pins
 have hBt:=hB.ted
 have hB1:=hB.tracks
 have hB2:=hB.vias
 have hAl:(((Z7d c).length:Nat):Int)<=1000000:=fD c.Board
 have hOn:∀ n,(((FOn (Z7d c) n).length:Nat):Int)<=1000000000:=fun n=>QW hAl n
 have hRl:(((raw.take (min (raw.length:Int) 6).toNat).length:Nat):Int)<=1000000:=by rw [List.length_take];omega
 have hOr14:(((Z7s raw layer).length:Nat):Int)<=1000000000:=QW hRl _
 have hOr17:(((Z7v raw).length:Nat):Int)<=1000000000:=QW hRl _
 have hOr20:(((Z7y raw).length:Nat):Int)<=1000000000:=QW hRl _
 have hOr23:(((Z7B raw).length:Nat):Int)<=1000000000:=QW hRl _
 have hOr26:(((Z7E raw).length:Nat):Int)<=1000000000:=QW hRl _
 refine AB<|rn ⟨[(1,tO (lst 9 AN.c raw)),(2,tI layer),(3,tP 3 0)],[(3,.cells (D2.c c) 25)]⟩<|AB ?_
 refine rs 24 Mp ⟨[(1,tO (lst 9 AN.c raw)),(2,tI layer),(3,tP 3 0),(7,tB CQ)],[(3,.cells (D2.c c) 25)]⟩ V6<|AF<|AB ?_
 refine rs 28 (Sx c.Board) ⟨[(1,tO (lst 9 AN.c raw)),(2,tI layer),(7,tB CQ),(8,tP 8 0),(9,tO (lst 3 AR.c (BW c.Board).2))],[(8,.cells (AG.c (BW c.Board).1) 41)]⟩ (bR c.Board au7 au7)<|AF ?_
 refine AB<|AB ?_
 refine dw [] [(33,ceI [.agg (AG.c (BW c.Board).1),.one (lst 3 AR.c (BW c.Board).2)] (Wd (BW c.Board).1 (BW c.Board).2))] [Aq (ceI [.agg (AG.c (BW c.Board).1),.one (lst 3 AR.c (BW c.Board).2)] (Wd (BW c.Board).1 (BW c.Board).2)).2.1,0<=(0:Int)/\(0:Int)<=(min (raw.length:Int) 6:Int)/\(min (raw.length:Int) 6:Int)<=((raw.length:Nat):Int)] ⟨(L9 layer c raw [(41,tI 0)]),[]⟩ (.cons (Cy (iY (BW c.Board).1 (BW c.Board).2 au7 au7 au7 au7 au7 au7 au7) (.cons (.agg (rr9 (rr3 (.cons (.any _) (rr (rr .nil)))))) (.cons (AvE.refl _) .nil))) .nil) (.cons rfl (.cons au0 .nil))<|AF<|AO ?_
 refine Ea 3 ?_
 refine Bf<|AB ?_
 refine rn ⟨(L9 layer c raw [(41,tI 0),(42,tB true)]),[]⟩<|AB ?_
 refine Bj kr<|AV ?_
 refine AF<|AB ?_
 refine AO<|AB ?_
 refine rc [] [0<=(0:Int)/\(0:Int)<((2:Nat):Int)] ⟨(DX layer [(11,Z7f c),(39,Z7e c raw),(40,tI 2),(41,tI 0)]),[]⟩ .nil (.cons au0 .nil)<|AF ?_
 refine AB<|AB ?_
 refine rn ⟨(EF layer c raw [(48,tI 0)]),[]⟩<|AO ?_
 refine Ea 6 ?_
 refine Bf<|AB ?_
 refine rn ⟨(EF layer c raw [(48,tI 0),(49,tB true)]),[]⟩<|AB ?_
 refine Bj kr<|AV ?_
 refine AF<|AB ?_
 refine AO<|AB ?_
 refine rc [] [0<=(0:Int)/\(0:Int)<((5:Nat):Int)] ⟨(DX layer [(11,Z7f c),(13,tI layer),(39,Z7e c raw),(40,tI 2),(41,tI 0),(46,Z7g layer),(47,tI 5),(48,tI 0)]),[]⟩ .nil (.cons au0 .nil)<|AF<|AB ?_
 refine rc [(54,cOn (Z7d c) layer),(57,HI (Z7d c) layer),(58,B7 (FOn (Z7d c) layer) (E2 (Z7d c) layer))] [Aq (cOn (Z7d c) layer).2.1,Aq (HI (Z7d c) layer).2.1,Aq (B7 (FOn (Z7d c) layer) (E2 (Z7d c) layer)).2.1] ⟨(EF layer c raw [(48,tI 0),(59,tB (!(Z7h c layer)))]),[]⟩ (.cons (MZ (Z7d c) layer au7) (.cons (KB (Z7d c) layer au7) (.cons (Dg (FOn (Z7d c) layer) (E2 (Z7d c) layer) au7) .nil))) (.cons rfl (.cons rfl (.cons rfl .nil)))<|AF ?_
 refine AW _ rfl (fun h1 => ?_) (fun h1 => ?_)
 ·refine AB<|rn ⟨[(6,tB false)],[]⟩ ?_
  refine Ab<|BL ?_
  refine An<|An ?_
  refine BL<|An ?_
  refine BL<|An ?_
  refine An<|BL<|An ?_
  exact xl (tO (.b false)) (Ae (by simp only [DW,h1,cond_true,cond_false] <;> rfl))
 refine AV<|BA<|AF ?_
 refine rn ⟨(EF layer c raw [(48,tI 1)]),[]⟩ ?_
 refine Bf<|AB ?_
 refine rn ⟨(EF layer c raw [(48,tI 1),(49,tB true)]),[]⟩<|AB ?_
 refine Bj kr<|AV ?_
 refine AF<|AB ?_
 refine AO<|AB ?_
 refine rc [] [0<=(1:Int)/\(1:Int)<((5:Nat):Int)] ⟨(DX layer [(11,Z7f c),(13,tI 0),(39,Z7e c raw),(40,tI 2),(41,tI 0),(46,Z7g layer),(47,tI 5),(48,tI 1)]),[]⟩ .nil (.cons au0 .nil)<|AF<|AB ?_
 refine rc [(54,cOn (Z7d c) 0),(57,HI (Z7d c) 0),(58,B7 (FOn (Z7d c) 0) (E2 (Z7d c) 0))] [Aq (cOn (Z7d c) 0).2.1,Aq (HI (Z7d c) 0).2.1,Aq (B7 (FOn (Z7d c) 0) (E2 (Z7d c) 0)).2.1] ⟨(EF layer c raw [(48,tI 1),(59,tB (!(Z7i c)))]),[]⟩ (.cons (MZ (Z7d c) 0 au7) (.cons (KB (Z7d c) 0 au7) (.cons (Dg (FOn (Z7d c) 0) (E2 (Z7d c) 0) au7) .nil))) (.cons rfl (.cons rfl (.cons rfl .nil)))<|AF ?_
 refine AW _ rfl (fun h2 => ?_) (fun h2 => ?_)
 ·refine AB<|rn ⟨[(6,tB false)],[]⟩ ?_
  refine Ab<|BL ?_
  refine An<|An ?_
  refine BL<|An ?_
  refine BL<|An ?_
  refine An<|BL<|An ?_
  exact xl (tO (.b false)) (Ae (by simp only [DW,h1,h2,cond_true,cond_false] <;> rfl))
 refine AV<|BA<|AF ?_
 refine rn ⟨(EF layer c raw [(48,tI 2)]),[]⟩ ?_
 refine Bf<|AB ?_
 refine rn ⟨(EF layer c raw [(48,tI 2),(49,tB true)]),[]⟩<|AB ?_
 refine Bj kr<|AV ?_
 refine AF<|AB ?_
 refine AO<|AB ?_
 refine rc [] [0<=(2:Int)/\(2:Int)<((5:Nat):Int)] ⟨(DX layer [(11,Z7f c),(13,tI 1),(39,Z7e c raw),(40,tI 2),(41,tI 0),(46,Z7g layer),(47,tI 5),(48,tI 2)]),[]⟩ .nil (.cons au0 .nil)<|AF<|AB ?_
 refine rc [(54,cOn (Z7d c) 1),(57,HI (Z7d c) 1),(58,B7 (FOn (Z7d c) 1) (E2 (Z7d c) 1))] [Aq (cOn (Z7d c) 1).2.1,Aq (HI (Z7d c) 1).2.1,Aq (B7 (FOn (Z7d c) 1) (E2 (Z7d c) 1)).2.1] ⟨(EF layer c raw [(48,tI 2),(59,tB (!(Z7j c)))]),[]⟩ (.cons (MZ (Z7d c) 1 au7) (.cons (KB (Z7d c) 1 au7) (.cons (Dg (FOn (Z7d c) 1) (E2 (Z7d c) 1) au7) .nil))) (.cons rfl (.cons rfl (.cons rfl .nil)))<|AF ?_
 refine AW _ rfl (fun h3 => ?_) (fun h3 => ?_)
 ·refine AB<|rn ⟨[(6,tB false)],[]⟩ ?_
  refine Ab<|BL ?_
  refine An<|An ?_
  refine BL<|An ?_
  refine BL<|An ?_
  refine An<|BL<|An ?_
  exact xl (tO (.b false)) (Ae (by simp only [DW,h1,h2,h3,cond_true,cond_false] <;> rfl))
 refine AV<|BA<|AF ?_
 refine rn ⟨(EF layer c raw [(48,tI 3)]),[]⟩ ?_
 refine Bf<|AB ?_
 refine rn ⟨(EF layer c raw [(48,tI 3),(49,tB true)]),[]⟩<|AB ?_
 refine Bj kr<|AV ?_
 refine AF<|AB ?_
 refine AO<|AB ?_
 refine rc [] [0<=(3:Int)/\(3:Int)<((5:Nat):Int)] ⟨(DX layer [(11,Z7f c),(13,tI 2),(39,Z7e c raw),(40,tI 2),(41,tI 0),(46,Z7g layer),(47,tI 5),(48,tI 3)]),[]⟩ .nil (.cons au0 .nil)<|AF<|AB ?_
 refine rc [(54,cOn (Z7d c) 2),(57,HI (Z7d c) 2),(58,B7 (FOn (Z7d c) 2) (E2 (Z7d c) 2))] [Aq (cOn (Z7d c) 2).2.1,Aq (HI (Z7d c) 2).2.1,Aq (B7 (FOn (Z7d c) 2) (E2 (Z7d c) 2)).2.1] ⟨(EF layer c raw [(48,tI 3),(59,tB (!(Z7k c)))]),[]⟩ (.cons (MZ (Z7d c) 2 au7) (.cons (KB (Z7d c) 2 au7) (.cons (Dg (FOn (Z7d c) 2) (E2 (Z7d c) 2) au7) .nil))) (.cons rfl (.cons rfl (.cons rfl .nil)))<|AF ?_
 refine AW _ rfl (fun h4 => ?_) (fun h4 => ?_)
 ·refine AB<|rn ⟨[(6,tB false)],[]⟩ ?_
  refine Ab<|BL ?_
  refine An<|An ?_
  refine BL<|An ?_
  refine BL<|An ?_
  refine An<|BL<|An ?_
  exact xl (tO (.b false)) (Ae (by simp only [DW,h1,h2,h3,h4,cond_true,cond_false] <;> rfl))
 refine AV<|BA<|AF ?_
 refine rn ⟨(EF layer c raw [(48,tI 4)]),[]⟩ ?_
 refine Bf<|AB ?_
 refine rn ⟨(EF layer c raw [(48,tI 4),(49,tB true)]),[]⟩<|AB ?_
 refine Bj kr<|AV ?_
 refine AF<|AB ?_
 refine AO<|AB ?_
 refine rc [] [0<=(4:Int)/\(4:Int)<((5:Nat):Int)] ⟨(DX layer [(11,Z7f c),(13,tI 3),(39,Z7e c raw),(40,tI 2),(41,tI 0),(46,Z7g layer),(47,tI 5),(48,tI 4)]),[]⟩ .nil (.cons au0 .nil)<|AF<|AB ?_
 refine rc [(54,cOn (Z7d c) 3),(57,HI (Z7d c) 3),(58,B7 (FOn (Z7d c) 3) (E2 (Z7d c) 3))] [Aq (cOn (Z7d c) 3).2.1,Aq (HI (Z7d c) 3).2.1,Aq (B7 (FOn (Z7d c) 3) (E2 (Z7d c) 3)).2.1] ⟨(EF layer c raw [(48,tI 4),(59,tB (!(Z7l c)))]),[]⟩ (.cons (MZ (Z7d c) 3 au7) (.cons (KB (Z7d c) 3 au7) (.cons (Dg (FOn (Z7d c) 3) (E2 (Z7d c) 3) au7) .nil))) (.cons rfl (.cons rfl (.cons rfl .nil)))<|AF ?_
 refine AW _ rfl (fun h5 => ?_) (fun h5 => ?_)
 ·refine AB<|rn ⟨[(6,tB false)],[]⟩ ?_
  refine Ab<|BL ?_
  refine An<|An ?_
  refine BL<|An ?_
  refine BL<|An ?_
  refine An<|BL<|An ?_
  exact xl (tO (.b false)) (Ae (by simp only [DW,h1,h2,h3,h4,h5,cond_true,cond_false] <;> rfl))
 refine AV<|BA<|AF ?_
 refine rn ⟨(EF layer c raw [(48,tI 5)]),[]⟩ ?_
 refine Bf<|AB ?_
 refine rn ⟨(EF layer c raw [(48,tI 5),(49,tB false)]),[]⟩<|AB ?_
 refine D5 kr<|A3 ?_
 refine Ar<|Ar ?_
 refine A4<|AF<|AB ?_
 refine rn ⟨(RU layer c raw [(63,tI 0)]),[]⟩<|AO ?_
 refine A0 (ι:=Nat×Int) (fun x=>⟨(RU layer c raw [(63,tI x.2)]),[]⟩) (fun x=>(((Z7d c).length:Int)-x.2).toNat<x.1/\(0<=x.2/\(x.2<=((Z7d c).length:Int)\/x.2=0))/\Ba c raw layer x.1 x.2=DW c raw layer) (fun x=>x.1) ?_ ((((Z7d c).length:Int)-0).toNat+1,0) ⟨Nat.lt_succ_self _,⟨ax0,ax0⟩,(by simp only [DW,h1,h2,h3,h4,h5,cond_true,cond_false])⟩
 rintro ⟨n2,v63⟩ ⟨hm2,hinv2,hF2⟩
 try dsimp only at hm2 hinv2 hF2
 cases n2 with | zero=>exact nz hm2 | succ n2 => ?_
 refine AB<|rn ⟨(RU layer c raw [(63,tI v63),(64,tB (decide ((v63:Int)<((Z7d c).length:Int))))]),[]⟩<|AB ?_
 refine AW _ rfl (fun h6 => ?_) (fun h6 => ?_)
 ·have g6:=oT h6
  refine AV<|AF ?_
  refine AB<|AO<|AB ?_
  refine rc [] [0<=(v63:Int)/\(v63:Int)<(((Z7d c).length:Nat):Int)] ⟨(DX layer [(11,Z7f c),(15,tP 15 0),(39,Z7e c raw),(40,tI 2),(41,tI 0),(61,Z7f c),(MU c),(63,tI v63)]),[(15,Z7m c v63)]⟩ .nil (.cons au0 .nil)<|AF<|AB ?_
  refine rn ⟨(OI layer c raw v63 [(69,tI 0)]),[(15,Z7m c v63)]⟩<|AO ?_
  refine A0 (ι:=Nat×Int) (fun x=>⟨(OI layer c raw v63 [(69,tI x.2)]),[(15,Z7m c v63)]⟩) (fun x=>(((Z7d c).length:Int)-x.2).toNat<x.1/\(0<=x.2/\(x.2<=((Z7d c).length:Int)\/x.2=0))/\Ds c raw layer v63 (Ba c raw layer n2) x.1 x.2=DW c raw layer) (fun x=>x.1) ?_ ((((Z7d c).length:Int)-0).toNat+1,0) ⟨Nat.lt_succ_self _,⟨ax0,ax0⟩,(by rw [<- hF2];simp only [Ba,h6,cond_true,cond_false])⟩
  rintro ⟨n3,v69⟩ ⟨hm3,hinv3,hF3⟩
  try dsimp only at hm3 hinv3 hF3
  cases n3 with | zero=>exact nz hm3 | succ n3 => ?_
  refine AB<|rn ⟨(OI layer c raw v63 [(69,tI v69),(70,tB (decide ((v69:Int)<((Z7d c).length:Int))))]),[(15,Z7m c v63)]⟩<|AB ?_
  refine AW _ rfl (fun h7 => ?_) (fun h7 => ?_)
  ·have g7:=oT h7
   refine AV<|AF ?_
   refine AB<|AO<|AB ?_
   refine rc [] [0<=(v69:Int)/\(v69:Int)<(((Z7d c).length:Nat):Int)] ⟨(DX layer [(11,Z7f c),(15,tP 15 0),(17,tP 17 0),(39,Z7e c raw),(40,tI 2),(41,tI 0),(61,Z7f c),(MU c),(63,tI v63),(67,Z7f c),(Rz c),(69,tI v69)]),[(15,Z7m c v63),(17,.cells (AN.c ((Z7d c).getD v69.toNat default)) 61)]⟩ .nil (.cons au0 .nil)<|AF<|AB ?_
   refine rs 76 (Ju ((Z7d c).getD v63.toNat default) ((Z7d c).getD v69.toNat default)) ⟨(DX layer [(11,Z7f c),(15,tP 15 0),(17,tP 17 0),(18,Z7o c v63 v69),(19,Z7p c v63 v69),(20,tB (Z7n c v63 v69)),(39,Z7e c raw),(40,tI 2),(41,tI 0),(61,Z7f c),(MU c),(63,tI v63),(67,Z7f c),(Rz c),(69,tI v69)]),[(15,Z7m c v63),(17,.cells (AN.c ((Z7d c).getD v69.toNat default)) 61)]⟩ (PJ ((Z7d c).getD v63.toNat default) ((Z7d c).getD v69.toNat default))<|AF<|AB ?_
   refine rs 83 (Lg ((Z7d c).getD v63.toNat default) ((Z7d c).getD v69.toNat default)) ⟨(DX layer [(11,Z7f c),(15,tP 15 0),(18,Z7o c v63 v69),(19,Z7p c v63 v69),(20,tB (Z7n c v63 v69)),(21,tI (Oq c v63 v69).1),(22,tI (Oq c v63 v69).2.1),(23,tB (Z7q c v63 v69)),(39,Z7e c raw),(40,tI 2),(41,tI 0),(61,Z7f c),(MU c),(63,tI v63),(67,Z7f c),(Rz c),(69,tI v69)]),[(15,Z7m c v63)]⟩ (QX ((Z7d c).getD v63.toNat default) ((Z7d c).getD v69.toNat default))<|AF<|AB ?_
   refine rc [] (i3 (!decide (((Ot c v63 v69).1:Int)=(Oq c v63 v69).1)) (i3 (bif !decide (((Ot c v63 v69).1:Int)=(Oq c v63 v69).1) then true else !decide (((Ot c v63 v69).2.1:Int)=(Oq c v63 v69).2.1)) [])) ⟨(OI layer c raw v63 [(69,tI v69),(99,tB (bif bif !decide (((Bd ((Z7d c).getD v63.toNat default) ((Z7d c).getD v69.toNat default)).1:Int)=(Bx ((Z7d c).getD v63.toNat default) ((Z7d c).getD v69.toNat default)).1) then true else !decide (((Bd ((Z7d c).getD v63.toNat default) ((Z7d c).getD v69.toNat default)).2.1:Int)=(Bx ((Z7d c).getD v63.toNat default) ((Z7d c).getD v69.toNat default)).2.1) then true else !((Z7n c v63 v69)==(Z7q c v63 v69))))]),[(15,Z7m c v63)]⟩ .nil (c3 (c3 .nil))<|AF ?_
   refine AW _ rfl (fun h8 => ?_) (fun h8 => ?_)
   ·refine AB<|rn ⟨[(6,tB false)],[]⟩ ?_
    refine Ab<|BL ?_
    refine An<|An ?_
    refine BL<|BL ?_
    refine An<|An ?_
    refine BL<|BL ?_
    refine An<|An ?_
    refine BL<|An ?_
    exact xl (tO (.b false)) (Ae (by rw [<- hF3];first | (simp only [Ds,h7,h8,cond_true,cond_false] <;> rfl)))
   refine AV<|BA<|AF ?_
   refine rg ⟨(OI layer c raw v63 [(69,tI (W64 (v69+1)))]),[(15,Z7m c v63)]⟩ ?_
   (try rw [(show W64 (v69+1)=v69+1 from Ah oM au5)])
   refine AF ?_
   refine ⟨(n3,v69+1),⟨?_,?_,(by rw [<- hF3];simp only [Ds,h7,h8,cond_true,cond_false])⟩,Nat.lt_succ_self _,Aw kr⟩
   ·show (((Z7d c).length:Int)-(v69+1)).toNat<n3;omega
   exact ⟨ax0,ax0⟩
  have g7:=oF h7
  refine A3<|Ar ?_
  refine Ar<|A4 ?_
  refine BA<|AF ?_
  refine rg ⟨(RU layer c raw [(63,tI (W64 (v63+1)))]),[]⟩ ?_
  (try rw [(show W64 (v63+1)=v63+1 from Ah oM au5)])
  refine AF ?_
  refine ⟨(n2,v63+1),⟨?_,?_,(by rw [<- hF3];simp only [Ds,h7,cond_true,cond_false])⟩,Nat.lt_succ_self _,Aw kr⟩
  ·show (((Z7d c).length:Int)-(v63+1)).toNat<n2;omega
  exact ⟨ax0,ax0⟩
 have g6:=oF h6
 refine A3<|Ar ?_
 refine Ar<|A4 ?_
 refine BA<|AF ?_
 refine rn ⟨(L9 layer c raw [(41,tI 1)]),[]⟩ ?_
 refine Bf<|AB ?_
 refine rn ⟨(L9 layer c raw [(41,tI 1),(42,tB true)]),[]⟩<|AB ?_
 refine Bj kr<|AV ?_
 refine AF<|AB ?_
 refine AO<|AB ?_
 refine rc [] [0<=(1:Int)/\(1:Int)<((2:Nat):Int)] ⟨(DX layer [(11,.av (.one (.list false 9 ((min (raw.length:Int) 6:Int).toNat-(0:Int).toNat) (fun i_ j_=>(AL AN.c raw) (i_+(0:Int).toNat) j_)))),(39,Z7e c raw),(40,tI 2),(41,tI 1)]),[]⟩ .nil (.cons au0 .nil)<|AF ?_
 refine BI (Cv.trans (A7 (⟨(DX layer [(11,Z7r raw),(39,Z7e c raw),(40,tI 2),(41,tI 1)]),[]⟩) (.cons ⟨rfl,.refl _⟩ (.cons ⟨rfl,.refl _⟩ (.cons ⟨rfl,.av (.one (BZ false (QO (b:=min (raw.length:Int) 6) (Ay 9 AN.c raw) (by have hc:=(show 0<=(0:Int)/\(0:Int)<=(min (raw.length:Int) 6:Int)/\(min (raw.length:Int) 6:Int)<=((raw.length:Nat):Int) from au0);exact hc.2.1) (by have hc:=(show 0<=(0:Int)/\(0:Int)<=(min (raw.length:Int) 6:Int)/\(min (raw.length:Int) 6:Int)<=((raw.length:Nat):Int) from au0);exact hc.2.2))))⟩ lr))) .nil) (Cv.refl _))<|AB<|AB ?_
 refine rn ⟨(EG layer raw c [(48,tI 0)]),[]⟩<|AO ?_
 refine Ea 6 ?_
 refine Bf<|AB ?_
 refine rn ⟨(EG layer raw c [(48,tI 0),(49,tB true)]),[]⟩<|AB ?_
 refine Bj kr<|AV ?_
 refine AF<|AB ?_
 refine AO<|AB ?_
 refine rc [] [0<=(0:Int)/\(0:Int)<((5:Nat):Int)] ⟨(DX layer [(11,Z7r raw),(13,tI layer),(39,Z7e c raw),(40,tI 2),(41,tI 1),(46,Z7g layer),(47,tI 5),(48,tI 0)]),[]⟩ .nil (.cons au0 .nil)<|AF<|AB ?_
 refine rc [(54,cOn (I0 raw) layer),(57,HI (I0 raw) layer),(58,B7 (Z7s raw layer) (Z7t raw layer))] [Aq (cOn (raw.take (min (raw.length:Int) 6:Int).toNat) layer).2.1,Aq (HI (raw.take (min (raw.length:Int) 6:Int).toNat) layer).2.1,Aq (B7 (Z7s raw layer) (Z7t raw layer)).2.1] ⟨(EG layer raw c [(48,tI 0),(59,tB (!(Z7u raw layer)))]),[]⟩ (.cons (MZ (raw.take (min (raw.length:Int) 6:Int).toNat) layer au7) (.cons (KB (raw.take (min (raw.length:Int) 6:Int).toNat) layer au7) (.cons (Dg (Z7s raw layer) (Z7t raw layer) au7) .nil))) (.cons rfl (.cons rfl (.cons rfl .nil)))<|AF ?_
 refine AW _ rfl (fun h7 => ?_) (fun h7 => ?_)
 ·refine AB<|rn ⟨[(6,tB false)],[]⟩ ?_
  refine Ab<|BL ?_
  refine An<|An ?_
  refine BL<|An ?_
  refine BL<|An ?_
  refine An<|BL<|An ?_
  exact xl (tO (.b false)) (Ae (by rw [<- hF2];first | (simp only [Ba,h6,h7,cond_true,cond_false] <;> rfl)))
 refine AV<|BA<|AF ?_
 refine rn ⟨(EG layer raw c [(48,tI 1)]),[]⟩ ?_
 refine Bf<|AB ?_
 refine rn ⟨(EG layer raw c [(48,tI 1),(49,tB true)]),[]⟩<|AB ?_
 refine Bj kr<|AV ?_
 refine AF<|AB ?_
 refine AO<|AB ?_
 refine rc [] [0<=(1:Int)/\(1:Int)<((5:Nat):Int)] ⟨(DX layer [(11,Z7r raw),(13,tI 0),(39,Z7e c raw),(40,tI 2),(41,tI 1),(46,Z7g layer),(47,tI 5),(48,tI 1)]),[]⟩ .nil (.cons au0 .nil)<|AF<|AB ?_
 refine rc [(54,cOn (I0 raw) 0),(57,HI (I0 raw) 0),(58,B7 (Z7v raw) (Z7w raw))] [Aq (cOn (raw.take (min (raw.length:Int) 6:Int).toNat) 0).2.1,Aq (HI (raw.take (min (raw.length:Int) 6:Int).toNat) 0).2.1,Aq (B7 (Z7v raw) (Z7w raw)).2.1] ⟨(EG layer raw c [(48,tI 1),(59,tB (!(Z7x raw)))]),[]⟩ (.cons (MZ (raw.take (min (raw.length:Int) 6:Int).toNat) 0 au7) (.cons (KB (raw.take (min (raw.length:Int) 6:Int).toNat) 0 au7) (.cons (Dg (Z7v raw) (Z7w raw) au7) .nil))) (.cons rfl (.cons rfl (.cons rfl .nil)))<|AF ?_
 refine AW _ rfl (fun h8 => ?_) (fun h8 => ?_)
 ·refine AB<|rn ⟨[(6,tB false)],[]⟩ ?_
  refine Ab<|BL ?_
  refine An<|An ?_
  refine BL<|An ?_
  refine BL<|An ?_
  refine An<|BL<|An ?_
  exact xl (tO (.b false)) (Ae (by rw [<- hF2];first | (simp only [Ba,h6,h7,h8,cond_true,cond_false] <;> rfl)))
 refine AV<|BA<|AF ?_
 refine rn ⟨(EG layer raw c [(48,tI 2)]),[]⟩ ?_
 refine Bf<|AB ?_
 refine rn ⟨(EG layer raw c [(48,tI 2),(49,tB true)]),[]⟩<|AB ?_
 refine Bj kr<|AV ?_
 refine AF<|AB ?_
 refine AO<|AB ?_
 refine rc [] [0<=(2:Int)/\(2:Int)<((5:Nat):Int)] ⟨(DX layer [(11,Z7r raw),(13,tI 1),(39,Z7e c raw),(40,tI 2),(41,tI 1),(46,Z7g layer),(47,tI 5),(48,tI 2)]),[]⟩ .nil (.cons au0 .nil)<|AF<|AB ?_
 refine rc [(54,cOn (I0 raw) 1),(57,HI (I0 raw) 1),(58,B7 (Z7y raw) (Z7z raw))] [Aq (cOn (raw.take (min (raw.length:Int) 6:Int).toNat) 1).2.1,Aq (HI (raw.take (min (raw.length:Int) 6:Int).toNat) 1).2.1,Aq (B7 (Z7y raw) (Z7z raw)).2.1] ⟨(EG layer raw c [(48,tI 2),(59,tB (!(Z7A raw)))]),[]⟩ (.cons (MZ (raw.take (min (raw.length:Int) 6:Int).toNat) 1 au7) (.cons (KB (raw.take (min (raw.length:Int) 6:Int).toNat) 1 au7) (.cons (Dg (Z7y raw) (Z7z raw) au7) .nil))) (.cons rfl (.cons rfl (.cons rfl .nil)))<|AF ?_
 refine AW _ rfl (fun h9 => ?_) (fun h9 => ?_)
 ·refine AB<|rn ⟨[(6,tB false)],[]⟩ ?_
  refine Ab<|BL ?_
  refine An<|An ?_
  refine BL<|An ?_
  refine BL<|An ?_
  refine An<|BL<|An ?_
  exact xl (tO (.b false)) (Ae (by rw [<- hF2];first | (simp only [Ba,h6,h7,h8,h9,cond_true,cond_false] <;> rfl)))
 refine AV<|BA<|AF ?_
 refine rn ⟨(EG layer raw c [(48,tI 3)]),[]⟩ ?_
 refine Bf<|AB ?_
 refine rn ⟨(EG layer raw c [(48,tI 3),(49,tB true)]),[]⟩<|AB ?_
 refine Bj kr<|AV ?_
 refine AF<|AB ?_
 refine AO<|AB ?_
 refine rc [] [0<=(3:Int)/\(3:Int)<((5:Nat):Int)] ⟨(DX layer [(11,Z7r raw),(13,tI 2),(39,Z7e c raw),(40,tI 2),(41,tI 1),(46,Z7g layer),(47,tI 5),(48,tI 3)]),[]⟩ .nil (.cons au0 .nil)<|AF<|AB ?_
 refine rc [(54,cOn (I0 raw) 2),(57,HI (I0 raw) 2),(58,B7 (Z7B raw) (Z7C raw))] [Aq (cOn (raw.take (min (raw.length:Int) 6:Int).toNat) 2).2.1,Aq (HI (raw.take (min (raw.length:Int) 6:Int).toNat) 2).2.1,Aq (B7 (Z7B raw) (Z7C raw)).2.1] ⟨(EG layer raw c [(48,tI 3),(59,tB (!(Z7D raw)))]),[]⟩ (.cons (MZ (raw.take (min (raw.length:Int) 6:Int).toNat) 2 au7) (.cons (KB (raw.take (min (raw.length:Int) 6:Int).toNat) 2 au7) (.cons (Dg (Z7B raw) (Z7C raw) au7) .nil))) (.cons rfl (.cons rfl (.cons rfl .nil)))<|AF ?_
 refine AW _ rfl (fun h10 => ?_) (fun h10 => ?_)
 ·refine AB<|rn ⟨[(6,tB false)],[]⟩ ?_
  refine Ab<|BL ?_
  refine An<|An ?_
  refine BL<|An ?_
  refine BL<|An ?_
  refine An<|BL<|An ?_
  exact xl (tO (.b false)) (Ae (by rw [<- hF2];first | (simp only [Ba,h6,h7,h8,h9,h10,cond_true,cond_false] <;> rfl)))
 refine AV<|BA<|AF ?_
 refine rn ⟨(EG layer raw c [(48,tI 4)]),[]⟩ ?_
 refine Bf<|AB ?_
 refine rn ⟨(EG layer raw c [(48,tI 4),(49,tB true)]),[]⟩<|AB ?_
 refine Bj kr<|AV ?_
 refine AF<|AB ?_
 refine AO<|AB ?_
 refine rc [] [0<=(4:Int)/\(4:Int)<((5:Nat):Int)] ⟨(DX layer [(11,Z7r raw),(13,tI 3),(39,Z7e c raw),(40,tI 2),(41,tI 1),(46,Z7g layer),(47,tI 5),(48,tI 4)]),[]⟩ .nil (.cons au0 .nil)<|AF<|AB ?_
 refine rc [(54,cOn (I0 raw) 3),(57,HI (I0 raw) 3),(58,B7 (Z7E raw) (Z7F raw))] [Aq (cOn (raw.take (min (raw.length:Int) 6:Int).toNat) 3).2.1,Aq (HI (raw.take (min (raw.length:Int) 6:Int).toNat) 3).2.1,Aq (B7 (Z7E raw) (Z7F raw)).2.1] ⟨(EG layer raw c [(48,tI 4),(59,tB (!(Z7G raw)))]),[]⟩ (.cons (MZ (raw.take (min (raw.length:Int) 6:Int).toNat) 3 au7) (.cons (KB (raw.take (min (raw.length:Int) 6:Int).toNat) 3 au7) (.cons (Dg (Z7E raw) (Z7F raw) au7) .nil))) (.cons rfl (.cons rfl (.cons rfl .nil)))<|AF ?_
 refine AW _ rfl (fun h11 => ?_) (fun h11 => ?_)
 ·refine AB<|rn ⟨[(6,tB false)],[]⟩ ?_
  refine Ab<|BL ?_
  refine An<|An ?_
  refine BL<|An ?_
  refine BL<|An ?_
  refine An<|BL<|An ?_
  exact xl (tO (.b false)) (Ae (by rw [<- hF2];first | (simp only [Ba,h6,h7,h8,h9,h10,h11,cond_true,cond_false] <;> rfl)))
 refine AV<|BA<|AF ?_
 refine rn ⟨(EG layer raw c [(48,tI 5)]),[]⟩ ?_
 refine Bf<|AB ?_
 refine rn ⟨(EG layer raw c [(48,tI 5),(49,tB false)]),[]⟩<|AB ?_
 refine D5 kr<|A3 ?_
 refine Ar<|Ar ?_
 refine A4<|AF<|AB ?_
 refine rn ⟨(RV layer raw c [(63,tI 0)]),[]⟩<|AO ?_
 refine A0 (ι:=Nat×Int) (fun x=>⟨(RV layer raw c [(63,tI x.2)]),[]⟩) (fun x=>(((raw.take (min (raw.length:Int) 6:Int).toNat).length:Int)-x.2).toNat<x.1/\(0<=x.2/\(x.2<=((raw.take (min (raw.length:Int) 6:Int).toNat).length:Int)\/x.2=0))/\Cs c raw layer v63 (Ba c raw layer n2) x.1 x.2=DW c raw layer) (fun x=>x.1) ?_ ((((raw.take (min (raw.length:Int) 6:Int).toNat).length:Int)-0).toNat+1,0) ⟨Nat.lt_succ_self _,⟨ax0,ax0⟩,(by rw [<- hF2];simp only [Ba,h6,h7,h8,h9,h10,h11,cond_true,cond_false])⟩
 rintro ⟨n5,v63'⟩ ⟨hm5,hinv5,hF5⟩
 try dsimp only at hm5 hinv5 hF5
 cases n5 with | zero=>exact nz hm5 | succ n5 => ?_
 refine AB<|rn ⟨(RV layer raw c [(63,tI v63'),(64,tB (decide ((v63':Int)<((raw.take (min (raw.length:Int) 6:Int).toNat).length:Int))))]),[]⟩<|AB ?_
 refine AW _ rfl (fun h12 => ?_) (fun h12 => ?_)
 ·have g12:=oT h12
  refine AV<|AF ?_
  refine AB<|AO<|AB ?_
  refine rc [] [0<=(v63':Int)/\(v63':Int)<(((raw.take (min (raw.length:Int) 6:Int).toNat).length:Nat):Int)] ⟨(DX layer [(11,Z7r raw),(15,tP 15 0),(39,Z7e c raw),(40,tI 2),(41,tI 1),(61,Z7r raw),(62,Z7H raw),(63,tI v63')]),[(15,Z7K raw v63')]⟩ .nil (.cons au0 .nil)<|AF<|AB ?_
  refine rn ⟨(OJ layer raw c v63' [(69,tI 0)]),[(15,Z7K raw v63')]⟩<|AO ?_
  refine A0 (ι:=Nat×Int) (fun x=>⟨(OJ layer raw c v63' [(69,tI x.2)]),[(15,Z7K raw v63')]⟩) (fun x=>(((raw.take (min (raw.length:Int) 6:Int).toNat).length:Int)-x.2).toNat<x.1/\(0<=x.2/\(x.2<=((raw.take (min (raw.length:Int) 6:Int).toNat).length:Int)\/x.2=0))/\Dr c raw layer v63 v63' (Ba c raw layer n2) (Cs c raw layer v63 (Ba c raw layer n2) n5) x.1 x.2=DW c raw layer) (fun x=>x.1) ?_ ((((raw.take (min (raw.length:Int) 6:Int).toNat).length:Int)-0).toNat+1,0) ⟨Nat.lt_succ_self _,⟨ax0,ax0⟩,(by rw [<- hF5];simp only [Cs,h12,cond_true,cond_false])⟩
  rintro ⟨n6,v69⟩ ⟨hm6,hinv6,hF6⟩
  try dsimp only at hm6 hinv6 hF6
  cases n6 with | zero=>exact nz hm6 | succ n6 => ?_
  refine AB<|rn ⟨(OJ layer raw c v63' [(69,tI v69),(70,tB (decide ((v69:Int)<((raw.take (min (raw.length:Int) 6:Int).toNat).length:Int))))]),[(15,Z7K raw v63')]⟩<|AB ?_
  refine AW _ rfl (fun h13 => ?_) (fun h13 => ?_)
  ·have g13:=oT h13
   refine AV<|AF ?_
   refine AB<|AO<|AB ?_
   refine rc [] [0<=(v69:Int)/\(v69:Int)<(((raw.take (min (raw.length:Int) 6:Int).toNat).length:Nat):Int)] ⟨(DX layer [(11,Z7r raw),(15,tP 15 0),(17,tP 17 0),(39,Z7e c raw),(40,tI 2),(41,tI 1),(61,Z7r raw),(62,Z7H raw),(63,tI v63'),(67,Z7r raw),(68,Z7H raw),(69,tI v69)]),[(15,Z7K raw v63'),(17,.cells (AN.c (Z7I raw v69)) 61)]⟩ .nil (.cons au0 .nil)<|AF<|AB ?_
   refine rs 76 (Ju (Z7J raw v63') (Z7I raw v69)) ⟨(DX layer [(11,Z7r raw),(15,tP 15 0),(17,tP 17 0),(18,tI (Bd (Z7J raw v63') (Z7I raw v69)).1),(19,tI (Bd (Z7J raw v63') (Z7I raw v69)).2.1),(20,tB (Z7L raw v63' v69)),(39,Z7e c raw),(40,tI 2),(41,tI 1),(61,Z7r raw),(62,Z7H raw),(63,tI v63'),(67,Z7r raw),(68,Z7H raw),(69,tI v69)]),[(15,Z7K raw v63'),(17,.cells (AN.c (Z7I raw v69)) 61)]⟩ (PJ (Z7J raw v63') (Z7I raw v69))<|AF<|AB ?_
   refine rs 83 (Lg (Z7J raw v63') (Z7I raw v69)) ⟨(DX layer [(11,Z7r raw),(15,tP 15 0),(18,tI (Bd (Z7J raw v63') (Z7I raw v69)).1),(19,tI (Bd (Z7J raw v63') (Z7I raw v69)).2.1),(20,tB (Z7L raw v63' v69)),(21,tI (Bx (Z7J raw v63') (Z7I raw v69)).1),(22,tI (Bx (Z7J raw v63') (Z7I raw v69)).2.1),(23,tB (Z7M raw v63' v69)),(39,Z7e c raw),(40,tI 2),(41,tI 1),(61,Z7r raw),(62,Z7H raw),(63,tI v63'),(67,Z7r raw),(68,Z7H raw),(69,tI v69)]),[(15,Z7K raw v63')]⟩ (QX (Z7J raw v63') (Z7I raw v69))<|AF<|AB ?_
   refine rc [] (i3 (!decide (((Bd (Z7J raw v63') (Z7I raw v69)).1:Int)=(Bx (Z7J raw v63') (Z7I raw v69)).1)) (i3 (bif !decide (((Bd (Z7J raw v63') (Z7I raw v69)).1:Int)=(Bx (Z7J raw v63') (Z7I raw v69)).1) then true else !decide (((Bd (Z7J raw v63') (Z7I raw v69)).2.1:Int)=(Bx (Z7J raw v63') (Z7I raw v69)).2.1)) [])) ⟨(OJ layer raw c v63' [(69,tI v69),(99,tB (bif bif !decide (((Bd (Z7J raw v63') (Z7I raw v69)).1:Int)=(Bx (Z7J raw v63') (Z7I raw v69)).1) then true else !decide (((Bd (Z7J raw v63') (Z7I raw v69)).2.1:Int)=(Bx (Z7J raw v63') (Z7I raw v69)).2.1) then true else !((Z7L raw v63' v69)==(Z7M raw v63' v69))))]),[(15,Z7K raw v63')]⟩ .nil (c3 (c3 .nil))<|AF ?_
   refine AW _ rfl (fun h14 => ?_) (fun h14 => ?_)
   ·refine AB<|rn ⟨[(6,tB false)],[]⟩ ?_
    refine Ab<|BL ?_
    refine An<|An ?_
    refine BL<|BL ?_
    refine An<|An ?_
    refine BL<|BL ?_
    refine An<|An ?_
    refine BL<|An ?_
    exact xl (tO (.b false)) (Ae (by rw [<- hF6];first | (simp only [Dr,h13,h14,cond_true,cond_false] <;> rfl)))
   refine AV<|BA<|AF ?_
   refine rg ⟨(OJ layer raw c v63' [(69,tI (W64 (v69+1)))]),[(15,Z7K raw v63')]⟩ ?_
   (try rw [(show W64 (v69+1)=v69+1 from Ah oM au5)])
   refine AF ?_
   refine ⟨(n6,v69+1),⟨?_,?_,(by rw [<- hF6];simp only [Dr,h13,h14,cond_true,cond_false])⟩,Nat.lt_succ_self _,Aw kr⟩
   ·show (((raw.take (min (raw.length:Int) 6:Int).toNat).length:Int)-(v69+1)).toNat<n6;omega
   exact ⟨ax0,ax0⟩
  have g13:=oF h13
  refine A3<|Ar ?_
  refine Ar<|A4 ?_
  refine BA<|AF ?_
  refine rg ⟨(RV layer raw c [(63,tI (W64 (v63'+1)))]),[]⟩ ?_
  (try rw [(show W64 (v63'+1)=v63'+1 from Ah oM au5)])
  refine AF ?_
  refine ⟨(n5,v63'+1),⟨?_,?_,(by rw [<- hF6];simp only [Dr,h13,cond_true,cond_false])⟩,Nat.lt_succ_self _,Aw kr⟩
  ·show (((raw.take (min (raw.length:Int) 6:Int).toNat).length:Int)-(v63'+1)).toNat<n5;omega
  exact ⟨ax0,ax0⟩
 refine A3<|Ar ?_
 refine Ar<|A4 ?_
 refine BA<|AF ?_
 refine rn ⟨(L9 layer c raw [(41,tI 2)]),[]⟩ ?_
 refine Bf<|AB ?_
 refine rn ⟨(L9 layer c raw [(41,tI 2),(42,tB false)]),[]⟩<|AB ?_
 refine D5 kr<|A3 ?_
 refine Ar<|Ar ?_
 refine A4<|AF<|AB ?_
 refine rn ⟨[(6,tB CQ)],[]⟩<|Ab ?_
 exact xl (tO (.b CQ)) (Ae (by rw [<- hF5];first | (simp only [Cs,h12,cond_true,cond_false] <;> rfl)))
end
section
open Go.RowKit
theorem kN (l:List AN) (layer:Int):E2 l layer=lyL l layer:=by
 have key:∀ n k:Nat,l.length-k<n->k<=l.length->Iu l layer n (((List.range k).filter (lyP l layer)).map Int.ofNat) (k:Int)=lyL l layer:=by
  intro n
  induction n with
  | zero=>intro k h _;exact absurd h (Nat.not_lt_zero _)
  | succ n ih =>
   intro k h hk
   rw [Iu]
   by_cases hc:k<l.length
   ·rw [decide_eq_true (show (k:Int)<(l.length:Int) by omega),cond_true]
    have:=ih (k+1) (by omega) hc
    rw [List.range_succ,List.filter_append,List.map_append] at this
    rw [show ((k+1:Nat):Int)=(k:Int)+1 by omega] at this
    rw [<- this]
    congr 1
    rw [Int.toNat_natCast]
    show (bif lyP l layer k then _ else _)=_
    cases hp:lyP l layer k with
    | true=>simp [List.filter_cons,hp]
    | false=>simp [List.filter_cons,hp]
   rw [decide_eq_false (show ¬ (k:Int)<(l.length:Int) by omega),cond_false]
   have:k=l.length:=by omega
   rw [this]
   rfl
 exact key _ 0 (by omega) (Nat.zero_le _)
theorem Jk {g:Nat->Int->Bool} (len:Nat) {e:Int->Bool} (h:∀ n v,g (n+1) v=bif decide (v<(len:Int)) then g n (v+1) else e v) (he:∀ v,e v=true):∀ (n:Nat) (v:Int),((len:Int)-v).toNat<n->g n v=true
 | 0,v,hn=>absurd hn (Nat.not_lt_zero _)
 | n+1,v,hn=>by
  rw [h]
  by_cases hc:v<(len:Int)
  ·rw [decide_eq_true hc,cond_true];exact Jk len h he n (v+1) (by omega)
  rw [decide_eq_false hc,cond_false];exact he v
theorem UF (x:List Int):Ch x x=true:=by
 unfold Ch
 rw [decide_eq_true rfl]
 exact Jk (g:=ES x x) x.length (e:=fun _=>true) (fun n v=>by rw [ES];simp) (fun _=>rfl) _ _ (by omega)
theorem Fo (l:List AN) (n:Int):Ch (FOn l n) (E2 l n)=true:=by rw [fV,kN];exact UF _
theorem NE (x y:AN):Bx x y=Bd x y:=rfl
section
variable (c:D2) (raw:List AN) (layer:Int)
theorem kZ (v63:Int) (K0:Int->Bool):∀ (n:Nat) (v:Int),(((raw.take (min (raw.length:Int) 6).toNat).length:Int)-v).toNat<n->Cs c raw layer v63 K0 n v=true
 | 0,v,h=>absurd h (Nat.not_lt_zero _)
 | n+1,v,h=>by
  rw [Cs]
  by_cases hc:v<((raw.take (min (raw.length:Int) 6).toNat).length:Int)
  ·rw [decide_eq_true hc,cond_true]
   have hstep:Cs c raw layer v63 K0 n (v+1)=true:=kZ v63 K0 n (v+1) (by omega)
   refine Jk (g:=Dr c raw layer v63 v K0 (Cs c raw layer v63 K0 n)) (raw.take (min (raw.length:Int) 6).toNat).length (e:=fun _=>Cs c raw layer v63 K0 n (v+1)) (fun m u=>by
    rw [Dr]
    unfold Z7L Z7M
    simp only [NE,decide_true,Bool.not_true,beq_self_eq_true,cond_false]) (fun _=>hstep) _ 0 (by omega)
  rw [decide_eq_false hc,cond_false]
  exact mD
theorem lA:∀ (n:Nat) (v:Int),(((Z7d c).length:Int)-v).toNat<n->Ba c raw layer n v=true
 | 0,v,h=>absurd h (Nat.not_lt_zero _)
 | n+1,v,h=>by
  rw [Ba]
  by_cases hc:v<((Z7d c).length:Int)
  ·rw [decide_eq_true hc,cond_true]
   have hstep:Ba c raw layer n (v+1)=true:=lA n (v+1) (by omega)
   refine Jk (g:=Ds c raw layer v (Ba c raw layer n)) (Z7d c).length (e:=fun _=>Ba c raw layer n (v+1)) (fun m u=>by
    rw [Ds]
    unfold Z7n Z7q
    simp only [NE,decide_true,Bool.not_true,beq_self_eq_true,cond_false]) (fun _=>hstep) _ 0 (by omega)
  rw [decide_eq_false hc,cond_false]
  have e0:Z7u raw layer=true:=Fo _ _
  have e1:Z7x raw=true:=Fo _ _
  have e2:Z7A raw=true:=Fo _ _
  have e3:Z7D raw=true:=Fo _ _
  have e4:Z7G raw=true:=Fo _ _
  rw [e0,e1,e2,e3,e4]
  exact kZ c raw layer v _ _ 0 (by omega)
end
theorem Sc (c:D2) (raw:List AN) (layer:Int):DW c raw layer=true:=by
 unfold DW
 have e0:Z7h c layer=true:=Fo _ _
 have e1:Z7i c=true:=Fo _ _
 have e2:Z7j c=true:=Fo _ _
 have e3:Z7k c=true:=Fo _ _
 have e4:Z7l c=true:=Fo _ _
 rw [e0,e1,e2,e3,e4]
 exact lA c raw layer _ 0 (by omega)
end
section
open Go.ChangeShapes Go.WideShapes Go.ChangeAt Go.RowKit
theorem PV (os:Os) (started:os.Started) (H:Type) (enc:TypeId×Value->H) :
  ReturnsInHanded {} Tryz.checked os 4 .any (Rows.itemsOnSpec.pre6 enc Tryz.prog Tryz.f4 Rows.itemsOnRow.domain false) (Rows.itemsOnSpec.post enc Tryz.prog Tryz.f4 false true false false):=by
 refine returnsInHanded_of_change (C:=Tryz.checked) own started kr Tryz.func4
  (ChangeSpec.witness6 (enc:=enc) (C:=Tryz.checked) false ⟨#[],#[.agg #[.slice none 0 0,.int .i64 0,.int .i64 0,.int .i64 0],.slice none 0 0,.int .i64 0],[]⟩ 8 kr kr kr kr) ?_
 intro W base args ds gs before hval0 hW hcnd _
 have hval:∀ (j:Nat) t v,Tryz.f4.params[j]? = some t->args[j]? = some v->Value.okWide Tryz.prog W .any base t v:=hval0
 have hW':=hW
 obtain ⟨p,q,hA0,hV,rfl,hfz,hnd⟩:=hW
 have hA:DataW.TrodAll enc Tryz.prog W 0 (fun _=>true) true Tryz.f4.params.toList args.toList ds p:=hA0
 rw [Tryz.params4] at hA hval
 obtain ⟨v0,vs0,d0,ds0,p0,q0,hargs,rfl,rfl,h0,r0⟩:=trodAll_cons hA
 obtain ⟨v1,vs1,d1,ds1,p1,q1,rfl,rfl,rfl,h1,r1⟩:=trodAll_cons r0
 obtain ⟨v2,vs2,d2,ds2,p2,q2,rfl,rfl,rfl,h2,r2⟩:=trodAll_cons r1
 obtain ⟨rfl,rfl,rfl⟩:=trodAll_nil r2
 obtain rfl:args = #[v0,v1,v2]:=by cases args;simp_all
 obtain ⟨c,kc,x0⟩:=bE opT25 (.inl ⟨_,Tryz.underlying25⟩) (hval 0 25 v0 rfl rfl) h0
 obtain ⟨raw,kraw,x1⟩:=Tf opT50 (.inl ⟨_,Tryz.underlying50⟩) (hval 1 50 v1 rfl rfl) h1
 obtain ⟨layer,klayer,x2⟩:=Tf (DO Tryz.underlying3) (.inr (.inl ⟨_,Tryz.underlying3⟩)) (hval 2 3 v2 rfl rfl) h2
 clear hA0 hval0
 refine (UG (bA c raw layer (PQ kc.1.1) (fun x hx=>PQ (kc.1.2 x hx).1) (PQ kraw.1)) (Sc c raw layer) (.cons x0 (.cons x1 (.cons x2 .nil)))).mono fun e W' ⟨he,hb⟩ => ?_
 subst he
 exact ⟨_,rfl,cR hW' rfl rfl jS (by rw [Tryz.params4];exact List.forall_mem_cons.2 ⟨⟨by kernel_rfl,oT (by kernel_rfl)⟩,List.forall_mem_cons.2 ⟨⟨by kernel_rfl,oT (by kernel_rfl)⟩,List.forall_mem_cons.2 ⟨⟨by kernel_rfl,oT (by kernel_rfl)⟩,List.forall_mem_nil _⟩⟩⟩) rfl Tryz.underlying4 hb⟩
theorem itemsOn_holds:Rows.ItemsOnSaid :=
 OpenClaim.holds_of_wide 4 Tryz.f4 rfl rfl rfl rfl rfl rfl rfl ⟨rfl,rfl,rfl,rfl,rfl⟩ rfl rfl rfl rfl rfl kr Tryz.func4 kr
  (oT (by kernel_rfl)) (by unfold Func.isWrapper;first | (rw [if_pos (by decide +kernel)];kernel_rfl) | (rw [if_neg (by decide +kernel)];exact ⟨rfl,rfl⟩))
  (fun os started H enc _=>PV os started H enc)
#print axioms itemsOn_holds
end
end Go.Proofs.YtheobjkgllmnmaaGreat
