/-
  No statement is proved in this text. It holds a part of what the proof of PlaceAt needs.
-/
import Derived.Test.YtdbampcfmjbgmaaPlaceAtQc
namespace Go.Proofs.Ytdbampcfmjbgmaa
set_option maxRecDepth 100000
set_option linter.unusedVariables false
set_option linter.unusedSimpArgs false
open Go.RowKit
abbrev BZ (b:AC) (t_:List Cl):List Cl:=(.i b.Layers)::(.i b.Outline.Kind)::(lst 7 AQ.c b.Outline.Edges)::(.i b.Outline.R)::(lst 7 AG.c b.Parts)::(lst 2 A7.c b.Nets)::t_
abbrev Cn (b:AC) (t_:List Cl):List Cl:=(lst 6 Ap.c b.Tracks)::(lst 8 Bo.c b.Vias)::(lst 8 A4.c b.Pours)::(lst 5 BT.c b.Keeps)::(lst 4 Bi.c b.Slots)::t_
abbrev DE (b:AC):List Cl:=(BZ b (Cn b [lst 2 BQ.c b.Classes,.any,lst 3 BF.c b.Waivers,lst 3 Ba.c b.Matches]))
theorem ME (b:AC):∀ y∈DE b,NM y:=by
 intro y hy
 simp only [DE,List.mem_cons,List.not_mem_nil,or_false] at hy
 rcases hy with rfl | rfl | rfl | rfl | rfl | rfl | rfl | rfl | rfl | rfl | rfl | rfl | rfl | rfl | rfl <;> first | exact .val _ | exact .any | exact Cq Hk | exact Cq Fi | exact Cq Sz | exact Cq ZN | exact Cq kD | exact Cq eM | exact Cq eN | exact Cq eK | exact Cq ZP | exact Cq Wl | exact Cq ZO
def JC (types:List AV) (p:AG):List (AG×BJ):=(Ci types p.Type').1.Pads.map fun q=>(p,q)
def Aw (b:AC) (types:List AV):List (AG×BJ):=(C3 b.Parts).flatMap (JC types)
def Hj (b:AC) (types:List AV) (k:Nat):Nat:=(((C3 b.Parts).take k).flatMap (JC types)).length
theorem Ou (types:List AV) (p:AG):(JC types p).length=(Ci types p.Type').1.Pads.length:=List.length_map _
theorem ZB (b:AC) (types:List AV):Hj b types (C3 b.Parts).length=(Aw b types).length:=by unfold Hj Aw;rw [List.take_length]
theorem WZ (b:AC) (types:List AV) {k:Nat} (h:k<(C3 b.Parts).length):Hj b types (k+1)=Hj b types k+(Ci types ((C3 b.Parts).getD k default).Type').1.Pads.length:=by
 unfold Hj
 rw [(Ff _ k h).1,List.flatMap_append,List.length_append,List.flatMap_singleton,Ou]
theorem dR (b:AC) (types:List AV) {k j:Nat} (h:k<(C3 b.Parts).length) (hj:j<(Ci types ((C3 b.Parts).getD k default).Type').1.Pads.length) :
  Hj b types k+j<(Aw b types).length/\(Aw b types).getD (Hj b types k+j) default=((C3 b.Parts).getD k default,(Ci types ((C3 b.Parts).getD k default).Type').1.Pads.getD j default):=by
 have e:Aw b types=((C3 b.Parts).take k).flatMap (JC types)++(JC types ((C3 b.Parts).getD k default)++((C3 b.Parts).drop (k+1)).flatMap (JC types)):=by
  unfold Aw
  rw [<- List.flatMap_cons,<- (Ff _ k h).2,<- List.flatMap_append,List.take_append_drop]
 have hl:=Ou types ((C3 b.Parts).getD k default)
 rw [e]
 unfold Hj
 constructor
 ·rw [List.length_append,List.length_append,hl];omega
 rw [List.getD_eq_getElem?_getD,List.getElem?_append_right oM,Nat.add_sub_cancel_left,List.getElem?_append_left (by rw [hl];exact hj)]
 unfold JC
 rw [List.getElem?_map,List.getElem?_eq_getElem hj,List.getD_eq_getElem?_getD (l:=(Ci types _).1.Pads),List.getElem?_eq_getElem hj]
 rfl
abbrev Ev (types:List AV):Nat×Tv:=(2,.av (.one (.eptr 1 1 (gD [lst 3 AV.c types]) 0 0)))
abbrev Fb (b:AC):Nat×Tv:=(17,tI ((C3 b.Parts).length:Int))
abbrev Fa (b:AC):Nat×Tv:=(16,tO (lst 7 AG.c (C3 b.Parts)))
theorem jQ (b:AC) (types:List AV) (hb:b.Parts.length<20) (ht:Cd types):JW Try.prog 68 2 (Co [.eptr 15 1 (gD (DE b)) 0 0,.eptr 1 1 (gD [lst 3 AV.c types]) 0 0]) (Aw b types).length (fun x=>[.agg (AG.c ((Aw b types).getD x.val default).1),.agg (BJ.c ((Aw b types).getD x.val default).2)]):=by
 refine Uq Try.func68 rfl rfl kr (fun i hi => ?_) ?_
 ·match i,hi with
  | 0,_=>rfl
  | 1,_=>rfl
 intro Ow n0 ly JJ hO hJg hY
 have hd:∀ (x:List (Nat×Tv)),(∀ p∈x,p.2.dv=true)->∀ i u,get x i=some u->u.dv=true:=fun x h=>Da (p:=fun u=>Tv.dv u=true) h
 refine fD hO (Da (p:=fun u=>Tv.dv u=true) (by simp [Et,D9,Tv.dv,Av.dv,Cl.dv,List.range,List.range.loop,Co])) rfl fun W0 X1 M1 hX => ?_
 have hp1:(b.Parts.length:Int)<=1000000:=by omega
 refine oq 13 (Yb b.Parts) (eA b.Parts au21)<|AF ?_
 refine rb 15 (70,([.one (.own 1000 7 b.Parts.length),.one (.clo 71 0 dfc)]:List Av).map (UF 1000 13),wrI 13 (.row 7 b.Parts.length (AP AG.c b.Parts) 59) (.tup []) (.row 7 b.Parts.length (AP AG.c (C3 b.Parts)) 59)) (.row 7 b.Parts.length (AP AG.c b.Parts) 59) ⟨[(0,.av (.one (.val (.func (.yield ly) #[] #[])))),(Ev types),(4,tO (.own 13 7 b.Parts.length))],[(13,.row 7 b.Parts.length (AP AG.c (C3 b.Parts)) 59)]⟩ (Kv (fun _ _=>kr) kr (pSrtP b.Parts au21)) ?_
 refine ⟨rfl,⟨[(0,.av (.one (.val (.func (.yield ly) #[] #[])))),(Ev types),(4,tO (lst 7 AG.c (C3 b.Parts)))],[]⟩,fun W2 M2=>Cv.trans (Cr 13 (Sb 7 AG.c (C3 b.Parts) (Qw b.Parts au21))) (Cv.trans (Hq (⟨[(0,.av (.one (.val (.func (.yield ly) #[] #[])))),(Ev types),(4,tO (lst 7 AG.c (C3 b.Parts)))],[]⟩) 13 hk0) (Cv.refl _)),?_⟩
 have hps:=Qw b.Parts hb
 refine EY ?_
 refine E5 hO (hd _ (by simp only [List.forall_mem_cons];exact ⟨rfl,rfl,rfl,fun x hx=>by cases hx⟩)) rfl fun W0 X1 M1 => ?_
 refine rg ⟨[(0,.av (.one (.val (.func (.yield ly) #[] #[])))),(Ev types),(Fa b),(Fb b),(18,tI 0)],[]⟩ ?_
 refine Ey ?_
 refine Hm ?_
 refine TA (ι:=Nat) (fun k=>⟨[(0,.av (.one (.val (.func (.yield ly) #[] #[])))),(Ev types),(Fa b),(Fb b),(18,tI (k:Int))],[]⟩) (fun k=>JJ (Hj b types k)) (fun k=>k<=(C3 b.Parts).length) (fun k=>(C3 b.Parts).length-k) (fun k hk => ?_) 0 (Nat.zero_le _)
 refine EY ?_
 refine E5 hO (hd _ (by simp only [List.forall_mem_cons];exact ⟨rfl,rfl,rfl,rfl,rfl,fun x hx=>by cases hx⟩)) rfl fun W0 X1 M1 => ?_
 refine rg ⟨[(0,.av (.one (.val (.func (.yield ly) #[] #[])))),(Ev types),(Fa b),(Fb b),(18,tI (k:Int)),(19,tB (decide (((k:Int):Int)<((C3 b.Parts).length:Int))))],[]⟩ ?_
 refine Ey ?_
 refine EY ?_
 refine Jd (decide (((k:Int):Int)<((C3 b.Parts).length:Int))) kr (fun hc => ?_) (fun hc => ?_)
 ·have hlt:k<(C3 b.Parts).length:=by have:=oT hc;omega
  refine LN ?_
  refine Ey ?_
  refine EY ?_
  refine Hm ?_
  refine EY ?_
  refine PE [0,2,16,17,18] ⟨[(0,.av (.one (.val (.func (.yield ly) #[] #[])))),(Ev types),(Fa b),(Fb b),(18,tI (k:Int))],[]⟩ kr ?_
  refine E5 hO (hd _ (by simp only [List.forall_mem_cons];exact ⟨rfl,rfl,rfl,rfl,rfl,fun x hx=>by cases hx⟩)) rfl fun W0 X1 M1 => ?_
  refine rc [] [0<=((k:Int):Int)/\((k:Int):Int)<(((C3 b.Parts).length:Nat):Int)] ⟨[(0,.av (.one (.val (.func (.yield ly) #[] #[])))),(Ev types),(6,tP 6 0),(Fa b),(Fb b),(18,tI (k:Int))],[(6,.cells (AG.c ((C3 b.Parts).getD (k:Int).toNat default)) 59)]⟩ .nil (.cons au1 .nil) ?_
  refine Ey ?_
  refine fE (S:=⟨[(0,.av (.one (.val (.func (.yield ly) #[] #[])))),(Ev types),(6,.av (.one (.eptr 7 1 (gD (AG.c ((C3 b.Parts).getD (k:Int).toNat default))) 0 0))),(Fa b),(Fb b),(18,tI (k:Int))],[]⟩) hO (fun W0 M1=>MT _ 6 (AG.c ((C3 b.Parts).getD (k:Int).toNat default)) 59 hk0 kr kr kr kr) ?_
  have hns:=WZ b types hlt
  have hat:=fun j hj=>dR b types (j:=j) hlt hj
  rw [Int.toNat_natCast]
  generalize hp:(C3 b.Parts).getD k default=p at *
  refine EY ?_
  have hgl:=Jr types p.Type'
  have hpl:((Ci types p.Type').1.Pads.length:Int)<=1000000:=by rw [hgl];exact LR ht _
  refine E5 hO (hd _ (by simp only [List.forall_mem_cons];exact ⟨rfl,rfl,rfl,rfl,rfl,rfl,fun x hx=>by cases hx⟩)) rfl fun W0 X1 M1 => ?_
  refine rs 26 (gO types p.Type') ⟨[(0,.av (.one (.val (.func (.yield ly) #[] #[])))),(Ev types),(6,.av (.one (.eptr 7 1 (gD (AG.c p)) 0 0))),(7,tP 7 0),(Fa b),(Fb b),(18,tI (k:Int))],[(7,.cells (AV.c (Ci types p.Type').1) 114)]⟩ (lW types p.Type' au21) ?_
  refine Ey ?_
  refine fE (S:=⟨[(0,.av (.one (.val (.func (.yield ly) #[] #[])))),(Ev types),(6,.av (.one (.eptr 7 1 (gD (AG.c p)) 0 0))),(7,.av (.one (.eptr 3 1 (gD (AV.c (Ci types p.Type').1)) 0 0))),(Fa b),(Fb b),(18,tI (k:Int))],[]⟩) hO (fun W0 M1=>MT _ 7 (AV.c (Ci types p.Type').1) 114 hk0 kr kr kr kr) ?_
  refine EY ?_
  refine E5 hO (hd _ (by simp only [List.forall_mem_cons];exact ⟨rfl,rfl,rfl,rfl,rfl,rfl,rfl,fun x hx=>by cases hx⟩)) rfl fun W0 X1 M1 => ?_
  refine rg ⟨[(0,.av (.one (.val (.func (.yield ly) #[] #[])))),(Ev types),(6,.av (.one (.eptr 7 1 (gD (AG.c p)) 0 0))),(Fa b),(Fb b),(18,tI (k:Int)),(30,tO (lst 7 BJ.c (Ci types p.Type').1.Pads)),(31,tI ((Ci types p.Type').1.Pads.length:Int)),(32,tI 0)],[]⟩ ?_
  refine Ey ?_
  refine Hm ?_
  refine TA (ι:=Nat) (fun j=>⟨[(0,.av (.one (.val (.func (.yield ly) #[] #[])))),(Ev types),(6,.av (.one (.eptr 7 1 (gD (AG.c p)) 0 0))),(Fa b),(Fb b),(18,tI (k:Int)),(30,tO (lst 7 BJ.c (Ci types p.Type').1.Pads)),(31,tI ((Ci types p.Type').1.Pads.length:Int)),(32,tI (j:Int))],[]⟩) (fun j=>JJ (Hj b types k+j)) (fun j=>j<=(Ci types p.Type').1.Pads.length) (fun j=>(Ci types p.Type').1.Pads.length-j) (fun j hj => ?_) 0 (Nat.zero_le _)
  refine EY ?_
  refine E5 hO (hd _ (by simp only [List.forall_mem_cons];exact ⟨rfl,rfl,rfl,rfl,rfl,rfl,rfl,rfl,rfl,fun x hx=>by cases hx⟩)) rfl fun W0 X1 M1 => ?_
  refine rg ⟨[(0,.av (.one (.val (.func (.yield ly) #[] #[])))),(Ev types),(6,.av (.one (.eptr 7 1 (gD (AG.c p)) 0 0))),(Fa b),(Fb b),(18,tI (k:Int)),(30,tO (lst 7 BJ.c (Ci types p.Type').1.Pads)),(31,tI ((Ci types p.Type').1.Pads.length:Int)),(32,tI (j:Int)),(33,tB (decide (((j:Int):Int)<((Ci types p.Type').1.Pads.length:Int))))],[]⟩ ?_
  refine Ey ?_
  refine EY ?_
  refine Jd (decide (((j:Int):Int)<((Ci types p.Type').1.Pads.length:Int))) kr (fun hc2 => ?_) (fun hc2 => ?_)
  ·have hlt2:j<(Ci types p.Type').1.Pads.length:=by have:=oT hc2;omega
   obtain ⟨hat1,hat2⟩:=hat j hlt2
   refine LN ?_
   refine Ey ?_
   refine EY ?_
   refine Hm ?_
   refine EY ?_
   refine PE [0,2,6,16,17,18,30,31,32] ⟨[(0,.av (.one (.val (.func (.yield ly) #[] #[])))),(Ev types),(6,.av (.one (.eptr 7 1 (gD (AG.c p)) 0 0))),(Fa b),(Fb b),(18,tI (k:Int)),(30,tO (lst 7 BJ.c (Ci types p.Type').1.Pads)),(31,tI ((Ci types p.Type').1.Pads.length:Int)),(32,tI (j:Int))],[]⟩ kr ?_
   refine E5 hO (hd _ (by simp only [List.forall_mem_cons];exact ⟨rfl,rfl,rfl,rfl,rfl,rfl,rfl,rfl,rfl,fun x hx=>by cases hx⟩)) rfl fun W0 X1 M1 => ?_
   refine rc [] [0<=((j:Int):Int)/\((j:Int):Int)<(((Ci types p.Type').1.Pads.length:Nat):Int)] ⟨[(0,.av (.one (.val (.func (.yield ly) #[] #[])))),(Ev types),(6,.av (.one (.eptr 7 1 (gD (AG.c p)) 0 0))),(10,tP 10 0),(Fa b),(Fb b),(18,tI (k:Int)),(30,tO (lst 7 BJ.c (Ci types p.Type').1.Pads)),(31,tI ((Ci types p.Type').1.Pads.length:Int)),(32,tI (j:Int))],[(10,.cells (BJ.c ((Ci types p.Type').1.Pads.getD (j:Int).toNat default)) 118)]⟩ .nil (.cons au1 .nil) ?_
   refine Ey ?_
   refine fE (S:=⟨[(0,.av (.one (.val (.func (.yield ly) #[] #[])))),(Ev types),(6,.av (.one (.eptr 7 1 (gD (AG.c p)) 0 0))),(10,.av (.one (.eptr 7 1 (gD (BJ.c ((Ci types p.Type').1.Pads.getD (j:Int).toNat default))) 0 0))),(Fa b),(Fb b),(18,tI (k:Int)),(30,tO (lst 7 BJ.c (Ci types p.Type').1.Pads)),(31,tI ((Ci types p.Type').1.Pads.length:Int)),(32,tI (j:Int))],[]⟩) hO (fun W0 M1=>MT _ 10 (BJ.c ((Ci types p.Type').1.Pads.getD (j:Int).toNat default)) 118 hk0 kr kr kr kr) ?_
   rw [Int.toNat_natCast]
   generalize hq:(Ci types p.Type').1.Pads.getD j default=q at *
   refine EY ?_
   refine PD ?_
   refine LM hO DV 3 [0,2,6,10,16,17,18,30,31,32,36,37,38] [] [(0,.av (.one (.val (.func (.yield ly) #[] #[])))),(2,.av (.one (.eptr 1 1 (gD [lst 3 AV.c types]) 0 0))),(6,.av (.one (.eptr 7 1 (gD (AG.c p)) 0 0))),(10,.av (.one (.eptr 7 1 (gD (BJ.c q)) 0 0))),(16,tO (lst 7 AG.c (C3 b.Parts))),(17,tI ((C3 b.Parts).length:Int)),(18,tI (k:Int)),(30,tO (lst 7 BJ.c (Ci types p.Type').1.Pads)),(31,tI ((Ci types p.Type').1.Pads.length:Int)),(32,tI (j:Int)),(36,.av (.one (.val (.func (.yield ly) #[] #[])))),(37,.av (.agg (AG.c p))),(38,.av (.agg (BJ.c q)))] kr .nil (hd _ (by simp only [List.forall_mem_cons];exact ⟨rfl,rfl,rfl,rfl,rfl,rfl,rfl,rfl,rfl,rfl,fun x hx=>by cases hx⟩)) rfl ?_
   refine Wv (ly:=ly) (d:=39) hO rfl [.agg (AG.c p),.agg (BJ.c q)] rfl rfl kr kr kr ?hvm rfl kr ?hT1 (fun A B=>hJg _ A B) (JJ (Hj b types k+j+1)) ?hY rfl ?ht
   case hvm =>
    intro x hx
    simp only [List.mem_cons,List.not_mem_nil,or_false] at hx
    rcases hx with rfl | rfl
    ·exact Fi _
    exact Jb _
   case hT1=>exact Da (p:=fun u=>Tv.dv u=true/\TvM u) (by
    simp only [List.forall_mem_cons]
    exact ⟨⟨rfl,CQ (.val _)⟩,⟨rfl,CQ (HY (by simp only [List.forall_mem_cons];exact ⟨(Cq O4),fun x hx=>by cases hx⟩))⟩,⟨rfl,CQ (HY (Fi _))⟩,⟨rfl,CQ (HY (Jb _))⟩,⟨rfl,CQ (Cq Fi)⟩,⟨rfl,CQ (.val _)⟩,⟨rfl,CQ (.val _)⟩,⟨rfl,CQ (Cq Jb)⟩,⟨rfl,CQ (.val _)⟩,⟨rfl,CQ (.val _)⟩,⟨rfl,CQ (.val _)⟩,⟨rfl,(Fi _)⟩,⟨rfl,(Jb _)⟩,fun x hx=>by cases hx⟩)
   case hY =>
    intro W v hW hv
    refine hY _ hat1 W v hW ?_
    show lJ (fun _=>none) Ow [.agg (AG.c ((Aw b types).getD (Hj b types k+j) default).1),.agg (BJ.c ((Aw b types).getD (Hj b types k+j) default).2)] v W
    rw [hat2]
    exact hv
   case ht =>
    refine PC [0,2,6,16,17,18,30,31,32,39] ⟨[(0,.av (.one (.val (.func (.yield ly) #[] #[])))),(Ev types),(6,.av (.one (.eptr 7 1 (gD (AG.c p)) 0 0))),(Fa b),(Fb b),(18,tI (k:Int)),(30,tO (lst 7 BJ.c (Ci types p.Type').1.Pads)),(31,tI ((Ci types p.Type').1.Pads.length:Int)),(32,tI (j:Int)),(39,tB true)],[]⟩ kr ?_
    refine LM hO DV 1 [0,2,6,16,17,18,30,31,32,40] [] [(0,.av (.one (.val (.func (.yield ly) #[] #[])))),(2,.av (.one (.eptr 1 1 (gD [lst 3 AV.c types]) 0 0))),(6,.av (.one (.eptr 7 1 (gD (AG.c p)) 0 0))),(16,tO (lst 7 AG.c (C3 b.Parts))),(17,tI ((C3 b.Parts).length:Int)),(18,tI (k:Int)),(30,tO (lst 7 BJ.c (Ci types p.Type').1.Pads)),(31,tI ((Ci types p.Type').1.Pads.length:Int)),(32,tI (j:Int)),(40,tB false)] kr .nil (hd _ (by simp only [List.forall_mem_cons];exact ⟨rfl,rfl,rfl,rfl,rfl,rfl,rfl,rfl,rfl,rfl,fun x hx=>by cases hx⟩)) rfl ?_
    refine S9 ?_
    refine Ey ?_
    refine Jd false kr (fun h=>by cases h) (fun _ => ?_)
    refine LN ?_
    refine fN ?_
    refine Ey ?_
    refine E5 hO (hd _ (by simp only [List.forall_mem_cons];exact ⟨rfl,rfl,rfl,rfl,rfl,rfl,rfl,rfl,rfl,rfl,fun x hx=>by cases hx⟩)) rfl fun W0 X1 M1 => ?_
    refine rg ⟨[(0,.av (.one (.val (.func (.yield ly) #[] #[])))),(Ev types),(6,.av (.one (.eptr 7 1 (gD (AG.c p)) 0 0))),(Fa b),(Fb b),(18,tI (k:Int)),(30,tO (lst 7 BJ.c (Ci types p.Type').1.Pads)),(31,tI ((Ci types p.Type').1.Pads.length:Int)),(32,tI (W64 ((j:Int)+1)))],[]⟩ ?_
    refine Ey ?_
    refine ⟨j+1,by omega,by omega,?_,by rw [Nat.add_assoc],rfl⟩
    rw [A1 oM oM]
    rfl
  have hjl:j=(Ci types p.Type').1.Pads.length:=by have:=oF hc2;omega
  refine TB ?_
  refine QR ?_
  refine QR ?_
  refine TD ?_
  refine fN ?_
  refine Ey ?_
  refine PE [0,2,16,17,18] ⟨[(0,.av (.one (.val (.func (.yield ly) #[] #[])))),(Ev types),(Fa b),(Fb b),(18,tI (k:Int))],[]⟩ kr ?_
  refine E5 hO (hd _ (by simp only [List.forall_mem_cons];exact ⟨rfl,rfl,rfl,rfl,rfl,fun x hx=>by cases hx⟩)) rfl fun W0 X1 M1 => ?_
  refine rg ⟨[(0,.av (.one (.val (.func (.yield ly) #[] #[])))),(Ev types),(Fa b),(Fb b),(18,tI (W64 ((k:Int)+1)))],[]⟩ ?_
  refine Ey ?_
  refine ⟨k+1,by omega,by omega,?_,by rw [hjl,hns],rfl⟩
  rw [A1 oM oM]
  rfl
 have hkl:k=(C3 b.Parts).length:=by have:=oF hc;omega
 refine TB ?_
 refine QR ?_
 refine QR ?_
 refine TD ?_
 exact ⟨.inr rfl,by rw [hkl,ZB]⟩
section
open Go.RowKit
section
variable (len:Nat) (g:Nat→Nat→Value)
abbrev TX:Cl:=gR false 2 len (fun i j=>.val (g i j))
theorem kC:NM (TX len g):=HY fun y hy=>by rw [List.mem_singleton.1 hy];exact .list _ _ _ _ fun i j=>.val _
abbrev ylB (ly:Nat):Tv:=.av (.one (.val (.func (.yield ly) #[] #[])))
abbrev tB1 (c:Cl):Tv:=.av (.one c)
abbrev avB (k:Nat):Av:=.agg [.val (g k 0),.val (g k 1)]
theorem gW (hl:(len:Int)<=1000000) (h1:∀ i j,i<len->j<2->(g i j).oneCell'=true):JW Try.prog 67 1 (Co [TX len g]) len (fun x=>[.one (.i ((len:Int)-1-(x.val:Int))),avB g (len-1-x.val)]):=by
 refine Zc Try.func67 rfl rfl (fun x=>rfl) (fun x e he c hc => ?_) kr (fun i hi => ?_) ?_
 ·simp only [List.mem_cons,List.not_mem_nil,or_false] at he
  rcases he with rfl | rfl
  ·rw [List.mem_singleton.1 hc];rfl
  simp only [Av.cells,List.mem_cons,List.not_mem_nil,or_false] at hc
  have:=x.isLt
  rcases hc with rfl | rfl <;> exact h1 _ _ (by omega) (by decide)
 ·match i,hi with
  | 0,_=>rfl
 intro Ow n0 ly JJ Jx hO hJg hY
 have hd:∀ (x:List (Nat×Tv)),(∀ p∈x,p.2.dv=true)->∀ i u,get x i=some u->u.dv=true:=fun x h=>Da (p:=fun u=>Tv.dv u=true) h
 refine EY ?_
 refine E5 hO (Da (p:=fun u=>Tv.dv u=true) (by simp [Et,D9,Tv.dv,Av.dv,Cl.dv,List.range,List.range.loop,Co])) rfl fun W0 X1 M1 => ?_
 refine rg ⟨[(0,ylB ly),(1,tB1 (TX len g)),(3,tI (W64 ((len:Int)-1)))],[]⟩ ?_
 refine Ey ?_
 refine Hm ?_
 rw [show W64 ((len:Int)-1)=(len:Int)-1-((0:Nat):Int) by rw [A1 (by omega) (by omega)];omega]
 refine TA (ι:=Nat) (fun k=>⟨[(0,ylB ly),(1,tB1 (TX len g)),(3,tI ((len:Int)-1-(k:Int)))],[]⟩) (fun k=>JJ k) (fun k=>k<=len) (fun k=>len-k) (fun k hk => ?_) 0 (Nat.zero_le _)
 refine EY ?_
 refine EY ?_
 refine E5 hO (hd _ (by simp only [List.forall_mem_cons];exact ⟨rfl,rfl,rfl,fun x hx=>by cases hx⟩)) rfl fun W0 X1 M1 => ?_
 refine rg ⟨[(0,ylB ly),(1,tB1 (TX len g)),(3,tI ((len:Int)-1-(k:Int))),(8,tB (decide ((0:Int)<=((len:Int)-1-(k:Int)))))],[]⟩ ?_
 refine Ey ?_
 refine Jd (decide ((0:Int)<=((len:Int)-1-(k:Int)))) kr (fun hc => ?_) (fun hc => ?_)
 ·have hlt:k<len:=by have:=oT hc;omega
  obtain ⟨m,hm⟩:∃ m:Nat,(len:Int)-1-(k:Int)=(m:Int):=⟨len-1-k,by omega⟩
  have hm2:m=len-1-k:=by omega
  refine LN ?_
  refine Ey ?_
  refine EY ?_
  refine Hm ?_
  refine EY ?_
  refine PD ?_
  rw [hm]
  refine LM hO DV 6 [0,1,3,11,12,16] [0<=(m:Int)/\(m:Int)<((len:Nat):Int)] [(0,ylB ly),(1,tB1 (TX len g)),(3,tI (m:Int)),(11,ylB ly),(12,tI (m:Int)),(16,.av (avB g (m:Int).toNat))] kr (.cons ⟨by omega,by omega⟩ .nil) (hd _ (by simp only [List.forall_mem_cons];exact ⟨rfl,rfl,rfl,rfl,fun x hx=>by cases hx⟩)) rfl ?_
  rw [Int.toNat_natCast]
  refine Ww (ly:=ly) (d:=17) hO rfl [.one (.i (m:Int)),avB g m] rfl rfl kr kr rfl rfl kr ?hT1 (fun A B=>hJg _ A B) (JJ (k+1)) (Jx (k+1)) ?hY [] ?htf rfl ?ht ?hf
  case hT1=>exact Da (p:=fun u=>Tv.dv u=true/\TvM u) (by
   simp only [List.forall_mem_cons]
   exact ⟨⟨rfl,CQ (.val _)⟩,⟨rfl,CQ (kC len g)⟩,⟨rfl,CQ (.val _)⟩,⟨rfl,CQ (.val _)⟩,⟨rfl,CQ (.val _)⟩,⟨rfl,fun c hc=>by
    simp only [Av.cells,List.mem_cons,List.not_mem_nil,or_false] at hc
    rcases hc with rfl | rfl <;> exact .val _⟩,fun x hx=>by cases hx⟩)
  case hY =>
   intro W hW
   have:=hY k hlt W hW
   simp only [hm,<- hm2] at this
   exact this
  case htf=>exact fun i v hv=>by cases hv
  case ht =>
   refine PC [0,1,3,17] ⟨[(0,ylB ly),(1,tB1 (TX len g)),(3,tI (m:Int)),(17,tB true)],[]⟩ kr ?_
   refine LM hO DV 1 [0,1,3,18] [] [(0,ylB ly),(1,tB1 (TX len g)),(3,tI (m:Int)),(18,tB false)] kr .nil (hd _ (by simp only [List.forall_mem_cons];exact ⟨rfl,rfl,rfl,rfl,fun x hx=>by cases hx⟩)) rfl ?_
   refine S9 ?_
   refine Ey ?_
   refine Jd false kr (fun h=>by cases h) (fun _ => ?_)
   refine LN ?_
   refine fN ?_
   refine Ey ?_
   refine E5 hO (hd _ (by simp only [List.forall_mem_cons];exact ⟨rfl,rfl,rfl,rfl,fun x hx=>by cases hx⟩)) rfl fun W0 X1 M1 => ?_
   refine rg ⟨[(0,ylB ly),(1,tB1 (TX len g)),(3,tI (W64 ((m:Int)-1)))],[]⟩ ?_
   refine Ey ?_
   refine ⟨k+1,by omega,by omega,?_,rfl,rfl⟩
   rw [A1 (by omega) (by omega),show (m:Int)-1=(len:Int)-1-((k+1:Nat):Int) by omega]
  case hf =>
   refine PC [17] ⟨[(17,tB false)],[]⟩ kr ?_
   refine LM hO DV 1 [18] [] [(18,tB true)] kr .nil (hd _ (by simp only [List.forall_mem_cons];exact ⟨rfl,fun x hx=>by cases hx⟩)) rfl ?_
   refine S9 ?_
   refine Ey ?_
   refine Jd true kr (fun _ => ?_) (fun h=>by cases h)
   refine oW ?_
   exact ⟨.inl rfl,.inr ⟨_,hlt,rfl⟩⟩
 have hkl:k=len:=by have:=oF hc;omega
 refine TB ?_
 refine QR ?_
 refine QR ?_
 refine TD ?_
 exact ⟨.inr rfl,.inl (by rw [hkl])⟩
end
theorem kW (l:List A7) (hl:(l.length:Int)<=1000000):JW Try.prog 67 1 (Co [.eptr 1 1 (fun _ j=>([lst 2 A7.c l]:List Cl).getD j default) 0 0]) l.length (fun x=>[.one (.i ((l.length:Int)-1-(x.val:Int))),.agg (A7.c (l.getD (l.length-1-x.val) default))]):=by
 refine Wx (t:=false) (sz:=2) (len:=l.length) (f:=fun i j=>(A7.c (l.getD i default)).getD j default) (fun g x=>[.one (.i ((l.length:Int)-1-(x.val:Int))),avB g (l.length-1-x.val)]) rfl (by decide) (fun g h1 => ?_) (fun g x=>rfl) (fun M g x vs h2 hL => ?_)
 ·refine Wy (fun i hi => ?_) (gW l.length g hl h1)
  match i,hi with
  | 0,_=>rfl
 cases hL with
 | cons a1 a2 =>
  cases a2 with
  | cons a3 a4 =>
   refine .cons a1 (.cons (fun σ => ?_) a4)
   obtain ⟨us,hu,hus⟩:=a3 σ
   refine ⟨us,hu,?_⟩
   have hx:l.length-1-x.val<l.length:=by have:=x.isLt;omega
   cases hus with
   | cons b1 b2 =>
    cases b2 with
    | cons b3 b4 =>
     cases b4
     have e1:=b1.1
     have e2:=b3.1
     subst e1 e2
     exact .cons ((Ju rfl).2 (h2 _ 0 hx (by decide))) (.cons ((Ju rfl).2 (h2 _ 1 hx (by decide))) .nil)
end
theorem ZA  (l:(List A7)):Fo Try.prog 41 [.one (lst 2 A7.c l)] (.av (.one (.clo 67 1 (Co [.eptr 1 1 (gD [lst 2 A7.c l]) 0 0])))):=by
 refine pwf Try.func41 fun W0 M0 => ?_
 refine AB<|on<|AB ?_
 refine rn ⟨[(2,tO (.clo 67 1 (Co [.ptr 1 0])))],[(1,.cells [lst 2 A7.c l] 31)]⟩<|Ac ?_
 exact zy (Cv.trans (MT (⟨[(2,.av (.one (.clo 67 1 (Co [.eptr 1 1 (gD [lst 2 A7.c l]) 0 0]))))],[]⟩) 1 [lst 2 A7.c l] 31 hk0 kr kr kr kr) (Cv.refl _))
def cpads (b:AC) (types:(List AV)):CT:=(42,[.agg (DE b),.one (Ii types)],.val [] (.av (.one (.clo 68 2 (Co [.eptr 15 1 (fun _ j_=>((DE b):List Cl).getD j_ default) 0 0,.eptr 1 1 (fun _ j_=>([lst 3 AV.c types]:List Cl).getD j_ default) 0 0])))))
abbrev Lz (b:AC):Nat×Blk:=(2,.cells (DE b) 42)
theorem ppads (b:AC) (types:(List AV)):PuP 42 (cpads b types).2.1 (.av (.one (.clo 68 2 (Co [.eptr 15 1 (gD (DE b)) 0 0,.eptr 1 1 (gD [lst 3 AV.c types]) 0 0])))):=by
 refine pwf Try.func42 fun W0 M0 => ?_
 refine AB<|on<|AB ?_
 refine rn ⟨[(4,tO (.clo 68 2 (Co [.ptr 2 0,.ptr 3 0])))],[(Lz b),(3,.cells [lst 3 AV.c types] 43)]⟩<|Ac ?_
 exact zy (Cv.trans (MT (⟨[(4,.av (.one (.clo 68 2 (Co [.eptr 15 1 (gD (DE b)) 0 0,.ptr 3 0]))))],[(3,.cells [lst 3 AV.c types] 43)]⟩) 2 (DE b) 42 hk0 kr kr kr kr) (Cv.trans (MT (⟨[(4,.av (.one (.clo 68 2 (Co [.eptr 15 1 (gD (DE b)) 0 0,.eptr 1 1 (gD [lst 3 AV.c types]) 0 0]))))],[]⟩) 3 [lst 3 AV.c types] 43 hk0 kr kr kr kr) (Cv.refl _)))
def Hw (s:A2) (m:Al):Nat->List AQ->Int->A2
 | 0,_,_=>default
 | n0+1,s_1,v13=>bif decide ((v13:Int)<((s.Edges.length:Nat):Int)) then ((Hw s m n0) (s_1.set v13.toNat (GC (s_1.getD v13.toNat default) m)) (v13+1)) else (A2.mk s.Kind s_1 s.R)
def G8 (s:A2) (m:Al):A2:=Hw s m ((((s.Edges.length:Nat):Int)-0).toNat+1) s.Edges 0
def TU (s:A2) (m:Al):CT:=(15,[.agg (A2.c s),.agg (Al.c m)],.val [] (.av (.agg (A2.c (G8 s m)))))
abbrev mO (s:A2):Nat×Tv:=(12,tI ((s.Edges.length:Nat):Int))
abbrev Rh:Nat×Blk:=(4,.cells [.i 0,vN,.i 0] 29)
abbrev Q7 (s:A2) (t_:List (Nat×Tv)):List (Nat×Tv):=(2,tP 2 0)::(3,tP 3 0)::(4,tP 4 0)::(mO s)::t_
theorem nH (s:A2) (m:Al) (h0:(s.Edges.length:Int)<=1000000):PuP 15 (TU s m).2.1 (.av (.agg (A2.c (G8 s m)))):=by
 refine pwf Try.func15 fun W0 M0 => ?_
 refine AB<|on<|AB ?_
 refine oq 8 (NU s.Edges) (O2 s.Edges au21)<|AF ?_
 refine Aq (Cr 8 (An 7 AQ.c s.Edges))<|AB<|AB ?_
 refine rn ⟨(Q7 s [(13,tI 0)]),[(2,.cells [.i s.Kind,.own 8 7 s.Edges.length,.i s.R] 29),(3,.cells (Al.c m) 66),Rh,(8,.row 7 s.Edges.length (AP AQ.c s.Edges) 133)]⟩<|AX ?_
 refine Bc (ι:=Nat×List AQ×Int) (fun x=>⟨(Q7 s [(13,tI x.2.2)]),[(2,.cells [.i s.Kind,.own 8 7 x.2.1.length,.i s.R] 29),(3,.cells (Al.c m) 66),Rh,(8,.row 7 x.2.1.length (AP AQ.c x.2.1) 133)]⟩) (fun x=>(((s.Edges.length:Nat):Int)-x.2.2).toNat<x.1/\(x.2.1.length=s.Edges.length/\0<=x.2.2/\(x.2.2<=((s.Edges.length:Nat):Int)\/x.2.2=0))/\Hw s m x.1 x.2.1 x.2.2=G8 s m) (fun x=>x.1) ?_ ((((s.Edges.length:Nat):Int)-0).toNat+1,s.Edges,0) ⟨Nat.lt_succ_self _,⟨ax0,ax0,ax0⟩,(by simp only [G8,cond_true,cond_false])⟩
 rintro ⟨n0,s_1,v13⟩ ⟨hm0,hinv0,hF0⟩
 try dsimp only at hm0 hinv0 hF0
 cases n0 with | zero=>exact nz hm0 | succ n0 => ?_
 refine AB<|rn ⟨(Q7 s [(13,tI v13),(14,tB (decide ((v13:Int)<((s.Edges.length:Nat):Int))))]),[(2,.cells [.i s.Kind,.own 8 7 s_1.length,.i s.R] 29),(3,.cells (Al.c m) 66),Rh,(8,.row 7 s_1.length (AP AQ.c s_1) 133)]⟩<|AB ?_
 refine AL _ rfl (fun h1 => ?_) (fun h1 => ?_)
 ·have g1:=oT h1
  refine Af<|AF ?_
  refine AB<|AX<|AB ?_
  refine on ?_
  refine od [] [(25,Ye (s_1.getD v13.toNat default) m)] [0<=(v13:Int)/\(v13:Int)<((s_1.length:Nat):Int),v13.toNat<s_1.length,A0 (Ye (s_1.getD v13.toNat default) m).2.1,0<=(v13:Int)/\(v13:Int)<((s_1.length:Nat):Int),v13.toNat<s_1.length] (.cons (oA (s_1.getD v13.toNat default) m) .nil) (.cons au1 (.cons au1 (.cons rfl (.cons au1 (.cons au1 .nil)))))<|A8<|AF ?_
  refine Aq (Cr 8 (EC (l:=(AQ.c (GC (s_1.getD v13.toNat default) m))) (off:=0) (q:=7) (k:=v13.toNat) (An 7 AQ.c s_1) au1 (GC (s_1.getD v13.toNat default) m) (Dq kr))) ?_
  refine rg ⟨(Q7 s [(13,tI (W64 (v13+1)))]),[(2,.cells [.i s.Kind,.own 8 7 (s_1.set v13.toNat (GC (s_1.getD v13.toNat default) m)).length,.i s.R] 29),(3,.cells (Al.c m) 66),Rh,(8,.row 7 (s_1.set v13.toNat (GC (s_1.getD v13.toNat default) m)).length (AP AQ.c (s_1.set v13.toNat (GC (s_1.getD v13.toNat default) m))) 133)]⟩ ?_
  (try rw [(show W64 (v13+1)=v13+1 from A1 oM au9)])
  refine AF ?_
  refine ⟨(n0,s_1.set v13.toNat (GC (s_1.getD v13.toNat default) m),v13+1),⟨?_,?_,(by rw [<- hF0];simp only [Hw,h1,cond_true,cond_false])⟩,Nat.lt_succ_self _,BM kr⟩
  ·show (((s.Edges.length:Nat):Int)-(v13+1)).toNat<n0;omega
  exact ⟨ax0,ax0,ax0⟩
 refine BU<|BE ?_
 refine BE<|BV ?_
 refine AF<|AB ?_
 refine on<|Ac ?_
 exact zy (Cv.trans (vf 8 hk0) (Cv.refl _)) (by rw [<- hF0];simp only [Hw,h1,cond_true,cond_false] <;> kernel_rfl)
theorem jY (s:A2) (m:Al) (h0:(s.Edges.length:Int)<=1000000):OKc (TU s m):=cPu<|nH s m h0
def B9 (p:AU):Value:=.agg #[.string p.Ref,.string p.Pad]
def Bt (a b:AU):Bool:=eqS a.Ref b.Ref&&eqS a.Pad b.Pad
theorem Qi (a b:AU):Bt a b=true↔B9 a=B9 b:=by
 unfold Bt B9
 rw [Bool.and_eq_true,XD,XD]
 simp
theorem VA (k:AU):FT Try.prog eqE 25 (B9 k):=.inr ⟨_,_,_,rfl,rfl,by kernel_rfl,rfl,rfl⟩
theorem ZC {b:AC} {types:List AV} (ht:Cd types) (k:Nat):(((Aw b types).getD k default).2.Shape.Edges.length:Int)<=1000000:=by
 refine HI (p:=fun x:AG×BJ=>(x.2.Shape.Edges.length:Int)<=1000000) (by decide) (fun x hx => ?_) k
 unfold Aw at hx
 obtain ⟨p,_,hp⟩:=List.mem_flatMap.1 hx
 unfold JC at hp
 obtain ⟨q,hq,rfl⟩:=List.mem_map.1 hp
 rw [Jr] at hq
 unfold U4 at hq
 cases hf:types.find? (fun t=>GU t p.Type') with
 | none=>rw [hf] at hq;cases hq
 | some t=>rw [hf] at hq;exact (ht.2 t (List.mem_of_find?_eq_some hf)).2.2.1 q hq
def C9 (x0:AG):Al:=Al.mk x0.At x0.Turn x0.Under
def HL (x0:AG):CT:=(20,[.agg (AG.c x0)],.val [] (.av (.agg (Al.c (C9 x0)))))
theorem jR (x0:AG):PuP 20 (HL x0).2.1 (.av (.agg (Al.c (C9 x0)))):=by
 refine pwf Try.func20 fun W0 M0 => ?_
 refine AB<|on<|AB ?_
 refine on<|Ac ?_
 exact zl
theorem O3 (x0:AG):OKc (HL x0):=cPu<|jR x0
def FU (b:AC) (p:AG):Int:=bif p.Under then b.Layers else 1
def NA (b:AC) (p:AG):CT:=(34,[.agg (DE b),.agg (AG.c p)],.val [] (.av (.one (.i (FU b p)))))
theorem pside (b:AC) (p:AG):PuP 34 (NA b p).2.1 (tO (.i (FU b p))):=by
 refine pwf Try.func34 fun W0 M0 => ?_
 refine AB<|on ?_
 refine AB<|AB ?_
 refine rn ⟨[(2,tP 2 0),(6,tB p.Under)],[(Lz b)]⟩ ?_
 refine AL p.Under kr (fun h1 => ?_) (fun h1 => ?_)
 ·refine AB<|on ?_
  refine Ac<|Bf ?_
  exact zl (by simp only [FU,h1,cond_true,cond_false] <;> kernel_rfl)
 refine Af<|AF<|AB ?_
 refine on<|Ac ?_
 exact zl (by simp only [FU,h1,cond_true,cond_false] <;> kernel_rfl)
theorem We (b:AC) (p:AG):OKc (NA b p):=cPu<|pside b p
section
open Go.RowKit
variable (b:AC) (types:List AV) (A3:List CV) (x0_ x2_:Nat)
def Z0j:CT:=(41,[.one (lst 2 A7.c b.Nets)],.val [] (.av (.one (.clo 67 1 (Co [.eptr 1 1 (fun _ j_=>([lst 2 A7.c b.Nets]:List Cl).getD j_ default) 0 0])))))
def Z0k:CT:=(42,[.agg (DE b),.one (Ii types)],.val [] (.av (.one (.clo 68 2 (Co [.eptr 15 1 (fun _ j_=>((DE b):List Cl).getD j_ default) 0 0,.eptr 1 1 (fun _ j_=>([lst 3 AV.c types]:List Cl).getD j_ default) 0 0])))))
def JY (b:AC) (types:(List AV)) (AR:List (AU×ByteArray)) (x0:Nat) (K0:List (AU×ByteArray)->(List CV)):Nat->List (AU×ByteArray)->Int->(List CV)
 | 0,_,_=>default
 | n1+1,A9,v23=>bif decide ((v23:Int)<((b.Nets.getD (b.Nets.length-1-x0) default).Pins.length:Int)) then ((JY b types AR x0 K0 n1) (JD Bt A9 ((b.Nets.getD (b.Nets.length-1-x0) default).Pins.getD v23.toNat default) (b.Nets.getD (b.Nets.length-1-x0) default).Name) (v23+1)) else (K0 A9)
def E2 (b:AC) (types:(List AV)) (AR:List (AU×ByteArray)) (K0:List (AU×ByteArray)->(List CV)):Nat->Nat->List CV->(List CV)
 | 0,_,A3=>A3
 | m+1,x,A3=>(E2 b types AR K0 m (x+1)) (A3++[CV.mk ((Aw b types).getD x default).1.Id ((Aw b types).getD x default).2.Name 1 (bif Ew Bt AR (AU.mk ((Aw b types).getD x default).1.Ref ((Aw b types).getD x default).2.Name) then (AR.getD (Do Bt AR (AU.mk ((Aw b types).getD x default).1.Ref ((Aw b types).getD x default).2.Name)) default).2 else ⟨#[]⟩) (bif decide ((((Aw b types).getD x default).2.Drill:Int)=0) then (FU b ((Aw b types).getD x default).1) else 1) (bif decide ((((Aw b types).getD x default).2.Drill:Int)=0) then (FU b ((Aw b types).getD x default).1) else b.Layers) (G8 ((Aw b types).getD x default).2.Shape (C9 ((Aw b types).getD x default).1))])
def Eb (b:AC) (types:(List AV)):Nat->Nat->List (AU×ByteArray)->(List CV)
 | 0,_,AR=>E2 b types AR (fun _=>default) (Aw b types).length 0 ([]:List CV)
 | m+1,x,AR=>JY b types AR x (Eb b types m (x+1)) ((((b.Nets.getD (b.Nets.length-1-x) default).Pins.length:Int)-0).toNat+1) AR 0
def C8 (b:AC) (types:(List AV)):(List CV):=Eb b types b.Nets.length 0 ([]:List (AU×ByteArray))
abbrev Rz:=AU.mk ((Aw b types).getD x2_ default).1.Ref ((Aw b types).getD x2_ default).2.Name
abbrev Yn (b:AC) (types:List AV) (x2_:Nat) (AR:List (AU×ByteArray)):=[CV.mk ((Aw b types).getD x2_ default).1.Id ((Aw b types).getD x2_ default).2.Name 1 (bif Ew Bt AR (Rz b types x2_) then (AR.getD (Do Bt AR (Rz b types x2_)) default).2 else ⟨#[]⟩) (bif decide ((((Aw b types).getD x2_ default).2.Drill:Int)=0) then (FU b ((Aw b types).getD x2_ default).1) else 1) (bif decide ((((Aw b types).getD x2_ default).2.Drill:Int)=0) then (FU b ((Aw b types).getD x2_ default).1) else b.Layers) (G8 ((Aw b types).getD x2_ default).2.Shape (C9 ((Aw b types).getD x2_ default).1))]
abbrev Xi (AR:List (AU×ByteArray)) (b:AC) (types:List AV) (x2_:Nat):=bif Ew Bt AR (Rz b types x2_) then (AR.getD (Do Bt AR (Rz b types x2_)) default).2 else ⟨#[]⟩
abbrev Py:=AU.mk ((Aw b types).getD x2_ default).1.Ref ((Aw b types).getD x2_ default).2.Name
abbrev D3:=b.Nets.getD (b.Nets.length-1-x0_) default
abbrev Nl:Nat×Tv:=(34,.av (.one (.clo 68 2 (Co [.eptr 15 1 (gD (DE b)) 0 0,.eptr 1 1 (gD [lst 3 AV.c types]) 0 0]))))
abbrev GQ:Nat×Tv:=(1,tO (Ii types))
abbrev NZ:Nat×Tv:=(17,.av (.one (.clo 67 1 (Co [.eptr 1 1 (gD [lst 2 A7.c b.Nets]) 0 0]))))
abbrev EO:Nat×Blk:=(200005,.cells [.om 200014] 124)
abbrev Zv:=G8 ((Aw b types).getD x2_ default).2.Shape (C9 ((Aw b types).getD x2_ default).1)
abbrev EN:Nat×Blk:=(200002,.cells (DE b) 42)
abbrev Pt:=FU b ((Aw b types).getD x2_ default).1
abbrev Xe:Nat×Tv:=(11,.av (.one (.eptr 7 1 (gD (AG.c ((Aw b types).getD x2_ default).1)) 0 0)))
abbrev Lr (t_:List (Nat×Tv)):List (Nat×Tv):=(2,tP 200002 0)::(5,tP 200005 0)::(10,tP 200010 0)::t_
abbrev SZ:List (Nat×Tv):=(Lr [(Xe b types x2_),(12,.av (.one (.eptr 7 1 (gD (BJ.c ((Aw b types).getD x2_ default).2)) 0 0))),(13,tP 13 0),(Nl b types)])
abbrev Vu:Nat×Tv:=(7,.av (.one (.eptr 2 1 (gD (A7.c (D3 b x0_))) 0 0)))
abbrev I7:Nat×Blk:=(100000,.row 9 A3.length (AP CV.c A3) 63)
abbrev cB:Nat×Tv:=(12,.av (.one (.eptr 7 1 (gD (BJ.c ((Aw b types).getD x2_ default).2)) 0 0)))
abbrev I5:Nat×Blk:=(200010,.cells [.own 100000 9 A3.length] 60)
abbrev aW:Nat×Tv:=(22,tI ((D3 b x0_).Pins.length:Int))
abbrev Rs:List (Nat×Tv):=(Lr [(Nl b types)])
abbrev aT:Nat×Tv:=(21,tO (lst 2 AU.c (D3 b x0_).Pins))
abbrev Lw (types:List AV) (b:AC) (x0_:Nat) (t_:List (Nat×Tv)):List (Nat×Tv):=(GQ types)::(2,tP 200002 0)::(5,tP 200005 0)::(Vu b x0_)::(NZ b)::(aT b x0_)::(aW b x0_)::t_
abbrev Lv (t_:List Cl):List Cl:=(.i ((Aw b types).getD x2_ default).1.Id)::(.s ((Aw b types).getD x2_ default).2.Name)::(.i 1)::t_
abbrev Ng (t_:List (Nat×Tv)):List (Nat×Tv):=(GQ types)::(2,tP 200002 0)::(5,tP 200005 0)::t_
theorem qPads (b:AC) (types:(List AV)) (hn:(b.Nets.length:Int)<=1000000) (hp:b.Parts.length<20) (ht:Cd types) (hm:((Aw b types).length:Int)<=20000000) (hq:∀ n∈b.Nets,(n.Pins.length:Int)<=1000000):Fr Try.prog 14 [.agg (DE b),.one (lst 3 AV.c types)] (.row 9 (C8 b types).length (AP CV.c (C8 b types)) 63) (fun d=>tO (.own d 9 (C8 b types).length)):=by
 refine MO Try.func14 rfl kr (Ox _ _) fun W0 M0 => ?_
 refine AB<|on<|AB ?_
 refine rn ⟨[(GQ types),(2,tP 2 0),(5,tP 5 0)],[(Lz b),(5,.cells [.om 14] 124),(14,.omap false 1 0 (fun _=>undef) (fun _ _=>default))]⟩ ?_
 refine Aq (Cv.trans (BS (⟨[(GQ types),(2,tP 2 0),(5,tP 5 0)],[(Lz b),(5,.cells [.om 14] 124),(14,.omap false 1 ([]:List (AU×ByteArray)).length (kfG B9 ([]:List (AU×ByteArray))) (vfG (fun x=>[.s x]) ([]:List (AU×ByteArray))))]⟩) lr (.cons ⟨rfl,.refl _⟩ (.cons ⟨rfl,.refl _⟩ (.cons ⟨rfl,gU (ck:=B9) (cv:=(fun x=>[.s x]))⟩ .nil)))) (Cv.refl _))<|AB<|AB ?_
 refine rs 17 (Z0j b) ⟨[(GQ types),(2,tP 2 0),(5,tP 5 0),(NZ b)],[(Lz b),(5,.cells [.om 14] 124),(14,.omap false 1 ([]:List (AU×ByteArray)).length (kfG B9 ([]:List (AU×ByteArray))) (vfG (fun x=>[.s x]) ([]:List (AU×ByteArray))))]⟩ (cPu<|ZA b.Nets)<|AF<|AX ?_
 refine Aq (Cv.trans (vr 2 200002 hk0) (Cv.trans (vr 5 200005 hk0) (Cv.trans (wr (⟨(Ng types [(NZ b)]),[(EN b),EO,(200014,.omap false 1 ([]:List (AU×ByteArray)).length (kfG B9 ([]:List (AU×ByteArray))) (vfG (fun x=>[.s x]) ([]:List (AU×ByteArray))))]⟩) 14 200014 hk0) (Cv.refl _)))) ?_
 refine Pa (ι:=List (AU×ByteArray)) [200002,200005,200014] 299999 200002 9999 299998 (fun x=>[(200002,.cells (DE b) 42),(200005,.cells [.om 200014] 124),(200014,.omap false 1 x.length (kfG B9 x) (vfG (fun x=>[.s x]) x))]) (fun x0=>[(1,tO (lst 3 AV.c types)),(2,tP 200002 0),(5,tP 200005 0),(7,.av (.one (.eptr 2 1 (gD (A7.c (b.Nets.getD (b.Nets.length-1-x0.val) default))) 0 0))),(17,.av (.one (.clo 67 1 (Co [.eptr 1 1 (gD [lst 2 A7.c b.Nets]) 0 0]))))]) (fun j x=>True) (fun y x=>Eb b types (b.Nets.length-y) y x=C8 b types) ([]:List (AU×ByteArray)) (fun _=>rfl) kr kr (fun _ _=>kr) (kW b.Nets oM) kr (fun _=>by kernel_rfl) (fun _=>rfl) (fun _=>rfl) (fun x=>(Da (p:=BkN) (by simp only [List.forall_mem_cons];exact ⟨VE (ME _),VE (by simp only [List.forall_mem_cons];exact ⟨(.om _),fun x hx=>by cases hx⟩),mD (fun x y hy=>by rw [List.mem_singleton.1 hy];exact (.val _)),fun x hx=>by cases hx⟩))) (fun x0=>(Da (p:=TvM) (by simp only [List.forall_mem_cons];exact ⟨CQ (Cq O4),CQ (.ptr _ _),CQ (.ptr _ _),CQ (HY (Sz _)),CQ (eJ (by simp only [List.forall_mem_cons];exact ⟨(HY (by simp only [List.forall_mem_cons];exact ⟨(Cq Sz),fun x hx=>by cases hx⟩)),fun x hx=>by cases hx⟩)),fun x hx=>by cases hx⟩))) (fun _=>by kernel_rfl) ax0 (by simp only [C8,Nat.sub_zero,cond_true,cond_false]) (fun l1 W1 M1 X1 x0 j AR hinv hPX => ?_) (fun l2 W2 M2 X2 x0 j AR hPX hj hinv => ?_) (fun AR hinv hF0 => ?_)
 ·have hinv0:True:=hinv;clear hinv
  refine EF ?_
  refine rg ⟨(Ng types [(7,tP 7 0),(NZ b)]),[(7,.cells (A7.c (D3 b x0.val)) 48),(EN b),EO,(200014,.omap false 1 AR.length (kfG B9 AR) (vfG (fun x=>[.s x]) AR))]⟩ ?_
  exact ⟨_,Cv.trans (PS (⟨(Ng types [(Vu b x0.val),(NZ b)]),[(EN b),EO,(200014,.omap false 1 AR.length (kfG B9 AR) (vfG (fun x=>[.s x]) AR))]⟩) 7 (A7.c (b.Nets.getD (b.Nets.length-1-x0.val) default)) 48 [200002,200005,200014] 299998 hPX kr (fun h=>by obtain ⟨_,h⟩:=h;cases h) kr kr kr) (Cv.refl _),rfl,rfl⟩
 ·have hinv0:True:=hinv;clear hinv
  obtain ⟨Xb0,hXb0⟩:∃ Xb,Eb b types (b.Nets.length-x0.val) x0.val AR=Xb:=⟨_,rfl⟩
  have hF0:=hXb0
  rw [show b.Nets.length-x0.val=(b.Nets.length-(x0.val+1))+1 by have:=x0.isLt;omega] at hF0
  have hqx:=HI (p:=fun n:A7=>(n.Pins.length:Int)<=1000000) (by decide) hq (b.Nets.length-1-x0.val)
  refine EF<|AX<|AB ?_
  refine rn ⟨(Lw types b x0.val [(23,tI 0)]),[(EN b),EO,(200014,.omap false 1 AR.length (kfG B9 AR) (vfG (fun x=>[.s x]) AR))]⟩<|AX ?_
  refine Bc (ι:=Nat×List (AU×ByteArray)×Int) (fun x=>⟨(Lw types b x0.val [(23,tI x.2.2)]),[(EN b),EO,(200014,.omap false 1 x.2.1.length (kfG B9 x.2.1) (vfG (fun x=>[.s x]) x.2.1))]⟩) (fun x=>(((b.Nets.getD (b.Nets.length-1-x0.val) default).Pins.length:Int)-x.2.2).toNat<x.1/\(0<=x.2.2/\(x.2.2<=((b.Nets.getD (b.Nets.length-1-x0.val) default).Pins.length:Int)\/x.2.2=0))/\JY b types AR x0.val (Eb b types (b.Nets.length-(x0.val+1)) (x0.val+1)) x.1 x.2.1 x.2.2=Xb0) (fun x=>x.1) ?_ ((((b.Nets.getD (b.Nets.length-1-x0.val) default).Pins.length:Int)-0).toNat+1,AR,0) ⟨Nat.lt_succ_self _,⟨ax0,ax0⟩,(by rw [<- hF0];simp only [Eb,cond_true,cond_false])⟩
  rintro ⟨n1,A9,v23⟩ ⟨hm1,hinv1,hF1⟩
  try dsimp only at hm1 hinv1 hF1
  cases n1 with | zero=>exact nz hm1 | succ n1 => ?_
  refine AB<|rn ⟨(Lw types b x0.val [(23,tI v23),(24,tB (decide ((v23:Int)<((b.Nets.getD (b.Nets.length-1-x0.val) default).Pins.length:Int))))]),[(EN b),EO,(200014,.omap false 1 A9.length (kfG B9 A9) (vfG (fun x=>[.s x]) A9))]⟩<|AB ?_
  refine AL _ rfl (fun h1 => ?_) (fun h1 => ?_)
  ·have g1:=oT h1
   refine Af<|AF ?_
   refine AB<|AX<|AB ?_
   refine rc [] [0<=(v23:Int)/\(v23:Int)<(((b.Nets.getD (b.Nets.length-1-x0.val) default).Pins.length:Nat):Int)] ⟨(Ng types [(Vu b x0.val),(9,tP 9 0),(NZ b),(aT b x0.val),(aW b x0.val),(23,tI v23)]),[(9,.cells (AU.c ((D3 b x0.val).Pins.getD v23.toNat default)) 25),(EN b),EO,(200014,.omap false 1 A9.length (kfG B9 A9) (vfG (fun x=>[.s x]) A9))]⟩ .nil (.cons au1 .nil)<|AF ?_
   refine C4 DV [] [(999999,((Ew Bt A9 ((D3 b x0.val).Pins.getD v23.toNat default)),(Do Bt A9 ((D3 b x0.val).Pins.getD v23.toNat default))))] [] [1,2,5,7,17,21,22,23] [200002,200005,200014] [VI Try.prog eqE 25 A9.length (kfG B9 A9) (B9 ((b.Nets.getD (b.Nets.length-1-x0.val) default).Pins.getD v23.toNat default)) (Ew Bt A9 ((b.Nets.getD (b.Nets.length-1-x0.val) default).Pins.getD v23.toNat default)) (Do Bt A9 ((b.Nets.getD (b.Nets.length-1-x0.val) default).Pins.getD v23.toNat default))] ⟨(Lw types b x0.val [(23,tI v23)]),[(EN b),EO,(200014,.omap false 1 (bif Ew Bt A9 ((D3 b x0.val).Pins.getD v23.toNat default) then A9.length else A9.length+1) (fun j=>bif Nat.beq j (bif Ew Bt A9 ((D3 b x0.val).Pins.getD v23.toNat default) then Do Bt A9 ((D3 b x0.val).Pins.getD v23.toNat default) else A9.length) then B9 ((D3 b x0.val).Pins.getD v23.toNat default) else kfG B9 A9 j) (fun j c=>bif Nat.beq j (bif Ew Bt A9 ((D3 b x0.val).Pins.getD v23.toNat default) then Do Bt A9 ((D3 b x0.val).Pins.getD v23.toNat default) else A9.length) then ([.s (D3 b x0.val).Name]:List Cl).getD c default else vfG (fun x=>[.s x]) A9 j c))]⟩ .nil kr (.cons (Uh Qi VA _ _) .nil)<|A8<|AF ?_
   refine Aq (Cv.trans (BS (⟨(Lw types b x0.val [(23,tI v23)]),[(EN b),EO,(200014,.omap false 1 (JD Bt A9 ((D3 b x0.val).Pins.getD v23.toNat default) (D3 b x0.val).Name).length (kfG B9 (JD Bt A9 ((D3 b x0.val).Pins.getD v23.toNat default) (D3 b x0.val).Name)) (vfG (fun x=>[.s x]) (JD Bt A9 ((D3 b x0.val).Pins.getD v23.toNat default) (D3 b x0.val).Name)))]⟩) lr (.cons ⟨rfl,.refl _⟩ (.cons ⟨rfl,.refl _⟩ (.cons ⟨rfl,gT (ck:=B9) (cv:=(fun x=>[.s x])) (eq:=Bt) A9 ((b.Nets.getD (b.Nets.length-1-x0.val) default).Pins.getD v23.toNat default) (b.Nets.getD (b.Nets.length-1-x0.val) default).Name [.s (b.Nets.getD (b.Nets.length-1-x0.val) default).Name] rfl⟩ .nil)))) (Cv.refl _)) ?_
   refine rg ⟨(Lw types b x0.val [(23,tI (W64 (v23+1)))]),[(EN b),EO,(200014,.omap false 1 (JD Bt A9 ((D3 b x0.val).Pins.getD v23.toNat default) (D3 b x0.val).Name).length (kfG B9 (JD Bt A9 ((D3 b x0.val).Pins.getD v23.toNat default) (D3 b x0.val).Name)) (vfG (fun x=>[.s x]) (JD Bt A9 ((D3 b x0.val).Pins.getD v23.toNat default) (D3 b x0.val).Name)))]⟩ ?_
   (try rw [(show W64 (v23+1)=v23+1 from A1 oM au9)])
   refine AF ?_
   refine ⟨(n1,JD Bt A9 ((b.Nets.getD (b.Nets.length-1-x0.val) default).Pins.getD v23.toNat default) (b.Nets.getD (b.Nets.length-1-x0.val) default).Name,v23+1),⟨?_,?_,(by rw [<- hF1];simp only [JY,h1,cond_true,cond_false])⟩,Nat.lt_succ_self _,BM kr⟩
   ·show (((b.Nets.getD (b.Nets.length-1-x0.val) default).Pins.length:Int)-(v23+1)).toNat<n1;omega
   exact ⟨ax0,ax0⟩
  have g1:=oF h1
  refine BU<|BE ?_
  refine BE<|BV<|A8 ?_
  refine ⟨_,Cv.trans (ck (⟨(Ng types [(NZ b)]),[(EN b),EO,(200014,.omap false 1 A9.length (kfG B9 A9) (vfG (fun x=>[.s x]) A9))]⟩)) (Cv.refl _),rfl,A9,ax0,fun hk hF => ?_,fun _ _ h=>h⟩
  have e0:Eb b types (b.Nets.length-(x0.val+1)) (x0.val+1) A9=Xb0:=by
   rw [<- hF1]
   first | (simp only [JY,h1,cond_true,cond_false] <;> rfl)
  subst hk
  change Eb b types (b.Nets.length-x0.val) x0.val AR=C8 b types at hF
  show Eb b types (b.Nets.length-(x0.val+1)) (x0.val+1) A9=C8 b types
  exact e0.trans (hXb0.symm.trans hF)
 have hinv0:True:=hinv;clear hinv
 change Eb b types (b.Nets.length-b.Nets.length) b.Nets.length AR=C8 b types at hF0
 rw [Nat.sub_self] at hF0
 refine A8<|AF<|AB ?_
 refine on ?_
 refine AB<|AB ?_
 refine rs 34 (Z0k b types) ⟨[(2,tP 200002 0),(5,tP 200005 0),(10,tP 10 0),(Nl b types)],[(10,.cells [vN] 60),(EN b),EO,(200014,.omap false 1 AR.length (kfG B9 AR) (vfG (fun x=>[.s x]) AR))]⟩ (cPu<|ppads b types)<|AF<|AX ?_
 refine Aq (Cv.trans (vr 10 200010 hk0) (Cv.trans (vk [2,5,10,34] [200002,200005,200010,200014]) (Cv.trans (vg 100000 9 (fun _ _=>default) 63 [] [(200010,[0])] hk0) (Cv.trans (Fx (⟨(Rs b types),[(100000,.row 9 ([]:List CV).length (AP CV.c ([]:List CV)) 63),(EN b),EO,(200010,.cells [.own 100000 9 ([]:List CV).length] 60),(200014,.omap false 1 AR.length (kfG B9 AR) (vfG (fun x=>[.s x]) AR))]⟩) 100000 (CL 9 (fun _ _=>default) CV.c)) (Cv.refl _))))) ?_
 refine Pa (ι:=List CV) [200002,200005,200010,200014] 299999 200010 0 100000 (fun x=>[(100000,.row 9 x.length (AP CV.c x) 63),(200002,.cells (DE b) 42),(200005,.cells [.om 200014] 124),(200010,.cells [.own 100000 9 x.length] 60),(200014,.omap false 1 AR.length (kfG B9 AR) (vfG (fun x=>[.s x]) AR))]) (fun x2=>[(2,tP 200002 0),(5,tP 200005 0),(10,tP 200010 0),(11,.av (.one (.eptr 7 1 (gD (AG.c ((Aw b types).getD x2.val default).1)) 0 0))),(12,.av (.one (.eptr 7 1 (gD (BJ.c ((Aw b types).getD x2.val default).2)) 0 0))),(34,.av (.one (.clo 68 2 (Co [.eptr 15 1 (gD (DE b)) 0 0,.eptr 1 1 (gD [lst 3 AV.c types]) 0 0]))))]) (fun j x=>x.length<=j) (fun y x=>E2 b types AR (fun _=>default) ((Aw b types).length-y) y x=C8 b types) ([]:List CV) (fun _=>rfl) kr kr (fun _ _=>kr) (jQ b types hp ht) kr (fun _=>by kernel_rfl) (fun _=>rfl) (fun _=>rfl) (fun x=>(Da (p:=BkN) (by simp only [List.forall_mem_cons];exact ⟨bkN_r eO,VE (ME _),VE (by simp only [List.forall_mem_cons];exact ⟨(.om _),fun x hx=>by cases hx⟩),VE (by simp only [List.forall_mem_cons];exact ⟨(.own _ _ _),fun x hx=>by cases hx⟩),mD (fun x y hy=>by rw [List.mem_singleton.1 hy];exact (.val _)),fun x hx=>by cases hx⟩))) (fun x2=>(Da (p:=TvM) (by simp only [List.forall_mem_cons];exact ⟨CQ (.ptr _ _),CQ (.ptr _ _),CQ (.ptr _ _),CQ (HY (Fi _)),CQ (HY (Jb _)),CQ (eJ (by simp only [List.forall_mem_cons];exact ⟨(HY (ME _)),(HY (by simp only [List.forall_mem_cons];exact ⟨(Cq O4),fun x hx=>by cases hx⟩)),fun x hx=>by cases hx⟩)),fun x hx=>by cases hx⟩))) (fun _=>by kernel_rfl) ax0 (by rw [<- hF0];simp only [Eb,Nat.sub_zero,cond_true,cond_false]) (fun l1 W1 M1 X1 x2 j A3 hinv hPX => ?_) (fun l2 W2 M2 X2 x2 j A3 hPX hj hinv => ?_) (fun A3 hinv hF2 => ?_)
 ·have hinv2:A3.length<=j:=hinv;clear hinv
  refine EF<|AB ?_
  refine on ?_
  refine rg ⟨(Lr [(11,tP 11 0),(12,tP 12 0),(Nl b types)]),[(11,.cells (AG.c ((Aw b types).getD x2.val default).1) 59),(12,.cells (BJ.c ((Aw b types).getD x2.val default).2) 118),(I7 A3),(EN b),EO,(I5 A3),(200014,.omap false 1 AR.length (kfG B9 AR) (vfG (fun x=>[.s x]) AR))]⟩ ?_
  exact ⟨_,Cv.trans (PS (⟨(Lr [(Xe b types x2.val),(12,tP 12 0),(Nl b types)]),[(12,.cells (BJ.c ((Aw b types).getD x2.val default).2) 118),(I7 A3),(EN b),EO,(I5 A3),(200014,.omap false 1 AR.length (kfG B9 AR) (vfG (fun x=>[.s x]) AR))]⟩) 11 (AG.c ((Aw b types).getD x2.val default).1) 59 [200002,200005,200010,200014] 100000 hPX kr (fun _=>⟨_,rfl⟩) kr kr kr) (Cv.trans (PS (⟨(Lr [(Xe b types x2.val),(cB b types x2.val),(Nl b types)]),[(I7 A3),(EN b),EO,(I5 A3),(200014,.omap false 1 AR.length (kfG B9 AR) (vfG (fun x=>[.s x]) AR))]⟩) 12 (BJ.c ((Aw b types).getD x2.val default).2) 118 [200002,200005,200010,200014] 100000 hPX kr (fun _=>⟨_,rfl⟩) kr kr kr) (Cv.refl _)),rfl,rfl⟩
 ·have hinv2:A3.length<=j:=hinv;clear hinv
  obtain ⟨Xb2,hXb2⟩:∃ Xb,E2 b types AR (fun _=>default) ((Aw b types).length-x2.val) x2.val A3=Xb:=⟨_,rfl⟩
  have hF2:=hXb2
  rw [show (Aw b types).length-x2.val=((Aw b types).length-(x2.val+1))+1 by have:=x2.isLt;omega] at hF2
  have hpe:=ZC (b:=b) ht x2.val
  refine EF<|AX<|AB ?_
  refine TZ LI DV [] [(47,((Ew Bt AR (Py b types x2.val)),(Do Bt AR (Py b types x2.val))))] [] [2,5,10,11,12,13,34] [13,100000,200002,200005,200010,200014] [VI Try.prog eqE 25 AR.length (kfG B9 AR) (B9 (AU.mk ((Aw b types).getD x2.val default).1.Ref ((Aw b types).getD x2.val default).2.Name)) (Ew Bt AR (AU.mk ((Aw b types).getD x2.val default).1.Ref ((Aw b types).getD x2.val default).2.Name)) (Do Bt AR (AU.mk ((Aw b types).getD x2.val default).1.Ref ((Aw b types).getD x2.val default).2.Name))] ⟨(SZ b types x2.val),[(13,.cells (Lv b types x2.val [.s (Xi AR b types x2.val),.i 1,.i b.Layers,.i 0,vN,.i 0]) 63),(I7 A3),(EN b),EO,(I5 A3),(200014,.omap false 1 AR.length (kfG B9 AR) (vfG (fun x=>[.s x]) AR))]⟩ .nil kr kr (.cons (Uh Qi VA _ _) .nil)<|AF ?_
  refine AB<|AB ?_
  refine rn ⟨(Lr [(Xe b types x2.val),(cB b types x2.val),(13,tP 13 0),(Nl b types),(53,tB (decide ((((Aw b types).getD x2.val default).2.Drill:Int)=0)))]),[(13,.cells (Lv b types x2.val [.s (Xi AR b types x2.val),.i 1,.i b.Layers,.i 0,vN,.i 0]) 63),(I7 A3),(EN b),EO,(I5 A3),(200014,.omap false 1 AR.length (kfG B9 AR) (vfG (fun x=>[.s x]) AR))]⟩ ?_
  refine CD (⟨(SZ b types x2.val),[(13,.cells (Lv b types x2.val [.s (bif Ew Bt AR (Py b types x2.val) then (AR.getD (Do Bt AR (Py b types x2.val)) default).2 else ⟨#[]⟩),.i (bif decide ((((Aw b types).getD x2.val default).2.Drill:Int)=0) then (Pt b types x2.val) else 1),.i (bif decide ((((Aw b types).getD x2.val default).2.Drill:Int)=0) then (Pt b types x2.val) else b.Layers),.i 0,vN,.i 0]) 63),(I7 A3),(EN b),EO,(I5 A3),(200014,.omap false 1 AR.length (kfG B9 AR) (vfG (fun x=>[.s x]) AR))]⟩) ?_ ?_
  ·refine AL _ rfl (fun h1 => ?_) (fun h1 => ?_)
   ·refine dw [] [(56,NA b ((Aw b types).getD x2.val default).1),(59,NA b ((Aw b types).getD x2.val default).1)] [A0 (NA b ((Aw b types).getD x2.val default).1).2.1,A0 (NA b ((Aw b types).getD x2.val default).1).2.1] ⟨(SZ b types x2.val),[(13,.cells (Lv b types x2.val [.s (Xi AR b types x2.val),.i (Pt b types x2.val),.i (Pt b types x2.val),.i 0,vN,.i 0]) 63),(I7 A3),(EN b),EO,(I5 A3),(200014,.omap false 1 AR.length (kfG B9 AR) (vfG (fun x=>[.s x]) AR))]⟩ (.cons (We b ((Aw b types).getD x2.val default).1) (.cons (We b ((Aw b types).getD x2.val default).1) .nil)) (.cons rfl (.cons rfl .nil))<|AF ?_
    refine BM ?_
    first | rfl | (simp only [h1,cond_true,cond_false] <;> rfl)
   refine Af<|AF ?_
   refine Cv.trans (ck (⟨(SZ b types x2.val),[(13,.cells (Lv b types x2.val [.s (bif Ew Bt AR (Py b types x2.val) then (AR.getD (Do Bt AR (Py b types x2.val)) default).2 else ⟨#[]⟩),.i 1,.i b.Layers,.i 0,vN,.i 0]) 63),(I7 A3),(EN b),EO,(I5 A3),(200014,.omap false 1 AR.length (kfG B9 AR) (vfG (fun x=>[.s x]) AR))]⟩)) (BM ?_)
   first | rfl | (simp only [h1,cond_true,cond_false] <;> rfl)
  refine AB<|od [] [(65,HL ((Aw b types).getD x2.val default).1),(66,TU ((Aw b types).getD x2.val default).2.Shape (C9 ((Aw b types).getD x2.val default).1))] [A0 (HL ((Aw b types).getD x2.val default).1).2.1,A0 (TU ((Aw b types).getD x2.val default).2.Shape (C9 ((Aw b types).getD x2.val default).1)).2.1] (.cons (O3 ((Aw b types).getD x2.val default).1) (.cons (jY ((Aw b types).getD x2.val default).2.Shape (C9 ((Aw b types).getD x2.val default).1) au21) .nil)) (.cons rfl (.cons rfl .nil))<|AF ?_
  refine rc [] [A3.length=A3.length,A3.length+1<=maxLen,(A3.length+1)*104<=140737488355328] ⟨(Rs b types),[(71,.row 9 (A3.length+1) (fun i_ j_=>if i_<A3.length then (AP CV.c A3) i_ j_ else (As 9 1 (Lv b types x2.val [.s (Xi AR b types x2.val),.i (bif decide ((((Aw b types).getD x2.val default).2.Drill:Int)=0) then (Pt b types x2.val) else 1),.i (bif decide ((((Aw b types).getD x2.val default).2.Drill:Int)=0) then (Pt b types x2.val) else b.Layers),.i (Zv b types x2.val).Kind,lst 7 AQ.c (Zv b types x2.val).Edges,.i (Zv b types x2.val).R])) (i_-A3.length) j_) 63),(EN b),EO,(200010,.cells [.own 71 9 (A3.length+1)] 60),(200014,.omap false 1 AR.length (kfG B9 AR) (vfG (fun x=>[.s x]) AR))]⟩ .nil (.cons rfl (.cons au3 (.cons au3 .nil)))<|A8 ?_
  refine ⟨_,Cv.trans (BS (⟨(Rs b types),[(71,.row 9 (A3++(Yn b types x2.val AR)).length (AP CV.c (A3++(Yn b types x2.val AR))) 63),(EN b),EO,(200010,.cells [.own 71 9 (A3++(Yn b types x2.val AR)).length] 60),(200014,.omap false 1 AR.length (kfG B9 AR) (vfG (fun x=>[.s x]) AR))]⟩) lr (.cons ⟨rfl,Ao 63 (Au (An 9 CV.c A3) (Ae (c:=CV.c) (xs:=([CV.mk ((Aw b types).getD x2.val default).1.Id ((Aw b types).getD x2.val default).2.Name 1 (bif Ew Bt AR (AU.mk ((Aw b types).getD x2.val default).1.Ref ((Aw b types).getD x2.val default).2.Name) then (AR.getD (Do Bt AR (AU.mk ((Aw b types).getD x2.val default).1.Ref ((Aw b types).getD x2.val default).2.Name)) default).2 else ⟨#[]⟩) (bif decide ((((Aw b types).getD x2.val default).2.Drill:Int)=0) then (FU b ((Aw b types).getD x2.val default).1) else 1) (bif decide ((((Aw b types).getD x2.val default).2.Drill:Int)=0) then (FU b ((Aw b types).getD x2.val default).1) else b.Layers) (G8 ((Aw b types).getD x2.val default).2.Shape (C9 ((Aw b types).getD x2.val default).1))]:List CV)) rfl kr))⟩ (.cons ⟨rfl,.refl _⟩ (.cons ⟨rfl,.refl _⟩ (.cons ⟨rfl,.cells _ (.cons (.own _ _ au0) .nil)⟩ lr))))) (Cv.trans (wr (⟨(Rs b types),[(100000,.row 9 (A3++(Yn b types x2.val AR)).length (AP CV.c (A3++(Yn b types x2.val AR))) 63),(EN b),EO,(200010,.cells [.own 100000 9 (A3++(Yn b types x2.val AR)).length] 60),(200014,.omap false 1 AR.length (kfG B9 AR) (vfG (fun x=>[.s x]) AR))]⟩) 71 100000 (K:=[299999,200002,200005,200010,200014]) (fun k x h=>.inl (hPX k x h))) (Cv.refl _)),rfl,(A3++[CV.mk ((Aw b types).getD x2.val default).1.Id ((Aw b types).getD x2.val default).2.Name 1 (bif Ew Bt AR (AU.mk ((Aw b types).getD x2.val default).1.Ref ((Aw b types).getD x2.val default).2.Name) then (AR.getD (Do Bt AR (AU.mk ((Aw b types).getD x2.val default).1.Ref ((Aw b types).getD x2.val default).2.Name)) default).2 else ⟨#[]⟩) (bif decide ((((Aw b types).getD x2.val default).2.Drill:Int)=0) then (FU b ((Aw b types).getD x2.val default).1) else 1) (bif decide ((((Aw b types).getD x2.val default).2.Drill:Int)=0) then (FU b ((Aw b types).getD x2.val default).1) else b.Layers) (G8 ((Aw b types).getD x2.val default).2.Shape (C9 ((Aw b types).getD x2.val default).1))]),ax0,fun hk hF => ?_,fun _ _ h=>h⟩
  have e0:E2 b types AR (fun _=>default) ((Aw b types).length-(x2.val+1)) (x2.val+1) (A3++[CV.mk ((Aw b types).getD x2.val default).1.Id ((Aw b types).getD x2.val default).2.Name 1 (bif Ew Bt AR (AU.mk ((Aw b types).getD x2.val default).1.Ref ((Aw b types).getD x2.val default).2.Name) then (AR.getD (Do Bt AR (AU.mk ((Aw b types).getD x2.val default).1.Ref ((Aw b types).getD x2.val default).2.Name)) default).2 else ⟨#[]⟩) (bif decide ((((Aw b types).getD x2.val default).2.Drill:Int)=0) then (FU b ((Aw b types).getD x2.val default).1) else 1) (bif decide ((((Aw b types).getD x2.val default).2.Drill:Int)=0) then (FU b ((Aw b types).getD x2.val default).1) else b.Layers) (G8 ((Aw b types).getD x2.val default).2.Shape (C9 ((Aw b types).getD x2.val default).1))])=Xb2:=by
   rw [<- hF2]
   first | (simp only [E2,cond_true,cond_false] <;> rfl)
  subst hk
  change E2 b types AR (fun _=>default) ((Aw b types).length-x2.val) x2.val A3=C8 b types at hF
  show E2 b types AR (fun _=>default) ((Aw b types).length-(x2.val+1)) (x2.val+1) (A3++[CV.mk ((Aw b types).getD x2.val default).1.Id ((Aw b types).getD x2.val default).2.Name 1 (bif Ew Bt AR (AU.mk ((Aw b types).getD x2.val default).1.Ref ((Aw b types).getD x2.val default).2.Name) then (AR.getD (Do Bt AR (AU.mk ((Aw b types).getD x2.val default).1.Ref ((Aw b types).getD x2.val default).2.Name)) default).2 else ⟨#[]⟩) (bif decide ((((Aw b types).getD x2.val default).2.Drill:Int)=0) then (FU b ((Aw b types).getD x2.val default).1) else 1) (bif decide ((((Aw b types).getD x2.val default).2.Drill:Int)=0) then (FU b ((Aw b types).getD x2.val default).1) else b.Layers) (G8 ((Aw b types).getD x2.val default).2.Shape (C9 ((Aw b types).getD x2.val default).1))])=C8 b types
  exact e0.trans (hXb2.symm.trans hF)
 have hinv2:A3.length<=(Aw b types).length:=hinv;clear hinv
 change E2 b types AR (fun _=>default) ((Aw b types).length-(Aw b types).length) (Aw b types).length A3=C8 b types at hF2
 rw [Nat.sub_self] at hF2
 refine A8<|AF<|AB ?_
 refine on<|Ac ?_
 exact xl (tO (.own 100000 9 A3.length)) (frE (c:=CV.c) (xs:=A3) (by rw [<- hF2];first | (simp only [E2,cond_true,cond_false] <;> rfl)) kr)
end
section
open Go.RowKit
theorem J7 {types:List AV} (h:Cd types) (name:ByteArray):((Ci types name).1.Pads.length:Int)<=1000000:=by rw [Jr];exact LR h name
variable (b:AC) (t:AV) (types:List AV) (p:AU) (pad:ByteArray)
def gM:CT:=(14,[.agg (DE b),.one (Ii types)],.val [] (.av (.one (lst 9 CV.c (C8 b types)))))
theorem jX (b:AC) (types:(List AV)) (hn:(b.Nets.length:Int)<=1000000) (hp:b.Parts.length<20) (ht:Cd types) (hm:((Aw b types).length:Int)<=20000000) (hq:∀ n∈b.Nets,(n.Pins.length:Int)<=1000000):OKc (gM b types):=cPu<|Ok (qPads b types hn hp ht hm hq)
abbrev Rt:List Cl:=[.s (⟨#[]⟩),.i 0,vN,.i 0,.i 0,.i 0,.i 0]
def Z0l:Blk:=.cells Rt 118
def Z0m:BJ:=t.Pads.getD (GB t.Pads pad).toNat default
def Z0n:Blk:=.cells [.s (Z0m t pad).Name,.i (Z0m t pad).Shape.Kind,.own 23 7 (Z0m t pad).Shape.Edges.length,.i (Z0m t pad).Shape.R,.i (Z0m t pad).At.X,.i (Z0m t pad).At.Y,.i (Z0m t pad).Drill] 118
def Z0o:Blk:=.row 7 (Z0m t pad).Shape.Edges.length (AP AQ.c (Z0m t pad).Shape.Edges) 133
def FV (t:AV) (pad:ByteArray):(BJ×Bool):=bif decide (((GB t.Pads pad):Int)<0) then (BJ.mk (⟨#[]⟩) (A2.mk 0 [] 0) (AE.mk 0 0) 0,false) else (BJ.mk (Z0m t pad).Name (A2.mk (Z0m t pad).Shape.Kind (Z0m t pad).Shape.Edges (Z0m t pad).Shape.R) (Z0m t pad).At (Z0m t pad).Drill,true)
def gP:CT:=(32,[.agg (AV.c t),.one (.s pad)],.val [] (.tup [.agg (BJ.c (FV t pad).1),.one (.b (FV t pad).2)]))
abbrev KP:Nat×Blk:=(2,.cells (AV.c t) 114)
abbrev aI:List Av:=[.agg [.s (⟨#[]⟩),.i 0,lst 7 AQ.c [],.i 0,.i 0,.i 0,.i 0],.one (.b false)]
theorem pFind (t:AV) (pad:ByteArray) (h0:(t.Pads.length:Int)<=1000000) (ha:∀ k,((t.Pads.getD k default).Shape.Edges.length:Int)<=1000000):PuP 32 (gP t pad).2.1 (.tup [.agg (BJ.c (FV t pad).1),.one (.b (FV t pad).2)]):=by
 refine pwf Try.func32 fun W0 M0 => ?_
 have ha1:=ha (GB t.Pads pad).toNat
 refine AB<|on<|AB ?_
 refine oc [(11,(62,[.one (lst 7 BJ.c t.Pads),.one (.clo 63 1 (Co [.ptr 3 0]))],rdI [3] [.cells [.s pad] 9] (tI (GB t.Pads pad))))] [A0 [.one (lst 7 BJ.c t.Pads),.one (.clo 63 1 (Co [.ptr 3 0]))],Tb [.cells [.s pad] 9]] (.cons (MY (fun _ _=>kr) kr kr (Se (pixPd t.Pads pad au21) (.cons (AvE.refl _) (.cons (.one (.clo 63 1 _ _ (Dq kr))) .nil)))) .nil) (.cons rfl (.cons rfl .nil))<|AF ?_
 refine AB<|AB ?_
 refine rn ⟨[(2,tP 2 0),(4,tP 4 0),(6,tI (GB t.Pads pad)),(13,tB (decide (((GB t.Pads pad):Int)<0)))],[(KP t),(4,Z0l)]⟩ ?_
 refine AL _ rfl (fun h1 => ?_) (fun h1 => ?_)
 ·refine AB<|on ?_
  refine Ac<|Bf ?_
  exact xl (.tup [.agg Rt,.one (.b false)]) (DB (y:=.tup aI) (.tup (.cons (.agg (rr2 (.cons (Cm 7 AQ.c) (rr (rr (rr (rr .nil))))))) (.cons (AvE.refl _) .nil))) (by simp only [FV,h1,cond_true,cond_false] <;> rfl))
 have g1:=oF h1
 refine Af<|AF<|AB ?_
 refine oc [] [0<=(GB t.Pads pad:Int)/\(GB t.Pads pad:Int)<((t.Pads.length:Nat):Int)] .nil (.cons (by first | exact oU (by assumption) | omega) .nil)<|AF<|AB ?_
 refine oq 23 (NU (Z0m t pad).Shape.Edges) (O2 (Z0m t pad).Shape.Edges au21)<|AF<|AB ?_
 refine rn ⟨[(4,tP 4 0),(5,tB true)],[(4,Z0n t pad),(23,Z0o t pad)]⟩<|Ac ?_
 exact zy (Cv.trans (vf 23 hk0) (Cv.refl _)) (by simp only [FV,h1,cond_true,cond_false] <;> kernel_rfl)
theorem oC (t:AV) (pad:ByteArray) (h0:(t.Pads.length:Int)<=1000000) (ha:∀ k,((t.Pads.getD k default).Shape.Edges.length:Int)<=1000000):OKc (gP t pad):=cPu<|pFind t pad h0 ha
theorem M5 {types:List AV} (h:Cd types) (name:ByteArray):∀ k,(((Ci types name).1.Pads.getD k default).Shape.Edges.length:Int)<=1000000:=by
 rw [Jr]
 unfold U4
 cases hf:types.find? (fun t=>GU t name) with
 | none=>exact fun k=>(by decide:((0:Nat):Int)<=1000000)
 | some t=>exact fun k=>Ov (h.2 t (List.mem_of_find?_eq_some hf)) k
def Z0p (types:(List AV)) (b:AC) (p:AU):AV:=(Ci types (b.Parts.getD (ES b.Parts p).toNat default).Type').1
def Z0q:AG:=b.Parts.getD (ES b.Parts p).toNat default
def Z0r (b:AC) (p:AU) (types:(List AV)):AE:=Ah (C9 (Z0q b p)) (FV (Z0p types b p) p.Pad).1.At
def FAt (b:AC) (types:(List AV)) (p:AU):(AE×Int×Bool):=bif decide (((ES b.Parts p):Int)<0) then (AE.mk 0 0,0,false) else (bif !((FV (Z0p types b p) p.Pad).2) then (AE.mk 0 0,0,false) else (Z0r b p types,FU b (Z0q b p),true))
def cAt:CT:=(10,[.agg (DE b),.one (Ii types),.agg (AU.c p)],.val [] (.tup [.agg (AE.c (FAt b types p).1),.one (.i (FAt b types p).2.1),.one (.b (FAt b types p).2.2)]))
abbrev L6:Nat×Blk:=(6,.cells [.i 0,.i 0] 52)
abbrev Ps:List (Nat×Blk):=[(3,.cells (DE b) 42),(5,.cells (AU.c p) 25),L6]
abbrev Lp (t_:List (Nat×Tv)):List (Nat×Tv):=(GQ types)::(3,tP 3 0)::(5,tP 5 0)::(6,tP 6 0)::t_
theorem au29 {p:Prop} (h:p:=by first | (exact M5 ht _) | (exact J7 ht _) | with_reducible assumption | omega | decide | (simp only [List.length_cons,List.length_nil,List.length_append];omega) | assumption):p:=h
theorem au31 {p:Prop} (h:p:=by first | exact oS (by assumption) | omega):p:=h
theorem pAt (b:AC) (types:(List AV)) (p:AU) (hp:(b.Parts.length:Int)<=1000000) (ht:Cd types):PuP 10 (cAt b types p).2.1 (.tup [.agg (AE.c (FAt b types p).1),.one (.i (FAt b types p).2.1),.one (.b (FAt b types p).2.2)]):=by
 refine pwf Try.func10 fun W0 M0 => ?_
 refine AB<|on<|AB ?_
 refine oc [(17,(29,[.one (lst 7 AG.c b.Parts),.one (.clo 30 1 (Co [.ptr 5 0]))],rdI [5] [.cells (AU.c p) 25] (tI (ES b.Parts p))))] [A0 [.one (lst 7 AG.c b.Parts),.one (.clo 30 1 (Co [.ptr 5 0]))],Tb [.cells (AU.c p) 25]] (.cons (MY (fun _ _=>kr) kr kr (Se (pixPl b.Parts p au29) (.cons (AvE.refl _) (.cons (.one (.clo 30 1 _ _ (Dq kr))) .nil)))) .nil) (.cons rfl (.cons rfl .nil))<|AF ?_
 refine AB<|AB ?_
 refine rn ⟨(Lp types [(9,tI (ES b.Parts p)),(19,tB (decide (((ES b.Parts p):Int)<0)))]),(Ps b p)⟩ ?_
 refine AL _ rfl (fun h1 => ?_) (fun h1 => ?_)
 ·refine AB<|on ?_
  refine Ac<|Bf ?_
  exact zl (by simp only [FAt,h1,cond_true,cond_false] <;> kernel_rfl)
 have g1:=oF h1
 refine Af<|AF<|AB ?_
 refine oc [(29,gO types (b.Parts.getD (ES b.Parts p).toNat default).Type')] [0<=(ES b.Parts p:Int)/\(ES b.Parts p:Int)<((b.Parts.length:Nat):Int),A0 (gO types (b.Parts.getD (ES b.Parts p).toNat default).Type').2.1] (.cons (lW types (b.Parts.getD (ES b.Parts p).toNat default).Type' au29) .nil) (.cons au31 (.cons rfl .nil))<|AF<|AB ?_
 refine oq 36 (gP (Z0p types b p) p.Pad) (oC (Z0p types b p) p.Pad au29 au29)<|AF ?_
 refine AB<|AB ?_
 refine rn ⟨[(3,tP 3 0),(6,tP 6 0),(9,tI (ES b.Parts p)),(12,tP 12 0),(40,tB (!((FV (Z0p types b p) p.Pad).2)))],[(3,.cells (DE b) 42),L6,(12,.cells (BJ.c (FV (Z0p types b p) p.Pad).1) 118)]⟩ ?_
 refine AL _ rfl (fun h2 => ?_) (fun h2 => ?_)
 ·refine AB<|on ?_
  refine Ac<|Bf ?_
  exact zl (by simp only [FAt,h1,h2,cond_true,cond_false] <;> kernel_rfl)
 refine Af<|AF<|AB ?_
 refine od [] [(47,HL (Z0q b p)),(50,CJ (C9 (Z0q b p)) (FV (Z0p types b p) p.Pad).1.At),(57,NA b (Z0q b p))] [0<=(ES b.Parts p:Int)/\(ES b.Parts p:Int)<((b.Parts.length:Nat):Int),A0 (HL (Z0q b p)).2.1,A0 (CJ (C9 (Z0q b p)) (FV (Z0p types b p) p.Pad).1.At).2.1,0<=(ES b.Parts p:Int)/\(ES b.Parts p:Int)<((b.Parts.length:Nat):Int),A0 (NA b (Z0q b p)).2.1] (.cons (O3 (Z0q b p)) (.cons (Dl (C9 (Z0q b p)) (FV (Z0p types b p) p.Pad).1.At) (.cons (We b (Z0q b p)) .nil))) (.cons au31 (.cons rfl (.cons rfl (.cons au31 (.cons rfl .nil)))))<|AF<|Ac ?_
 exact zl (by simp only [FAt,h1,h2,cond_true,cond_false] <;> kernel_rfl)
theorem oD (b:AC) (types:(List AV)) (p:AU) (hp:(b.Parts.length:Int)<=1000000) (ht:Cd types):OKc (cAt b types p):=cPu<|pAt b types p hp ht
end
section
open Go.RowKit
def Z0s:Blk:=.cells Nv 114
variable (types:List AV) (b:AC) (t:AV) (v9 k:Int) (name:ByteArray) (p:AU) (pad:ByteArray)
def Z0t:Bool:=((types.getD k.toNat default).Name.toList==name.toList)
def D1 (types:(List AV)) (name:ByteArray):Nat->Int->(AV×Bool)
 | 0,_=>default
 | n0+1,k=>bif decide ((k:Int)<(types.length:Int)) then (bif Z0t types k name then (types.getD k.toNat default,true) else ((D1 types name n0) (k+1))) else (AV.mk (⟨#[]⟩) [] [],false)
def Bp (types:(List AV)) (name:ByteArray):(AV×Bool):=D1 types name (((types.length:Int)-0).toNat+1) 0
def Kw:CT:=(35,[.one (Ii types),.one (.s name)],.val [] (.tup [.agg (AV.c (Bp types name).1),.one (.b (Bp types name).2)]))
theorem nN (types:(List AV)) (name:ByteArray) (h0:(types.length:Int)<=1000000):PuP 35 (Kw types name).2.1 (.tup [.agg (AV.c (Bp types name).1),.one (.b (Bp types name).2)]):=by
 refine pwf Try.func35 fun W0 M0 => ?_
 refine AB<|on ?_
 refine AB<|AB ?_
 refine rn ⟨[(H8 types),(1,tO (.s name)),(4,tP 4 0),(6,tI 0)],[(4,Z0s)]⟩<|AX ?_
 refine Bc (ι:=Nat×Int) (fun x=>⟨[(H8 types),(1,tO (.s name)),(4,tP 4 0),(6,tI x.2)],[(4,Z0s)]⟩) (fun x=>((types.length:Int)-x.2).toNat<x.1/\(0<=x.2/\0<=x.2/\(x.2<=(types.length:Int)\/x.2=0))/\D1 types name x.1 x.2=Bp types name) (fun x=>x.1) ?_ (((types.length:Int)-0).toNat+1,0) ⟨Nat.lt_succ_self _,⟨ax0,ax0,ax0⟩,(by simp only [Bp,cond_true,cond_false])⟩
 rintro ⟨n0,k⟩ ⟨hm0,hinv0,hF0⟩
 try dsimp only at hm0 hinv0 hF0
 cases n0 with | zero=>exact nz hm0 | succ n0 => ?_
 refine AB<|AB ?_
 refine rn ⟨[(H8 types),(1,tO (.s name)),(4,tP 4 0),(6,tI k),(10,tB (decide ((k:Int)<(types.length:Int))))],[(4,Z0s)]⟩ ?_
 refine AL _ rfl (fun h1 => ?_) (fun h1 => ?_)
 ·have g1:=oT h1
  refine Af<|AF ?_
  refine AB<|AX<|AB ?_
  refine rc [] [0<=(k:Int)/\(k:Int)<((types.length:Nat):Int)] ⟨[(H8 types),(1,tO (.s name)),(4,tP 4 0),(6,tI k),(19,tB (Z0t types k name))],[(4,Z0s)]⟩ .nil (.cons au1 .nil)<|AF ?_
  refine AL _ rfl (fun h2 => ?_) (fun h2 => ?_)
  ·refine AB<|oc [] [0<=(k:Int)/\(k:Int)<((types.length:Nat):Int)] .nil (.cons au1 .nil)<|AF ?_
   refine Ac<|Cb ?_
   refine Bf<|Bf ?_
   refine Cb<|Bf ?_
   exact zl (by rw [<- hF0];simp only [D1,h1,h2,cond_true,cond_false] <;> kernel_rfl)
  refine Af<|A8<|AF ?_
  refine rg ⟨[(H8 types),(1,tO (.s name)),(4,tP 4 0),(6,tI (W64 (k+1)))],[(4,Z0s)]⟩ ?_
  (try rw [(show W64 (k+1)=k+1 from A1 oM oM)])
  refine AF ?_
  refine ⟨(n0,k+1),⟨?_,?_,(by rw [<- hF0];simp only [D1,h1,h2,cond_true,cond_false])⟩,Nat.lt_succ_self _,BM kr⟩
  ·show ((types.length:Int)-(k+1)).toNat<n0;omega
  exact ⟨ax0,ax0,ax0⟩
 refine BU<|BE ?_
 refine BE<|BV ?_
 refine AF<|AB ?_
 refine on<|Ac ?_
 exact xl (.tup [.agg Nv,.one (.b false)]) (DB (y:=.tup Z8) (.tup (.cons (.agg (rr (.cons (Cm 7 BJ.c) (.cons (Cm 2 BL.c) .nil)))) (.cons (AvE.refl _) .nil))) (by rw [<- hF0];first | (simp only [D1,h1,cond_true,cond_false] <;> rfl)))
theorem Sv (types:(List AV)) (name:ByteArray) (h0:(types.length:Int)<=1000000):OKc (Kw types name):=cPu<|nN types name h0
def Z0u:Bool:=((t.Pads.getD k.toNat default).Name.toList==name.toList)
def D6 (t:AV) (name:ByteArray):Nat->Int->Int
 | 0,_=>default
 | n0+1,k=>bif decide ((k:Int)<(t.Pads.length:Int)) then (bif Z0u t k name then k else ((D6 t name n0) (k+1))) else (-1)
def DR (t:AV) (name:ByteArray):Int:=D6 t name (((t.Pads.length:Int)-0).toNat+1) 0
def PU:CT:=(66,[.agg (AV.c t),.one (.s name)],.val [] (.av (.one (.i (DR t name)))))
theorem dL (t:AV) (name:ByteArray) (h0:(t.Pads.length:Int)<=1000000):PuP 66 (PU t name).2.1 (tO (.i (DR t name))):=by
 refine pwf Try.func66 fun W0 M0 => ?_
 refine AB<|on ?_
 refine AB<|AB ?_
 refine rn ⟨[(1,tO (.s name)),(2,tP 2 0),(5,tI 0)],[(KP t)]⟩<|AX ?_
 refine Bc (ι:=Nat×Int) (fun x=>⟨[(1,tO (.s name)),(2,tP 2 0),(5,tI x.2)],[(KP t)]⟩) (fun x=>((t.Pads.length:Int)-x.2).toNat<x.1/\(0<=x.2/\0<=x.2/\(x.2<=(t.Pads.length:Int)\/x.2=0))/\D6 t name x.1 x.2=DR t name) (fun x=>x.1) ?_ (((t.Pads.length:Int)-0).toNat+1,0) ⟨Nat.lt_succ_self _,⟨ax0,ax0,ax0⟩,(by simp only [DR,cond_true,cond_false])⟩
 rintro ⟨n0,k⟩ ⟨hm0,hinv0,hF0⟩
 try dsimp only at hm0 hinv0 hF0
 cases n0 with | zero=>exact nz hm0 | succ n0 => ?_
 refine AB<|AB ?_
 refine rn ⟨[(1,tO (.s name)),(2,tP 2 0),(5,tI k),(10,tB (decide ((k:Int)<(t.Pads.length:Int))))],[(KP t)]⟩ ?_
 refine AL _ rfl (fun h1 => ?_) (fun h1 => ?_)
 ·have g1:=oT h1
  refine Af<|AF ?_
  refine AB<|AX<|AB ?_
  refine rc [] [0<=(k:Int)/\(k:Int)<((t.Pads.length:Nat):Int)] ⟨[(1,tO (.s name)),(2,tP 2 0),(5,tI k),(20,tB (Z0u t k name))],[(KP t)]⟩ .nil (.cons au1 .nil)<|AF ?_
  refine AL _ rfl (fun h2 => ?_) (fun h2 => ?_)
  ·refine AB<|on ?_
   refine Ac<|Cb ?_
   refine Bf<|Bf ?_
   refine Cb<|Bf ?_
   exact zl (by rw [<- hF0];simp only [D6,h1,h2,cond_true,cond_false] <;> kernel_rfl)
  refine Af<|A8<|AF ?_
  refine rg ⟨[(1,tO (.s name)),(2,tP 2 0),(5,tI (W64 (k+1)))],[(KP t)]⟩ ?_
  (try rw [(show W64 (k+1)=k+1 from A1 oM oM)])
  refine AF ?_
  refine ⟨(n0,k+1),⟨?_,?_,(by rw [<- hF0];simp only [D6,h1,h2,cond_true,cond_false])⟩,Nat.lt_succ_self _,BM kr⟩
  ·show ((t.Pads.length:Int)-(k+1)).toNat<n0;omega
  exact ⟨ax0,ax0,ax0⟩
 refine BU<|BE ?_
 refine BE<|BV ?_
 refine AF<|AB ?_
 refine on<|Ac ?_
 exact zl (by rw [<- hF0];simp only [D6,h1,cond_true,cond_false] <;> kernel_rfl)
theorem ZH (t:AV) (name:ByteArray) (h0:(t.Pads.length:Int)<=1000000):OKc (PU t name):=cPu<|dL t name h0
theorem YU {α β:Type} [Inhabited α] (f:α->Bool) (K:α->β) (D:β) (xs:List α) (g:Nat->Int->β) (hg:∀ m (v:Nat),g (m+1) v=bif decide ((v:Int)<(xs.length:Int)) then (bif f (xs.getD v default) then K (xs.getD v default) else g m ((v:Int)+1)) else D) :
  ∀ (k v m:Nat),xs.length-v=k->v<=xs.length->k<m->g m v=match (xs.drop v).find? f with | some x=>K x | none=>D:=by
 intro k
 induction k with
 | zero =>
  intro v m hk hv hm
  obtain ⟨m,rfl⟩:∃ k,m=k+1:=⟨m-1,by omega⟩
  rw [hg,decide_eq_false (by omega),cond_false,List.drop_eq_nil_of_le (by omega)]
  rfl
 | succ k ih =>
  intro v m hk hv hm
  obtain ⟨m,rfl⟩:∃ k,m=k+1:=⟨m-1,by omega⟩
  have hlt:v<xs.length:=by omega
  have e:xs.getD v default=xs[v]:=by rw [List.getD_eq_getElem?_getD,List.getElem?_eq_getElem hlt];rfl
  rw [hg,decide_eq_true (by omega),cond_true,e,List.drop_eq_getElem_cons hlt,List.find?_cons]
  cases f xs[v] with
  | true=>rfl
  | false=>exact ih (v+1) m (by omega) (by omega) (by omega)
theorem JX (t:AV) (name:ByteArray):DR t name=ixI (fun p=>KC p name) t.Pads:=by
 unfold DR
 have h:=YN (fun p=>KC p name) t.Pads (D6 t name) (fun m v=>by rw [D6];unfold Z0u;rw [Int.toNat_natCast];rfl) t.Pads.length 0 (((t.Pads.length:Int)-0).toNat+1) rfl (Nat.zero_le _) (by omega)
 rw [List.drop_zero] at h
 refine h.trans ?_
 unfold ixI
 cases t.Pads.findIdx? (fun p=>KC p name) with
 | none=>rfl
 | some i=>simp
theorem oV {t:AV} {c:ByteArray} (h:¬ DR t c<0):0<=DR t c/\DR t c<(t.Pads.length:Int):=by
 rw [JX] at *
 exact YO h
theorem ba_eq {a c:ByteArray} (h:(a.toList==c.toList)=true):a=c:=by have:=(XD a c).1 h;cases this;rfl
theorem Mm (types:List AV) (name:ByteArray):Bp types name=Ci types name:=by
 rw [Jr]
 unfold Bp U4
 have h:=YU (fun t=>GU t name) (fun t=>((t,true):AV×Bool)) (⟨⟨#[]⟩,[],[]⟩,false) types (D1 types name) (fun m v=>by rw [D1];unfold Z0t;rw [Int.toNat_natCast];rfl) types.length 0 (((types.length:Int)-0).toNat+1) rfl (Nat.zero_le _) (by omega)
 rw [List.drop_zero] at h
 refine h.trans ?_
 cases hf:types.find? (fun t=>GU t name) with
 | none=>rfl
 | some t =>
  have e:t.Name=name:=ba_eq (List.find?_some (p:=fun t=>GU t name) hf)
  subst e
  rfl
theorem QY {types:List AV} (h:Cd types) (name:ByteArray):((Bp types name).1.Pads.length:Int)<=1000000:=by rw [Mm];exact J7 h name
theorem U5 {types:List AV} (h:Cd types) (name:ByteArray):∀ k,(((Bp types name).1.Pads.getD k default).Shape.Edges.length:Int)<=1000000:=by rw [Mm];exact M5 h name
theorem jL {b:AC} (h:∀ n∈b.Nets,(n.Pins.length:Int)<=1000000) (k:Nat):((b.Nets.getD k default).Pins.length:Int)<=1000000:=HI (p:=fun n:A7=>(n.Pins.length:Int)<=1000000) (by decide) h k
def Z0v:Blk:=.cells Rt 118
def Z0w:BJ:=t.Pads.getD (DR t pad).toNat default
def El (t:AV) (pad:ByteArray):(BJ×Bool):=bif decide (((DR t pad):Int)<0) then (BJ.mk (⟨#[]⟩) (A2.mk 0 [] 0) (AE.mk 0 0) 0,false) else (Z0w t pad,true)
def TV:CT:=(36,[.agg (AV.c t),.one (.s pad)],.val [] (.tup [.agg (BJ.c (El t pad).1),.one (.b (El t pad).2)]))
theorem jU (t:AV) (pad:ByteArray) (h0:(t.Pads.length:Int)<=1000000):PuP 36 (TV t pad).2.1 (.tup [.agg (BJ.c (El t pad).1),.one (.b (El t pad).2)]):=by
 refine pwf Try.func36 fun W0 M0 => ?_
 refine AB<|on<|AB ?_
 refine oq 9 (PU t pad) (ZH t pad au13)<|AF ?_
 refine AB<|AB ?_
 refine rn ⟨[(2,tP 2 0),(4,tP 4 0),(6,tI (DR t pad)),(11,tB (decide (((DR t pad):Int)<0)))],[(KP t),(4,Z0v)]⟩ ?_
 refine AL _ rfl (fun h1 => ?_) (fun h1 => ?_)
 ·refine AB<|on ?_
  refine Ac<|Bf ?_
  exact xl (.tup [.agg Rt,.one (.b false)]) (DB (y:=.tup aI) (.tup (.cons (.agg (rr2 (.cons (Cm 7 AQ.c) (rr (rr (rr (rr .nil))))))) (.cons (AvE.refl _) .nil))) (by simp only [El,h1,cond_true,cond_false] <;> rfl))
 have g1:=oF h1
 refine Af<|AF<|AB ?_
 refine oc [] [0<=(DR t pad:Int)/\(DR t pad:Int)<((t.Pads.length:Nat):Int)] .nil (.cons (by first | exact oV (by assumption) | omega) .nil)<|AF<|Ac ?_
 exact zl (by simp only [El,h1,cond_true,cond_false] <;> kernel_rfl)
theorem eC (t:AV) (pad:ByteArray) (h0:(t.Pads.length:Int)<=1000000):OKc (TV t pad):=cPu<|jU t pad h0
def Mk (p:AG):Al:=Al.mk p.At p.Turn p.Under
def Jm (p:AG):CT:=(37,[.agg (AG.c p)],.val [] (.av (.agg (Al.c (Mk p)))))
theorem ZE (p:AG):PuP 37 (Jm p).2.1 (.av (.agg (Al.c (Mk p)))):=by
 refine pwf Try.func37 fun W0 M0 => ?_
 refine AB<|on<|AB ?_
 refine on<|Ac ?_
 exact zl
theorem Wi (p:AG):OKc (Jm p):=cPu<|ZE p
def Lg (b:AC) (p:AG):Int:=bif p.Under then b.Layers else 1
def NT (p:AG):CT:=(38,[.agg (DE b),.agg (AG.c p)],.val [] (.av (.one (.i (Lg b p)))))
theorem jG (b:AC) (p:AG):PuP 38 (NT b p).2.1 (tO (.i (Lg b p))):=by
 refine pwf Try.func38 fun W0 M0 => ?_
 refine AB<|on ?_
 refine AB<|AB ?_
 refine rn ⟨[(2,tP 2 0),(6,tB p.Under)],[(Lz b)]⟩ ?_
 refine AL p.Under kr (fun h1 => ?_) (fun h1 => ?_)
 ·refine AB<|on ?_
  refine Ac<|Bf ?_
  exact zl (by simp only [Lg,h1,cond_true,cond_false] <;> kernel_rfl)
 refine Af<|AF<|AB ?_
 refine on<|Ac ?_
 exact zl (by simp only [Lg,h1,cond_true,cond_false] <;> kernel_rfl)
theorem dY (b:AC) (p:AG):OKc (NT b p):=cPu<|jG b p
def Z0x:Bool := !((b.Parts.getD v9.toNat default).Ref.toList==p.Ref.toList)
def Z0y:AV:=(Bp types (b.Parts.getD v9.toNat default).Type').1
def Z0z:Bool := !((Bp types (b.Parts.getD v9.toNat default).Type').2)
def Z0A:Bool:=bif Z0z types b v9 then true else !((El (Z0y types b v9) p.Pad).2)
def Z0B:Al:=Mk (b.Parts.getD v9.toNat default)
def Z0C:AE:=(El (Z0y types b v9) p.Pad).1.At
def Z0D (b:AC) (v9:Int) (types:(List AV)) (p:AU):AE:=Dj (Z0B b v9) (Z0C types b v9 p)
def FY (b:AC) (types:(List AV)) (p:AU):Nat->Int->(AE×Int×Bool)
 | 0,_=>default
 | n0+1,v9=>bif decide ((v9:Int)<(b.Parts.length:Int)) then (bif Z0x b v9 p then ((FY b types p n0) (v9+1)) else (bif Z0A types b v9 p then (AE.mk 0 0,0,false) else (Z0D b v9 types p,Lg b (b.Parts.getD v9.toNat default),true))) else (AE.mk 0 0,0,false)
def FL (b:AC) (types:(List AV)) (p:AU):(AE×Int×Bool):=FY b types p (((b.Parts.length:Int)-0).toNat+1) 0
def Yf (b:AC) (types:(List AV)) (p:AU):CT:=(11,[.agg (DE b),.one (Ii types),.agg (AU.c p)],.val [] (.tup [.agg (AE.c (FL b types p).1),.one (.i (FL b types p).2.1),.one (.b (FL b types p).2.2)]))
theorem pAt18 (b:AC) (types:(List AV)) (p:AU) (hp:(b.Parts.length:Int)<=1000000) (ht:Cd types):PuP 11 (Yf b types p).2.1 (.tup [.agg (AE.c (FL b types p).1),.one (.i (FL b types p).2.1),.one (.b (FL b types p).2.2)]):=by
 refine pwf Try.func11 fun W0 M0 => ?_
 have ht1:=ht.1
 refine AB<|on ?_
 refine AB<|AB ?_
 refine rn ⟨(Lp types [(9,tI 0)]),(Ps b p)⟩<|AX ?_
 refine Bc (ι:=Nat×Int) (fun x=>⟨(Lp types [(9,tI x.2)]),(Ps b p)⟩) (fun x=>((b.Parts.length:Int)-x.2).toNat<x.1/\(0<=x.2/\(x.2<=(b.Parts.length:Int)\/x.2=0))/\FY b types p x.1 x.2=FL b types p) (fun x=>x.1) ?_ (((b.Parts.length:Int)-0).toNat+1,0) ⟨Nat.lt_succ_self _,⟨ax0,ax0⟩,(by simp only [FL,cond_true,cond_false])⟩
 rintro ⟨n0,v9⟩ ⟨hm0,hinv0,hF0⟩
 try dsimp only at hm0 hinv0 hF0
 cases n0 with | zero=>exact nz hm0 | succ n0 => ?_
 refine AB<|AB ?_
 refine rn ⟨(Lp types [(9,tI v9),(18,tB (decide ((v9:Int)<(b.Parts.length:Int))))]),(Ps b p)⟩ ?_
 refine AL _ rfl (fun h1 => ?_) (fun h1 => ?_)
 ·have g1:=oT h1
  refine Af<|AF ?_
  refine AB<|AX ?_
  refine AB<|AB ?_
  refine dw [] [] [0<=(v9:Int)/\(v9:Int)<((b.Parts.length:Nat):Int)] ⟨(Lp types [(9,tI v9),(29,tB (Z0x b v9 p))]),(Ps b p)⟩ .nil (.cons au1 .nil)<|AF ?_
  refine AL _ rfl (fun h2 => ?_) (fun h2 => ?_)
  ·refine BU<|BE ?_
   refine BV<|AF ?_
   refine rg ⟨(Lp types [(9,tI (W64 (v9+1)))]),(Ps b p)⟩ ?_
   (try rw [(show W64 (v9+1)=v9+1 from A1 oM au9)])
   refine AF ?_
   refine ⟨(n0,v9+1),⟨?_,?_,(by rw [<- hF0];simp only [FY,h1,h2,cond_true,cond_false])⟩,Nat.lt_succ_self _,BM kr⟩
   ·show ((b.Parts.length:Int)-(v9+1)).toNat<n0;omega
   exact ⟨ax0,ax0⟩
  refine Af<|AF<|AB ?_
  refine oc [(38,Kw types (b.Parts.getD v9.toNat default).Type')] [0<=(v9:Int)/\(v9:Int)<((b.Parts.length:Nat):Int),A0 (Kw types (b.Parts.getD v9.toNat default).Type').2.1] (.cons (Sv types (b.Parts.getD v9.toNat default).Type' (by first | (exact QY ht _) | (exact U5 ht _ _) | with_reducible assumption | omega | decide | (simp only [List.length_cons,List.length_nil,List.length_append];omega) | assumption)) .nil) (.cons au1 (.cons rfl .nil))<|AF<|AB ?_
  refine oq 45 (TV (Z0y types b v9) p.Pad) (eC (Z0y types b v9) p.Pad (by first | (exact QY ht _) | (exact U5 ht _ _) | with_reducible assumption | omega | decide | (simp only [List.length_cons,List.length_nil,List.length_append];omega) | assumption))<|AF ?_
  refine AB<|AB ?_
  refine rc [] [gi (Z0z types b v9),gi (Z0z types b v9)] ⟨[(3,tP 3 0),(6,tP 6 0),(9,tI v9),(12,tP 12 0),(53,tB (Z0A types b v9 p))],[(3,.cells (DE b) 42),L6,(12,.cells (BJ.c (El (Z0y types b v9) p.Pad).1) 118)]⟩ .nil (ci (ci .nil))<|AF ?_
  refine AL _ rfl (fun h3 => ?_) (fun h3 => ?_)
  ·refine AB<|on ?_
   refine Ac<|Bf ?_
   refine Cb<|Bf ?_
   refine Bf<|Cb<|Bf ?_
   exact zl (by rw [<- hF0];simp only [FY,h1,h2,h3,cond_true,cond_false] <;> kernel_rfl)
  refine Af<|AF<|AB ?_
  refine od [] [(60,Jm (b.Parts.getD v9.toNat default)),(63,D5 (Z0B b v9) (Z0C types b v9 p)),(70,NT b (b.Parts.getD v9.toNat default))] [0<=(v9:Int)/\(v9:Int)<((b.Parts.length:Nat):Int),A0 (Jm (b.Parts.getD v9.toNat default)).2.1,A0 (D5 (Z0B b v9) (Z0C types b v9 p)).2.1,0<=(v9:Int)/\(v9:Int)<((b.Parts.length:Nat):Int),A0 (NT b (b.Parts.getD v9.toNat default)).2.1] (.cons (Wi (b.Parts.getD v9.toNat default)) (.cons (GX (Z0B b v9) (Z0C types b v9 p)) (.cons (dY b (b.Parts.getD v9.toNat default)) .nil))) (.cons au1 (.cons rfl (.cons rfl (.cons au1 (.cons rfl .nil)))))<|AF ?_
  refine Ac<|Cb ?_
  refine Bf<|Bf ?_
  refine Cb<|Bf ?_
  exact zl (by rw [<- hF0];simp only [FY,h1,h2,h3,cond_true,cond_false] <;> kernel_rfl)
 refine BU<|BE ?_
 refine BE<|BV ?_
 refine AF<|AB ?_
 refine on<|Ac ?_
 exact zl (by rw [<- hF0];simp only [FY,h1,cond_true,cond_false] <;> kernel_rfl)
theorem eD (b:AC) (types:(List AV)) (p:AU) (hp:(b.Parts.length:Int)<=1000000) (ht:Cd types):OKc (Yf b types p):=cPu<|pAt18 b types p hp ht
end
section
open Go.RowKit
variable (s_1:List AQ) (l:List AE) (v3:Ai) (s:A2) (x0:AE) (k:Int) (r:Ai) (v21 x1:Int)
def Z0E:Blk:=.cells (Ai.c (DF (s.Edges.getD 0 default))) 76
def Z0F:Tv:=tI (((((s.Edges.length:Nat):Int):Int).toNat-(1:Int).toNat:Nat):Int)
def Z0G:Tv:=.av (.one (lst 7 AQ.c (s.Edges.drop (1:Int).toNat)))
def Z0H:AQ:=(s.Edges.drop (1:Int).toNat).getD v21.toNat default
def Z0I:Blk:=.cells [.i (min v3.X0 (DF (Z0H s v21)).X0),.i (min v3.Y0 (DF (Z0H s v21)).Y0),.i (max v3.X1 (DF (Z0H s v21)).X1),.i (max v3.Y1 (DF (Z0H s v21)).Y1)] 76
def Lh (s:A2):Nat->Ai->Int->Ai
 | 0,_,_=>default
 | n0+1,v3,v21=>bif decide ((v21:Int)<(((((s.Edges.length:Nat):Int):Int).toNat-(1:Int).toNat:Nat):Int)) then ((Lh s n0) (Ai.mk (min v3.X0 (DF (Z0H s v21)).X0) (min v3.Y0 (DF (Z0H s v21)).Y0) (max v3.X1 (DF (Z0H s v21)).X1) (max v3.Y1 (DF (Z0H s v21)).Y1)) (v21+1)) else (Ai.mk (W64 (v3.X0-s.R)) (W64 (v3.Y0-s.R)) (W64 (v3.X1+s.R)) (W64 (v3.Y1+s.R)))
def Tn (s:A2):Ai:=bif decide (((s.Edges.length:Int):Int)=0) then (Ai.mk 0 0 0 0) else (Lh s (((((((s.Edges.length:Nat):Int):Int).toNat-(1:Int).toNat:Nat):Int)-0).toNat+1) (DF (s.Edges.getD 0 default)) 0)
def kU:CT:=(22,[.agg (A2.c s)],.val [] (.av (.agg (Ai.c (Tn s)))))
abbrev MB:Nat×Blk:=(2,.cells [.i 0,.i 0,.i 0,.i 0] 76)
abbrev KO:Nat×Blk:=(1,.cells (A2.c s) 29)
abbrev RJ (t_:List (Nat×Tv)):List (Nat×Tv):=(1,tP 1 0)::(2,tP 2 0)::(3,tP 3 0)::(19,Z0G s)::(20,Z0F s)::t_
theorem pBox (s:A2) (h0:(s.Edges.length:Int)<=1000000):PuP 22 (kU s).2.1 (.av (.agg (Ai.c (Tn s)))):=by
 refine pwf Try.func22 fun W0 M0 => ?_
 refine AB<|on ?_
 refine AB<|AB ?_
 refine rn ⟨[(1,tP 1 0),(2,tP 2 0),(10,tB (decide (((s.Edges.length:Int):Int)=0)))],[(KO s),MB]⟩ ?_
 refine AL _ rfl (fun h1 => ?_) (fun h1 => ?_)
 ·refine AB<|on ?_
  refine Ac<|Bf ?_
  exact zl (by simp only [Tn,h1,cond_true,cond_false] <;> kernel_rfl)
 have g1:=oF h1
 refine Af<|AF<|AB ?_
 refine oc [(16,JO (s.Edges.getD 0 default))] [0<=(0:Int)/\(0:Int)<((s.Edges.length:Nat):Int),A0 (JO (s.Edges.getD 0 default)).2.1] (.cons (QG (s.Edges.getD 0 default)) .nil) (.cons au1 (.cons rfl .nil))<|AF ?_
 refine AB<|AB ?_
 refine rc [] [0<=(1:Int)/\(1:Int)<=(((s.Edges.length:Nat):Int):Int)/\(((s.Edges.length:Nat):Int):Int)<=((s.Edges.length:Nat):Int)] ⟨[(1,tP 1 0),(2,tP 2 0),(3,tP 3 0),(19,.av (.one (.list false 7 ((((s.Edges.length:Nat):Int):Int).toNat-(1:Int).toNat) (fun i_ j_=>(AP AQ.c s.Edges) (i_+(1:Int).toNat) j_)))),(20,Z0F s),(21,tI 0)],[(KO s),MB,(3,Z0E s)]⟩ .nil (.cons au1 .nil)<|AF ?_
 refine Aq (Cv.trans (BS (⟨(RJ s [(21,tI 0)]),[(KO s),MB,(3,Z0E s)]⟩) (.cons ⟨rfl,.refl _⟩ (.cons ⟨rfl,.refl _⟩ (.cons ⟨rfl,.refl _⟩ (.cons ⟨rfl,.av (.one (Bm false (Ys (a:=1) (An 7 AQ.c s.Edges) (by have hc:=(show 0<=(1:Int)/\(1:Int)<=(((s.Edges.length:Nat):Int):Int)/\(((s.Edges.length:Nat):Int):Int)<=((s.Edges.length:Nat):Int) from au1);exact hc.1) (by have hc:=(show 0<=(1:Int)/\(1:Int)<=(((s.Edges.length:Nat):Int):Int)/\(((s.Edges.length:Nat):Int):Int)<=((s.Edges.length:Nat):Int) from au1);exact hc.2.1))))⟩ lr)))) lr) (Cv.refl _))<|AX ?_
 refine Bc (ι:=Nat×Ai×Int) (fun x=>⟨(RJ s [(21,tI x.2.2)]),[(KO s),MB,(3,.cells (Ai.c x.2.1) 76)]⟩) (fun x=>((((((s.Edges.length:Nat):Int):Int).toNat-(1:Int).toNat:Nat):Int)-x.2.2).toNat<x.1/\(0<=x.2.2/\(x.2.2<=(((((s.Edges.length:Nat):Int):Int).toNat-(1:Int).toNat:Nat):Int)\/x.2.2=0))/\Lh s x.1 x.2.1 x.2.2=Tn s) (fun x=>x.1) ?_ (((((((s.Edges.length:Nat):Int):Int).toNat-(1:Int).toNat:Nat):Int)-0).toNat+1,DF (s.Edges.getD 0 default),0) ⟨Nat.lt_succ_self _,⟨ax0,ax0⟩,(by simp only [Tn,h1,cond_true,cond_false])⟩
 rintro ⟨n0,v3,v21⟩ ⟨hm0,hinv0,hF0⟩
 try dsimp only at hm0 hinv0 hF0
 cases n0 with | zero=>exact nz hm0 | succ n0 => ?_
 refine AB<|rn ⟨(RJ s [(21,tI v21),(22,tB (decide ((v21:Int)<(((((s.Edges.length:Nat):Int):Int).toNat-(1:Int).toNat:Nat):Int))))]),[(KO s),MB,(3,.cells (Ai.c v3) 76)]⟩<|AB ?_
 refine AL (decide ((v21:Int)<(((((s.Edges.length:Nat):Int):Int).toNat-(1:Int).toNat:Nat):Int))) kr (fun h2 => ?_) (fun h2 => ?_)
 ·have g2:=oT h2
  refine Af<|AF ?_
  refine AB<|AX<|AB ?_
  refine oc [] [0<=(v21:Int)/\(v21:Int)<(((s.Edges.drop (1:Int).toNat).length:Nat):Int)] .nil (.cons au1 .nil)<|AF<|AB ?_
  refine oq 26 (JO (Z0H s v21)) (QG (Z0H s v21))<|AF ?_
  refine og<|A8<|AF ?_
  refine rg ⟨(RJ s [(21,tI (W64 (v21+1)))]),[(KO s),MB,(3,Z0I v3 s v21)]⟩ ?_
  (try rw [(show W64 (v21+1)=v21+1 from A1 oM au9)])
  refine AF ?_
  refine ⟨(n0,Ai.mk (min v3.X0 (DF (Z0H s v21)).X0) (min v3.Y0 (DF (Z0H s v21)).Y0) (max v3.X1 (DF (Z0H s v21)).X1) (max v3.Y1 (DF (Z0H s v21)).Y1),v21+1),⟨?_,?_,(by rw [<- hF0];simp only [Lh,h2,cond_true,cond_false])⟩,Nat.lt_succ_self _,BM kr⟩
  ·show ((((((s.Edges.length:Nat):Int):Int).toNat-(1:Int).toNat:Nat):Int)-(v21+1)).toNat<n0;omega
  exact ⟨ax0,ax0⟩
 refine BU<|BE ?_
 refine BE<|BV ?_
 refine AF<|AB ?_
 refine on<|Ac ?_
 exact zl (by rw [<- hF0];simp only [Lh,h2,cond_true,cond_false] <;> kernel_rfl)
theorem okBox (s:A2) (h0:(s.Edges.length:Int)<=1000000):OKc (kU s):=cPu<|pBox s h0
def Z0J:Blk:=.cells [.i 0,vN,.i 0] 29
def Z0K:Blk:=.row 7 ([]:List AQ).length (AP AQ.c ([]:List AQ)) 133
def Z0L:Blk:=.cells [.i 2,.own 100000 7 ([]:List AQ).length,.i 0] 29
def Z0M:AE:=l.getD (Int.tmod (W64 (k+1)) (l.length:Int)).toNat default
abbrev VU:=[AQ.mk 1 (l.getD k.toNat default) (Z0M l k) (AE.mk 0 0)]
def Z0N:Blk:=.cells [.i 2,.own 28 7 (s_1++(VU l k)).length,.i 0] 29
def Z0O:Blk:=.row 7 (s_1++(VU l k)).length (AP AQ.c (s_1++(VU l k))) 133
def JZ (l:(List AE)):Nat->List AQ->Int->A2
 | 0,_,_=>default
 | n0+1,s_1,k=>bif decide ((k:Int)<(l.length:Int)) then ((JZ l n0) (s_1++[AQ.mk 1 (l.getD k.toNat default) (Z0M l k) (AE.mk 0 0)]) (k+1)) else (A2.mk 2 s_1 0)
def VL (l:(List AE)):A2:=JZ l (((l.length:Int)-0).toNat+1) ([]:List AQ) 0
def gN:CT:=(77,[.one (lst 2 AE.c l)],.val [] (.av (.agg (A2.c (VL l)))))
abbrev mN:Nat×Tv:=(0,tO (lst 2 AE.c l))
abbrev KE (t_:List (Nat×Tv)):List (Nat×Tv):=(mN l)::(2,tP 2 0)::(3,tP 3 0)::t_
theorem pLoop (l:(List AE)) (h0:(l.length:Int)<=1000000):PuP 77 (gN l).2.1 (.av (.agg (A2.c (VL l)))):=by
 refine pwf Try.func77 fun W0 M0 => ?_
 refine AB<|on<|AB ?_
 refine on ?_
 refine AB<|AB ?_
 refine rn ⟨(KE l [(4,tI 0)]),[(2,Z0J),(3,.cells [.i 2,vN,.i 0] 29)]⟩<|AX ?_
 refine Aq (Cv.trans (vg 100000 7 (fun _ _=>default) 133 [] [(3,[1])] hk0) (Cv.trans (Cr 100000 (CL 7 (fun _ _=>default) AQ.c)) (Cv.trans (ck (⟨(KE l [(4,tI 0)]),[(2,Z0J),(3,Z0L),(100000,Z0K)]⟩)) (Cv.refl _)))) ?_
 refine Bc (ι:=Nat×List AQ×Int) (fun x=>⟨(KE l [(4,tI x.2.2)]),[(2,Z0J),(3,.cells [.i 2,.own 100000 7 x.2.1.length,.i 0] 29),(100000,.row 7 x.2.1.length (AP AQ.c x.2.1) 133)]⟩) (fun x=>((l.length:Int)-x.2.2).toNat<x.1/\(0<=x.2.2/\(x.2.2<=(l.length:Int)\/x.2.2=0)/\(x.2.1.length:Int)<=0+1*(x.2.2-0))/\JZ l x.1 x.2.1 x.2.2=VL l) (fun x=>x.1) ?_ (((l.length:Int)-0).toNat+1,([]:List AQ),0) ⟨Nat.lt_succ_self _,⟨ax0,ax0,ax0⟩,(by simp only [VL,cond_true,cond_false])⟩
 rintro ⟨n0,s_1,k⟩ ⟨hm0,hinv0,hF0⟩
 try dsimp only at hm0 hinv0 hF0
 cases n0 with | zero=>exact nz hm0 | succ n0 => ?_
 refine AB<|AB ?_
 refine rn ⟨(KE l [(4,tI k),(9,tB (decide ((k:Int)<(l.length:Int))))]),[(2,Z0J),(3,.cells [.i 2,.own 100000 7 s_1.length,.i 0] 29),(100000,.row 7 s_1.length (AP AQ.c s_1) 133)]⟩ ?_
 refine AL _ rfl (fun h1 => ?_) (fun h1 => ?_)
 ·have g1:=oT h1
  refine Af<|AF ?_
  refine AB<|AX ?_
  refine dw [] [] [0<=(k:Int)/\(k:Int)<((l.length:Nat):Int),((l.length:Int):Int)≠0,0<=(Int.tmod (W64 (k+1)) (l.length:Int):Int)/\(Int.tmod (W64 (k+1)) (l.length:Int):Int)<((l.length:Nat):Int),s_1.length=s_1.length,s_1.length+1<=maxLen,(s_1.length+1)*56<=140737488355328] ⟨(KE l [(4,tI k)]),[(2,Z0J),(3,.cells [.i 2,.own 28 7 (s_1.length+1),.i 0] 29),(28,.row 7 (s_1.length+1) (fun i_ j_=>if i_<s_1.length then (AP AQ.c s_1) i_ j_ else (As 7 1 [.i 1,.i (l.getD k.toNat default).X,.i (l.getD k.toNat default).Y,.i (Z0M l k).X,.i (Z0M l k).Y,.i 0,.i 0]) (i_-s_1.length) j_) 133)]⟩ .nil (.cons au1 (.cons au14 (.cons au1 (.cons rfl (.cons au3 (.cons au3 .nil))))))<|A8<|AF ?_
  refine Aq (Cv.trans (BS (⟨(KE l [(4,tI k)]),[(2,Z0J),(3,Z0N s_1 l k),(28,Z0O s_1 l k)]⟩) lr (.cons ⟨rfl,.refl _⟩ (.cons ⟨rfl,.cells _ (rr (.cons (.own _ _ au0) (rr .nil)))⟩ (.cons ⟨rfl,Ao 133 (Au (An 7 AQ.c s_1) (Ae (c:=AQ.c) (xs:=([AQ.mk 1 (l.getD k.toNat default) (Z0M l k) (AE.mk 0 0)]:List AQ)) rfl kr))⟩ .nil)))) (Cv.refl _)) ?_
  refine rg ⟨(KE l [(4,tI (W64 (k+1)))]),[(2,Z0J),(3,Z0N s_1 l k),(28,Z0O s_1 l k)]⟩ ?_
  (try rw [(show W64 (k+1)=k+1 from A1 oM au9)])
  refine AF ?_
  refine ⟨(n0,s_1++[AQ.mk 1 (l.getD k.toNat default) (Z0M l k) (AE.mk 0 0)],k+1),⟨?_,?_,(by rw [<- hF0];simp only [JZ,h1,cond_true,cond_false])⟩,Nat.lt_succ_self _,Cv.trans (vr 28 100000 hk0) (BM kr)⟩
  ·show ((l.length:Int)-(k+1)).toNat<n0;omega
  exact ⟨ax0,ax0,ax0⟩
 refine BU<|BE ?_
 refine BE<|BV ?_
 refine AF<|AB ?_
 refine on<|Ac ?_
 exact zy (Cv.trans (vf 100000 hk0) (Cv.refl _)) (by rw [<- hF0];simp only [JZ,h1,cond_true,cond_false] <;> kernel_rfl)
theorem oB (l:(List AE)) (h0:(l.length:Int)<=1000000):OKc (gN l):=cPu<|pLoop l h0
def Z0P:A2:=VL [AE.mk r.X0 r.Y0,AE.mk r.X1 r.Y0,AE.mk r.X1 r.Y1,AE.mk r.X0 r.Y1]
def DM (r:Ai):A2:=Z0P r
def Hb:CT:=(50,[.agg (Ai.c r)],.val [] (.av (.agg (A2.c (DM r)))))
theorem nC (r:Ai):PuP 50 (Hb r).2.1 (.av (.agg (A2.c (DM r)))):=by
 refine pwf Try.func50 fun W0 M0 => ?_
 refine AB<|on<|AB ?_
 refine oq 24 (ceI [.one (.list true 2 4 (As 2 4 [.i r.X0,.i r.Y0,.i r.X1,.i r.Y0,.i r.X1,.i r.Y1,.i r.X0,.i r.Y1]))] (gN [AE.mk r.X0 r.Y0,AE.mk r.X1 r.Y0,AE.mk r.X1 r.Y1,AE.mk r.X0 r.Y1])) (DI (oB [AE.mk r.X0 r.Y0,AE.mk r.X1 r.Y0,AE.mk r.X1 r.Y1,AE.mk r.X0 r.Y1] au13) (.cons (.one (Bm true (Ae (c:=AE.c) (xs:=([AE.mk r.X0 r.Y0,AE.mk r.X1 r.Y0,AE.mk r.X1 r.Y1,AE.mk r.X0 r.Y1]:List AE)) rfl kr))) .nil))<|AF<|Ac ?_
 exact zl
theorem LH (r:Ai):OKc (Hb r):=cPu<|nC r
def C7 (x0:AE) (x1:Int):A2:=A2.mk 1 [AQ.mk 1 x0 x0 (AE.mk 0 0)] x1
def Ia:CT:=(28,[.agg (AE.c x0),.one (.i x1)],.val [] (.av (.agg (A2.c (C7 x0 x1)))))
theorem nO (x0:AE) (x1:Int):PuP 28 (Ia x0 x1).2.1 (.av (.agg (A2.c (C7 x0 x1)))):=by
 refine pwf Try.func28 fun W0 M0 => ?_
 refine AB<|on<|AB ?_
 refine on<|Ac ?_
 exact xl (.av (.agg [.i 1,.list true 7 1 (As 7 1 [.i 1,.i x0.X,.i x0.Y,.i x0.X,.i x0.Y,.i 0,.i 0]),.i x1])) (DB (y:=.av (.agg [.i 1,lst 7 AQ.c [AQ.mk 1 x0 x0 (AE.mk 0 0)],.i x1])) (.av (.agg (rr (.cons (Bm true (Ae (c:=AQ.c) (xs:=([AQ.mk 1 x0 x0 (AE.mk 0 0)]:List AQ)) rfl kr)) (rr .nil))))) (by rfl))
theorem NQ (x0:AE) (x1:Int):OKc (Ia x0 x1):=cPu<|nO x0 x1
end
abbrev GD:List Cl:=[.i 0,.i 0,vN,.i 0,vN,vN,vN,vN,vN,vN,vN,vN,vN,vN,vN]
def Z0Q:Blk:=.cells GD 42
abbrev RW:=Ai.mk 10 (-3) 20 3
def Z0R:Blk:=.cells [.s ({ data := #[84] }:ByteArray),.list true 7 2 (As 7 2 [.s ({ data := #[65] }:ByteArray),.i (C7 (AE.mk 0 0) 5).Kind,lst 7 AQ.c (C7 (AE.mk 0 0) 5).Edges,.i (C7 (AE.mk 0 0) 5).R,.i 0,.i 0,.i 4,.s ({ data := #[66] }:ByteArray),.i (DM RW).Kind,lst 7 AQ.c (DM RW).Edges,.i (DM RW).R,.i 15,.i 0,.i 0]),vN] 114
def Z0S:Blk:=.cells [.i 2,.i 0,vN,.i 0,.list true 7 2 (As 7 2 [.i 7,.s ({ data := #[85,49] }:ByteArray),.s ({ data := #[84] }:ByteArray),.i 100,.i 50,.i 1,.b false,.i 3,.s ({ data := #[85,50] }:ByteArray),.s ({ data := #[84] }:ByteArray),.i 0,.i 0,.i 0,.b true]),.list true 2 1 (As 2 1 [.s ({ data := #[78] }:ByteArray),.list true 2 2 (As 2 2 [.s ({ data := #[85,49] }:ByteArray),.s ({ data := #[66] }:ByteArray),.s ({ data := #[85,50] }:ByteArray),.s ({ data := #[65] }:ByteArray)])]),vN,vN,vN,vN,vN,vN,vN,vN,vN] 42
def Ab:(AC×(List AV)):=(AC.mk 2 (A2.mk 0 [] 0) [AG.mk 7 ({ data := #[85,49] }:ByteArray) ({ data := #[84] }:ByteArray) (AE.mk 100 50) 1 false,AG.mk 3 ({ data := #[85,50] }:ByteArray) ({ data := #[84] }:ByteArray) (AE.mk 0 0) 0 true] [A7.mk ({ data := #[78] }:ByteArray) [AU.mk ({ data := #[85,49] }:ByteArray) ({ data := #[66] }:ByteArray),AU.mk ({ data := #[85,50] }:ByteArray) ({ data := #[65] }:ByteArray)]] [] [] [] [] [] [] [] [] [],[AV.mk ({ data := #[84] }:ByteArray) [BJ.mk ({ data := #[65] }:ByteArray) (C7 (AE.mk 0 0) 5) (AE.mk 0 0) 4,BJ.mk ({ data := #[66] }:ByteArray) (DM (Ai.mk 10 (-3) 20 3)) (AE.mk 15 0) 0] []])
def IY:CT:=(19,[],.val [] (.tup [.agg (AC.c Ab.1),.one (lst 3 AV.c Ab.2)]))
theorem WY  : Fo Try.prog 19 (IY ).2.1 (.tup [.agg (AC.c Ab.1),.one (lst 3 AV.c Ab.2)]):=by
 refine pwf Try.func19 fun W0 M0 => ?_
 refine AB<|on<|AB ?_
 refine oc [(5,Ia (AE.mk 0 0) 5),(8,Hb RW)] [A0 (Ia (AE.mk 0 0) 5).2.1,A0 (Hb (Ai.mk 10 (-3) 20 3)).2.1] (.cons (NQ (AE.mk 0 0) 5) (.cons (LH (Ai.mk 10 (-3) 20 3)) .nil)) (.cons rfl (.cons rfl .nil))<|AF<|AB ?_
 refine on<|AB ?_
 refine rn ⟨[(0,tP 0 0),(2,tP 2 0),(3,tP 3 0)],[(0,Z0Q),(2,Z0R),(3,Z0S)]⟩<|AB ?_
 refine od [] [] [] .nil .nil<|AF<|Ac ?_
 exact xl (.tup [.agg [.i 2,.i 0,vN,.i 0,.list true 7 2 (As 7 2 [.i 7,.s ({ data := #[85,49] }:ByteArray),.s ({ data := #[84] }:ByteArray),.i 100,.i 50,.i 1,.b false,.i 3,.s ({ data := #[85,50] }:ByteArray),.s ({ data := #[84] }:ByteArray),.i 0,.i 0,.i 0,.b true]),.list true 2 1 (As 2 1 [.s ({ data := #[78] }:ByteArray),.list true 2 2 (As 2 2 [.s ({ data := #[85,49] }:ByteArray),.s ({ data := #[66] }:ByteArray),.s ({ data := #[85,50] }:ByteArray),.s ({ data := #[65] }:ByteArray)])]),vN,vN,vN,vN,vN,vN,vN,vN,vN],.one (.list true 3 1 (As 3 1 [.s ({ data := #[84] }:ByteArray),.list true 7 2 (As 7 2 [.s ({ data := #[65] }:ByteArray),.i (C7 (AE.mk 0 0) 5).Kind,lst 7 AQ.c (C7 (AE.mk 0 0) 5).Edges,.i (C7 (AE.mk 0 0) 5).R,.i 0,.i 0,.i 4,.s ({ data := #[66] }:ByteArray),.i (DM (Ai.mk 10 (-3) 20 3)).Kind,lst 7 AQ.c (DM (Ai.mk 10 (-3) 20 3)).Edges,.i (DM (Ai.mk 10 (-3) 20 3)).R,.i 15,.i 0,.i 0]),vN]))]) (DB (y:=.tup [.agg [.i 2,.i 0,lst 7 AQ.c [],.i 0,lst 7 AG.c [AG.mk 7 ({ data := #[85,49] }:ByteArray) ({ data := #[84] }:ByteArray) (AE.mk 100 50) 1 false,AG.mk 3 ({ data := #[85,50] }:ByteArray) ({ data := #[84] }:ByteArray) (AE.mk 0 0) 0 true],lst 2 A7.c [A7.mk ({ data := #[78] }:ByteArray) [AU.mk ({ data := #[85,49] }:ByteArray) ({ data := #[66] }:ByteArray),AU.mk ({ data := #[85,50] }:ByteArray) ({ data := #[65] }:ByteArray)]],lst 6 Ap.c [],lst 8 Bo.c [],lst 8 A4.c [],lst 5 BT.c [],lst 4 Bi.c [],lst 2 BQ.c [],lst 20 Az.c [],lst 3 BF.c [],lst 3 Ba.c []],.one (lst 3 AV.c [AV.mk ({ data := #[84] }:ByteArray) [BJ.mk ({ data := #[65] }:ByteArray) (C7 (AE.mk 0 0) 5) (AE.mk 0 0) 4,BJ.mk ({ data := #[66] }:ByteArray) (DM (Ai.mk 10 (-3) 20 3)) (AE.mk 15 0) 0] []])]) (.tup (.cons (.agg (rr2 (.cons (Cm 7 AQ.c) (rr (.cons (Bm true (Ae (c:=AG.c) (xs:=([AG.mk 7 ({ data := #[85,49] }:ByteArray) ({ data := #[84] }:ByteArray) (AE.mk 100 50) 1 false,AG.mk 3 ({ data := #[85,50] }:ByteArray) ({ data := #[84] }:ByteArray) (AE.mk 0 0) 0 true]:List AG)) rfl kr)) (.cons (Bm true (Dg (c:=A7.c) (xs:=([A7.mk ({ data := #[78] }:ByteArray) [AU.mk ({ data := #[85,49] }:ByteArray) ({ data := #[66] }:ByteArray),AU.mk ({ data := #[85,50] }:ByteArray) ({ data := #[65] }:ByteArray)]]:List A7)) (y:=[[.s ({ data := #[78] }:ByteArray),.list true 2 2 (As 2 2 [.s ({ data := #[85,49] }:ByteArray),.s ({ data := #[66] }:ByteArray),.s ({ data := #[85,50] }:ByteArray),.s ({ data := #[65] }:ByteArray)])]]) (z:=[[.s ({ data := #[78] }:ByteArray),lst 2 AU.c [AU.mk ({ data := #[85,49] }:ByteArray) ({ data := #[66] }:ByteArray),AU.mk ({ data := #[85,50] }:ByteArray) ({ data := #[65] }:ByteArray)]]]) rfl kr kr (.cons (rr (.cons (Bm true (Ae (c:=AU.c) (xs:=([AU.mk ({ data := #[85,49] }:ByteArray) ({ data := #[66] }:ByteArray),AU.mk ({ data := #[85,50] }:ByteArray) ({ data := #[65] }:ByteArray)]:List AU)) rfl kr)) .nil)) .nil))) (.cons (Cm 6 Ap.c) (.cons (Cm 8 Bo.c) (.cons (Cm 8 A4.c) (.cons (Cm 5 BT.c) (.cons (Cm 4 Bi.c) (.cons (Cm 2 BQ.c) (.cons (Cm 20 Az.c) (.cons (Cm 3 BF.c) (.cons (Cm 3 Ba.c) .nil))))))))))))))) (.cons (.one (Bm true (Dg (c:=AV.c) (xs:=([AV.mk ({ data := #[84] }:ByteArray) [BJ.mk ({ data := #[65] }:ByteArray) (C7 (AE.mk 0 0) 5) (AE.mk 0 0) 4,BJ.mk ({ data := #[66] }:ByteArray) (DM (Ai.mk 10 (-3) 20 3)) (AE.mk 15 0) 0] []]:List AV)) (y:=[[.s ({ data := #[84] }:ByteArray),.list true 7 2 (As 7 2 [.s ({ data := #[65] }:ByteArray),.i (C7 (AE.mk 0 0) 5).Kind,lst 7 AQ.c (C7 (AE.mk 0 0) 5).Edges,.i (C7 (AE.mk 0 0) 5).R,.i 0,.i 0,.i 4,.s ({ data := #[66] }:ByteArray),.i (DM (Ai.mk 10 (-3) 20 3)).Kind,lst 7 AQ.c (DM (Ai.mk 10 (-3) 20 3)).Edges,.i (DM (Ai.mk 10 (-3) 20 3)).R,.i 15,.i 0,.i 0]),vN]]) (z:=[[.s ({ data := #[84] }:ByteArray),lst 7 BJ.c [BJ.mk ({ data := #[65] }:ByteArray) (C7 (AE.mk 0 0) 5) (AE.mk 0 0) 4,BJ.mk ({ data := #[66] }:ByteArray) (DM (Ai.mk 10 (-3) 20 3)) (AE.mk 15 0) 0],lst 2 BL.c []]]) rfl kr kr (.cons (rr (.cons (Bm true (Ae (c:=BJ.c) (xs:=([BJ.mk ({ data := #[65] }:ByteArray) (C7 (AE.mk 0 0) 5) (AE.mk 0 0) 4,BJ.mk ({ data := #[66] }:ByteArray) (DM (Ai.mk 10 (-3) 20 3)) (AE.mk 15 0) 0]:List BJ)) rfl kr)) (.cons (Cm 2 BL.c) .nil))) .nil)))) .nil))) (by rfl))
theorem Mu  : OKc (IY ):=cPu<|WY
def Qu (x:CV) (id_:Int) (pad:ByteArray) (net:ByteArray) (from_:Int) (to_:Int):Bool:=bif bif bif bif bif decide ((x.Id:Int)=id_) then (x.Pad.toList==pad.toList) else false then (x.Net.toList==net.toList) else false then decide ((x.From:Int)=from_) else false then decide ((x.To:Int)=to_) else false then decide ((x.Kind:Int)=1) else false
def J9 (x:CV) (id_:Int) (pad:ByteArray) (net:ByteArray) (from_:Int) (to_:Int):CT:=(21,[.agg (CV.c x),.one (.i id_),.one (.s pad),.one (.s net),.one (.i from_),.one (.i to_)],.val [] (.av (.one (.b (Qu x id_ pad net from_ to_)))))
theorem pis18 (x:CV) (id_:Int) (pad:ByteArray) (net:ByteArray) (from_:Int) (to_:Int):PuP 21 (J9 x id_ pad net from_ to_).2.1 (tO (.b (Qu x id_ pad net from_ to_))):=by
 refine pwf Try.func21 fun W0 M0 => ?_
 refine AB<|on<|AB ?_
 refine oc [] (t4 (decide ((x.Id:Int)=id_)) (t4 (bif decide ((x.Id:Int)=id_) then (x.Pad.toList==pad.toList) else false) (t4 (bif bif decide ((x.Id:Int)=id_) then (x.Pad.toList==pad.toList) else false then (x.Net.toList==net.toList) else false) (t4 (bif bif bif decide ((x.Id:Int)=id_) then (x.Pad.toList==pad.toList) else false then (x.Net.toList==net.toList) else false then decide ((x.From:Int)=from_) else false) (t3 (bif bif bif bif decide ((x.Id:Int)=id_) then (x.Pad.toList==pad.toList) else false then (x.Net.toList==net.toList) else false then decide ((x.From:Int)=from_) else false then decide ((x.To:Int)=to_) else false) []))))) .nil (c4 (c4 (c4 (c4 (c3 .nil)))))<|AF<|Ac ?_
 exact zl
theorem Ss (x:CV) (id_:Int) (pad:ByteArray) (net:ByteArray) (from_:Int) (to_:Int):OKc (J9 x id_ pad net from_ to_):=cPu<|pis18 x id_ pad net from_ to_
theorem fX:Cd Ab.2:=by
 refine ⟨by decide,fun t ht => ?_⟩
 rw [show Ab.2=[Ab.2.getD 0 default] from rfl,List.mem_singleton] at ht
 subst ht
 refine ⟨by decide,by decide,fun p hp => ?_,fun g hg=>by cases hg⟩
 have hl:(Ab.2.getD 0 default).Pads=[(Ab.2.getD 0 default).Pads.getD 0 default,(Ab.2.getD 0 default).Pads.getD 1 default]:=rfl
 rw [hl] at hp
 simp only [List.mem_cons,List.not_mem_nil,or_false] at hp
 rcases hp with rfl | rfl <;> (unfold VH;decide)
theorem kS:∀ n∈Ab.1.Nets,(n.Pins.length:Int)<=1000000:=by
 intro n hn
 rw [show Ab.1.Nets=[Ab.1.Nets.getD 0 default] from rfl,List.mem_singleton] at hn
 subst hn
 decide
def Z0T (ref:ByteArray) (pad:ByteArray):AE:=(FAt Ab.1 Ab.2 (AU.mk ref pad)).1
def Z0U (ref:ByteArray) (pad:ByteArray):Bool:=(FAt Ab.1 Ab.2 (AU.mk ref pad)).2.2
def Qv (ref:ByteArray) (pad:ByteArray) (x:Int) (y:Int) (layer:Int):Bool:=bif bif ((Z0U ref pad)==(decide ((0:Int)<layer))) then (decide ((Z0T ref pad).X=x)&&(decide ((Z0T ref pad).Y=y)&&true)) else false then decide (((FAt Ab.1 Ab.2 (AU.mk ref pad)).2.1:Int)=layer) else false
def KA (ref:ByteArray) (pad:ByteArray) (x:Int) (y:Int) (layer:Int):CT:=(23,[.one (.s ref),.one (.s pad),.one (.i x),.one (.i y),.one (.i layer)],.val [] (.av (.one (.b (Qv ref pad x y layer)))))
theorem au22 {p:Prop} (h:p:=by first | (exact fX) | (exact kS) | (decide +kernel) | with_reducible assumption | omega | decide | (simp only [List.length_cons,List.length_nil,List.length_append];omega) | assumption):p:=h
theorem pat18 (ref:ByteArray) (pad:ByteArray) (x:Int) (y:Int) (layer:Int):PuP 23 (KA ref pad x y layer).2.1 (tO (.b (Qv ref pad x y layer))):=by
 refine pwf Try.func23 fun W0 M0 => ?_
 refine AB<|on<|AB ?_
 refine oq 17 IY Mu<|AF<|AB ?_
 refine oq 26 (ceI [.agg (AC.c Ab.1),.one (lst 3 AV.c Ab.2),.agg [.s ref,.s pad]] (cAt Ab.1 Ab.2 (AU.mk ref pad))) (DI (oD Ab.1 Ab.2 (AU.mk ref pad) au22 au22) (.cons (.agg (rr9 (rr3 (.cons (.any _) (rr (rr .nil)))))) (.cons (AvE.refl _) (.cons (AvE.refl _) .nil))))<|AF<|AB ?_
 refine rc [] (t5 ((Z0U ref pad)==(decide ((0:Int)<layer))) (t3 (bif ((Z0U ref pad)==(decide ((0:Int)<layer))) then (decide ((Z0T ref pad).X=x)&&(decide ((Z0T ref pad).Y=y)&&true)) else false) [])) ⟨[(10,tB (bif bif ((Z0U ref pad)==(decide ((0:Int)<layer))) then (decide ((Z0T ref pad).X=x)&&(decide ((Z0T ref pad).Y=y)&&true)) else false then decide (((FAt Ab.1 Ab.2 (AU.mk ref pad)).2.1:Int)=layer) else false))],[]⟩ .nil (c5 (c3 .nil))<|AF<|Ac ?_
 exact zl
theorem Su (ref:ByteArray) (pad:ByteArray) (x:Int) (y:Int) (layer:Int):OKc (KA ref pad x y layer):=cPu<|pat18 ref pad x y layer
abbrev Nm:=C8 Ab.1 Ab.2
def Z0V:Tv:=.av (.one (lst 9 CV.c Nm))
def Z0W:Bool := !decide ((((C8 Ab.1 Ab.2).length:Int):Int)=4)
def Z0X:Bool:=bif Z0W then true else !(decide ((C9 (Ab.1.Parts.getD 1 default)).At.X=0)&&(decide ((C9 (Ab.1.Parts.getD 1 default)).At.Y=0)&&(decide ((C9 (Ab.1.Parts.getD 1 default)).Turn=0)&&(((C9 (Ab.1.Parts.getD 1 default)).Mirror==true)&&true))))
def Z0Y:CV:=(C8 Ab.1 Ab.2).getD 0 default
def Z0Z:Bool:=Qu Z0Y 3 ({ data := #[65] }:ByteArray) ({ data := #[78] }:ByteArray) 1 2
def Z10:Bool:=bif Z0Z then Qu ((C8 Ab.1 Ab.2).getD 1 default) 3 ({ data := #[66] }:ByteArray) ({ data := #[] }:ByteArray) 2 2 else false
def Z11:Bool:=bif Z10 then Qu ((C8 Ab.1 Ab.2).getD 2 default) 7 ({ data := #[65] }:ByteArray) ({ data := #[] }:ByteArray) 1 2 else false
def Z12:Bool:=bif Z11 then Qu ((C8 Ab.1 Ab.2).getD 3 default) 7 ({ data := #[66] }:ByteArray) ({ data := #[78] }:ByteArray) 1 1 else false
def Z13:Bool:=bif Z12 then (decide ((Tn ((C8 Ab.1 Ab.2).getD 3 default).Shape).X0=97)&&(decide ((Tn ((C8 Ab.1 Ab.2).getD 3 default).Shape).Y0=60)&&(decide ((Tn ((C8 Ab.1 Ab.2).getD 3 default).Shape).X1=103)&&(decide ((Tn ((C8 Ab.1 Ab.2).getD 3 default).Shape).Y1=70)&&true)))) else false
def Z14:Bool:=bif Z13 then Qv ({ data := #[85,49] }:ByteArray) ({ data := #[66] }:ByteArray) 100 65 1 else false
def Z15:Bool:=bif Z14 then Qv ({ data := #[85,50] }:ByteArray) ({ data := #[66] }:ByteArray) (-15) 0 2 else false
def Z16:Bool:=bif Z15 then Qv ({ data := #[85,51] }:ByteArray) ({ data := #[65] }:ByteArray) 0 0 0 else false
def Z17:Bool:=bif Z16 then Qv ({ data := #[85,49] }:ByteArray) ({ data := #[67] }:ByteArray) 0 0 0 else false
def DK:Bool:=bif Z0X then false else Z17
def MU:CT:=(7,[],.val [] (.av (.one (.b DK))))
theorem Y4  : Fo Try.prog 7 (MU ).2.1 (tO (.b DK)):=by
 refine pwf Try.func7 fun W0 M0 => ?_
 refine AB<|on<|AB ?_
 refine oq 6 IY Mu<|AF<|AB ?_
 refine oq 11 (ceI [.agg (AC.c Ab.1),.one (lst 3 AV.c Ab.2)] (gM Ab.1 Ab.2)) (DI (jX Ab.1 Ab.2 au22 au22 au22 au22 au22) (.cons (.agg (rr9 (rr3 (.cons (.any _) (rr (rr .nil)))))) (.cons (AvE.refl _) .nil)))<|AF ?_
 refine AB<|AB ?_
 refine rc [(20,HL (Ab.1.Parts.getD 1 default))] [(Z0W=false)->(Z0W=false),(Z0W=false)->(Z0W=false),(Z0W=false)->(0<=(1:Int)/\(1:Int)<((Ab.1.Parts.length:Nat):Int)),(Z0W=false)->(Z0W=false),(Z0W=false)->(Z0W=false),(Z0W=false)->(A0 (HL (Ab.1.Parts.getD 1 default)).2.1),(Z0W=false)->(Z0W=false),(Z0W=false)->(Z0W=false),Z0W=false->(Z0W=false)] ⟨[(3,Z0V),(23,tB Z0X)],[]⟩ (.cons (O3 (Ab.1.Parts.getD 1 default)) .nil) (ci (ci (.cons (fun hG=>by first | exact (by decide +kernel) | (simp only [decide_eq_true_eq,decide_eq_false_iff_not,Bool.not_eq_true,Bool.and_eq_true] at hG <;> omega) | (simp at hG <;> omega) | (simp only [decide_eq_true_eq,decide_eq_false_iff_not] at hG;simp only [EA];omega)) (ci (ci (.cons (fun _=>rfl) (ci (ci (ci .nil)))))))))<|AF ?_
 refine AL _ rfl (fun h1 => ?_) (fun h1 => ?_)
 ·refine AB<|on ?_
  refine Ac<|Bf ?_
  exact zl (by simp only [DK,h1,cond_true,cond_false] <;> kernel_rfl)
 refine Af<|AF<|AB ?_
 refine oc [(27,J9 Z0Y 3 ({ data := #[65] }:ByteArray) ({ data := #[78] }:ByteArray) 1 2),(32,J9 (Nm.getD 1 default) 3 ({ data := #[66] }:ByteArray) ({ data := #[] }:ByteArray) 2 2),(38,J9 (Nm.getD 2 default) 7 ({ data := #[65] }:ByteArray) ({ data := #[] }:ByteArray) 1 2),(44,J9 (Nm.getD 3 default) 7 ({ data := #[66] }:ByteArray) ({ data := #[78] }:ByteArray) 1 1)] [0<=(0:Int)/\(0:Int)<(((C8 Ab.1 Ab.2).length:Nat):Int),A0 (J9 Z0Y 3 ({ data := #[65] }:ByteArray) ({ data := #[78] }:ByteArray) 1 2).2.1,(Z0Z=true)->(Z0Z=true),(Z0Z=true)->(0<=(1:Int)/\(1:Int)<(((C8 Ab.1 Ab.2).length:Nat):Int)),(Z0Z=true)->(Z0Z=true),(Z0Z=true)->(Z0Z=true),(Z0Z=true)->(A0 (J9 ((C8 Ab.1 Ab.2).getD 1 default) 3 ({ data := #[66] }:ByteArray) ({ data := #[] }:ByteArray) 2 2).2.1),Z0Z=true->(Z0Z=true),(Z10=true)->(Z10=true),(Z10=true)->(0<=(2:Int)/\(2:Int)<(((C8 Ab.1 Ab.2).length:Nat):Int)),(Z10=true)->(Z10=true),(Z10=true)->(Z10=true),(Z10=true)->(A0 (J9 ((C8 Ab.1 Ab.2).getD 2 default) 7 ({ data := #[65] }:ByteArray) ({ data := #[] }:ByteArray) 1 2).2.1),Z10=true->(Z10=true),(Z11=true)->(Z11=true),(Z11=true)->(0<=(3:Int)/\(3:Int)<(((C8 Ab.1 Ab.2).length:Nat):Int)),(Z11=true)->(Z11=true),(Z11=true)->(Z11=true),(Z11=true)->(A0 (J9 ((C8 Ab.1 Ab.2).getD 3 default) 7 ({ data := #[66] }:ByteArray) ({ data := #[78] }:ByteArray) 1 1).2.1),Z11=true->(Z11=true)] (.cons (Ss Z0Y 3 ({ data := #[65] }:ByteArray) ({ data := #[78] }:ByteArray) 1 2) (.cons (Ss ((C8 Ab.1 Ab.2).getD 1 default) 3 ({ data := #[66] }:ByteArray) ({ data := #[] }:ByteArray) 2 2) (.cons (Ss ((C8 Ab.1 Ab.2).getD 2 default) 7 ({ data := #[65] }:ByteArray) ({ data := #[] }:ByteArray) 1 2) (.cons (Ss ((C8 Ab.1 Ab.2).getD 3 default) 7 ({ data := #[66] }:ByteArray) ({ data := #[78] }:ByteArray) 1 1) .nil)))) (.cons (by decide +kernel) (.cons rfl (ci (.cons (fun hG=>by first | exact (by decide +kernel) | (simp only [decide_eq_true_eq,decide_eq_false_iff_not,Bool.not_eq_true,Bool.and_eq_true] at hG <;> omega) | (simp at hG <;> omega) | (simp only [decide_eq_true_eq,decide_eq_false_iff_not] at hG;simp only [EA];omega)) (ci (ci (.cons (fun _=>rfl) (ci (ci (.cons (fun hG=>by first | exact (by decide +kernel) | (simp only [decide_eq_true_eq,decide_eq_false_iff_not,Bool.not_eq_true,Bool.and_eq_true] at hG <;> omega) | (simp at hG <;> omega) | (simp only [decide_eq_true_eq,decide_eq_false_iff_not] at hG;simp only [EA];omega)) (ci (ci (.cons (fun _=>rfl) (ci (ci (.cons (fun hG=>by first | exact (by decide +kernel) | (simp only [decide_eq_true_eq,decide_eq_false_iff_not,Bool.not_eq_true,Bool.and_eq_true] at hG <;> omega) | (simp at hG <;> omega) | (simp only [decide_eq_true_eq,decide_eq_false_iff_not] at hG;simp only [EA];omega)) (ci (ci (.cons (fun _=>rfl) (ci .nil))))))))))))))))))))<|AF<|AB ?_
 refine oc [(52,kU (Nm.getD 3 default).Shape),(57,KA ({ data := #[85,49] }:ByteArray) ({ data := #[66] }:ByteArray) 100 65 1),(60,KA ({ data := #[85,50] }:ByteArray) ({ data := #[66] }:ByteArray) (-15) 0 2),(63,KA ({ data := #[85,51] }:ByteArray) ({ data := #[65] }:ByteArray) 0 0 0),(66,KA ({ data := #[85,49] }:ByteArray) ({ data := #[67] }:ByteArray) 0 0 0)] [(Z12=true)->(Z12=true),(Z12=true)->(0<=(3:Int)/\(3:Int)<(((C8 Ab.1 Ab.2).length:Nat):Int)),(Z12=true)->(Z12=true),(Z12=true)->(Z12=true),(Z12=true)->(Z12=true),(Z12=true)->(A0 (kU ((C8 Ab.1 Ab.2).getD 3 default).Shape).2.1),(Z12=true)->(Z12=true),(Z12=true)->(Z12=true),Z12=true->(Z12=true),(Z13=true)->(A0 (KA ({ data := #[85,49] }:ByteArray) ({ data := #[66] }:ByteArray) 100 65 1).2.1),Z13=true->(Z13=true),(Z14=true)->(A0 (KA ({ data := #[85,50] }:ByteArray) ({ data := #[66] }:ByteArray) (-15) 0 2).2.1),Z14=true->(Z14=true),(Z15=true)->(A0 (KA ({ data := #[85,51] }:ByteArray) ({ data := #[65] }:ByteArray) 0 0 0).2.1),Z15=true->(Z15=true),(Z16=true)->(A0 (KA ({ data := #[85,49] }:ByteArray) ({ data := #[67] }:ByteArray) 0 0 0).2.1),Z16=true->(Z16=true)] (.cons (okBox ((C8 Ab.1 Ab.2).getD 3 default).Shape au22) (.cons (Su ({ data := #[85,49] }:ByteArray) ({ data := #[66] }:ByteArray) 100 65 1) (.cons (Su ({ data := #[85,50] }:ByteArray) ({ data := #[66] }:ByteArray) (-15) 0 2) (.cons (Su ({ data := #[85,51] }:ByteArray) ({ data := #[65] }:ByteArray) 0 0 0) (.cons (Su ({ data := #[85,49] }:ByteArray) ({ data := #[67] }:ByteArray) 0 0 0) .nil))))) (ci (.cons (fun hG=>by first | exact (by decide +kernel) | (simp only [decide_eq_true_eq,decide_eq_false_iff_not,Bool.not_eq_true,Bool.and_eq_true] at hG <;> omega) | (simp at hG <;> omega) | (simp only [decide_eq_true_eq,decide_eq_false_iff_not] at hG;simp only [EA];omega)) (ci (ci (ci (.cons (fun _=>rfl) (ci (ci (ci (.cons (fun _=>rfl) (ci (.cons (fun _=>rfl) (ci (.cons (fun _=>rfl) (ci (.cons (fun _=>rfl) (ci .nil)))))))))))))))))<|AF<|Ac ?_
 exact zl (by simp only [DK,h1,cond_true,cond_false] <;> kernel_rfl)
theorem Wf  : OKc (MU ):=cPu<|Y4
theorem mZ:DK=true:=by decide +kernel
section
open Go.RowKit
def Ar (k:Int):ByteArray:=([({ data := #[80,49] }:ByteArray),({ data := #[80,50] }:ByteArray),({ data := #[80,51] }:ByteArray),({ data := #[80,52] }:ByteArray),({ data := #[80,53] }:ByteArray),({ data := #[80,54] }:ByteArray)]:List ByteArray).getD k.toNat ⟨#[]⟩
variable (a:AE) (b:AC) (b_:AE) (l:List (List Int)) (d:AD) (k n:Int) (s:A2) (types:List AV) (x0:AG)
def Cj:CT:=(78,[.one (.i k)],.val [] (.av (.one (.s (Ar k)))))
theorem dK (k:Int) (hk:0<=k/\k<6):PuP 78 (Cj k).2.1 (tO (.s (Ar k))):=by
 refine pwf Try.func78 fun W0 M0 => ?_
 refine AB<|on<|AB ?_
 refine oc [] [0<=(k:Int)/\(k:Int)<((6:Nat):Int)] .nil (.cons au1 .nil)<|AF<|Ac ?_
 exact zl
theorem Ee (k:Int) (hk:0<=k/\k<6):OKc (Cj k):=cPu<|dK k hk
def Gh (x0:AG):Al:=Al.mk x0.At x0.Turn x0.Under
def Jn:CT:=(92,[.agg (AG.c x0)],.val [] (.av (.agg (Al.c (Gh x0)))))
theorem ZF (x0:AG):PuP 92 (Jn x0).2.1 (.av (.agg (Al.c (Gh x0)))):=by
 refine pwf Try.func92 fun W0 M0 => ?_
 refine AB<|on<|AB ?_
 refine on<|Ac ?_
 exact zl
theorem Wj (x0:AG):OKc (Jn x0):=cPu<|ZF x0
def EB (x0:AE) (x1:AE):AQ:=AQ.mk 1 x0 x1 (AE.mk 0 0)
def Cs (x0:AE) (x1:AE):CT:=(58,[.agg (AE.c x0),.agg (AE.c x1)],.val [] (.av (.agg (AQ.c (EB x0 x1)))))
theorem WO (x0:AE) (x1:AE):PuP 58 (Cs x0 x1).2.1 (.av (.agg (AQ.c (EB x0 x1)))):=by
 refine pwf Try.func58 fun W0 M0 => ?_
 refine AB<|on<|AB ?_
 refine on<|Ac ?_
 exact zl
theorem D4 (x0:AE) (x1:AE):OKc (Cs x0 x1):=cPu<|WO x0 x1
def AZ (l:(List (List Int))) (k:Int):(List Int):=bif decide ((k:Int)<(l.length:Int)) then (l.getD k.toNat default) else ([])
def Eh:CT:=(53,[.one (lst 1 (fun x=>[lst 1 eIn x]) l),.one (.i k)],.val [] (.av (.one (lst 1 eIn (AZ l k)))))
abbrev oL (l:List (List Int)):Av:=.one (lst 1 (fun x=>[lst 1 (fun x=>[.i x]) x]) l)
theorem jI (l:(List (List Int))) (k:Int) (hk:0<=k):PuP 53 (Eh l k).2.1 (tO (lst 1 eIn (AZ l k))):=by
 refine pwf Try.func53 fun W0 M0 => ?_
 refine AB<|on ?_
 refine AB<|AB ?_
 refine rn ⟨[(0,.av (oL l)),(1,tI k),(8,tB (decide ((k:Int)<(l.length:Int))))],[]⟩ ?_
 refine AL _ rfl (fun h1 => ?_) (fun h1 => ?_)
 ·have g1:=oT h1
  refine AB<|oc [] [0<=(k:Int)/\(k:Int)<((l.length:Nat):Int)] .nil (.cons au1 .nil)<|AF ?_
  refine Ac<|Bf ?_
  exact zl (by simp only [AZ,h1,cond_true,cond_false] <;> kernel_rfl)
 refine Af<|AF<|AB ?_
 refine on<|Ac ?_
 exact xl (.av (.one vN)) (DB (y:=tO (lst 1 eIn [])) (.av (.one (Cm 1 eIn))) (by simp only [AZ,h1,cond_true,cond_false] <;> rfl))
theorem F6 (l:(List (List Int))) (k:Int) (hk:0<=k):OKc (Eh l k):=cPu<|jI l k hk
abbrev mS:List Av:=[.one (.ptr 1000 0),.one (.i 4)]
abbrev HV:Blk:=.cells (AD.c d) 146
abbrev HU:List Av:=(mS:List Av)
def Z18:CT:=(54,HU.map (B3 1000 1000),wrI 1000 (HV d) (tI (AA d 4).1) (.cells (AD.c (AA d 4).2) 146))
def Z19:AQ:=EB a (AE.mk (bif (decide (a.X=b_.X)&&(decide (a.Y=b_.Y)&&true)) then (W64 (b_.X+20)) else b_.X) a.Y)
def Z1a:AQ:=EB (AE.mk (bif (decide (a.X=b_.X)&&(decide (a.Y=b_.Y)&&true)) then (W64 (b_.X+20)) else b_.X) a.Y) (AE.mk (bif (decide (a.X=b_.X)&&(decide (a.Y=b_.Y)&&true)) then (W64 (b_.X+20)) else b_.X) b_.Y)
def Z1b:CT:=(54,([.one (.ptr 1000 0),.one (.i 20)]:List Av).map (B3 1000 1000),wrI 1000 (.cells (AD.c (AA d 4).2) 146) (tI (AA (AA d 4).2 20).1) (.cells (AD.c (AA (AA d 4).2 20).2) 146))
def Z1c:Blk:=.cells (AD.c (AA (AA d 4).2 20).2) 146
def Z1d:AQ:=FF (AE.mk (bif (decide (a.X=b_.X)&&(decide (a.Y=b_.Y)&&true)) then (W64 (b_.X+20)) else b_.X) (W64 (b_.Y+(W64 (5+(AA (AA d 4).2 20).1))))) (W64 (5+(AA (AA d 4).2 20).1)) 3 2
def Z1e:AQ:=EB a (AE.mk (bif (decide (a.X=b_.X)&&(decide (a.Y=b_.Y)&&true)) then (W64 (b_.X+20)) else b_.X) b_.Y)
def C2 (a:AE) (b_:AE) (d:AD):((List AQ)×AD):=bif bif bif bif decide ((0:Int)<(AA d 4).1) then decide (((AA d 4).1:Int)<3) else false then !(decide ((bif (decide (a.X=b_.X)&&(decide (a.Y=b_.Y)&&true)) then (W64 (b_.X+20)) else b_.X)=a.X)&&(decide (a.Y=a.Y)&&true)) else false then !(decide ((bif (decide (a.X=b_.X)&&(decide (a.Y=b_.Y)&&true)) then (W64 (b_.X+20)) else b_.X)=(bif (decide (a.X=b_.X)&&(decide (a.Y=b_.Y)&&true)) then (W64 (b_.X+20)) else b_.X))&&(decide (a.Y=b_.Y)&&true)) else false then ([Z19 a b_,Z1a a b_],(AA d 4).2) else (bif decide (((AA d 4).1:Int)=3) then ([Z1e a b_,Z1d a b_ d],(AA (AA d 4).2 20).2) else ([Z1e a b_],(AA d 4).2))
abbrev Fc:Bool:=decide (a.X=b_.X)&&(decide (a.Y=b_.Y)&&true)
abbrev I9:=bif (Fc a b_) then (W64 (b_.X+20)) else b_.X
abbrev I0:Nat×Blk:=(3,.cells (AE.c a) 52)
abbrev Nc (t_:List (Nat×Tv)):List (Nat×Tv):=(2,tP 1000 0)::(3,tP 3 0)::(4,tP 4 0)::t_
abbrev VS:List (Nat×Tv):=(Nc [])
abbrev RP:Nat×Blk:=(4,.cells [.i (I9 a b_),.i b_.Y] 52)
theorem au25 {p:Prop} (h:p:=by repeat (first | assumption | exact C0 (by assumption) | refine Be ?_ | refine DD ?_ ?_ | refine hKd _ _ ?_ | refine cond_dk _ ?_)):p:=h
theorem au11 {p:Prop} (h:p:=by first | decide | omega | (simp only [EA];omega)):p:=h
theorem dN  (a:AE) (b_:AE) (d:AD) (hd:Br d):Wr Try.prog 82 1000 [.agg (AE.c a),.agg (AE.c b_),.one (.ptr 1000 0)] (.cells (AD.c d) 146) (tO (lst 7 AQ.c (C2 a b_ d).1)) (.cells (AD.c (C2 a b_ d).2) 146):=by
 refine Hg Try.func82 rfl kr kr kr kr fun W0 M0 X hX => ?_
 refine AB<|on ?_
 refine AB<|AB ?_
 refine rn ⟨(Nc [(13,tB (Fc a b_))]),[(I0 a),(4,.cells (AE.c b_) 52),(1000,.cells (AD.c d) 146)]⟩ ?_
 refine CD (⟨VS,[(I0 a),(4,.cells [.i (bif (Fc a b_) then (W64 (b_.X+20)) else b_.X),.i b_.Y] 52),(1000,.cells (AD.c d) 146)]⟩) ?_ ?_
 ·refine AL _ rfl (fun h1 => ?_) (fun h1 => ?_)
  ·refine rn ⟨VS,[(I0 a),(4,.cells [.i (W64 (b_.X+20)),.i b_.Y] 52),(1000,.cells (AD.c d) 146)]⟩ ?_
   refine BM ?_
   first | rfl | (simp only [h1,cond_true,cond_false] <;> rfl)
  refine Af<|AF ?_
  refine Cv.trans (ck (⟨VS,[(I0 a),(4,.cells (AE.c b_) 52),(1000,.cells (AD.c d) 146)]⟩)) (BM ?_)
  first | rfl | (simp only [h1,cond_true,cond_false] <;> rfl)
 refine AB<|on ?_
 refine AB<|AB ?_
 refine rb 24 (Z18 d) (HV d) ⟨(Nc [(7,tP 7 0),(8,tI (AA d 4).1)]),[(I0 a),(RP a b_),(7,.cells [.i (I9 a b_),.i a.Y] 52),(1000,.cells (AD.c (AA d 4).2) 146)]⟩ (cWr (Bj d 4 au25 au11))<|AF ?_
 refine AX<|AB ?_
 refine rc [] (t2 (decide ((0:Int)<(AA d 4).1)) (t3 (bif decide ((0:Int)<(AA d 4).1) then decide (((AA d 4).1:Int)<3) else false) (t3 (bif bif decide ((0:Int)<(AA d 4).1) then decide (((AA d 4).1:Int)<3) else false then !(decide ((I9 a b_)=a.X)&&(decide (a.Y=a.Y)&&true)) else false) []))) ⟨(Nc [(7,tP 7 0),(8,tI (AA d 4).1),(25,tB (bif bif bif decide ((0:Int)<(AA d 4).1) then decide (((AA d 4).1:Int)<3) else false then !(decide ((bif (decide (a.X=b_.X)&&(decide (a.Y=b_.Y)&&true)) then (W64 (b_.X+20)) else b_.X)=a.X)&&(decide (a.Y=a.Y)&&true)) else false then !(decide ((bif (decide (a.X=b_.X)&&(decide (a.Y=b_.Y)&&true)) then (W64 (b_.X+20)) else b_.X)=(bif (decide (a.X=b_.X)&&(decide (a.Y=b_.Y)&&true)) then (W64 (b_.X+20)) else b_.X))&&(decide (a.Y=b_.Y)&&true)) else false))]),[(I0 a),(RP a b_),(7,.cells [.i (I9 a b_),.i a.Y] 52),(1000,.cells (AD.c (AA d 4).2) 146)]⟩ .nil (c2 (c3 (c3 .nil)))<|AF ?_
 refine AL (bif bif bif decide ((0:Int)<(AA d 4).1) then decide (((AA d 4).1:Int)<3) else false then !(decide ((bif (Fc a b_) then (W64 (b_.X+20)) else b_.X)=a.X)&&(decide (a.Y=a.Y)&&true)) else false then !(decide ((bif (Fc a b_) then (W64 (b_.X+20)) else b_.X)=(bif (Fc a b_) then (W64 (b_.X+20)) else b_.X))&&(decide (a.Y=b_.Y)&&true)) else false) kr (fun h1 => ?_) (fun h1 => ?_)
 ·refine AB<|od [] [(44,Cs a (AE.mk (I9 a b_) a.Y)),(47,Cs (AE.mk (I9 a b_) a.Y) (AE.mk (I9 a b_) b_.Y))] [A0 (Cs a (AE.mk (bif (Fc a b_) then (W64 (b_.X+20)) else b_.X) a.Y)).2.1,A0 (Cs (AE.mk (bif (Fc a b_) then (W64 (b_.X+20)) else b_.X) a.Y) (AE.mk (bif (Fc a b_) then (W64 (b_.X+20)) else b_.X) b_.Y)).2.1] (.cons (D4 a (AE.mk (bif (Fc a b_) then (W64 (b_.X+20)) else b_.X) a.Y)) (.cons (D4 (AE.mk (bif (Fc a b_) then (W64 (b_.X+20)) else b_.X) a.Y) (AE.mk (bif (Fc a b_) then (W64 (b_.X+20)) else b_.X) b_.Y)) .nil)) (.cons rfl (.cons rfl .nil))<|AF ?_
  refine Ac<|Cb<|Bf ?_
  exact xl (.av (.one (.list true 7 2 (As 7 2 [.i (Z19 a b_).Kind,.i (Z19 a b_).A.X,.i (Z19 a b_).A.Y,.i (Z19 a b_).B.X,.i (Z19 a b_).B.Y,.i (Z19 a b_).C.X,.i (Z19 a b_).C.Y,.i (Z1a a b_).Kind,.i (Z1a a b_).A.X,.i (Z1a a b_).A.Y,.i (Z1a a b_).B.X,.i (Z1a a b_).B.Y,.i (Z1a a b_).C.X,.i (Z1a a b_).C.Y])))) ⟨DB (y:=tO (lst 7 AQ.c [Z19 a b_,Z1a a b_])) (.av (.one (Bm true (Ae (c:=AQ.c) (xs:=([Z19 a b_,Z1a a b_]:List AQ)) rfl kr)))) (by unfold C2;rw [h1];rfl),.cells (AD.c (AA d 4).2) 146,by kernel_rfl,Dx (by unfold C2;rw [h1];kernel_rfl)⟩
 refine AB<|rn ⟨(Nc [(49,tB (decide (((AA d 4).1:Int)=3)))]),[(I0 a),(RP a b_),(1000,.cells (AD.c (AA d 4).2) 146)]⟩ ?_
 refine AL _ rfl (fun h2 => ?_) (fun h2 => ?_)
 ·have g2:=oT h2
  refine AB<|rb 53 (Z1b d) (.cells (AD.c (AA d 4).2) 146) ⟨[(3,tP 3 0),(4,tP 4 0),(9,tI (W64 (5+(AA (AA d 4).2 20).1)))],[(I0 a),(RP a b_),(1000,Z1c d)]⟩ (cWr (Bj (AA d 4).2 20 au25 au11))<|AF<|AB ?_
  refine oq 63 (CP (AE.mk (bif (Fc a b_) then (W64 (b_.X+20)) else b_.X) (W64 (b_.Y+(W64 (5+(AA (AA d 4).2 20).1))))) (W64 (5+(AA (AA d 4).2 20).1)) 3 2) (D8 (AE.mk (bif (Fc a b_) then (W64 (b_.X+20)) else b_.X) (W64 (b_.Y+(W64 (5+(AA (AA d 4).2 20).1))))) (W64 (5+(AA (AA d 4).2 20).1)) 3 2)<|AF<|AB ?_
  refine od [] [(66,Cs a (AE.mk (I9 a b_) b_.Y))] [A0 (Cs a (AE.mk (bif (Fc a b_) then (W64 (b_.X+20)) else b_.X) b_.Y)).2.1] (.cons (D4 a (AE.mk (bif (Fc a b_) then (W64 (b_.X+20)) else b_.X) b_.Y)) .nil) (.cons rfl .nil)<|AF ?_
  refine Ac<|Cb<|Bf ?_
  exact xl (.av (.one (.list true 7 2 (As 7 2 [.i (Z1e a b_).Kind,.i (Z1e a b_).A.X,.i (Z1e a b_).A.Y,.i (Z1e a b_).B.X,.i (Z1e a b_).B.Y,.i (Z1e a b_).C.X,.i (Z1e a b_).C.Y,.i (Z1d a b_ d).Kind,.i (Z1d a b_ d).A.X,.i (Z1d a b_ d).A.Y,.i (Z1d a b_ d).B.X,.i (Z1d a b_ d).B.Y,.i (Z1d a b_ d).C.X,.i (Z1d a b_ d).C.Y])))) ⟨DB (y:=tO (lst 7 AQ.c [Z1e a b_,Z1d a b_ d])) (.av (.one (Bm true (Ae (c:=AQ.c) (xs:=([Z1e a b_,Z1d a b_ d]:List AQ)) rfl kr)))) (by unfold C2;rw [h1,h2];rfl),.cells (AD.c (AA (AA d 4).2 20).2) 146,by kernel_rfl,Dx (by unfold C2;rw [h1,h2];kernel_rfl)⟩
 refine Af<|A8 ?_
 refine AF<|AB ?_
 refine oq 71 (Cs a (AE.mk (bif (Fc a b_) then (W64 (b_.X+20)) else b_.X) b_.Y)) (D4 a (AE.mk (bif (Fc a b_) then (W64 (b_.X+20)) else b_.X) b_.Y))<|AF<|Ac ?_
 exact xl (.av (.one (.list true 7 1 (As 7 1 (AQ.c (Z1e a b_)))))) ⟨DB (y:=tO (lst 7 AQ.c [Z1e a b_])) (.av (.one (Bm true (Ae (c:=AQ.c) (xs:=([Z1e a b_]:List AQ)) rfl kr)))) (by unfold C2;rw [h1,h2];rfl),.cells (AD.c (AA d 4).2) 146,by kernel_rfl,Dx (by unfold C2;rw [h1,h2];kernel_rfl)⟩
def Z1f:CT:=(54,([.one (.ptr 1000 0),.one (.i (b.Nets.length:Int))]:List Av).map (B3 1000 1001),wrI 1001 (HV d) (tI (AA d (b.Nets.length:Int)).1) (.cells (AD.c (AA d (b.Nets.length:Int)).2) 146))
def Cg (b:AC) (d:AD):(ByteArray×AD):=((b.Nets.getD (AA d (b.Nets.length:Int)).1.toNat default).Name,(AA d (b.Nets.length:Int)).2)
theorem Sg  (b:AC) (d:AD) (vs:Nat->Value) (hd:Br d) (hn:1<=(b.Nets.length:Int)/\(b.Nets.length:Int)<=1000000):Wr2 Try.prog 81 1000 1001 [.one (.ptr 1000 0),.one (.ptr 1001 0)] (.cells [.i b.Layers,.i b.Outline.Kind,lst 7 AQ.c b.Outline.Edges,.i b.Outline.R,lst 7 AG.c b.Parts,lst 2 A7.c b.Nets,.val (vs 6),.val (vs 7),.val (vs 8),.val (vs 9),.val (vs 10),.val (vs 11),.val (vs 12),.val (vs 13),.val (vs 14)] 42) (.cells (AD.c d) 146) (tO (.s (Cg b d).1)) (.cells [.i b.Layers,.i b.Outline.Kind,lst 7 AQ.c b.Outline.Edges,.i b.Outline.R,lst 7 AG.c b.Parts,lst 2 A7.c b.Nets,.val (vs 6),.val (vs 7),.val (vs 8),.val (vs 9),.val (vs 10),.val (vs 11),.val (vs 12),.val (vs 13),.val (vs 14)] 42) (.cells (AD.c (Cg b d).2) 146):=by
 refine OR Try.func81 rfl kr kr kr rfl kr kr kr fun W0 M0 X hX => ?_
 have hnb:=DU d (b.Nets.length:Int) oM oM
 refine AB<|on<|AB ?_
 refine od [] [(15,(Z1f b d))] [A0 (Z1f b d).2.1,CB (HV d),0<=((AA d (b.Nets.length:Int)).1:Int)/\((AA d (b.Nets.length:Int)).1:Int)<((b.Nets.length:Nat):Int)] (.cons (cWr (Bj d (b.Nets.length:Int) au25 au11)) .nil) (.cons rfl (.cons rfl (.cons oM .nil)))<|AF<|Ac ?_
 exact xl (tO (.s (b.Nets.getD (AA d (b.Nets.length:Int)).1.toNat default).Name)) ⟨Bz (by rfl),⟨.cells (BZ b [.val (vs 6),.val (vs 7),.val (vs 8),.val (vs 9),.val (vs 10),.val (vs 11),.val (vs 12),.val (vs 13),.val (vs 14)]) 42,by kernel_rfl,Dx rfl⟩,.cells (AD.c (AA d (b.Nets.length:Int)).2) 146,by kernel_rfl,Dx kr⟩
theorem LX {p q:Prop} [Decidable p] [Decidable q] (h:(bif decide p then decide q else false)=true):q:=by
 by_cases hp:p
 ·rw [decide_eq_true hp] at h;exact oT h
 rw [decide_eq_false hp] at h;cases h
def NX (b:AC) (types:List AV):Prop:=∀ k:Int,0<=k->k<(b.Parts.length:Int)->1<=((Bp types (b.Parts.getD k.toNat default).Type').1.Pads.length:Int)
theorem T4 {b:AC} {d:AD} (h:(bif decide ((AA d 12).1<8) then decide ((0:Int)<(b.Parts.length:Int)) else false)=true):0<=Int.tmod (AA d 12).1 (b.Parts.length:Int)/\Int.tmod (AA d 12).1 (b.Parts.length:Int)<(b.Parts.length:Int):=JH (DU d 12 (by decide) (by decide)).1 (LX h)
theorem LB {b:AC} {types:List AV} {d:AD} (hg:NX b types) (h:(bif decide ((AA d 12).1<8) then decide ((0:Int)<(b.Parts.length:Int)) else false)=true):1<=((Bp types (b.Parts.getD (Int.tmod (AA d 12).1 (b.Parts.length:Int)).toNat default).Type').1.Pads.length:Int):=hg _ (T4 h).1 (T4 h).2
abbrev bC:List Cl:=[.i b.Layers,.i b.Outline.Kind,lst 7 AQ.c b.Outline.Edges,.i b.Outline.R,lst 7 AG.c b.Parts,.any,.any,.any,.any,.any,.any,.any,.any,.any,.any]
def Z1g:Blk:=.cells (bC b) 42
abbrev VP:List Av:=[.one (.ptr 1000 0),.one (.i 12)]
def Z1h:CT:=(54,(VP:List Av).map (B3 1000 1000),wrI 1000 (HV d) (tI (AA d 12).1) (.cells (AD.c (AA d 12).2) 146))
abbrev N3:List Av:=[.one (.ptr 1000 0),.one (.i 6)]
def Z1i:CT:=(54,(N3:List Av).map (B3 1000 1000),wrI 1000 (.cells (AD.c (AA d 12).2) 146) (tI (AA (AA d 12).2 6).1) (.cells (AD.c (AA (AA d 12).2 6).2) 146))
def Z1j:Blk:=.cells (AD.c (AA (AA d 12).2 6).2) 146
def Z1k:AG:=b.Parts.getD (Int.tmod (AA d 12).1 (b.Parts.length:Int)).toNat default
def Z1l (types:(List AV)) (b:AC) (d:AD):AE:=((Bp types (Z1k b d).Type').1.Pads.getD (Int.tmod (AA (AA d 12).2 6).1 ((Bp types (Z1k b d).Type').1.Pads.length:Int)).toNat default).At
def Z1m:AE:=Dj (Gh (Z1k b d)) (Z1l types b d)
def Bx (b:AC) (types:(List AV)) (d:AD):(AE×AD):=bif bif decide (((AA d 12).1:Int)<8) then decide ((0:Int)<(b.Parts.length:Int)) else false then (Z1m b d types,(AA (AA d 12).2 6).2) else (AE.mk (W64 (30+(Int.tmod (W64 (40*(AA d 12).1)) 360))) (W64 (30+(W64 (60*(AA (AA d 12).2 6).1)))),(AA (AA d 12).2 6).2)
abbrev aO:List Cl:=[.i (W64 (30+(Int.tmod (W64 (40*(AA d 12).1)) 360))),.i (W64 (30+(W64 (60*(AA (AA d 12).2 6).1))))]
theorem LD  (b:AC) (types:(List AV)) (d:AD) (hd:Br d) (hb:(b.Parts.length:Int)<=1000000) (ht:(types.length:Int)<=1000000) (hg:NX b types):Wr Try.prog 83 1000 [.agg [.i b.Layers,.i b.Outline.Kind,lst 7 AQ.c b.Outline.Edges,.i b.Outline.R,lst 7 AG.c b.Parts,.any,.any,.any,.any,.any,.any,.any,.any,.any,.any],.one (lst 3 AV.c types),.one (.ptr 1000 0)] (.cells (AD.c d) 146) (.av (.agg (AE.c (Bx b types d).1))) (.cells (AD.c (Bx b types d).2) 146):=by
 refine Hg Try.func83 rfl kr kr kr kr fun W0 M0 X hX => ?_
 refine AB<|on<|AB ?_
 refine rb 13 (Z1h d) (HV d) ⟨[(GQ types),(2,tP 1000 0),(3,tP 3 0),(6,tP 6 0),(7,tI (AA d 12).1)],[(3,Z1g b),L6,(1000,.cells (AD.c (AA d 12).2) 146)]⟩ (cWr (Bj d 12 au25 au11))<|AF<|AB ?_
 refine rb 15 (Z1i d) (.cells (AD.c (AA d 12).2) 146) ⟨[(GQ types),(3,tP 3 0),(6,tP 6 0),(7,tI (AA d 12).1),(8,tI (AA (AA d 12).2 6).1)],[(3,Z1g b),L6,(1000,Z1j d)]⟩ (cWr (Bj (AA d 12).2 6 au25 au11))<|AF ?_
 refine AB<|AB ?_
 refine rc [] (t4 (decide (((AA d 12).1:Int)<8)) []) ⟨[(GQ types),(3,tP 3 0),(6,tP 6 0),(7,tI (AA d 12).1),(8,tI (AA (AA d 12).2 6).1),(23,tB (bif decide (((AA d 12).1:Int)<8) then decide ((0:Int)<(b.Parts.length:Int)) else false))],[(3,Z1g b),L6,(1000,Z1j d)]⟩ .nil (c4 .nil)<|AF ?_
 refine AL _ rfl (fun h1 => ?_) (fun h1 => ?_)
 ·have g1:=Ta h1
  refine AB<|od [] [] [((b.Parts.length:Int):Int)≠0,0<=(Int.tmod (AA d 12).1 (b.Parts.length:Int):Int)/\(Int.tmod (AA d 12).1 (b.Parts.length:Int):Int)<((b.Parts.length:Nat):Int)] .nil (.cons (by first | decide | (have hq:=LX h1;omega) | (have hq:=LB hg h1;show ¬ ((Bp types (b.Parts.getD (Int.tmod (AA d 12).1 (b.Parts.length:Int)).toNat default).Type').1.Pads.length:Int)=0;omega)) (.cons (by first | exact T4 h1 | exact JH (DU _ 6 (by decide) (by decide)).1 (by have hq:=LB hg h1;show (0:Int)<((Bp types (b.Parts.getD (Int.tmod (AA d 12).1 (b.Parts.length:Int)).toNat default).Type').1.Pads.length:Int);omega) | decide | omega) .nil))<|AF<|AB ?_
  refine oq 37 (Kw types (Z1k b d).Type') (Sv types (Z1k b d).Type' au13)<|AF<|AB ?_
  refine od [] [(41,Jn (Z1k b d)),(52,D5 (Gh (Z1k b d)) (Z1l types b d))] [A0 (Jn (Z1k b d)).2.1,(((Bp types (Z1k b d).Type').1.Pads.length:Int):Int)≠0,0<=(Int.tmod (AA (AA d 12).2 6).1 ((Bp types (Z1k b d).Type').1.Pads.length:Int):Int)/\(Int.tmod (AA (AA d 12).2 6).1 ((Bp types (Z1k b d).Type').1.Pads.length:Int):Int)<(((Bp types (Z1k b d).Type').1.Pads.length:Nat):Int),A0 (D5 (Gh (Z1k b d)) (Z1l types b d)).2.1] (.cons (Wj (Z1k b d)) (.cons (GX (Gh (Z1k b d)) (Z1l types b d)) .nil)) (.cons rfl (.cons (by first | decide | (have hq:=LX h1;omega) | (have hq:=LB hg h1;show ¬ ((Bp types (b.Parts.getD (Int.tmod (AA d 12).1 (b.Parts.length:Int)).toNat default).Type').1.Pads.length:Int)=0;omega)) (.cons (by first | exact T4 h1 | exact JH (DU _ 6 (by decide) (by decide)).1 (by have hq:=LB hg h1;show (0:Int)<((Bp types (b.Parts.getD (Int.tmod (AA d 12).1 (b.Parts.length:Int)).toNat default).Type').1.Pads.length:Int);omega) | decide | omega) (.cons rfl .nil))))<|AF ?_
  refine Ac<|Bf ?_
  exact xl (.av (.agg (AE.c (Z1m b d types)))) ⟨Bz (by simp only [Bx,h1,cond_true,cond_false] <;> rfl),.cells (AD.c (AA (AA d 12).2 6).2) 146,by kernel_rfl,Dx (by first | (simp only [Bx,h1,cond_true,cond_false];done) | (simp only [Bx,h1,cond_true,cond_false];kernel_rfl))⟩
 refine Af<|AF<|AB ?_
 refine rc [] [(360:Int)≠0] ⟨[(6,tP 6 0)],[(6,.cells (aO d) 52),(1000,Z1j d)]⟩ .nil (.cons (by first | decide | (have hq:=LX h1;omega) | (have hq:=LB hg h1;show ¬ ((Bp types (b.Parts.getD (Int.tmod (AA d 12).1 (b.Parts.length:Int)).toNat default).Type').1.Pads.length:Int)=0;omega)) .nil)<|AF<|Ac ?_
 exact xl (.av (.agg (aO d))) ⟨Bz (by simp only [Bx,h1,cond_true,cond_false] <;> rfl),.cells (AD.c (AA (AA d 12).2 6).2) 146,by kernel_rfl,Dx (by first | (simp only [Bx,h1,cond_true,cond_false];done) | (simp only [Bx,h1,cond_true,cond_false];kernel_rfl))⟩
def BI (n:Int):ByteArray:=([({ data := #[78,49] }:ByteArray),({ data := #[78,50] }:ByteArray),({ data := #[71,78,68] }:ByteArray),({ data := #[82,49] }:ByteArray),({ data := #[120,47,82,49] }:ByteArray),({ data := #[110,101,119] }:ByteArray),({ data := #[] }:ByteArray),({ data := #[57] }:ByteArray),({ data := #[97,47,98,47,99,47,100,47,101,47,102] }:ByteArray),({ data := #[80,49] }:ByteArray),({ data := #[112,111,119,101,114] }:ByteArray),({ data := #[109,49] }:ByteArray)]:List ByteArray).getD (Int.tmod n 12).toNat ⟨#[]⟩
def CX:CT:=(27,[.one (.i n)],.val [] (.av (.one (.s (BI n)))))
theorem jF (n:Int) (hn:0<=n):PuP 27 (CX n).2.1 (tO (.s (BI n))):=by
 refine pwf Try.func27 fun W0 M0 => ?_
 refine AB<|on<|AB ?_
 refine oc [] [(12:Int)≠0,0<=(Int.tmod n 12:Int)/\(Int.tmod n 12:Int)<((12:Nat):Int)] .nil (.cons au14 (.cons (JH hn (by decide)) .nil))<|AF<|Ac ?_
 exact zl
theorem EE (n:Int) (hn:0<=n):OKc (CX n):=cPu<|jF n hn
def Z1n:Blk:=.cells [.i 0,vN,.i 0] 29
def Z1o:A2:=DM (Ai.mk (W64 (10*n)) 50 (W64 ((W64 (10*n))+9)) 59)
def Z1p:AQ:=EB (AE.mk (W64 (10*n)) 50) (AE.mk 300 (W64 (9*n)))
def Z1q:AQ:=EB (AE.mk (W64 (10*n)) 50) (AE.mk 67108865 0)
def DQ (n:Int):A2:=bif decide (((Int.tmod n 6):Int)=0) then (A2.mk 0 [] 0) else (bif decide (((Int.tmod n 6):Int)=1) then (C7 (AE.mk (W64 (10*n)) 50) 5) else (bif decide (((Int.tmod n 6):Int)=2) then (Z1o n) else (bif decide (((Int.tmod n 6):Int)=3) then (A2.mk 1 [Z1p n] 4) else (bif decide (((Int.tmod n 6):Int)=4) then (A2.mk 1 [Z1p n] 0) else (A2.mk 1 [Z1q n] 4)))))
def FQ:CT:=(26,[.one (.i n)],.val [] (.av (.agg (A2.c (DQ n)))))
abbrev OA:List (Nat×Blk):=[(2,Z1n),(3,.cells [.i (W64 (10*n)),.i 50] 52)]
abbrev RI (t_:List (Nat×Tv)):List (Nat×Tv):=(0,tI n)::(2,tP 2 0)::(3,tP 3 0)::(8,tI (Int.tmod n 6))::t_
theorem dH (n:Int):PuP 26 (FQ n).2.1 (.av (.agg (A2.c (DQ n)))):=by
 refine pwf Try.func26 fun W0 M0 => ?_
 refine AB<|on<|AB ?_
 refine on ?_
 refine AB<|AB ?_
 refine oc [] [(6:Int)≠0] .nil (.cons au14 .nil)<|AF ?_
 refine AX<|AB ?_
 refine rn ⟨(RI n [(9,tB (decide (((Int.tmod n 6):Int)=0)))]),(OA n)⟩ ?_
 refine AL _ rfl (fun h1 => ?_) (fun h1 => ?_)
 ·refine AB<|on ?_
  refine Ac<|Cb<|Bf ?_
  exact xl (.av (.agg [.i 0,vN,.i 0])) (DB (y:=.av (.agg [.i 0,lst 7 AQ.c [],.i 0])) (.av (.agg (rr (.cons (Cm 7 AQ.c) (rr .nil))))) (by simp only [DQ,h1,cond_true,cond_false] <;> rfl))
 refine AB<|rn ⟨(RI n [(12,tB (decide (((Int.tmod n 6):Int)=1)))]),(OA n)⟩ ?_
 refine AL _ rfl (fun h2 => ?_) (fun h2 => ?_)
 ·refine AB<|oq 15 (Ia (AE.mk (W64 (10*n)) 50) 5) (NQ (AE.mk (W64 (10*n)) 50) 5)<|AF ?_
  refine Ac<|Cb<|Bf ?_
  exact zl (by simp only [DQ,h1,h2,cond_true,cond_false] <;> kernel_rfl)
 refine AB<|rn ⟨(RI n [(16,tB (decide (((Int.tmod n 6):Int)=2)))]),(OA n)⟩ ?_
 refine AL _ rfl (fun h3 => ?_) (fun h3 => ?_)
 ·refine AB<|oq 29 (Hb (Ai.mk (W64 (10*n)) 50 (W64 ((W64 (10*n))+9)) 59)) (LH (Ai.mk (W64 (10*n)) 50 (W64 ((W64 (10*n))+9)) 59))<|AF ?_
  refine Ac<|Cb<|Bf ?_
  exact zl (by simp only [DQ,h1,h2,h3,cond_true,cond_false] <;> kernel_rfl)
 refine AB<|rn ⟨(RI n [(30,tB (decide (((Int.tmod n 6):Int)=3)))]),(OA n)⟩ ?_
 refine AL _ rfl (fun h4 => ?_) (fun h4 => ?_)
 ·refine AB<|oq 36 (Cs (AE.mk (W64 (10*n)) 50) (AE.mk 300 (W64 (9*n)))) (D4 (AE.mk (W64 (10*n)) 50) (AE.mk 300 (W64 (9*n))))<|AF ?_
  refine Ac<|Cb<|Bf ?_
  exact xl (.av (.agg [.i 1,.list true 7 1 (As 7 1 (AQ.c (Z1p n))),.i 4])) (DB (y:=.av (.agg [.i 1,lst 7 AQ.c [Z1p n],.i 4])) (.av (.agg (rr (.cons (Bm true (Ae (c:=AQ.c) (xs:=([Z1p n]:List AQ)) rfl kr)) (rr .nil))))) (by simp only [DQ,h1,h2,h3,h4,cond_true,cond_false] <;> rfl))
 refine AB<|rn ⟨[(0,tI n),(2,tP 2 0),(3,tP 3 0),(39,tB (decide (((Int.tmod n 6):Int)=4)))],(OA n)⟩ ?_
 refine AL _ rfl (fun h5 => ?_) (fun h5 => ?_)
 ·refine AB<|oq 45 (Cs (AE.mk (W64 (10*n)) 50) (AE.mk 300 (W64 (9*n)))) (D4 (AE.mk (W64 (10*n)) 50) (AE.mk 300 (W64 (9*n))))<|AF ?_
  refine Ac<|Cb<|Bf ?_
  exact xl (.av (.agg [.i 1,.list true 7 1 (As 7 1 (AQ.c (Z1p n))),.i 0])) (DB (y:=.av (.agg [.i 1,lst 7 AQ.c [Z1p n],.i 0])) (.av (.agg (rr (.cons (Bm true (Ae (c:=AQ.c) (xs:=([Z1p n]:List AQ)) rfl kr)) (rr .nil))))) (by simp only [DQ,h1,h2,h3,h4,h5,cond_true,cond_false] <;> rfl))
 refine Af<|A8 ?_
 refine AF<|AB ?_
 refine oq 50 (Cs (AE.mk (W64 (10*n)) 50) (AE.mk 67108865 0)) (D4 (AE.mk (W64 (10*n)) 50) (AE.mk 67108865 0))<|AF<|Ac ?_
 exact xl (.av (.agg [.i 1,.list true 7 1 (As 7 1 (AQ.c (Z1q n))),.i 4])) (DB (y:=.av (.agg [.i 1,lst 7 AQ.c [Z1q n],.i 4])) (.av (.agg (rr (.cons (Bm true (Ae (c:=AQ.c) (xs:=([Z1q n]:List AQ)) rfl kr)) (rr .nil))))) (by simp only [DQ,h1,h2,h3,h4,h5,cond_true,cond_false] <;> rfl))
theorem Ja (n:Int):OKc (FQ n):=cPu<|dH n
def Z1r:Blk:=.cells [.i 0,vN,.i 0] 29
def Z1s:Blk:=.cells [.i s.Kind,.own 6 7 s.Edges.length,.i s.R] 29
def Z1t:Blk:=.row 7 s.Edges.length (AP AQ.c s.Edges) 133
def Aj (s:A2):A2:=s
def Bv:CT:=(39,[.agg (A2.c s)],.val [] (.av (.agg (A2.c (Aj s)))))
theorem Sn (s:A2) (hl:(s.Edges.length:Int)<=1000000):PuP 39 (Bv s).2.1 (.av (.agg (A2.c (Aj s)))):=by
 refine pwf Try.func39 fun W0 M0 => ?_
 refine AB<|rn ⟨[(1,tP 1 0),(2,tP 2 0)],[(KO s),(2,Z1r)]⟩<|AB ?_
 refine C4 DV [3] [] [] [1,2] [1,2,6] [0=0,0+s.Edges.length<=maxLen,(0+s.Edges.length)*56<=140737488355328] ⟨[(1,tP 1 0),(2,tP 2 0)],[(1,.cells [.i s.Kind,.own 6 7 (0+s.Edges.length),.i s.R] 29),(2,Z1r),(6,.row 7 (0+s.Edges.length) (fun i_ j_=>if i_<0 then (As 7 0 []) i_ j_ else (AP AQ.c s.Edges) (i_-0) j_) 133)]⟩ .nil kr (.cons rfl (.cons au3 (.cons au3 .nil)))<|AF ?_
 refine Aq (Cv.trans (BS (⟨[(1,tP 1 0),(2,tP 2 0)],[(1,Z1s s),(2,Z1r),(6,Z1t s)]⟩) lr (.cons ⟨rfl,.cells _ (rr (.cons (.own _ _ au0) (rr .nil)))⟩ (.cons ⟨rfl,.refl _⟩ (.cons ⟨rfl,Ao 133 (Au (Ae (c:=AQ.c) (xs:=(([]:List AQ):List AQ)) rfl kr) (An 7 AQ.c s.Edges))⟩ .nil)))) (Cv.refl _))<|AB ?_
 refine on<|Ac ?_
 exact zy (Cv.trans (vf 6 hk0) (Cv.refl _))
theorem Dm (s:A2) (hl:(s.Edges.length:Int)<=1000000):OKc (Bv s):=cPu<|Sn s hl
theorem Dw {α:Type} {c:Bool} {a b:α×AD} (ha:Br a.2) (hb:Br b.2):Br (bif c then a else b).2:=by cases c <;> assumption
theorem Es {b:AC} {d:AD} (h:Br d):Br (Cg b d).2:=Be h
theorem Db {a c:AE} {d:AD} (h:Br d):Br (C2 a c d).2:=by
 unfold C2
 exact Dw (Be h) (Dw (Be (Be h)) (Be h))
theorem Dr {b:AC} {types:List AV} {d:AD} (h:Br d):Br (Bx b types d).2:=by
 unfold Bx
 exact Dw (Be (Be h)) (Be (Be h))
theorem Dh {l:List (List Int)} (hl:∀ x∈l,(x.length:Int)<=9223372036854775807) (k:Int):((AZ l k).length:Int)<=9223372036854775807:=by
 unfold AZ
 by_cases h:k<(l.length:Int)
 ·rw [decide_eq_true h]
  simp only [cond_true]
  by_cases hk:k.toNat<l.length
  ·rw [List.getD_eq_getElem?_getD,List.getElem?_eq_getElem hk]
   exact hl _ (List.getElem_mem _)
  rw [List.getD_eq_getElem?_getD,List.getElem?_eq_none oM]
  decide
 rw [decide_eq_false h]
 exact Int.le_of_lt (by decide:((([]:List Int).length:Nat):Int)<9223372036854775807)
theorem S5 {v:Int} {d:AD} {n:Int} (h:v<(AA d n).1) (h0:0<n) (h1:n<=1000000):v<n:=by
 have:=DU d n h0 (by omega)
 omega
end
section
open Go.RowKit
variable (b:AC) (AW:List Ap) (Ak:List Bo) (Ay:List A4) (types:List AV) (v12:Int) (l:List (List Int)) (v6 v6' v6'':AD)
def Z1u:Tv:=.av (oL l)
abbrev Vx:List Cl:=(BZ b [vN,vN,vN,vN,vN,vN,vN,vN,vN])
def Z1v:Blk:=.cells (Vx b) 42
abbrev Mq:List Cl:=(BZ b [lst 6 Ap.c [],lst 8 Bo.c [],lst 8 A4.c [],lst 5 BT.c [],lst 4 Bi.c [],lst 2 BQ.c [],lst 20 Az.c [],lst 3 BF.c [],lst 3 Ba.c []])
abbrev HG:=AC.mk b.Layers b.Outline b.Parts b.Nets [] [] [] [] [] [] [] [] []
abbrev N6:List Av:=[.one (.ptr 1000 0),.one (.ptr 1001 0)]
def Z1w:CT:=(81,(N6:List Av).map (Fe 1000 1000 1001 22),wqV 1000 22 [6,7,8,9,10,11,12,13,14] (Mq b) 42 (.cells [lst 1 eIn (AZ l 4),.i 0] 146) (.av (.one (.s (Cg (HG b) (AD.mk (AZ l 4) 0)).1))) (.cells (AD.c (Cg (HG b) (AD.mk (AZ l 4) 0)).2) 146))
abbrev Z1x:AD:=(Cg (AC.mk b.Layers b.Outline b.Parts b.Nets [] [] [] [] [] [] [] [] []) (AD.mk (AZ l 4) 0)).2
def Z1y:Tv:=.av (.one (.s (Cg (HG b) (AD.mk (AZ l 4) 0)).1))
def Z1z:CT:=(54,(N3:List Av).map (B3 1000 22),wrI 22 (.cells (AD.c (Z1x b l)) 146) (tI (AA (Z1x b l) 6).1) (.cells (AD.c (AA (Z1x b l) 6).2) 146))
def Z1A:Blk:=.cells (AD.c (AA (Z1x b l) 6).2) 146
abbrev FB:List Av:=[.one (.ptr 1000 0),.one (.i 3)]
def Z1B:CT:=(54,(FB:List Av).map (B3 1000 75),wrI 75 (.cells [lst 1 eIn (AZ l 5),.i 0] 146) (tI (AA (AD.mk (AZ l 5) 0) 3).1) (.cells (AD.c (AA (AD.mk (AZ l 5) 0) 3).2) 146))
def Z1C:Tv:=tI (AA (AD.mk (AZ l 5) 0) 3).1
def Z1D:Blk:=.cells (AD.c (AA (AD.mk (AZ l 5) 0) 3).2) 146
abbrev KR:=AA (AD.mk (AZ l 6) 0) 3
def Z1E:CT:=(54,(FB:List Av).map (B3 1000 189),wrI 189 (.cells [lst 1 eIn (AZ l 6),.i 0] 146) (tI (KR l).1) (.cells (AD.c (KR l).2) 146))
def Z1F:Blk:=.cells (AD.c (KR l).2) 146
abbrev Tx:List Av:=[.agg (bC b),.one (Ii types),.one (.ptr 1000 0)]
abbrev Jy:=AC.mk b.Layers b.Outline b.Parts [] [] [] [] [] [] [] [] [] []
def Z1G:CT:=(83,((Tx b types):List Av).map (B3 1000 189),wrI 189 (.cells (AD.c (KR l).2) 146) (.av (.agg (AE.c (Bx (Jy b) types (KR l).2).1))) (.cells (AD.c (Bx (Jy b) types (KR l).2).2) 146))
abbrev Z1H:AD:=(Bx (AC.mk b.Layers b.Outline b.Parts [] [] [] [] [] [] [] [] [] []) types (AA (AD.mk (AZ l 6) 0) 3).2).2
def Z1I:AE:=(Bx (AC.mk b.Layers b.Outline b.Parts [] [] [] [] [] [] [] [] [] []) types (AA (AD.mk (AZ l 6) 0) 3).2).1
def Z1J:CT:=(54,(FB:List Av).map (B3 1000 189),wrI 189 (.cells (AD.c (Z1H b types l)) 146) (tI (AA (Z1H b types l) 3).1) (.cells (AD.c (AA (Z1H b types l) 3).2) 146))
def Z1K:A2:=DM (Ai.mk (Z1I b types l).X (Z1I b types l).Y (W64 ((Z1I b types l).X+30)) (W64 ((Z1I b types l).Y+20)))
abbrev Z1L (l:(List (List Int))) (b:AC) (types:(List AV)):AD:=bif decide (((AA (AD.mk (AZ l 6) 0) 3).1:Int)=0) then (AA (Z1H b types l) 3).2 else (AA (AD.mk (AZ l 6) 0) 3).2
def Z1M (l:(List (List Int))) (b:AC) (types:(List AV)):(List BT):=bif decide (((AA (AD.mk (AZ l 6) 0) 3).1:Int)=0) then [BT.mk 41 (AA (Z1H b types l) 3).1 (Z1K b types l)] else []
def Z1N (l:(List (List Int))) (b:AC) (types:(List AV)):CT:=(54,(FB:List Av).map (B3 1000 189),wrI 189 (.cells (AD.c (Z1L l b types)) 146) (tI (AA (Z1L l b types) 3).1) (.cells (AD.c (AA (Z1L l b types) 3).2) 146))
def Z1O (l:(List (List Int))) (b:AC) (types:(List AV)):Tv:=tB (decide (((AA (Z1L l b types) 3).1:Int)=0))
def Z1P (l:(List (List Int))) (b:AC) (types:(List AV)):Blk:=.cells (AD.c (AA (Z1L l b types) 3).2) 146
def Z1Q:CT:=(83,((Tx b types):List Av).map (B3 1000 189),wrI 189 (.cells (AD.c (AA (Z1L l b types) 3).2) 146) (.av (.agg (AE.c (Bx (Jy b) types (AA (Z1L l b types) 3).2).1))) (.cells (AD.c (Bx (Jy b) types (AA (Z1L l b types) 3).2).2) 146))
abbrev Z1R:AD:=(Bx (AC.mk b.Layers b.Outline b.Parts [] [] [] [] [] [] [] [] [] []) types (AA (Z1L l b types) 3).2).2
def Z1S:AE:=(Bx (AC.mk b.Layers b.Outline b.Parts [] [] [] [] [] [] [] [] [] []) types (AA (Z1L l b types) 3).2).1
def Z1T:CT:=(54,HU.map (B3 1000 189),wrI 189 (.cells (AD.c (Z1R b types l)) 146) (tI (AA (Z1R b types l) 4).1) (.cells (AD.c (AA (Z1R b types l) 4).2) 146))
def Z1U:AQ:=EB (Z1S b types l) (AE.mk (W64 ((Z1S b types l).X+25)) (W64 ((Z1S b types l).Y+10)))
def Z1V:Blk:=.row 8 ([]:List A4).length (AP A4.c ([]:List A4)) 90
def Z1W:Blk:=.row 8 Ay.length (AP A4.c Ay) 90
def Z1X:Blk:=.row 8 ([]:List Bo).length (AP Bo.c ([]:List Bo)) 87
def Z1Y:Blk:=.row 8 Ak.length (AP Bo.c Ak) 87
def Z1Z:Blk:=.row 6 ([]:List Ap).length (AP Ap.c ([]:List Ap)) 85
def Z20:Blk:=.cells (BZ b [.own 100000 6 ([]:List Ap).length,vN,vN,vN,vN,vN,vN,vN,vN]) 42
abbrev Tt:List Cl:=(BZ b [.own 100000 6 AW.length,vN,vN,vN,vN,vN,vN,vN,vN])
def Z21:Blk:=.cells (Tt b AW) 42
def Z22:Blk:=.row 6 AW.length (AP Ap.c AW) 85
abbrev Hc:List Av:=[.one (.ptr 1000 0),.one (.i 2)]
def Z23:CT:=(54,(Hc:List Av).map (B3 1000 22),wrI 22 (.cells (AD.c v6) 146) (tI (AA v6 2).1) (.cells (AD.c (AA v6 2).2) 146))
abbrev Iy:=AA (AA v6 2).2 4
def Z24:CT:=(54,HU.map (B3 1000 22),wrI 22 (.cells (AD.c (AA v6 2).2) 146) (tI (Iy v6).1) (.cells (AD.c (Iy v6).2) 146))
def Z25:CT:=(83,((Tx b types):List Av).map (B3 1000 22),wrI 22 (.cells (AD.c (Iy v6).2) 146) (.av (.agg (AE.c (Bx (Jy b) types (Iy v6).2).1))) (.cells (AD.c (Bx (Jy b) types (Iy v6).2).2) 146))
abbrev Z26:AD:=(Bx (AC.mk b.Layers b.Outline b.Parts [] [] [] [] [] [] [] [] [] []) types (AA (AA v6 2).2 4).2).2
def Z27:AE:=(Bx (AC.mk b.Layers b.Outline b.Parts [] [] [] [] [] [] [] [] [] []) types (AA (AA v6 2).2 4).2).1
def Z28:CT:=(83,((Tx b types):List Av).map (B3 1000 22),wrI 22 (.cells (AD.c (Z26 b types v6)) 146) (.av (.agg (AE.c (Bx (Jy b) types (Z26 b types v6)).1))) (.cells (AD.c (Bx (Jy b) types (Z26 b types v6)).2) 146))
abbrev Z29:AD:=(Bx (AC.mk b.Layers b.Outline b.Parts [] [] [] [] [] [] [] [] [] []) types (Z26 b types v6)).2
def Z2a:AE:=(Bx (AC.mk b.Layers b.Outline b.Parts [] [] [] [] [] [] [] [] [] []) types (Z26 b types v6)).1
abbrev N1:=C2 (Z27 b types v6) (Z2a b types v6) (Z29 b types v6)
def Z2b:CT:=(82,([.agg (AE.c (Z27 b types v6)),.agg (AE.c (Z2a b types v6)),.one (.ptr 1000 0)]:List Av).map (B3 1000 22),wrI 22 (.cells (AD.c (Z29 b types v6)) 146) (.av (.one (lst 7 AQ.c (N1 b types v6).1))) (.cells (AD.c (N1 b types v6).2) 146))
abbrev Z2c:AD:=(C2 (Z27 b types v6) (Z2a b types v6) (Z29 b types v6)).2
abbrev Zs (v9:Int) (v7:ByteArray) (v6:AD) (b:AC) (types:List AV):=[Ap.mk (W64 (11+v9)) v7 (W64 (1+(AA v6 2).1)) (A2.mk 1 (N1 b types v6).1 (W64 (3+(Iy v6).1)))]
def Z2d (AW:List Ap) (v9:Int) (v7:ByteArray) (v6:AD) (b:AC) (types:(List AV)):Blk:=.row 6 (AW++(Zs v9 v7 v6 b types)).length (AP Ap.c (AW++(Zs v9 v7 v6 b types))) 85
abbrev Zu (b:AC) (AW:List Ap) (v9:Int) (v7:ByteArray) (v6:AD) (types:List AV):List Cl:=(BZ b [.own 66 6 (AW++(Zs v9 v7 v6 b types)).length,vN,vN,vN,vN,vN,vN,vN,vN])
def Z2e (b:AC) (AW:List Ap) (v9:Int) (v7:ByteArray) (v6:AD) (types:(List AV)):Blk:=.cells (Zu b AW v9 v7 v6 types) 42
def Z2f:CT:=(81,(N6:List Av).map (Fe 1000 1000 1001 22),wqV 1000 22 [6,7,8,9,10,11,12,13,14] (Mq b) 42 (.cells (AD.c (Z2c b types v6)) 146) (.av (.one (.s (Cg (HG b) (Z2c b types v6)).1))) (.cells (AD.c (Cg (HG b) (Z2c b types v6)).2) 146))
abbrev Z2g:AD:=(Cg (AC.mk b.Layers b.Outline b.Parts b.Nets [] [] [] [] [] [] [] [] []) (Z2c b types v6)).2
def Z2h:Tv:=.av (.one (.s (Cg (HG b) (Z2c b types v6)).1))
def Z2i:Blk:=.cells (AD.c (Z2g b types v6)) 146
def Z2j:CT:=(81,(N6:List Av).map (Fe 1000 1000 1001 75),wqV 1000 75 [6,7,8,9,10,11,12,13,14] (Mq b) 42 (.cells (AD.c v6') 146) (.av (.one (.s (Cg (HG b) v6').1))) (.cells (AD.c (Cg (HG b) v6').2) 146))
abbrev Z2k:AD:=(Cg (AC.mk b.Layers b.Outline b.Parts b.Nets [] [] [] [] [] [] [] [] []) v6').2
def Z2l:CT:=(83,((Tx b types):List Av).map (B3 1000 75),wrI 75 (.cells (AD.c (Z2k b v6')) 146) (.av (.agg (AE.c (Bx (Jy b) types (Z2k b v6')).1))) (.cells (AD.c (Bx (Jy b) types (Z2k b v6')).2) 146))
abbrev Z2m:AD:=(Bx (AC.mk b.Layers b.Outline b.Parts [] [] [] [] [] [] [] [] [] []) types (Z2k b v6')).2
def Z2n:AE:=(Bx (AC.mk b.Layers b.Outline b.Parts [] [] [] [] [] [] [] [] [] []) types (Z2k b v6')).1
abbrev mR:List Av:=[.one (.ptr 1000 0),.one (.i 5)]
abbrev KM:List Av:=(mR:List Av)
def Z2o:CT:=(54,KM.map (B3 1000 75),wrI 75 (.cells (AD.c (Z2m b types v6')) 146) (tI (AA (Z2m b types v6') 5).1) (.cells (AD.c (AA (Z2m b types v6') 5).2) 146))
def Z2p:CT:=(54,(FB:List Av).map (B3 1000 75),wrI 75 (.cells (AD.c (AA (Z2m b types v6') 5).2) 146) (tI (AA (AA (Z2m b types v6') 5).2 3).1) (.cells (AD.c (AA (AA (Z2m b types v6') 5).2 3).2) 146))
abbrev Z2q:AD:=(AA (AA (Z2m b types v6') 5).2 3).2
def Z2r:Blk:=.cells (AD.c (Z2q b types v6')) 146
abbrev SW (v11:Int) (b:AC) (v6':AD) (types:List AV):=[Bo.mk (W64 (21+v11)) (Cg (HG b) v6').1 (Z2n b types v6') (W64 (6+(AA (Z2m b types v6') 5).1)) (W64 (4+(W64 (2*(AA (AA (Z2m b types v6') 5).2 3).1)))) 1 2]
def Z2s (Ak:List Bo) (v11:Int) (b:AC) (v6':AD) (types:(List AV)):Blk:=.row 8 (Ak++(SW v11 b v6' types)).length (AP Bo.c (Ak++(SW v11 b v6' types))) 87
def Z2t (b:AC) (AW:List Ap) (Ak:List Bo) (v11:Int) (v6':AD) (types:(List AV)):Blk:=.cells (BZ b [.own 100000 6 AW.length,.own 108 8 (Ak++(SW v11 b v6' types)).length,vN,vN,vN,vN,vN,vN,vN]) 42
def Z2u:CT:=(54,(FB:List Av).map (B3 1000 75),wrI 75 (.cells (AD.c v6') 146) (tI (AA v6' 3).1) (.cells (AD.c (AA v6' 3).2) 146))
def Z2v:CT:=(54,(VP:List Av).map (B3 1000 75),wrI 75 (.cells (AD.c v6'') 146) (tI (AA v6'' 12).1) (.cells (AD.c (AA v6'' 12).2) 146))
abbrev Gi:=AA (AA v6'' 12).2 12
def Z2w:CT:=(54,(VP:List Av).map (B3 1000 75),wrI 75 (.cells (AD.c (AA v6'' 12).2) 146) (tI (Gi v6'').1) (.cells (AD.c (Gi v6'').2) 146))
def Z2x:CT:=(54,(N3:List Av).map (B3 1000 75),wrI 75 (.cells (AD.c (Gi v6'').2) 146) (tI (AA (Gi v6'').2 6).1) (.cells (AD.c (AA (Gi v6'').2 6).2) 146))
abbrev Z2y:AD:=(AA (AA (AA v6'' 12).2 12).2 6).2
def Z2z:CT:=(54,KM.map (B3 1000 75),wrI 75 (.cells (AD.c (Z2y v6'')) 146) (tI (AA (Z2y v6'') 5).1) (.cells (AD.c (AA (Z2y v6'') 5).2) 146))
abbrev Vq:=Cg (HG b) (AA (Z2y v6'') 5).2
def Z2A:CT:=(81,(N6:List Av).map (Fe 1000 1000 1001 75),wqV 1000 75 [6,7,8,9,10,11,12,13,14] (Mq b) 42 (.cells (AD.c (AA (Z2y v6'') 5).2) 146) (.av (.one (.s (Vq b v6'').1))) (.cells (AD.c (Vq b v6'').2) 146))
abbrev Z2B:AD:=(Cg (AC.mk b.Layers b.Outline b.Parts b.Nets [] [] [] [] [] [] [] [] []) (AA (Z2y v6'') 5).2).2
abbrev H6:=AA (Z2B b v6'') 2
def Z2C:CT:=(54,(Hc:List Av).map (B3 1000 75),wrI 75 (.cells (AD.c (Z2B b v6'')) 146) (tI (H6 b v6'').1) (.cells (AD.c (H6 b v6'').2) 146))
abbrev Vl:=AA (H6 b v6'').2 3
def Z2D:CT:=(54,(FB:List Av).map (B3 1000 75),wrI 75 (.cells (AD.c (H6 b v6'').2) 146) (tI (Vl b v6'').1) (.cells (AD.c (Vl b v6'').2) 146))
abbrev Z2E:AD:=(AA (AA (Z2B b v6'') 2).2 3).2
abbrev H5:=AA (Z2E b v6'') 2
def Z2F:CT:=(54,(Hc:List Av).map (B3 1000 75),wrI 75 (.cells (AD.c (Z2E b v6'')) 146) (tI (H5 b v6'').1) (.cells (AD.c (H5 b v6'').2) 146))
abbrev Vk:=AA (H5 b v6'').2 4
def Z2G:CT:=(54,HU.map (B3 1000 75),wrI 75 (.cells (AD.c (H5 b v6'').2) 146) (tI (Vk b v6'').1) (.cells (AD.c (Vk b v6'').2) 146))
abbrev Z2H:AD:=(AA (AA (Z2E b v6'') 2).2 4).2
abbrev IB:=AA (Z2H b v6'') 6
def Z2I:CT:=(54,(N3:List Av).map (B3 1000 75),wrI 75 (.cells (AD.c (Z2H b v6'')) 146) (tI (IB b v6'').1) (.cells (AD.c (IB b v6'').2) 146))
abbrev Hf:=[Ai.mk (AA v6'' 12).1 (Gi v6'').1 (W64 ((W64 ((AA v6'' 12).1+1))+(AA (Gi v6'').2 6).1)) (W64 ((W64 ((Gi v6'').1+1))+(AA (Z2y v6'') 5).1))]
abbrev Nk (v12:Int) (b:AC) (v6'':AD) (t_:List Cl):List Cl:=(.i (W64 (31+v12)))::(.s (Vq b v6'').1)::(.i (W64 (1+(H6 b v6'').1)))::(.i (W64 (20+(W64 (5*(Vl b v6'').1)))))::(.i (H5 b v6'').1)::(.i (([0,0,5,9]:List Int).getD (Vk b v6'').1.toNat 0))::(.i (W64 (4+(IB b v6'').1)))::t_
def Z2J (v12:Int) (b:AC) (v6'':AD):Blk:=.cells (Nk v12 b v6'' [.own 158 4 ((Hf v6'').length)]) 90
def Z2K:Blk:=.row 4 ((Hf v6'').length) (AP Ai.c (Hf v6'')) 76
def Z2L:CT:=(54,(FB:List Av).map (B3 1000 75),wrI 75 (.cells (AD.c (IB b v6'').2) 146) (tI (AA (IB b v6'').2 3).1) (.cells (AD.c (AA (IB b v6'').2 3).2) 146))
abbrev Z2M:AD:=(AA (AA (Z2H b v6'') 6).2 3).2
def Z2N:Blk:=.cells (AD.c (Z2M b v6'')) 146
abbrev SL:=[Ai.mk (W64 ((AA v6'' 12).1-2)) (Gi v6'').1 (W64 ((AA v6'' 12).1+1)) (W64 ((Gi v6'').1+2))]
def Z2O:Blk:=.row 4 ((Hf v6'')++(SL v6'')).length (AP Ai.c ((Hf v6'')++(SL v6''))) 76
def Z2P:(List Ai):=bif decide (((AA (AA (Z2H b v6'') 6).2 3).1:Int)=0) then ([Ai.mk (AA v6'' 12).1 (AA (AA v6'' 12).2 12).1 (W64 ((W64 ((AA v6'' 12).1+1))+(AA (AA (AA v6'' 12).2 12).2 6).1)) (W64 ((W64 ((AA (AA v6'' 12).2 12).1+1))+(AA (Z2y v6'') 5).1))]++[Ai.mk (W64 ((AA v6'' 12).1-2)) (AA (AA v6'' 12).2 12).1 (W64 ((AA v6'' 12).1+1)) (W64 ((AA (AA v6'' 12).2 12).1+2))]) else [Ai.mk (AA v6'' 12).1 (AA (AA v6'' 12).2 12).1 (W64 ((W64 ((AA v6'' 12).1+1))+(AA (AA (AA v6'' 12).2 12).2 6).1)) (W64 ((W64 ((AA (AA v6'' 12).2 12).1+1))+(AA (Z2y v6'') 5).1))]
abbrev XZ (v12:Int) (b:AC) (v6'':AD):=[A4.mk (W64 (31+v12)) (Vq b v6'').1 (W64 (1+(H6 b v6'').1)) (W64 (20+(W64 (5*(Vl b v6'').1)))) (H5 b v6'').1 (([0,0,5,9]:List Int).getD (Vk b v6'').1.toNat 0) (W64 (4+(IB b v6'').1)) (Z2P b v6'')]
def Z2Q (Ay:List A4) (v12:Int) (b:AC) (v6'':AD):Blk:=.row 8 (Ay++(XZ v12 b v6'')).length (AP A4.c (Ay++(XZ v12 b v6''))) 90
def Z2R (b:AC) (AW:List Ap) (v9:Int) (v7:ByteArray) (v6:AD) (types:(List AV)):Blk:=.cells (BZ b [.own 100000 6 (AW++(Zs v9 v7 v6 b types)).length,vN,vN,vN,vN,vN,vN,vN,vN]) 42
def Z2S:Blk:=.cells (BZ b [.own 100000 6 AW.length,.own 100001 8 ([]:List Bo).length,vN,vN,vN,vN,vN,vN,vN]) 42
abbrev GG (t_:List Cl):List Cl:=(.own 100000 6 AW.length)::(.own 100001 8 Ak.length)::t_
abbrev Tu:List Cl:=(BZ b (GG AW Ak [vN,vN,vN,vN,vN,vN,vN]))
def Z2T:Blk:=.cells (Tu b AW Ak) 42
def Z2U:Blk:=.cells (BZ b (GG AW Ak [.own 183 8 (Ay++(XZ v12 b v6'')).length,vN,vN,vN,vN,vN,vN])) 42
def Z2V (b:AC) (AW:List Ap) (Ak:List Bo) (v11:Int) (v6':AD) (types:(List AV)):Blk:=.cells (BZ b [.own 100000 6 AW.length,.own 100001 8 (Ak++(SW v11 b v6' types)).length,vN,vN,vN,vN,vN,vN,vN]) 42
def Z2W:Blk:=.cells (BZ b (GG AW Ak [.own 100002 8 ([]:List A4).length,vN,vN,vN,vN,vN,vN])) 42
abbrev Tw:List Cl:=(BZ b (GG AW Ak [.own 100002 8 Ay.length,vN,vN,vN,vN,vN,vN]))
def Z2X:Blk:=.cells (Tw b AW Ak Ay) 42
abbrev aF (b:AC) (AW:List Ap) (Ak:List Bo) (Ay:List A4) (l:List (List Int)) (types:List AV):List Cl:=(BZ b (GG AW Ak [.own 100002 8 Ay.length,lst 5 BT.c (Z1M l b types),vN,vN,vN,vN,vN]))
def Z2Y (b:AC) (AW:List Ap) (Ak:List Bo) (Ay:List A4) (l:(List (List Int))) (types:(List AV)):Blk:=.cells (aF b AW Ak Ay l types) 42
def Z2Z (v12:Int) (b:AC) (v6'':AD):Blk:=.cells (Nk v12 b v6'' [.own 100003 4 ((Hf v6'')++(SL v6'')).length]) 90
def Z30 (v12:Int) (b:AC) (v6'':AD):Blk:=.cells (Nk v12 b v6'' [.own 100003 4 ((Hf v6'').length)]) 90
def Z31:Blk:=.cells (BZ b (GG AW Ak [.own 100002 8 (Ay++(XZ v12 b v6'')).length,vN,vN,vN,vN,vN,vN])) 42
def CN (b:AC) (types:(List AV)) (l:(List (List Int))) (AW:List Ap) (v6:AD) (v7:ByteArray) (v9:Int) (Ak:List Bo) (v6':AD) (v11:Int) (K0:List Ap->AD->ByteArray->Int->AC) (K1:List Bo->AD->Int->AC):Nat->List A4->AD->Int->AC
 | 0,_,_,_=>default
 | n2+1,Ay,v6'',v12=>bif decide ((v12:Int)<(AA v6' 3).1) then ((CN b types l AW v6 v7 v9 Ak v6' v11 K0 K1 n2) (Ay++[A4.mk (W64 (31+v12)) (Cg (AC.mk b.Layers b.Outline b.Parts b.Nets [] [] [] [] [] [] [] [] []) (AA (Z2y v6'') 5).2).1 (W64 (1+(AA (Z2B b v6'') 2).1)) (W64 (20+(W64 (5*(AA (AA (Z2B b v6'') 2).2 3).1)))) (AA (Z2E b v6'') 2).1 (([0,0,5,9]:List Int).getD (AA (AA (Z2E b v6'') 2).2 4).1.toNat 0) (W64 (4+(AA (Z2H b v6'') 6).1)) (Z2P b v6'')]) (Z2M b v6'') (v12+1)) else (bif decide (((AA (Z1L l b types) 3).1:Int)=0) then (AC.mk b.Layers b.Outline b.Parts b.Nets AW Ak Ay (Z1M l b types) [Bi.mk 51 (A2.mk 1 [Z1U b types l] (W64 (3+(AA (Z1R b types l) 4).1)))] [] [] [] []) else (AC.mk b.Layers b.Outline b.Parts b.Nets AW Ak Ay (Z1M l b types) [] [] [] [] []))
def Cc (b:AC) (types:(List AV)) (l:(List (List Int))) (AW:List Ap) (v6:AD) (v7:ByteArray) (v9:Int) (K0:List Ap->AD->ByteArray->Int->AC):Nat->List Bo->AD->Int->AC
 | 0,_,_,_=>default
 | n1+1,Ak,v6',v11=>bif decide ((v11:Int)<(AA (AD.mk (AZ l 5) 0) 3).1) then ((Cc b types l AW v6 v7 v9 K0 n1) (Ak++[Bo.mk (W64 (21+v11)) (Cg (AC.mk b.Layers b.Outline b.Parts b.Nets [] [] [] [] [] [] [] [] []) v6').1 (Z2n b types v6') (W64 (6+(AA (Z2m b types v6') 5).1)) (W64 (4+(W64 (2*(AA (AA (Z2m b types v6') 5).2 3).1)))) 1 2]) (Z2q b types v6') (v11+1)) else (CN b types l AW v6 v7 v9 Ak v6' v11 K0 (Cc b types l AW v6 v7 v9 K0 n1) (((AA v6' 3).1-0).toNat+1) ([]:List A4) (AA v6' 3).2 0)
def CF (b:AC) (types:(List AV)) (l:(List (List Int))):Nat->List Ap->AD->ByteArray->Int->AC
 | 0,_,_,_,_=>default
 | n0+1,AW,v6,v7,v9=>bif decide ((v9:Int)<(AA (Z1x b l) 6).1) then ((CF b types l n0) (AW++[Ap.mk (W64 (11+v9)) v7 (W64 (1+(AA v6 2).1)) (A2.mk 1 (C2 (Z27 b types v6) (Z2a b types v6) (Z29 b types v6)).1 (W64 (3+(AA (AA v6 2).2 4).1)))]) (Z2g b types v6) (Cg (AC.mk b.Layers b.Outline b.Parts b.Nets [] [] [] [] [] [] [] [] []) (Z2c b types v6)).1 (v9+1)) else (Cc b types l AW v6 v7 v9 (CF b types l n0) (((AA (AD.mk (AZ l 5) 0) 3).1-0).toNat+1) ([]:List Bo) (AA (AD.mk (AZ l 5) 0) 3).2 0)
def Bb (b:AC) (types:(List AV)) (l:(List (List Int))):AC:=CF b types l (((AA (Z1x b l) 6).1-0).toNat+1) ([]:List Ap) (AA (Z1x b l) 6).2 (Cg (AC.mk b.Layers b.Outline b.Parts b.Nets [] [] [] [] [] [] [] [] []) (AD.mk (AZ l 4) 0)).1 0
abbrev cD (v12:Int) (b:AC) (v6'':AD):List Cl:=(Nk v12 b v6'' [lst 4 Ai.c (Z2P b v6'')])
abbrev Dt (t_:List (Nat×Tv)):List (Nat×Tv):=(0,tP 1000 0)::(GQ types)::(2,Z1u l)::(6,tP 75 0)::t_
abbrev GI:Nat×Tv:=(8,tI (AA v6' 3).1)
abbrev OE (types:List AV) (l:List (List Int)) (v6':AD) (v12:Int):List (Nat×Tv):=(Dt types l [(GI v6'),(12,tI v12),(16,tP 16 0)])
abbrev CO:Nat×Blk:=(100000,Z22 AW)
abbrev DL:Nat×Blk:=(100001,Z1Y Ak)
abbrev IA:Nat×Tv:=(8,tI (AA (Z1x b l) 6).1)
abbrev EU:Nat×Blk:=(100002,Z1W Ay)
abbrev N0:List (Nat×Tv):=[(0,tP 1000 0),(GQ types),(6,tP 189 0)]
abbrev H1 (t_:List (Nat×Tv)):List (Nat×Tv):=(0,tP 1000 0)::(GQ types)::(2,Z1u l)::(6,tP 22 0)::t_
abbrev Z3 (v12:Int) (b:AC) (v6'':AD) (t_:List Cl):List Cl:=(.i (W64 (31+v12)))::(.s (Cg (HG b) (AA (Z2y v6'') 5).2).1)::(.i (W64 (1+(AA (Z2B b v6'') 2).1)))::(.i (W64 (20+(W64 (5*(AA (AA (Z2B b v6'') 2).2 3).1)))))::(.i (AA (Z2E b v6'') 2).1)::(.i (([0,0,5,9]:List Int).getD (AA (AA (Z2E b v6'') 2).2 4).1.toNat 0))::(.i (W64 (4+(AA (Z2H b v6'') 6).1)))::t_
theorem au6 {p:Prop} (h:p:=by repeat (first | with_reducible assumption | exact C0 (Dh hll _) | with_reducible refine Be ?_ | with_reducible refine Es ?_ | with_reducible refine Dr ?_ | with_reducible refine Db ?_  | with_reducible refine DD ?_ ?_)):p:=h
set_option maxHeartbeats 2000000 in
theorem WT  (b:AC) (types:(List AV)) (l:(List (List Int))) (hb:(b.Parts.length:Int)<=1000000) (ht:(types.length:Int)<=1000000) (hg:NX b types) (hn:1<=(b.Nets.length:Int)/\(b.Nets.length:Int)<=1000000) (hl:(l.length:Int)<=9223372036854775807) (hll:∀ x∈l,(x.length:Int)<=9223372036854775807):Wr Try.prog 56 1000 [.one (.ptr 1000 0),.one (lst 3 AV.c types),.one (lst 1 (fun x=>[lst 1 eIn x]) l)] (.cells [.i b.Layers,.i b.Outline.Kind,lst 7 AQ.c b.Outline.Edges,.i b.Outline.R,lst 7 AG.c b.Parts,lst 2 A7.c b.Nets,vN,vN,vN,vN,vN,vN,vN,vN,vN] 42) (.tup []) (.cells [.i (Bb b types l).Layers,.i (Bb b types l).Outline.Kind,lst 7 AQ.c (Bb b types l).Outline.Edges,.i (Bb b types l).Outline.R,lst 7 AG.c (Bb b types l).Parts,lst 2 A7.c (Bb b types l).Nets,lst 6 Ap.c (Bb b types l).Tracks,lst 8 Bo.c (Bb b types l).Vias,lst 8 A4.c (Bb b types l).Pours,lst 5 BT.c (Bb b types l).Keeps,lst 4 Bi.c (Bb b types l).Slots,vN,vN,vN,vN] 42):=by
 refine Hg Try.func56 rfl kr kr kr kr fun W0 M0 X hX => ?_
 refine AB<|oq 20 (Eh l 4) (F6 l 4 au13)<|AF<|AB ?_
 refine oc [(25,(Z1w b l))] [A0 (Z1w b l).2.1,Blk.cells (Vx b) 42=Blk.cells (Pk [6,7,8,9,10,11,12,13,14] 0 (Vx b) (Mq b)) 42,CB (.cells [lst 1 eIn (AZ l 4),.i 0] 146)] (.cons (IZ (B0:=fun vs=>(BZ b [.val (vs 6),.val (vs 7),.val (vs 8),.val (vs 9),.val (vs 10),.val (vs 11),.val (vs 12),.val (vs 13),.val (vs 14)])) (fun _ _=>kr) kr rfl rfl kr (fun vs=>by kernel_rfl) (fun vs=>by kernel_rfl) (fun vs=>Sg (AC.mk b.Layers b.Outline b.Parts b.Nets [] [] [] [] [] [] [] [] []) (AD.mk (AZ l 4) 0) vs au6 oM)) .nil) (.cons rfl (.cons rfl (.cons rfl .nil)))<|AF<|AB ?_
 refine rb 27 (Z1z b l) (.cells (AD.c (Z1x b l)) 146) ⟨(H1 types l [(7,Z1y b l),(IA b l)]),[(22,Z1A b l),(1000,Z1v b)]⟩ (cWr (Bj (Z1x b l) 6 au6 au11))<|AF ?_
 refine AB<|AB ?_
 refine rn ⟨(H1 types l [(7,Z1y b l),(IA b l),(9,tI 0)]),[(22,Z1A b l),(1000,Z1v b)]⟩<|AX ?_
 refine Aq (Cv.trans (vg 100000 6 (fun _ _=>default) 85 [] [(1000,[6])] (K:=[1000]) hX) (Cv.trans (Cr 100000 (CL 6 (fun _ _=>default) Ap.c)) (Cv.trans (ck (⟨(H1 types l [(7,Z1y b l),(IA b l),(9,tI 0)]),[(22,Z1A b l),(1000,Z20 b),(100000,Z1Z)]⟩)) (Cv.refl _)))) ?_
 refine Bc (ι:=Nat×List Ap×AD×ByteArray×Int) (fun x=>⟨(H1 types l [(7,tO (.s x.2.2.2.1)),(IA b l),(9,tI x.2.2.2.2)]),[(22,.cells (AD.c x.2.2.1) 146),(1000,.cells (BZ b [.own 100000 6 x.2.1.length,vN,vN,vN,vN,vN,vN,vN,vN]) 42),(100000,.row 6 x.2.1.length (AP Ap.c x.2.1) 85)]⟩) (fun x=>((AA (Z1x b l) 6).1-x.2.2.2.2).toNat<x.1/\(Br x.2.2.1/\0<=x.2.2.2.2/\(x.2.2.2.2<=(AA (Z1x b l) 6).1\/x.2.2.2.2=0)/\(x.2.1.length:Int)<=0+1*(x.2.2.2.2-0))/\CF b types l x.1 x.2.1 x.2.2.1 x.2.2.2.1 x.2.2.2.2=Bb b types l) (fun x=>x.1) ?_ (((AA (Z1x b l) 6).1-0).toNat+1,([]:List Ap),(AA (Z1x b l) 6).2,(Cg (AC.mk b.Layers b.Outline b.Parts b.Nets [] [] [] [] [] [] [] [] []) (AD.mk (AZ l 4) 0)).1,0) ⟨Nat.lt_succ_self _,⟨(by show Br ((AA (Z1x b l) 6).2);repeat (first | with_reducible assumption | exact C0 (Dh hll _) | with_reducible refine Be ?_ | with_reducible refine Es ?_ | with_reducible refine Dr ?_ | with_reducible refine Db ?_  | with_reducible refine DD ?_ ?_)),ax0,ax0,ax0⟩,(by simp only [Bb,cond_true,cond_false])⟩
 rintro ⟨n0,AW,v6,v7,v9⟩ ⟨hm0,hinv0,hF0⟩
 try dsimp only at hm0 hinv0 hF0
 cases n0 with | zero=>exact nz hm0 | succ n0 => ?_
 have hi0_0:=hinv0.1
 refine AB<|AB ?_
 refine rn ⟨(H1 types l [(7,tO (.s v7)),(IA b l),(9,tI v9),(30,tB (decide ((v9:Int)<(AA (Z1x b l) 6).1)))]),[(22,.cells (AD.c v6) 146),(1000,Z21 b AW),(CO AW)]⟩ ?_
 refine AL _ rfl (fun h1 => ?_) (fun h1 => ?_)
 ·have g1:=oT h1
  have k1:=S5 g1 (by decide) (by decide)
  refine Af<|AF ?_
  refine AB<|AX<|AB ?_
  refine rb 37 (Z23 v6) (.cells (AD.c v6) 146) ⟨(H1 types l [(IA b l),(9,tI v9),(10,tP 10 0)]),[(10,.cells [.i (W64 (11+v9)),.s v7,.i (W64 (1+(AA v6 2).1)),.i 0,vN,.i 0] 85),(22,.cells (AD.c (AA v6 2).2) 146),(1000,Z21 b AW),(CO AW)]⟩ (cWr (Bj v6 2 au6 au11))<|AF<|AB ?_
  refine od [] [(41,(Z24 v6)),(48,ceI [.agg (Tt b AW),.one (Ii types),.one (.ptr 22 0)] (Z25 b types v6)),(54,ceI [.agg (Tt b AW),.one (Ii types),.one (.ptr 22 0)] (Z28 b types v6)),(56,(Z2b b types v6))] [A0 (Z24 v6).2.1,CB (.cells (AD.c (AA v6 2).2) 146),A0 (ceI [.agg (Tt b AW),.one (lst 3 AV.c types),.one (.ptr 22 0)] (Z25 b types v6)).2.1,CB (.cells (AD.c (AA (AA v6 2).2 4).2) 146),A0 (ceI [.agg (Tt b AW),.one (lst 3 AV.c types),.one (.ptr 22 0)] (Z28 b types v6)).2.1,CB (.cells (AD.c (Z26 b types v6)) 146),A0 (Z2b b types v6).2.1,CB (.cells (AD.c (Z29 b types v6)) 146)] (.cons (cWr (Bj (AA v6 2).2 4 au6 au11)) (.cons (DI (cWr (LD (AC.mk b.Layers b.Outline b.Parts [] [] [] [] [] [] [] [] [] []) types (AA (AA v6 2).2 4).2 au6 oM oM (by assumption))) (.cons (.agg (rr5 (.cons (.any _) (.cons (.any _) (.cons (.any _) (.cons (.any _) (.cons (.any _) (.cons (.any _) (.cons (.any _) (.cons (.any _) (.cons (.any _) (.cons (.any _) .nil)))))))))))) (.cons (AvE.refl _) (.cons (AvE.refl _) .nil)))) (.cons (DI (cWr (LD (AC.mk b.Layers b.Outline b.Parts [] [] [] [] [] [] [] [] [] []) types (Z26 b types v6) au6 oM oM (by assumption))) (.cons (.agg (rr5 (.cons (.any _) (.cons (.any _) (.cons (.any _) (.cons (.any _) (.cons (.any _) (.cons (.any _) (.cons (.any _) (.cons (.any _) (.cons (.any _) (.cons (.any _) .nil)))))))))))) (.cons (AvE.refl _) (.cons (AvE.refl _) .nil)))) (.cons (cWr (dN (Z27 b types v6) (Z2a b types v6) (Z29 b types v6) au6)) .nil)))) (.cons rfl (.cons rfl (.cons rfl (.cons rfl (.cons rfl (.cons rfl (.cons rfl (.cons rfl .nil))))))))<|AF<|AB ?_
  refine dw [] [] [AW.length=AW.length,AW.length+1<=maxLen,(AW.length+1)*72<=140737488355328] ⟨(H1 types l [(IA b l),(9,tI v9)]),[(22,.cells (AD.c (Z2c b types v6)) 146),(66,.row 6 (AW.length+1) (fun i_ j_=>if i_<AW.length then (AP Ap.c AW) i_ j_ else (As 6 1 [.i (W64 (11+v9)),.s v7,.i (W64 (1+(AA v6 2).1)),.i 1,lst 7 AQ.c (N1 b types v6).1,.i (W64 (3+(Iy v6).1))]) (i_-AW.length) j_) 85),(1000,.cells (BZ b [.own 66 6 (AW.length+1),vN,vN,vN,vN,vN,vN,vN,vN]) 42)]⟩ .nil (.cons rfl (.cons au3 (.cons au3 .nil)))<|AF ?_
  refine Aq (Cv.trans (BS (⟨(H1 types l [(IA b l),(9,tI v9)]),[(22,.cells (AD.c (Z2c b types v6)) 146),(66,Z2d AW v9 v7 v6 b types),(1000,Z2e b AW v9 v7 v6 types)]⟩) lr (.cons ⟨rfl,.refl _⟩ (.cons ⟨rfl,Ao 85 (Au (An 6 Ap.c AW) (Ae (c:=Ap.c) (xs:=([Ap.mk (W64 (11+v9)) v7 (W64 (1+(AA v6 2).1)) (A2.mk 1 (C2 (Z27 b types v6) (Z2a b types v6) (Z29 b types v6)).1 (W64 (3+(AA (AA v6 2).2 4).1)))]:List Ap)) rfl kr))⟩ (.cons ⟨rfl,.cells _ (rr5 (rr (.cons (.own _ _ au0) (rr (rr (rr (rr (rr (rr (rr (rr .nil)))))))))))⟩ .nil)))) (Cv.refl _)) ?_
  refine oc [(71,(Z2f b types v6))] [A0 (Z2f b types v6).2.1,Blk.cells (Zu b AW v9 v7 v6 types) 42=Blk.cells (Pk [6,7,8,9,10,11,12,13,14] 0 (Zu b AW v9 v7 v6 types) (Mq b)) 42,CB (.cells (AD.c (Z2c b types v6)) 146)] (.cons (IZ (B0:=fun vs=>(BZ b [.val (vs 6),.val (vs 7),.val (vs 8),.val (vs 9),.val (vs 10),.val (vs 11),.val (vs 12),.val (vs 13),.val (vs 14)])) (fun _ _=>kr) kr rfl rfl kr (fun vs=>by kernel_rfl) (fun vs=>by kernel_rfl) (fun vs=>Sg (AC.mk b.Layers b.Outline b.Parts b.Nets [] [] [] [] [] [] [] [] []) (Z2c b types v6) vs au6 oM)) .nil) (.cons rfl (.cons rfl (.cons rfl .nil)))<|A8<|AF ?_
  refine rg ⟨(H1 types l [(7,Z2h b types v6),(IA b l),(9,tI (W64 (v9+1)))]),[(22,Z2i b types v6),(66,Z2d AW v9 v7 v6 b types),(1000,Z2e b AW v9 v7 v6 types)]⟩ ?_
  (try rw [(show W64 (v9+1)=v9+1 from A1 oM au9)])
  refine AF ?_
  refine ⟨(n0,AW++[Ap.mk (W64 (11+v9)) v7 (W64 (1+(AA v6 2).1)) (A2.mk 1 (C2 (Z27 b types v6) (Z2a b types v6) (Z29 b types v6)).1 (W64 (3+(AA (AA v6 2).2 4).1)))],Z2g b types v6,(Cg (AC.mk b.Layers b.Outline b.Parts b.Nets [] [] [] [] [] [] [] [] []) (Z2c b types v6)).1,v9+1),⟨?_,?_,(by rw [<- hF0];simp only [CF,h1,cond_true,cond_false])⟩,Nat.lt_succ_self _,Cv.trans (vr 66 100000 (K:=[1000]) hX) (Cv.trans (vk [0,1,2,6,7,8,9] [22,1000,100000]) (BM kr))⟩
  ·show ((AA (Z1x b l) 6).1-(v9+1)).toNat<n0;omega
  exact ⟨(by show Br (Z2g b types v6);repeat (first | with_reducible assumption | exact C0 (Dh hll _) | with_reducible refine Be ?_ | with_reducible refine Es ?_ | with_reducible refine Dr ?_ | with_reducible refine Db ?_  | with_reducible refine DD ?_ ?_)),ax0,ax0,ax0⟩
 have g1:=oF h1
 refine BU<|BE ?_
 refine BE<|BV ?_
 refine AF<|AB ?_
 refine oq 73 (Eh l 5) (F6 l 5 au13)<|AF<|AB ?_
 refine rb 77 (Z1B l) (.cells [lst 1 eIn (AZ l 5),.i 0] 146) ⟨(Dt types l [(8,Z1C l)]),[(75,Z1D l),(1000,Z21 b AW),(CO AW)]⟩ (cWr (Bj (AD.mk (AZ l 5) 0) 3 au6 au11))<|AF ?_
 refine AB<|AB ?_
 refine rn ⟨(Dt types l [(8,Z1C l),(11,tI 0)]),[(75,Z1D l),(1000,Z21 b AW),(CO AW)]⟩<|AX ?_
 refine Aq (Cv.trans (vg 100001 8 (fun _ _=>default) 87 [] [(1000,[7])] (K:=[1000]) hX) (Cv.trans (Cr 100001 (CL 8 (fun _ _=>default) Bo.c)) (Cv.trans (ck (⟨(Dt types l [(8,Z1C l),(11,tI 0)]),[(75,Z1D l),(1000,Z2S b AW),(CO AW),(100001,Z1X)]⟩)) (Cv.refl _)))) ?_
 refine Bc (ι:=Nat×List Bo×AD×Int) (fun x=>⟨(Dt types l [(8,Z1C l),(11,tI x.2.2.2)]),[(75,.cells (AD.c x.2.2.1) 146),(1000,.cells (BZ b [.own 100000 6 AW.length,.own 100001 8 x.2.1.length,vN,vN,vN,vN,vN,vN,vN]) 42),(CO AW),(100001,.row 8 x.2.1.length (AP Bo.c x.2.1) 87)]⟩) (fun x=>((AA (AD.mk (AZ l 5) 0) 3).1-x.2.2.2).toNat<x.1/\(Br x.2.2.1/\0<=x.2.2.2/\(x.2.2.2<=(AA (AD.mk (AZ l 5) 0) 3).1\/x.2.2.2=0)/\(x.2.1.length:Int)<=0+1*(x.2.2.2-0))/\Cc b types l AW v6 v7 v9 (CF b types l n0) x.1 x.2.1 x.2.2.1 x.2.2.2=Bb b types l) (fun x=>x.1) ?_ (((AA (AD.mk (AZ l 5) 0) 3).1-0).toNat+1,([]:List Bo),(AA (AD.mk (AZ l 5) 0) 3).2,0) ⟨Nat.lt_succ_self _,⟨(by show Br ((AA (AD.mk (AZ l 5) 0) 3).2);repeat (first | with_reducible assumption | exact C0 (Dh hll _) | with_reducible refine Be ?_ | with_reducible refine Es ?_ | with_reducible refine Dr ?_ | with_reducible refine Db ?_  | with_reducible refine DD ?_ ?_)),ax0,ax0,ax0⟩,(by rw [<- hF0];simp only [CF,h1,cond_true,cond_false])⟩
 rintro ⟨n1,Ak,v6',v11⟩ ⟨hm1,hinv1,hF1⟩
 try dsimp only at hm1 hinv1 hF1
 cases n1 with | zero=>exact nz hm1 | succ n1 => ?_
 have hi1_0:=hinv1.1
 refine AB<|AB ?_
 refine rn ⟨(Dt types l [(8,Z1C l),(11,tI v11),(80,tB (decide ((v11:Int)<(AA (AD.mk (AZ l 5) 0) 3).1)))]),[(75,.cells (AD.c v6') 146),(1000,Z2T b AW Ak),(CO AW),(DL Ak)]⟩ ?_
 refine AL _ rfl (fun h2 => ?_) (fun h2 => ?_)
 ·have g2:=oT h2
  have k2:=S5 g2 (by decide) (by decide)
  refine Af<|AF ?_
  refine AB<|AX ?_
  refine dw [] [(92,(Z2j b v6')),(98,ceI [.agg (Tu b AW Ak),.one (Ii types),.one (.ptr 75 0)] (Z2l b types v6')),(100,(Z2o b types v6')),(103,(Z2p b types v6'))] [A0 (Z2j b v6').2.1,Blk.cells (Tu b AW Ak) 42=Blk.cells (Pk [6,7,8,9,10,11,12,13,14] 0 (Tu b AW Ak) (Mq b)) 42,CB (.cells (AD.c v6') 146),A0 (ceI [.agg (Tu b AW Ak),.one (lst 3 AV.c types),.one (.ptr 75 0)] (Z2l b types v6')).2.1,CB (.cells (AD.c (Z2k b v6')) 146),A0 (Z2o b types v6').2.1,CB (.cells (AD.c (Z2m b types v6')) 146),A0 (Z2p b types v6').2.1,CB (.cells (AD.c (AA (Z2m b types v6') 5).2) 146),Ak.length=Ak.length,Ak.length+1<=maxLen,(Ak.length+1)*72<=140737488355328] ⟨(Dt types l [(8,Z1C l),(11,tI v11)]),[(75,Z2r b types v6'),(108,.row 8 (Ak.length+1) (fun i_ j_=>if i_<Ak.length then (AP Bo.c Ak) i_ j_ else (As 8 1 [.i (W64 (21+v11)),.s (Cg (HG b) v6').1,.i (Z2n b types v6').X,.i (Z2n b types v6').Y,.i (W64 (6+(AA (Z2m b types v6') 5).1)),.i (W64 (4+(W64 (2*(AA (AA (Z2m b types v6') 5).2 3).1)))),.i 1,.i 2]) (i_-Ak.length) j_) 87),(1000,.cells (BZ b [.own 100000 6 AW.length,.own 108 8 (Ak.length+1),vN,vN,vN,vN,vN,vN,vN]) 42),(CO AW)]⟩ (.cons (IZ (B0:=fun vs=>(BZ b [.val (vs 6),.val (vs 7),.val (vs 8),.val (vs 9),.val (vs 10),.val (vs 11),.val (vs 12),.val (vs 13),.val (vs 14)])) (fun _ _=>kr) kr rfl rfl kr (fun vs=>by kernel_rfl) (fun vs=>by kernel_rfl) (fun vs=>Sg (AC.mk b.Layers b.Outline b.Parts b.Nets [] [] [] [] [] [] [] [] []) v6' vs au6 oM)) (.cons (DI (cWr (LD (AC.mk b.Layers b.Outline b.Parts [] [] [] [] [] [] [] [] [] []) types (Z2k b v6') au6 oM oM (by assumption))) (.cons (.agg (rr5 (.cons (.any _) (.cons (.any _) (.cons (.any _) (.cons (.any _) (.cons (.any _) (.cons (.any _) (.cons (.any _) (.cons (.any _) (.cons (.any _) (.cons (.any _) .nil)))))))))))) (.cons (AvE.refl _) (.cons (AvE.refl _) .nil)))) (.cons (cWr (Bj (Z2m b types v6') 5 au6 au11)) (.cons (cWr (Bj (AA (Z2m b types v6') 5).2 3 au6 au11)) .nil)))) (.cons rfl (.cons rfl (.cons rfl (.cons rfl (.cons rfl (.cons rfl (.cons rfl (.cons rfl (.cons rfl (.cons rfl (.cons au3 (.cons au3 .nil))))))))))))<|A8<|AF ?_
  refine Aq (Cv.trans (BS (⟨(Dt types l [(8,Z1C l),(11,tI v11)]),[(75,Z2r b types v6'),(108,Z2s Ak v11 b v6' types),(1000,Z2t b AW Ak v11 v6' types),(CO AW)]⟩) lr (.cons ⟨rfl,.refl _⟩ (.cons ⟨rfl,Ao 87 (Au (An 8 Bo.c Ak) (Ae (c:=Bo.c) (xs:=([Bo.mk (W64 (21+v11)) (Cg (AC.mk b.Layers b.Outline b.Parts b.Nets [] [] [] [] [] [] [] [] []) v6').1 (Z2n b types v6') (W64 (6+(AA (Z2m b types v6') 5).1)) (W64 (4+(W64 (2*(AA (AA (Z2m b types v6') 5).2 3).1)))) 1 2]:List Bo)) rfl kr))⟩ (.cons ⟨rfl,.cells _ (rr5 (rr2 (.cons (.own _ _ au0) (rr (rr (rr (rr (rr (rr (rr .nil))))))))))⟩ lr)))) (Cv.refl _)) ?_
  refine rg ⟨(Dt types l [(8,Z1C l),(11,tI (W64 (v11+1)))]),[(75,Z2r b types v6'),(108,Z2s Ak v11 b v6' types),(1000,Z2t b AW Ak v11 v6' types),(CO AW)]⟩ ?_
  (try rw [(show W64 (v11+1)=v11+1 from A1 oM au9)])
  refine AF ?_
  refine ⟨(n1,Ak++[Bo.mk (W64 (21+v11)) (Cg (AC.mk b.Layers b.Outline b.Parts b.Nets [] [] [] [] [] [] [] [] []) v6').1 (Z2n b types v6') (W64 (6+(AA (Z2m b types v6') 5).1)) (W64 (4+(W64 (2*(AA (AA (Z2m b types v6') 5).2 3).1)))) 1 2],Z2q b types v6',v11+1),⟨?_,?_,(by rw [<- hF1];simp only [Cc,h2,cond_true,cond_false])⟩,Nat.lt_succ_self _,Cv.trans (vr 108 100001 (K:=[1000]) hX) (Cv.trans (vk [0,1,2,6,8,11] [75,1000,100000,100001]) (BM kr))⟩
  ·show ((AA (AD.mk (AZ l 5) 0) 3).1-(v11+1)).toNat<n1;omega
  exact ⟨(by show Br (Z2q b types v6');repeat (first | with_reducible assumption | exact C0 (Dh hll _) | with_reducible refine Be ?_ | with_reducible refine Es ?_ | with_reducible refine Dr ?_ | with_reducible refine Db ?_  | with_reducible refine DD ?_ ?_)),ax0,ax0,ax0⟩
 have g2:=oF h2
 refine BU<|BE ?_
 refine BE<|BV ?_
 refine AF<|AB ?_
 refine rb 112 (Z2u v6') (.cells (AD.c v6') 146) ⟨(Dt types l [(GI v6')]),[(75,.cells (AD.c (AA v6' 3).2) 146),(1000,Z2T b AW Ak),(CO AW),(DL Ak)]⟩ (cWr (Bj v6' 3 au6 au11))<|AF ?_
 refine AB<|AB ?_
 refine rn ⟨(Dt types l [(GI v6'),(12,tI 0)]),[(75,.cells (AD.c (AA v6' 3).2) 146),(1000,Z2T b AW Ak),(CO AW),(DL Ak)]⟩<|AX ?_
 refine Aq (Cv.trans (vg 100002 8 (fun _ _=>default) 90 [] [(1000,[8])] (K:=[1000]) hX) (Cv.trans (Cr 100002 (CL 8 (fun _ _=>default) A4.c)) (Cv.trans (ck (⟨(Dt types l [(GI v6'),(12,tI 0)]),[(75,.cells (AD.c (AA v6' 3).2) 146),(1000,Z2W b AW Ak),(CO AW),(DL Ak),(100002,Z1V)]⟩)) (Cv.refl _)))) ?_
 refine Bc (ι:=Nat×List A4×AD×Int) (fun x=>⟨(Dt types l [(GI v6'),(12,tI x.2.2.2)]),[(75,.cells (AD.c x.2.2.1) 146),(1000,.cells (BZ b (GG AW Ak [.own 100002 8 x.2.1.length,vN,vN,vN,vN,vN,vN])) 42),(CO AW),(DL Ak),(100002,.row 8 x.2.1.length (AP A4.c x.2.1) 90)]⟩) (fun x=>((AA v6' 3).1-x.2.2.2).toNat<x.1/\(Br x.2.2.1/\0<=x.2.2.2/\(x.2.2.2<=(AA v6' 3).1\/x.2.2.2=0)/\(x.2.1.length:Int)<=0+1*(x.2.2.2-0))/\CN b types l AW v6 v7 v9 Ak v6' v11 (CF b types l n0) (Cc b types l AW v6 v7 v9 (CF b types l n0) n1) x.1 x.2.1 x.2.2.1 x.2.2.2=Bb b types l) (fun x=>x.1) ?_ (((AA v6' 3).1-0).toNat+1,([]:List A4),(AA v6' 3).2,0) ⟨Nat.lt_succ_self _,⟨(by show Br ((AA v6' 3).2);repeat (first | with_reducible assumption | exact C0 (Dh hll _) | with_reducible refine Be ?_ | with_reducible refine Es ?_ | with_reducible refine Dr ?_ | with_reducible refine Db ?_  | with_reducible refine DD ?_ ?_)),ax0,ax0,ax0⟩,(by rw [<- hF1];simp only [Cc,h2,cond_true,cond_false])⟩
 rintro ⟨n2,Ay,v6'',v12⟩ ⟨hm2,hinv2,hF2⟩
 try dsimp only at hm2 hinv2 hF2
 cases n2 with | zero=>exact nz hm2 | succ n2 => ?_
 have hi2_0:=hinv2.1
 refine AB<|AB ?_
 refine rn ⟨(Dt types l [(GI v6'),(12,tI v12),(115,tB (decide ((v12:Int)<(AA v6' 3).1)))]),[(75,.cells (AD.c v6'') 146),(1000,Z2X b AW Ak Ay),(CO AW),(DL Ak),(EU Ay)]⟩ ?_
 refine AL _ rfl (fun h3 => ?_) (fun h3 => ?_)
 ·have g3:=oT h3
  have k3:=S5 g3 (by decide) (by decide)
  refine Af<|AF ?_
  refine AB<|AX<|AB ?_
  refine oc [(119,(Z2v v6'')),(121,(Z2w v6''))] [A0 (Z2v v6'').2.1,CB (.cells (AD.c v6'') 146),A0 (Z2w v6'').2.1,CB (.cells (AD.c (AA v6'' 12).2) 146)] (.cons (cWr (Bj v6'' 12 au6 au11)) (.cons (cWr (Bj (AA v6'' 12).2 12 au6 au11)) .nil)) (.cons rfl (.cons rfl (.cons rfl (.cons rfl .nil))))<|AF<|AB ?_
  refine oc [(127,(Z2x v6'')),(132,(Z2z v6''))] [A0 (Z2x v6'').2.1,CB (.cells (AD.c (AA (AA v6'' 12).2 12).2) 146),A0 (Z2z v6'').2.1,CB (.cells (AD.c (Z2y v6'')) 146)] (.cons (cWr (Bj (AA (AA v6'' 12).2 12).2 6 au6 au11)) (.cons (cWr (Bj (Z2y v6'') 5 au6 au11)) .nil)) (.cons rfl (.cons rfl (.cons rfl (.cons rfl .nil))))<|AF<|AB ?_
  refine dw [158] [(139,(Z2A b v6'')),(141,(Z2C b v6'')),(144,(Z2D b v6'')),(148,(Z2F b v6'')),(151,(Z2G b v6'')),(155,(Z2I b v6''))] [A0 (Z2A b v6'').2.1,Blk.cells (Tw b AW Ak Ay) 42=Blk.cells (Pk [6,7,8,9,10,11,12,13,14] 0 (Tw b AW Ak Ay) (Mq b)) 42,CB (.cells (AD.c (AA (Z2y v6'') 5).2) 146),A0 (Z2C b v6'').2.1,CB (.cells (AD.c (Z2B b v6'')) 146),A0 (Z2D b v6'').2.1,CB (.cells (AD.c (AA (Z2B b v6'') 2).2) 146),A0 (Z2F b v6'').2.1,CB (.cells (AD.c (Z2E b v6'')) 146),A0 (Z2G b v6'').2.1,CB (.cells (AD.c (AA (Z2E b v6'') 2).2) 146),0<=((AA (AA (Z2E b v6'') 2).2 4).1:Int)/\((AA (AA (Z2E b v6'') 2).2 4).1:Int)<((4:Nat):Int),A0 (Z2I b v6'').2.1,CB (.cells (AD.c (Z2H b v6'')) 146)] ⟨(Dt types l [(GI v6'),(12,tI v12),(13,tI (AA v6'' 12).1),(14,tI (Gi v6'').1),(16,tP 16 0)]),[(16,.cells (Nk v12 b v6'' [.own 158 4 1]) 90),(75,.cells (AD.c (IB b v6'').2) 146),(158,.row 4 1 (As 4 1 [.i (AA v6'' 12).1,.i (Gi v6'').1,.i (W64 ((W64 ((AA v6'' 12).1+1))+(AA (Gi v6'').2 6).1)),.i (W64 ((W64 ((Gi v6'').1+1))+(AA (Z2y v6'') 5).1))]) 76),(1000,Z2X b AW Ak Ay),(CO AW),(DL Ak),(EU Ay)]⟩ (.cons (IZ (B0:=fun vs=>(BZ b [.val (vs 6),.val (vs 7),.val (vs 8),.val (vs 9),.val (vs 10),.val (vs 11),.val (vs 12),.val (vs 13),.val (vs 14)])) (fun _ _=>kr) kr rfl rfl kr (fun vs=>by kernel_rfl) (fun vs=>by kernel_rfl) (fun vs=>Sg (AC.mk b.Layers b.Outline b.Parts b.Nets [] [] [] [] [] [] [] [] []) (AA (Z2y v6'') 5).2 vs au6 oM)) (.cons (cWr (Bj (Z2B b v6'') 2 au6 au11)) (.cons (cWr (Bj (AA (Z2B b v6'') 2).2 3 au6 au11)) (.cons (cWr (Bj (Z2E b v6'') 2 au6 au11)) (.cons (cWr (Bj (AA (Z2E b v6'') 2).2 4 au6 au11)) (.cons (cWr (Bj (Z2H b v6'') 6 au6 au11)) .nil)))))) (.cons rfl (.cons rfl (.cons rfl (.cons rfl (.cons rfl (.cons rfl (.cons rfl (.cons rfl (.cons rfl (.cons rfl (.cons rfl (.cons (by first | exact Je _ _ _ (by decide) (by decide) (by decide) | decide | omega) (.cons rfl (.cons rfl .nil))))))))))))))<|AF ?_
  refine Aq (Cv.trans (BS (⟨(Dt types l [(GI v6'),(12,tI v12),(13,tI (AA v6'' 12).1),(14,tI (Gi v6'').1),(16,tP 16 0)]),[(16,Z2J v12 b v6''),(75,.cells (AD.c (IB b v6'').2) 146),(158,Z2K v6''),(1000,Z2X b AW Ak Ay),(CO AW),(DL Ak),(EU Ay)]⟩) lr (.cons ⟨rfl,.cells _ (rr5 (rr2 (.cons (.own _ _ au0) .nil)))⟩ (.cons ⟨rfl,.refl _⟩ (.cons ⟨rfl,Ao 76 (Ae (c:=Ai.c) (xs:=([Ai.mk (AA v6'' 12).1 (AA (AA v6'' 12).2 12).1 (W64 ((W64 ((AA v6'' 12).1+1))+(AA (AA (AA v6'' 12).2 12).2 6).1)) (W64 ((W64 ((AA (AA v6'' 12).2 12).1+1))+(AA (Z2y v6'') 5).1))]:List Ai)) rfl kr)⟩ lr)))) (Cv.refl _))<|AB<|AB ?_
  refine rb 161 (Z2L b v6'') (.cells (AD.c (AA (Z2H b v6'') 6).2) 146) ⟨(Dt types l [(GI v6'),(12,tI v12),(13,tI (AA v6'' 12).1),(14,tI (Gi v6'').1),(16,tP 16 0),(162,tB (decide (((AA (IB b v6'').2 3).1:Int)=0)))]),[(16,Z2J v12 b v6''),(75,Z2N b v6''),(158,Z2K v6''),(1000,Z2X b AW Ak Ay),(CO AW),(DL Ak),(EU Ay)]⟩ (cWr (Bj (AA (Z2H b v6'') 6).2 3 au6 au11))<|AF ?_
  refine CD (⟨[(0,tP 1000 0),(GQ types),(2,.av (oL l)),(6,tP 75 0),(GI v6'),(12,tI v12),(16,tP 16 0)],[(16,.cells (Nk v12 b v6'' [.own 100003 4 (Z2P b v6'').length]) 90),(75,.cells (AD.c (Z2M b v6'')) 146),(1000,.cells (Tw b AW Ak Ay) 42),(100000,.row 6 AW.length (AP Ap.c AW) 85),(100001,.row 8 Ak.length (AP Bo.c Ak) 87),(100002,.row 8 Ay.length (AP A4.c Ay) 90),(100003,.row 4 (Z2P b v6'').length (AP Ai.c (Z2P b v6'')) 76)]⟩) ?_ ?_
  ·refine AL _ rfl (fun h4 => ?_) (fun h4 => ?_)
   ·have g4:=oT h4
    refine rc [] [[Ai.mk (AA v6'' 12).1 (AA (AA v6'' 12).2 12).1 (W64 ((W64 ((AA v6'' 12).1+1))+(AA (AA (AA v6'' 12).2 12).2 6).1)) (W64 ((W64 ((AA (AA v6'' 12).2 12).1+1))+(AA (Z2y v6'') 5).1))].length=[Ai.mk (AA v6'' 12).1 (AA (AA v6'' 12).2 12).1 (W64 ((W64 ((AA v6'' 12).1+1))+(AA (AA (AA v6'' 12).2 12).2 6).1)) (W64 ((W64 ((AA (AA v6'' 12).2 12).1+1))+(AA (Z2y v6'') 5).1))].length,([Ai.mk (AA v6'' 12).1 (AA (AA v6'' 12).2 12).1 (W64 ((W64 ((AA v6'' 12).1+1))+(AA (AA (AA v6'' 12).2 12).2 6).1)) (W64 ((W64 ((AA (AA v6'' 12).2 12).1+1))+(AA (Z2y v6'') 5).1))].length)+1<=maxLen,(([Ai.mk (AA v6'' 12).1 (AA (AA v6'' 12).2 12).1 (W64 ((W64 ((AA v6'' 12).1+1))+(AA (AA (AA v6'' 12).2 12).2 6).1)) (W64 ((W64 ((AA (AA v6'' 12).2 12).1+1))+(AA (Z2y v6'') 5).1))].length)+1)*32<=140737488355328] ⟨(OE types l v6' v12),[(16,.cells (Z3 v12 b v6'' [.own 174 4 (((Hf v6'').length)+1)]) 90),(75,Z2N b v6''),(174,.row 4 (((Hf v6'').length)+1) (fun i_ j_=>if i_<((Hf v6'').length) then (AP Ai.c (Hf v6'')) i_ j_ else (As 4 1 [.i (W64 ((AA v6'' 12).1-2)),.i (Gi v6'').1,.i (W64 ((AA v6'' 12).1+1)),.i (W64 ((Gi v6'').1+2))]) (i_-((Hf v6'').length)) j_) 76),(1000,Z2X b AW Ak Ay),(CO AW),(DL Ak),(EU Ay)]⟩ .nil (.cons rfl (.cons au3 (.cons au3 .nil)))<|AF ?_
    refine Cv.trans (BS (⟨(OE types l v6' v12),[(16,.cells (Z3 v12 b v6'' [.own 174 4 ((Hf v6'')++(SL v6'')).length]) 90),(75,Z2N b v6''),(174,Z2O v6''),(1000,Z2X b AW Ak Ay),(CO AW),(DL Ak),(EU Ay)]⟩) lr (.cons ⟨rfl,.cells _ (rr5 (rr2 (.cons (.own _ _ au0) .nil)))⟩ (.cons ⟨rfl,.refl _⟩ (.cons ⟨rfl,Ao 76 (Au (An 4 Ai.c [Ai.mk (AA v6'' 12).1 (AA (AA v6'' 12).2 12).1 (W64 ((W64 ((AA v6'' 12).1+1))+(AA (AA (AA v6'' 12).2 12).2 6).1)) (W64 ((W64 ((AA (AA v6'' 12).2 12).1+1))+(AA (Z2y v6'') 5).1))]) (Ae (c:=Ai.c) (xs:=([Ai.mk (W64 ((AA v6'' 12).1-2)) (AA (AA v6'' 12).2 12).1 (W64 ((AA v6'' 12).1+1)) (W64 ((AA (AA v6'' 12).2 12).1+2))]:List Ai)) rfl kr))⟩ lr)))) (Cv.trans (vr 174 100003 (K:=[1000]) hX) (Cv.trans (ck (⟨(OE types l v6' v12),[(16,Z2Z v12 b v6''),(75,Z2N b v6''),(1000,Z2X b AW Ak Ay),(CO AW),(DL Ak),(EU Ay),(100003,Z2O v6'')]⟩)) (BM ?_)))
    first | rfl | (simp only [h4,Z2P,cond_true,cond_false] <;> rfl)
   refine Af<|AF ?_
   refine Cv.trans (vk [0,1,2,6,8,12,16] [16,75,158,1000,100000,100001,100002]) (Cv.trans (vr 158 100003 (K:=[1000]) hX) (Cv.trans (ck (⟨(OE types l v6' v12),[(16,Z30 v12 b v6''),(75,Z2N b v6''),(1000,Z2X b AW Ak Ay),(CO AW),(DL Ak),(EU Ay),(100003,Z2K v6'')]⟩)) (BM ?_)))
   first | rfl | (simp only [h4,Z2P,cond_true,cond_false] <;> rfl)
  refine Aq (Cv.trans (Hq (⟨(OE types l v6' v12),[(16,.cells (cD v12 b v6'') 90),(75,Z2N b v6''),(1000,Z2X b AW Ak Ay),(CO AW),(DL Ak),(EU Ay)]⟩) 100003 (K:=[1000]) hX) (Cv.refl _)) ?_
  refine dw [] [] [Ay.length=Ay.length,Ay.length+1<=maxLen,(Ay.length+1)*88<=140737488355328] ⟨(Dt types l [(GI v6'),(12,tI v12)]),[(75,Z2N b v6''),(183,.row 8 (Ay.length+1) (fun i_ j_=>if i_<Ay.length then (AP A4.c Ay) i_ j_ else (As 8 1 (cD v12 b v6'')) (i_-Ay.length) j_) 90),(1000,.cells (BZ b (GG AW Ak [.own 183 8 (Ay.length+1),vN,vN,vN,vN,vN,vN])) 42),(CO AW),(DL Ak)]⟩ .nil (.cons rfl (.cons au3 (.cons au3 .nil)))<|A8<|AF ?_
  refine Aq (Cv.trans (BS (⟨(Dt types l [(GI v6'),(12,tI v12)]),[(75,Z2N b v6''),(183,Z2Q Ay v12 b v6''),(1000,Z2U b AW Ak Ay v12 v6''),(CO AW),(DL Ak)]⟩) lr (.cons ⟨rfl,.refl _⟩ (.cons ⟨rfl,Ao 90 (Au (An 8 A4.c Ay) (Ae (c:=A4.c) (xs:=([A4.mk (W64 (31+v12)) (Cg (AC.mk b.Layers b.Outline b.Parts b.Nets [] [] [] [] [] [] [] [] []) (AA (Z2y v6'') 5).2).1 (W64 (1+(AA (Z2B b v6'') 2).1)) (W64 (20+(W64 (5*(AA (AA (Z2B b v6'') 2).2 3).1)))) (AA (Z2E b v6'') 2).1 (([0,0,5,9]:List Int).getD (AA (AA (Z2E b v6'') 2).2 4).1.toNat 0) (W64 (4+(AA (Z2H b v6'') 6).1)) (Z2P b v6'')]:List A4)) rfl kr))⟩ (.cons ⟨rfl,.cells _ (rr5 (rr3 (.cons (.own _ _ au0) (rr (rr (rr (rr (rr (rr .nil)))))))))⟩ lr)))) (Cv.refl _)) ?_
  refine rg ⟨(Dt types l [(GI v6'),(12,tI (W64 (v12+1)))]),[(75,Z2N b v6''),(183,Z2Q Ay v12 b v6''),(1000,Z2U b AW Ak Ay v12 v6''),(CO AW),(DL Ak)]⟩ ?_
  (try rw [(show W64 (v12+1)=v12+1 from A1 oM au9)])
  refine AF ?_
  refine ⟨(n2,Ay++[A4.mk (W64 (31+v12)) (Cg (AC.mk b.Layers b.Outline b.Parts b.Nets [] [] [] [] [] [] [] [] []) (AA (Z2y v6'') 5).2).1 (W64 (1+(AA (Z2B b v6'') 2).1)) (W64 (20+(W64 (5*(AA (AA (Z2B b v6'') 2).2 3).1)))) (AA (Z2E b v6'') 2).1 (([0,0,5,9]:List Int).getD (AA (AA (Z2E b v6'') 2).2 4).1.toNat 0) (W64 (4+(AA (Z2H b v6'') 6).1)) (Z2P b v6'')],Z2M b v6'',v12+1),⟨?_,?_,(by rw [<- hF2];simp only [CN,h3,cond_true,cond_false])⟩,Nat.lt_succ_self _,Cv.trans (vr 183 100002 (K:=[1000]) hX) (Cv.trans (vk [0,1,2,6,8,12] [75,1000,100000,100001,100002]) (BM kr))⟩
  ·show ((AA v6' 3).1-(v12+1)).toNat<n2;omega
  exact ⟨(by show Br (Z2M b v6'');repeat (first | with_reducible assumption | exact C0 (Dh hll _) | with_reducible refine Be ?_ | with_reducible refine Es ?_ | with_reducible refine Dr ?_ | with_reducible refine Db ?_  | with_reducible refine DD ?_ ?_)),ax0,ax0,ax0⟩
 have g3:=oF h3
 refine BU<|BE ?_
 refine BE<|BV ?_
 refine AF<|AB ?_
 refine oq 187 (Eh l 6) (F6 l 6 au13)<|AF ?_
 refine AB<|AB ?_
 refine rb 191 (Z1E l) (.cells [lst 1 eIn (AZ l 6),.i 0] 146) ⟨[(0,tP 1000 0),(GQ types),(6,tP 189 0),(192,tB (decide (((KR l).1:Int)=0)))],[(189,Z1F l),(1000,Z2X b AW Ak Ay),(CO AW),(DL Ak),(EU Ay)]⟩ (cWr (Bj (AD.mk (AZ l 6) 0) 3 au6 au11))<|AF ?_
 refine CD (⟨(N0 types),[(189,.cells (AD.c (Z1L l b types)) 146),(1000,.cells (BZ b (GG AW Ak [.own 100002 8 Ay.length,lst 5 BT.c (Z1M l b types),vN,vN,vN,vN,vN])) 42),(100000,.row 6 AW.length (AP Ap.c AW) 85),(100001,.row 8 Ak.length (AP Bo.c Ak) 87),(100002,.row 8 Ay.length (AP A4.c Ay) 90)]⟩) ?_ ?_
 ·refine AL _ rfl (fun h4 => ?_) (fun h4 => ?_)
  ·have g4:=oT h4
   refine AB<|rb 198 (ceI [.agg (Tw b AW Ak Ay),.one (lst 3 AV.c types),.one (.ptr 189 0)] (Z1G b types l)) (.cells (AD.c (AA (AD.mk (AZ l 6) 0) 3).2) 146) ⟨[(0,tP 1000 0),(GQ types),(6,tP 189 0),(17,tP 17 0)],[(17,.cells (AE.c (Z1I b types l)) 52),(189,.cells (AD.c (Z1H b types l)) 146),(1000,Z2X b AW Ak Ay),(CO AW),(DL Ak),(EU Ay)]⟩ (DI (cWr (LD (AC.mk b.Layers b.Outline b.Parts [] [] [] [] [] [] [] [] [] []) types (AA (AD.mk (AZ l 6) 0) 3).2 au6 oM oM (by assumption))) (.cons (.agg (rr5 (.cons (.any _) (.cons (.any _) (.cons (.any _) (.cons (.any _) (.cons (.any _) (.cons (.any _) (.cons (.any _) (.cons (.any _) (.cons (.any _) (.cons (.any _) .nil)))))))))))) (.cons (AvE.refl _) (.cons (AvE.refl _) .nil))))<|AF ?_
   refine dw [] [(201,(Z1J b types l)),(213,Hb (Ai.mk (Z1I b types l).X (Z1I b types l).Y (W64 ((Z1I b types l).X+30)) (W64 ((Z1I b types l).Y+20))))] [A0 (Z1J b types l).2.1,CB (.cells (AD.c (Z1H b types l)) 146),A0 (Hb (Ai.mk (Z1I b types l).X (Z1I b types l).Y (W64 ((Z1I b types l).X+30)) (W64 ((Z1I b types l).Y+20)))).2.1] ⟨(N0 types),[(189,.cells (AD.c (AA (Z1H b types l) 3).2) 146),(1000,.cells (BZ b (GG AW Ak [.own 100002 8 Ay.length,.list true 5 1 (As 5 1 [.i 41,.i (AA (Z1H b types l) 3).1,.i (Z1K b types l).Kind,lst 7 AQ.c (Z1K b types l).Edges,.i (Z1K b types l).R]),vN,vN,vN,vN,vN])) 42),(CO AW),(DL Ak),(EU Ay)]⟩ (.cons (cWr (Bj (Z1H b types l) 3 au6 au11)) (.cons (LH (Ai.mk (Z1I b types l).X (Z1I b types l).Y (W64 ((Z1I b types l).X+30)) (W64 ((Z1I b types l).Y+20)))) .nil)) (.cons rfl (.cons rfl (.cons rfl .nil)))<|AF ?_
   refine Cv.trans (BS (⟨(N0 types),[(189,.cells (AD.c (AA (Z1H b types l) 3).2) 146),(1000,.cells (BZ b (GG AW Ak [.own 100002 8 Ay.length,lst 5 BT.c [BT.mk 41 (AA (Z1H b types l) 3).1 (Z1K b types l)],vN,vN,vN,vN,vN])) 42),(CO AW),(DL Ak),(EU Ay)]⟩) lr (.cons ⟨rfl,.refl _⟩ (.cons ⟨rfl,.cells _ (rr9 (.cons (Bm true (Ae (c:=BT.c) (xs:=([BT.mk 41 (AA (Z1H b types l) 3).1 (Z1K b types l)]:List BT)) rfl kr)) (rr (rr (rr (rr (rr .nil)))))))⟩ lr))) (BM ?_)
   first | rfl | (simp only [h4,Z1L,Z1M,cond_true,cond_false] <;> rfl)
  refine Af<|AF ?_
  refine Cv.trans (ck (⟨(N0 types),[(189,Z1F l),(1000,Z2X b AW Ak Ay),(CO AW),(DL Ak),(EU Ay)]⟩)) (Cv.trans (BS (⟨(N0 types),[(189,Z1F l),(1000,.cells (BZ b (GG AW Ak [.own 100002 8 Ay.length,lst 5 BT.c [],vN,vN,vN,vN,vN])) 42),(CO AW),(DL Ak),(EU Ay)]⟩) lr (.cons ⟨rfl,.refl _⟩ (.cons ⟨rfl,.cells _ (rr9 (.cons (Cm 5 BT.c) (rr (rr (rr (rr (rr .nil)))))))⟩ lr))) (BM ?_))
  first | rfl | (simp only [h4,Z1L,Z1M,cond_true,cond_false] <;> rfl)
 refine AB<|rb 219 (Z1N l b types) (.cells (AD.c (Z1L l b types)) 146) ⟨[(0,tP 1000 0),(GQ types),(6,tP 189 0),(220,Z1O l b types)],[(189,Z1P l b types),(1000,Z2Y b AW Ak Ay l types),(CO AW),(DL Ak),(EU Ay)]⟩ (cWr (Bj (Z1L l b types) 3 au6 au11))<|AF ?_
 refine AL _ rfl (fun h4 => ?_) (fun h4 => ?_)
 ·have g4:=oT h4
  refine AB<|rb 226 (ceI [.agg (aF b AW Ak Ay l types),.one (lst 3 AV.c types),.one (.ptr 189 0)] (Z1Q b types l)) (.cells (AD.c (AA (Z1L l b types) 3).2) 146) ⟨[(0,tP 1000 0),(6,tP 189 0),(18,tP 18 0)],[(18,.cells (AE.c (Z1S b types l)) 52),(189,.cells (AD.c (Z1R b types l)) 146),(1000,Z2Y b AW Ak Ay l types),(CO AW),(DL Ak),(EU Ay)]⟩ (DI (cWr (LD (AC.mk b.Layers b.Outline b.Parts [] [] [] [] [] [] [] [] [] []) types (AA (Z1L l b types) 3).2 au6 oM oM (by assumption))) (.cons (.agg (rr5 (.cons (.any _) (.cons (.any _) (.cons (.any _) (.cons (.any _) (.cons (.any _) (.cons (.any _) (.cons (.any _) (.cons (.any _) (.cons (.any _) (.cons (.any _) .nil)))))))))))) (.cons (AvE.refl _) (.cons (AvE.refl _) .nil))))<|AF ?_
  refine od [] [(229,(Z1T b types l)),(239,Cs (Z1S b types l) (AE.mk (W64 ((Z1S b types l).X+25)) (W64 ((Z1S b types l).Y+10))))] [A0 (Z1T b types l).2.1,CB (.cells (AD.c (Z1R b types l)) 146),A0 (Cs (Z1S b types l) (AE.mk (W64 ((Z1S b types l).X+25)) (W64 ((Z1S b types l).Y+10)))).2.1] (.cons (cWr (Bj (Z1R b types l) 4 au6 au11)) (.cons (D4 (Z1S b types l) (AE.mk (W64 ((Z1S b types l).X+25)) (W64 ((Z1S b types l).Y+10)))) .nil)) (.cons rfl (.cons rfl (.cons rfl .nil))) ?_
  exact yn (Cv.trans (vf 100000 (K:=[1000]) hX) (Cv.trans (vf 100001 (K:=[1000]) hX) (Cv.trans (vf 100002 (K:=[1000]) hX) (Cv.refl _)))) (.tup []) ⟨Bz rfl,.cells (BZ b [lst 6 Ap.c AW,lst 8 Bo.c Ak,lst 8 A4.c Ay,lst 5 BT.c (Z1M l b types),.list true 4 1 (As 4 1 [.i 51,.i 1,.list true 7 1 (As 7 1 (AQ.c (Z1U b types l))),.i (W64 (3+(AA (Z1R b types l) 4).1))]),vN,vN,vN,vN]) 42,by kernel_rfl,TY (y:=.cells (BZ b [lst 6 Ap.c AW,lst 8 Bo.c Ak,lst 8 A4.c Ay,lst 5 BT.c (Z1M l b types),lst 4 Bi.c [Bi.mk 51 (A2.mk 1 [Z1U b types l] (W64 (3+(AA (Z1R b types l) 4).1)))],vN,vN,vN,vN]) 42) (.cells _ (rr9 (rr (.cons (Bm true (Dg (c:=Bi.c) (xs:=([Bi.mk 51 (A2.mk 1 [Z1U b types l] (W64 (3+(AA (Z1R b types l) 4).1)))]:List Bi)) (y:=[[.i 51,.i 1,.list true 7 1 (As 7 1 (AQ.c (Z1U b types l))),.i (W64 (3+(AA (Z1R b types l) 4).1))]]) (z:=[[.i 51,.i 1,lst 7 AQ.c [Z1U b types l],.i (W64 (3+(AA (Z1R b types l) 4).1))]]) rfl kr kr (.cons (rr (rr (.cons (Bm true (Ae (c:=AQ.c) (xs:=([Z1U b types l]:List AQ)) rfl kr)) (rr .nil)))) .nil))) (rr (rr (rr (rr .nil)))))))) (by rw [<- hF2];first | (simp only [CN,h3,h4,cond_true,cond_false];done) | (simp only [CN,h3,h4,cond_true,cond_false];kernel_rfl))⟩
 refine Af ?_
 exact yn (Cv.trans (vf 100000 (K:=[1000]) hX) (Cv.trans (vf 100001 (K:=[1000]) hX) (Cv.trans (vf 100002 (K:=[1000]) hX) (Cv.refl _)))) (.tup []) ⟨Bz rfl,.cells (BZ b [lst 6 Ap.c AW,lst 8 Bo.c Ak,lst 8 A4.c Ay,lst 5 BT.c (Z1M l b types),vN,vN,vN,vN,vN]) 42,by kernel_rfl,TY (y:=.cells (BZ b [lst 6 Ap.c AW,lst 8 Bo.c Ak,lst 8 A4.c Ay,lst 5 BT.c (Z1M l b types),lst 4 Bi.c [],vN,vN,vN,vN]) 42) (.cells _ (rr9 (rr (.cons (Cm 4 Bi.c) (rr (rr (rr (rr .nil)))))))) (by rw [<- hF2];first | (simp only [CN,h3,h4,cond_true,cond_false];done) | (simp only [CN,h3,h4,cond_true,cond_false];kernel_rfl))⟩
end
structure Lb (b:AC) (B:AC):Prop where
 lay:B.Layers=b.Layers
 out:B.Outline=b.Outline
 par:B.Parts=b.Parts
 net:B.Nets=b.Nets
 trk:(B.Tracks.length:Int)<=6
 edg:∀ t∈B.Tracks,(t.Shape.Edges.length:Int)<=2
 via:(B.Vias.length:Int)<=3
 pou:(B.Pours.length:Int)<=2
 kee:(B.Keeps.length:Int)<=1
 slo:(B.Slots.length:Int)<=1
theorem kB {b B C:AC} {c:Bool} (h:Lb b B) (k:Lb b C):Lb b (bif c then B else C):=by cases c <;> assumption
theorem Sq {α:Type} {c:Bool} {x:α}:((bif c then [x] else []:List α).length:Int)<=1:=by cases c <;> simp
theorem Qo (a c:AE) (d:AD):((C2 a c d).1.length:Int)<=2:=by
 unfold C2
 generalize (bif _ then _ else false:Bool)=q
 cases q with
 | true=>simp
 | false =>
  simp only [cond_false]
  cases decide (((AA d 4).1:Int)=3) <;> simp
theorem X6 (b:AC) (types:List AV) (l:List (List Int)) (v1:List Ap) (v6:AD) (v7:ByteArray) (v9:Int) (v2:List Bo) (v6':AD) (v11:Int) (K0:List Ap->AD->ByteArray->Int->AC) (K1:List Bo->AD->Int->AC) (h1:(v1.length:Int)<=6) (he:∀ t∈v1,(t.Shape.Edges.length:Int)<=2) (h2:(v2.length:Int)<=3):∀ (n:Nat) (v:List A4) (d:AD) (k:Int),0<=k->(v.length:Int)<=k->k<=2->((AA v6' 3).1-k).toNat<n->Lb b (CN b types l v1 v6 v7 v9 v2 v6' v11 K0 K1 n v d k)
 | 0,v,d,k,_,_,_,h=>absurd h (Nat.not_lt_zero _)
 | n+1,v,d,k,k0,kv,k3,h=>by
  unfold CN
  have hb:=DU v6' 3 (by decide) (by decide)
  by_cases hc:k<(AA v6' 3).1
  ·simp only [hc,decide_true,cond_true]
   exact X6 b types l v1 v6 v7 v9 v2 v6' v11 K0 K1 h1 he h2 n _ _ _ (by omega) (by simp only [List.length_append,List.length_cons,List.length_nil];omega) (by omega) (by omega)
  simp only [hc,decide_false,cond_false]
  have hv:(v.length:Int)<=2:=by omega
  repeat (first | exact ⟨rfl,rfl,rfl,rfl,h1,he,h2,hv,Sq,Sq⟩ | exact ⟨rfl,rfl,rfl,rfl,h1,he,h2,hv,Sq,(by simp:((([_]:List Bi).length:Nat):Int)<=1)⟩ | exact ⟨rfl,rfl,rfl,rfl,h1,he,h2,hv,Sq,(by simp:((([]:List Bi).length:Nat):Int)<=1)⟩ | refine kB ?_ ?_)
theorem X7 (b:AC) (types:List AV) (l:List (List Int)) (v1:List Ap) (v6:AD) (v7:ByteArray) (v9:Int) (K0:List Ap->AD->ByteArray->Int->AC) (h1:(v1.length:Int)<=6) (he:∀ t∈v1,(t.Shape.Edges.length:Int)<=2):∀ (n:Nat) (v:List Bo) (d:AD) (k:Int),0<=k->(v.length:Int)<=k->k<=3->((AA (AD.mk (AZ l 5) 0) 3).1-k).toNat<n->Lb b (Cc b types l v1 v6 v7 v9 K0 n v d k)
 | 0,v,d,k,_,_,_,h=>absurd h (Nat.not_lt_zero _)
 | n+1,v,d,k,k0,kv,k3,h=>by
  unfold Cc
  have hb:=DU (AD.mk (AZ l 5) 0) 3 (by decide) (by decide)
  by_cases hc:k<(AA (AD.mk (AZ l 5) 0) 3).1
  ·simp only [hc,decide_true,cond_true]
   exact X7 b types l v1 v6 v7 v9 K0 h1 he n _ _ _ (by omega) (by simp only [List.length_append,List.length_cons,List.length_nil];omega) (by omega) (by omega)
  simp only [hc,decide_false,cond_false]
  exact X6 b types l v1 v6 v7 v9 v d k K0 _ h1 he (by omega) _ _ _ 0 (by omega) (by simp) (by omega) (by omega)
theorem X8 (b:AC) (types:List AV) (l:List (List Int)):∀ (n:Nat) (v:List Ap) (d:AD) (s:ByteArray) (k:Int),0<=k->(v.length:Int)<=k->k<=6->(∀ t∈v,(t.Shape.Edges.length:Int)<=2)->((AA (Z1x b l) 6).1-k).toNat<n->Lb b (CF b types l n v d s k)
 | 0,v,d,s,k,_,_,_,_,h=>absurd h (Nat.not_lt_zero _)
 | n+1,v,d,s,k,k0,kv,k3,he,h=>by
  unfold CF
  have hb:=DU (Z1x b l) 6 (by decide) (by decide)
  by_cases hc:k<(AA (Z1x b l) 6).1
  ·simp only [hc,decide_true,cond_true]
   refine X8 b types l n _ _ _ _ (by omega) (by simp only [List.length_append,List.length_cons,List.length_nil];omega) (by omega) (fun t ht => ?_) (by omega)
   rcases List.mem_append.1 ht with ht | ht
   ·exact he t ht
   rw [List.mem_singleton.1 ht];exact Qo _ _ _
  simp only [hc,decide_false,cond_false]
  exact X7 b types l v d s k _ (by omega) he _ _ _ 0 (by omega) (by simp) (by omega) (by omega)
theorem GY (b:AC) (types:List AV) (l:List (List Int)):Lb b (Bb b types l):=by
 have hb:=DU (Z1x b l) 6 (by decide) (by decide)
 unfold Bb
 exact X8 b types l _ _ _ _ 0 (by omega) (by simp) (by omega) (fun t ht=>by cases ht) (by omega)
end Go.Proofs.Ytdbampcfmjbgmaa
