/-
  No statement is proved in this text. It holds a part of what the proof of PlacePads needs.
-/
import Derived.Test.YtdbampcfmjbgmaaGreatPlacePadsQc
namespace Go.Proofs.YtdbampcfmjbgmaaGreat
set_option maxRecDepth 100000
set_option linter.unusedVariables false
set_option linter.unusedSimpArgs false
open Go.RowKit
abbrev Bc (b:AC) (t_:List Cl):List Cl:=(.i b.Layers)::(.i b.Outline.Kind)::(lst 7 AN.c b.Outline.Edges)::(.i b.Outline.R)::(lst 7 AF.c b.Parts)::(lst 2 BA.c b.Nets)::t_
abbrev C7 (b:AC) (t_:List Cl):List Cl:=(lst 6 Aq.c b.Tracks)::(lst 8 Bx.c b.Vias)::(lst 8 A8.c b.Pours)::(lst 5 BR.c b.Keeps)::(lst 4 Bq.c b.Slots)::t_
abbrev Cy (b:AC):List Cl:=(Bc b (C7 b [lst 2 BS.c b.Classes,.any,lst 3 BM.c b.Waivers,lst 3 Bb.c b.Matches]))
theorem Mh (b:AC):∀ y∈Cy b,NM y:=by
 intro y hy
 simp only [Cy,List.mem_cons,List.not_mem_nil,or_false] at hy
 rcases hy with rfl | rfl | rfl | rfl | rfl | rfl | rfl | rfl | rfl | rfl | rfl | rfl | rfl | rfl | rfl <;> first | exact .val _ | exact .any | exact C2 Hz | exact C2 GA | exact C2 Sn | exact C2 ZG | exact C2 kU | exact C2 eJ | exact C2 eK | exact C2 eG | exact C2 ZI | exact C2 Wk | exact C2 ZH
def F8 (types:List AV) (p:AF):List (AF×BL):=(Ct types p.Type').1.Pads.map fun q=>(p,q)
def Aw (b:AC) (types:List AV):List (AF×BL):=(C0 b.Parts).flatMap (F8 types)
def Hx (b:AC) (types:List AV) (k:Nat):Nat:=(((C0 b.Parts).take k).flatMap (F8 types)).length
theorem Kx (types:List AV) (p:AF):(F8 types p).length=(Ct types p.Type').1.Pads.length:=List.length_map _
theorem Yz (b:AC) (types:List AV):Hx b types (C0 b.Parts).length=(Aw b types).length:=by unfold Hx Aw;rw [List.take_length]
theorem WZ (b:AC) (types:List AV) {k:Nat} (h:k<(C0 b.Parts).length):Hx b types (k+1)=Hx b types k+(Ct types ((C0 b.Parts).getD k default).Type').1.Pads.length:=by
 unfold Hx
 rw [(Ee _ k h).1,List.flatMap_append,List.length_append,List.flatMap_singleton,Kx]
theorem dM (b:AC) (types:List AV) {k j:Nat} (h:k<(C0 b.Parts).length) (hj:j<(Ct types ((C0 b.Parts).getD k default).Type').1.Pads.length) :
  Hx b types k+j<(Aw b types).length/\(Aw b types).getD (Hx b types k+j) default=((C0 b.Parts).getD k default,(Ct types ((C0 b.Parts).getD k default).Type').1.Pads.getD j default):=by
 have e:Aw b types=((C0 b.Parts).take k).flatMap (F8 types)++(F8 types ((C0 b.Parts).getD k default)++((C0 b.Parts).drop (k+1)).flatMap (F8 types)):=by
  unfold Aw
  rw [<- List.flatMap_cons,<- (Ee _ k h).2,<- List.flatMap_append,List.take_append_drop]
 have hl:=Kx types ((C0 b.Parts).getD k default)
 rw [e]
 unfold Hx
 constructor
 ·rw [List.length_append,List.length_append,hl];omega
 rw [List.getD_eq_getElem?_getD,List.getElem?_append_right oM,Nat.add_sub_cancel_left,List.getElem?_append_left (by rw [hl];exact hj)]
 unfold F8
 rw [List.getElem?_map,List.getElem?_eq_getElem hj,List.getD_eq_getElem?_getD (l:=(Ct types _).1.Pads),List.getElem?_eq_getElem hj]
 rfl
abbrev FD (types:List AV):Nat×Tv:=(2,.av (.one (.eptr 1 1 (gD [lst 3 AV.c types]) 0 0)))
abbrev F2 (b:AC):Nat×Tv:=(17,tI ((C0 b.Parts).length:Int))
abbrev Fz (b:AC):Nat×Tv:=(16,tO (lst 7 AF.c (C0 b.Parts)))
theorem kC (b:AC) (types:List AV) (hb:b.Parts.length<20) (ht:CM types):Js Tryz.prog 56 2 (Cz [.eptr 15 1 (gD (Cy b)) 0 0,.eptr 1 1 (gD [lst 3 AV.c types]) 0 0]) (Aw b types).length (fun x=>[.agg (AF.c ((Aw b types).getD x.val default).1),.agg (BL.c ((Aw b types).getD x.val default).2)]):=by
 refine Up Tryz.func56 rfl rfl kr (fun i hi => ?_) ?_
 ·match i,hi with
  | 0,_=>rfl
  | 1,_=>rfl
 intro Ow n0 ly JJ hO hJg hY
 have hd:∀ (x:List (Nat×Tv)),(∀ p∈x,p.2.dv=true)->∀ i u,get x i=some u->u.dv=true:=fun x h=>Dk (p:=fun u=>Tv.dv u=true) h
 refine fK hO (Dk (p:=fun u=>Tv.dv u=true) (by simp [FA,EI,Tv.dv,Av.dv,Cl.dv,List.range,List.range.loop,Cz])) rfl fun W0 X1 M1 hX => ?_
 have hp1:(b.Parts.length:Int)<=1000000:=by omega
 refine oq 13 (YV b.Parts) (dW b.Parts au22)<|AG ?_
 refine rb 15 (58,([.one (.own 1000 7 b.Parts.length),.one (.clo 59 0 dfc)]:List Av).map (T9 1000 13),wrI 13 (.row 7 b.Parts.length (AU AF.c b.Parts) 49) (.tup []) (.row 7 b.Parts.length (AU AF.c (C0 b.Parts)) 49)) (.row 7 b.Parts.length (AU AF.c b.Parts) 49) ⟨[(0,.av (.one (.val (.func (.yield ly) #[] #[])))),(FD types),(4,tO (.own 13 7 b.Parts.length))],[(13,.row 7 b.Parts.length (AU AF.c (C0 b.Parts)) 49)]⟩ (LI (fun _ _=>kr) kr (pSrtP b.Parts au22)) ?_
 refine ⟨rfl,⟨[(0,.av (.one (.val (.func (.yield ly) #[] #[])))),(FD types),(4,tO (lst 7 AF.c (C0 b.Parts)))],[]⟩,fun W2 M2=>Cv.trans (A2 13 (SR 7 AF.c (C0 b.Parts) (NF b.Parts au22))) (Cv.trans (H6 (⟨[(0,.av (.one (.val (.func (.yield ly) #[] #[])))),(FD types),(4,tO (lst 7 AF.c (C0 b.Parts)))],[]⟩) 13 hk0) (Cv.refl _)),?_⟩
 have hps:=NF b.Parts hb
 refine El ?_
 refine FM hO (hd _ (by simp only [List.forall_mem_cons];exact ⟨rfl,rfl,rfl,fun x hx=>by cases hx⟩)) rfl fun W0 X1 M1 => ?_
 refine rg ⟨[(0,.av (.one (.val (.func (.yield ly) #[] #[])))),(FD types),(Fz b),(F2 b),(18,tI 0)],[]⟩ ?_
 refine FF ?_
 refine H1 ?_
 refine Sx (ι:=Nat) (fun k=>⟨[(0,.av (.one (.val (.func (.yield ly) #[] #[])))),(FD types),(Fz b),(F2 b),(18,tI (k:Int))],[]⟩) (fun k=>JJ (Hx b types k)) (fun k=>k<=(C0 b.Parts).length) (fun k=>(C0 b.Parts).length-k) (fun k hk => ?_) 0 (Nat.zero_le _)
 refine El ?_
 refine FM hO (hd _ (by simp only [List.forall_mem_cons];exact ⟨rfl,rfl,rfl,rfl,rfl,fun x hx=>by cases hx⟩)) rfl fun W0 X1 M1 => ?_
 refine rg ⟨[(0,.av (.one (.val (.func (.yield ly) #[] #[])))),(FD types),(Fz b),(F2 b),(18,tI (k:Int)),(19,tB (decide (((k:Int):Int)<((C0 b.Parts).length:Int))))],[]⟩ ?_
 refine FF ?_
 refine El ?_
 refine J2 (decide (((k:Int):Int)<((C0 b.Parts).length:Int))) kr (fun hc => ?_) (fun hc => ?_)
 ·have hlt:k<(C0 b.Parts).length:=by have:=oT hc;omega
  refine Ll ?_
  refine FF ?_
  refine El ?_
  refine H1 ?_
  refine El ?_
  refine PX [0,2,16,17,18] ⟨[(0,.av (.one (.val (.func (.yield ly) #[] #[])))),(FD types),(Fz b),(F2 b),(18,tI (k:Int))],[]⟩ kr ?_
  refine FM hO (hd _ (by simp only [List.forall_mem_cons];exact ⟨rfl,rfl,rfl,rfl,rfl,fun x hx=>by cases hx⟩)) rfl fun W0 X1 M1 => ?_
  refine rc [] [0<=((k:Int):Int)/\((k:Int):Int)<(((C0 b.Parts).length:Nat):Int)] ⟨[(0,.av (.one (.val (.func (.yield ly) #[] #[])))),(FD types),(6,tP 6 0),(Fz b),(F2 b),(18,tI (k:Int))],[(6,.cells (AF.c ((C0 b.Parts).getD (k:Int).toNat default)) 49)]⟩ .nil (.cons au0 .nil) ?_
  refine FF ?_
  refine fL (S:=⟨[(0,.av (.one (.val (.func (.yield ly) #[] #[])))),(FD types),(6,.av (.one (.eptr 7 1 (gD (AF.c ((C0 b.Parts).getD (k:Int).toNat default))) 0 0))),(Fz b),(F2 b),(18,tI (k:Int))],[]⟩) hO (fun W0 M1=>My _ 6 (AF.c ((C0 b.Parts).getD (k:Int).toNat default)) 49 hk0 kr kr kr kr) ?_
  have hns:=WZ b types hlt
  have hat:=fun j hj=>dM b types (j:=j) hlt hj
  rw [Int.toNat_natCast]
  generalize hp:(C0 b.Parts).getD k default=p at *
  refine El ?_
  have hgl:=Hb types p.Type'
  have hpl:((Ct types p.Type').1.Pads.length:Int)<=1000000:=by rw [hgl];exact Ij ht _
  refine FM hO (hd _ (by simp only [List.forall_mem_cons];exact ⟨rfl,rfl,rfl,rfl,rfl,rfl,fun x hx=>by cases hx⟩)) rfl fun W0 X1 M1 => ?_
  refine rs 26 (gV types p.Type') ⟨[(0,.av (.one (.val (.func (.yield ly) #[] #[])))),(FD types),(6,.av (.one (.eptr 7 1 (gD (AF.c p)) 0 0))),(7,tP 7 0),(Fz b),(F2 b),(18,tI (k:Int))],[(7,.cells (AV.c (Ct types p.Type').1) 61)]⟩ (mT types p.Type' au22) ?_
  refine FF ?_
  refine fL (S:=⟨[(0,.av (.one (.val (.func (.yield ly) #[] #[])))),(FD types),(6,.av (.one (.eptr 7 1 (gD (AF.c p)) 0 0))),(7,.av (.one (.eptr 3 1 (gD (AV.c (Ct types p.Type').1)) 0 0))),(Fz b),(F2 b),(18,tI (k:Int))],[]⟩) hO (fun W0 M1=>My _ 7 (AV.c (Ct types p.Type').1) 61 hk0 kr kr kr kr) ?_
  refine El ?_
  refine FM hO (hd _ (by simp only [List.forall_mem_cons];exact ⟨rfl,rfl,rfl,rfl,rfl,rfl,rfl,fun x hx=>by cases hx⟩)) rfl fun W0 X1 M1 => ?_
  refine rg ⟨[(0,.av (.one (.val (.func (.yield ly) #[] #[])))),(FD types),(6,.av (.one (.eptr 7 1 (gD (AF.c p)) 0 0))),(Fz b),(F2 b),(18,tI (k:Int)),(30,tO (lst 7 BL.c (Ct types p.Type').1.Pads)),(31,tI ((Ct types p.Type').1.Pads.length:Int)),(32,tI 0)],[]⟩ ?_
  refine FF ?_
  refine H1 ?_
  refine Sx (ι:=Nat) (fun j=>⟨[(0,.av (.one (.val (.func (.yield ly) #[] #[])))),(FD types),(6,.av (.one (.eptr 7 1 (gD (AF.c p)) 0 0))),(Fz b),(F2 b),(18,tI (k:Int)),(30,tO (lst 7 BL.c (Ct types p.Type').1.Pads)),(31,tI ((Ct types p.Type').1.Pads.length:Int)),(32,tI (j:Int))],[]⟩) (fun j=>JJ (Hx b types k+j)) (fun j=>j<=(Ct types p.Type').1.Pads.length) (fun j=>(Ct types p.Type').1.Pads.length-j) (fun j hj => ?_) 0 (Nat.zero_le _)
  refine El ?_
  refine FM hO (hd _ (by simp only [List.forall_mem_cons];exact ⟨rfl,rfl,rfl,rfl,rfl,rfl,rfl,rfl,rfl,fun x hx=>by cases hx⟩)) rfl fun W0 X1 M1 => ?_
  refine rg ⟨[(0,.av (.one (.val (.func (.yield ly) #[] #[])))),(FD types),(6,.av (.one (.eptr 7 1 (gD (AF.c p)) 0 0))),(Fz b),(F2 b),(18,tI (k:Int)),(30,tO (lst 7 BL.c (Ct types p.Type').1.Pads)),(31,tI ((Ct types p.Type').1.Pads.length:Int)),(32,tI (j:Int)),(33,tB (decide (((j:Int):Int)<((Ct types p.Type').1.Pads.length:Int))))],[]⟩ ?_
  refine FF ?_
  refine El ?_
  refine J2 (decide (((j:Int):Int)<((Ct types p.Type').1.Pads.length:Int))) kr (fun hc2 => ?_) (fun hc2 => ?_)
  ·have hlt2:j<(Ct types p.Type').1.Pads.length:=by have:=oT hc2;omega
   obtain ⟨hat1,hat2⟩:=hat j hlt2
   refine Ll ?_
   refine FF ?_
   refine El ?_
   refine H1 ?_
   refine El ?_
   refine PX [0,2,6,16,17,18,30,31,32] ⟨[(0,.av (.one (.val (.func (.yield ly) #[] #[])))),(FD types),(6,.av (.one (.eptr 7 1 (gD (AF.c p)) 0 0))),(Fz b),(F2 b),(18,tI (k:Int)),(30,tO (lst 7 BL.c (Ct types p.Type').1.Pads)),(31,tI ((Ct types p.Type').1.Pads.length:Int)),(32,tI (j:Int))],[]⟩ kr ?_
   refine FM hO (hd _ (by simp only [List.forall_mem_cons];exact ⟨rfl,rfl,rfl,rfl,rfl,rfl,rfl,rfl,rfl,fun x hx=>by cases hx⟩)) rfl fun W0 X1 M1 => ?_
   refine rc [] [0<=((j:Int):Int)/\((j:Int):Int)<(((Ct types p.Type').1.Pads.length:Nat):Int)] ⟨[(0,.av (.one (.val (.func (.yield ly) #[] #[])))),(FD types),(6,.av (.one (.eptr 7 1 (gD (AF.c p)) 0 0))),(10,tP 10 0),(Fz b),(F2 b),(18,tI (k:Int)),(30,tO (lst 7 BL.c (Ct types p.Type').1.Pads)),(31,tI ((Ct types p.Type').1.Pads.length:Int)),(32,tI (j:Int))],[(10,.cells (BL.c ((Ct types p.Type').1.Pads.getD (j:Int).toNat default)) 120)]⟩ .nil (.cons au0 .nil) ?_
   refine FF ?_
   refine fL (S:=⟨[(0,.av (.one (.val (.func (.yield ly) #[] #[])))),(FD types),(6,.av (.one (.eptr 7 1 (gD (AF.c p)) 0 0))),(10,.av (.one (.eptr 7 1 (gD (BL.c ((Ct types p.Type').1.Pads.getD (j:Int).toNat default))) 0 0))),(Fz b),(F2 b),(18,tI (k:Int)),(30,tO (lst 7 BL.c (Ct types p.Type').1.Pads)),(31,tI ((Ct types p.Type').1.Pads.length:Int)),(32,tI (j:Int))],[]⟩) hO (fun W0 M1=>My _ 10 (BL.c ((Ct types p.Type').1.Pads.getD (j:Int).toNat default)) 120 hk0 kr kr kr kr) ?_
   rw [Int.toNat_natCast]
   generalize hq:(Ct types p.Type').1.Pads.getD j default=q at *
   refine El ?_
   refine PW ?_
   refine Lk hO Dh 3 [0,2,6,10,16,17,18,30,31,32,36,37,38] [] [(0,.av (.one (.val (.func (.yield ly) #[] #[])))),(2,.av (.one (.eptr 1 1 (gD [lst 3 AV.c types]) 0 0))),(6,.av (.one (.eptr 7 1 (gD (AF.c p)) 0 0))),(10,.av (.one (.eptr 7 1 (gD (BL.c q)) 0 0))),(16,tO (lst 7 AF.c (C0 b.Parts))),(17,tI ((C0 b.Parts).length:Int)),(18,tI (k:Int)),(30,tO (lst 7 BL.c (Ct types p.Type').1.Pads)),(31,tI ((Ct types p.Type').1.Pads.length:Int)),(32,tI (j:Int)),(36,.av (.one (.val (.func (.yield ly) #[] #[])))),(37,.av (.agg (AF.c p))),(38,.av (.agg (BL.c q)))] kr .nil (hd _ (by simp only [List.forall_mem_cons];exact ⟨rfl,rfl,rfl,rfl,rfl,rfl,rfl,rfl,rfl,rfl,fun x hx=>by cases hx⟩)) rfl ?_
   refine Wu (ly:=ly) (d:=39) hO rfl [.agg (AF.c p),.agg (BL.c q)] rfl rfl kr kr kr ?hvm rfl kr ?hT1 (fun A B=>hJg _ A B) (JJ (Hx b types k+j+1)) ?hY rfl ?ht
   case hvm =>
    intro x hx
    simp only [List.mem_cons,List.not_mem_nil,or_false] at hx
    rcases hx with rfl | rfl
    ·exact GA _
    exact J0 _
   case hT1=>exact Dk (p:=fun u=>Tv.dv u=true/\TvM u) (by
    simp only [List.forall_mem_cons]
    exact ⟨⟨rfl,Ca (.val _)⟩,⟨rfl,Ca (Hh (by simp only [List.forall_mem_cons];exact ⟨(C2 PM),fun x hx=>by cases hx⟩))⟩,⟨rfl,Ca (Hh (GA _))⟩,⟨rfl,Ca (Hh (J0 _))⟩,⟨rfl,Ca (C2 GA)⟩,⟨rfl,Ca (.val _)⟩,⟨rfl,Ca (.val _)⟩,⟨rfl,Ca (C2 J0)⟩,⟨rfl,Ca (.val _)⟩,⟨rfl,Ca (.val _)⟩,⟨rfl,Ca (.val _)⟩,⟨rfl,(GA _)⟩,⟨rfl,(J0 _)⟩,fun x hx=>by cases hx⟩)
   case hY =>
    intro W v hW hv
    refine hY _ hat1 W v hW ?_
    show mB (fun _=>none) Ow [.agg (AF.c ((Aw b types).getD (Hx b types k+j) default).1),.agg (BL.c ((Aw b types).getD (Hx b types k+j) default).2)] v W
    rw [hat2]
    exact hv
   case ht =>
    refine PV [0,2,6,16,17,18,30,31,32,39] ⟨[(0,.av (.one (.val (.func (.yield ly) #[] #[])))),(FD types),(6,.av (.one (.eptr 7 1 (gD (AF.c p)) 0 0))),(Fz b),(F2 b),(18,tI (k:Int)),(30,tO (lst 7 BL.c (Ct types p.Type').1.Pads)),(31,tI ((Ct types p.Type').1.Pads.length:Int)),(32,tI (j:Int)),(39,tB true)],[]⟩ kr ?_
    refine Lk hO Dh 1 [0,2,6,16,17,18,30,31,32,40] [] [(0,.av (.one (.val (.func (.yield ly) #[] #[])))),(2,.av (.one (.eptr 1 1 (gD [lst 3 AV.c types]) 0 0))),(6,.av (.one (.eptr 7 1 (gD (AF.c p)) 0 0))),(16,tO (lst 7 AF.c (C0 b.Parts))),(17,tI ((C0 b.Parts).length:Int)),(18,tI (k:Int)),(30,tO (lst 7 BL.c (Ct types p.Type').1.Pads)),(31,tI ((Ct types p.Type').1.Pads.length:Int)),(32,tI (j:Int)),(40,tB false)] kr .nil (hd _ (by simp only [List.forall_mem_cons];exact ⟨rfl,rfl,rfl,rfl,rfl,rfl,rfl,rfl,rfl,rfl,fun x hx=>by cases hx⟩)) rfl ?_
    refine Sw ?_
    refine FF ?_
    refine J2 false kr (fun h=>by cases h) (fun _ => ?_)
    refine Ll ?_
    refine fU ?_
    refine FF ?_
    refine FM hO (hd _ (by simp only [List.forall_mem_cons];exact ⟨rfl,rfl,rfl,rfl,rfl,rfl,rfl,rfl,rfl,rfl,fun x hx=>by cases hx⟩)) rfl fun W0 X1 M1 => ?_
    refine rg ⟨[(0,.av (.one (.val (.func (.yield ly) #[] #[])))),(FD types),(6,.av (.one (.eptr 7 1 (gD (AF.c p)) 0 0))),(Fz b),(F2 b),(18,tI (k:Int)),(30,tO (lst 7 BL.c (Ct types p.Type').1.Pads)),(31,tI ((Ct types p.Type').1.Pads.length:Int)),(32,tI (W64 ((j:Int)+1)))],[]⟩ ?_
    refine FF ?_
    refine ⟨j+1,by omega,by omega,?_,by rw [Nat.add_assoc],rfl⟩
    rw [Az oM oM]
    rfl
  have hjl:j=(Ct types p.Type').1.Pads.length:=by have:=oF hc2;omega
  refine Sy ?_
  refine Ql ?_
  refine Ql ?_
  refine S3 ?_
  refine fU ?_
  refine FF ?_
  refine PX [0,2,16,17,18] ⟨[(0,.av (.one (.val (.func (.yield ly) #[] #[])))),(FD types),(Fz b),(F2 b),(18,tI (k:Int))],[]⟩ kr ?_
  refine FM hO (hd _ (by simp only [List.forall_mem_cons];exact ⟨rfl,rfl,rfl,rfl,rfl,fun x hx=>by cases hx⟩)) rfl fun W0 X1 M1 => ?_
  refine rg ⟨[(0,.av (.one (.val (.func (.yield ly) #[] #[])))),(FD types),(Fz b),(F2 b),(18,tI (W64 ((k:Int)+1)))],[]⟩ ?_
  refine FF ?_
  refine ⟨k+1,by omega,by omega,?_,by rw [hjl,hns],rfl⟩
  rw [Az oM oM]
  rfl
 have hkl:k=(C0 b.Parts).length:=by have:=oF hc;omega
 refine Sy ?_
 refine Ql ?_
 refine Ql ?_
 refine S3 ?_
 exact ⟨.inr rfl,by rw [hkl,Yz]⟩
section
open Go.RowKit
section
variable (len:Nat) (g:Nat→Nat→Value)
abbrev TR:Cl:=gY false 2 len (fun i j=>.val (g i j))
theorem kT:NM (TR len g):=Hh fun y hy=>by rw [List.mem_singleton.1 hy];exact .list _ _ _ _ fun i j=>.val _
abbrev ylB (ly:Nat):Tv:=.av (.one (.val (.func (.yield ly) #[] #[])))
abbrev tB1 (c:Cl):Tv:=.av (.one c)
abbrev avB (k:Nat):Av:=.agg [.val (g k 0),.val (g k 1)]
theorem iC (hl:(len:Int)<=1000000) (h1:∀ i j,i<len->j<2->(g i j).oneCell'=true):Js Tryz.prog 55 1 (Cz [TR len g]) len (fun x=>[.one (.i ((len:Int)-1-(x.val:Int))),avB g (len-1-x.val)]):=by
 refine ZY Tryz.func55 rfl rfl (fun x=>rfl) (fun x e he c hc => ?_) kr (fun i hi => ?_) ?_
 ·simp only [List.mem_cons,List.not_mem_nil,or_false] at he
  rcases he with rfl | rfl
  ·rw [List.mem_singleton.1 hc];rfl
  simp only [Av.cells,List.mem_cons,List.not_mem_nil,or_false] at hc
  have:=x.isLt
  rcases hc with rfl | rfl <;> exact h1 _ _ (by omega) (by decide)
 ·match i,hi with
  | 0,_=>rfl
 intro Ow n0 ly JJ Jx hO hJg hY
 have hd:∀ (x:List (Nat×Tv)),(∀ p∈x,p.2.dv=true)->∀ i u,get x i=some u->u.dv=true:=fun x h=>Dk (p:=fun u=>Tv.dv u=true) h
 refine El ?_
 refine FM hO (Dk (p:=fun u=>Tv.dv u=true) (by simp [FA,EI,Tv.dv,Av.dv,Cl.dv,List.range,List.range.loop,Cz])) rfl fun W0 X1 M1 => ?_
 refine rg ⟨[(0,ylB ly),(1,tB1 (TR len g)),(3,tI (W64 ((len:Int)-1)))],[]⟩ ?_
 refine FF ?_
 refine H1 ?_
 rw [show W64 ((len:Int)-1)=(len:Int)-1-((0:Nat):Int) by rw [Az (by omega) (by omega)];omega]
 refine Sx (ι:=Nat) (fun k=>⟨[(0,ylB ly),(1,tB1 (TR len g)),(3,tI ((len:Int)-1-(k:Int)))],[]⟩) (fun k=>JJ k) (fun k=>k<=len) (fun k=>len-k) (fun k hk => ?_) 0 (Nat.zero_le _)
 refine El ?_
 refine El ?_
 refine FM hO (hd _ (by simp only [List.forall_mem_cons];exact ⟨rfl,rfl,rfl,fun x hx=>by cases hx⟩)) rfl fun W0 X1 M1 => ?_
 refine rg ⟨[(0,ylB ly),(1,tB1 (TR len g)),(3,tI ((len:Int)-1-(k:Int))),(8,tB (decide ((0:Int)<=((len:Int)-1-(k:Int)))))],[]⟩ ?_
 refine FF ?_
 refine J2 (decide ((0:Int)<=((len:Int)-1-(k:Int)))) kr (fun hc => ?_) (fun hc => ?_)
 ·have hlt:k<len:=by have:=oT hc;omega
  obtain ⟨m,hm⟩:∃ m:Nat,(len:Int)-1-(k:Int)=(m:Int):=⟨len-1-k,by omega⟩
  have hm2:m=len-1-k:=by omega
  refine Ll ?_
  refine FF ?_
  refine El ?_
  refine H1 ?_
  refine El ?_
  refine PW ?_
  rw [hm]
  refine Lk hO Dh 6 [0,1,3,11,12,16] [0<=(m:Int)/\(m:Int)<((len:Nat):Int)] [(0,ylB ly),(1,tB1 (TR len g)),(3,tI (m:Int)),(11,ylB ly),(12,tI (m:Int)),(16,.av (avB g (m:Int).toNat))] kr (.cons ⟨by omega,by omega⟩ .nil) (hd _ (by simp only [List.forall_mem_cons];exact ⟨rfl,rfl,rfl,rfl,fun x hx=>by cases hx⟩)) rfl ?_
  rw [Int.toNat_natCast]
  refine Wv (ly:=ly) (d:=17) hO rfl [.one (.i (m:Int)),avB g m] rfl rfl kr kr rfl rfl kr ?hT1 (fun A B=>hJg _ A B) (JJ (k+1)) (Jx (k+1)) ?hY [] ?htf rfl ?ht ?hf
  case hT1=>exact Dk (p:=fun u=>Tv.dv u=true/\TvM u) (by
   simp only [List.forall_mem_cons]
   exact ⟨⟨rfl,Ca (.val _)⟩,⟨rfl,Ca (kT len g)⟩,⟨rfl,Ca (.val _)⟩,⟨rfl,Ca (.val _)⟩,⟨rfl,Ca (.val _)⟩,⟨rfl,fun c hc=>by
    simp only [Av.cells,List.mem_cons,List.not_mem_nil,or_false] at hc
    rcases hc with rfl | rfl <;> exact .val _⟩,fun x hx=>by cases hx⟩)
  case hY =>
   intro W hW
   have:=hY k hlt W hW
   simp only [hm,<- hm2] at this
   exact this
  case htf=>exact fun i v hv=>by cases hv
  case ht =>
   refine PV [0,1,3,17] ⟨[(0,ylB ly),(1,tB1 (TR len g)),(3,tI (m:Int)),(17,tB true)],[]⟩ kr ?_
   refine Lk hO Dh 1 [0,1,3,18] [] [(0,ylB ly),(1,tB1 (TR len g)),(3,tI (m:Int)),(18,tB false)] kr .nil (hd _ (by simp only [List.forall_mem_cons];exact ⟨rfl,rfl,rfl,rfl,fun x hx=>by cases hx⟩)) rfl ?_
   refine Sw ?_
   refine FF ?_
   refine J2 false kr (fun h=>by cases h) (fun _ => ?_)
   refine Ll ?_
   refine fU ?_
   refine FF ?_
   refine FM hO (hd _ (by simp only [List.forall_mem_cons];exact ⟨rfl,rfl,rfl,rfl,fun x hx=>by cases hx⟩)) rfl fun W0 X1 M1 => ?_
   refine rg ⟨[(0,ylB ly),(1,tB1 (TR len g)),(3,tI (W64 ((m:Int)-1)))],[]⟩ ?_
   refine FF ?_
   refine ⟨k+1,by omega,by omega,?_,rfl,rfl⟩
   rw [Az (by omega) (by omega),show (m:Int)-1=(len:Int)-1-((k+1:Nat):Int) by omega]
  case hf =>
   refine PV [17] ⟨[(17,tB false)],[]⟩ kr ?_
   refine Lk hO Dh 1 [18] [] [(18,tB true)] kr .nil (hd _ (by simp only [List.forall_mem_cons];exact ⟨rfl,fun x hx=>by cases hx⟩)) rfl ?_
   refine Sw ?_
   refine FF ?_
   refine J2 true kr (fun _ => ?_) (fun h=>by cases h)
   refine pT ?_
   exact ⟨.inl rfl,.inr ⟨_,hlt,rfl⟩⟩
 have hkl:k=len:=by have:=oF hc;omega
 refine Sy ?_
 refine Ql ?_
 refine Ql ?_
 refine S3 ?_
 exact ⟨.inr rfl,.inl (by rw [hkl])⟩
end
theorem lP (l:List BA) (hl:(l.length:Int)<=1000000):Js Tryz.prog 55 1 (Cz [.eptr 1 1 (fun _ j=>([lst 2 BA.c l]:List Cl).getD j default) 0 0]) l.length (fun x=>[.one (.i ((l.length:Int)-1-(x.val:Int))),.agg (BA.c (l.getD (l.length-1-x.val) default))]):=by
 refine Ww (t:=false) (sz:=2) (len:=l.length) (f:=fun i j=>(BA.c (l.getD i default)).getD j default) (fun g x=>[.one (.i ((l.length:Int)-1-(x.val:Int))),avB g (l.length-1-x.val)]) rfl (by decide) (fun g h1 => ?_) (fun g x=>rfl) (fun M g x vs h2 hL => ?_)
 ·refine Wx (fun i hi => ?_) (iC l.length g hl h1)
  match i,hi with
  | 0,_=>rfl
 cases hL with
 | cons a1 a2 =>
  cases a2 with
  | cons a3 a4 =>
   refine .cons a1 (.cons (fun σ => ?_) a4)
   obtain ⟨us,hu,hus⟩:=a3 σ
   refine ⟨us,hu,?_⟩
   have hx:l.length-1-x.val<l.length:=by have:=x.isLt;omega
   cases hus with
   | cons b1 b2 =>
    cases b2 with
    | cons b3 b4 =>
     cases b4
     have e1:=b1.1
     have e2:=b3.1
     subst e1 e2
     exact .cons ((KG rfl).2 (h2 _ 0 hx (by decide))) (.cons ((KG rfl).2 (h2 _ 1 hx (by decide))) .nil)
end
theorem Yy  (l:(List BA)):GE Tryz.prog 27 [.one (lst 2 BA.c l)] (.av (.one (.clo 55 1 (Cz [.eptr 1 1 (gD [lst 2 BA.c l]) 0 0])))):=by
 refine pwf Tryz.func27 fun W0 M0 => ?_
 refine AA<|on<|AA ?_
 refine rn ⟨[(2,tO (.clo 55 1 (Cz [.ptr 1 0])))],[(1,.cells [lst 2 BA.c l] 29)]⟩<|AY ?_
 exact zy (Cv.trans (My (⟨[(2,.av (.one (.clo 55 1 (Cz [.eptr 1 1 (gD [lst 2 BA.c l]) 0 0]))))],[]⟩) 1 [lst 2 BA.c l] 29 hk0 kr kr kr kr) (Cv.refl _))
def cpads (b:AC) (types:(List AV)):CT:=(28,[.agg (Cy b),.one (I7 types)],.val [] (.av (.one (.clo 56 2 (Cz [.eptr 15 1 (fun _ j_=>((Cy b):List Cl).getD j_ default) 0 0,.eptr 1 1 (fun _ j_=>([lst 3 AV.c types]:List Cl).getD j_ default) 0 0])))))
abbrev Gp (b:AC):Nat×Blk:=(2,.cells (Cy b) 40)
theorem ppads (b:AC) (types:(List AV)):PuP 28 (cpads b types).2.1 (.av (.one (.clo 56 2 (Cz [.eptr 15 1 (gD (Cy b)) 0 0,.eptr 1 1 (gD [lst 3 AV.c types]) 0 0])))):=by
 refine pwf Tryz.func28 fun W0 M0 => ?_
 refine AA<|on<|AA ?_
 refine rn ⟨[(4,tO (.clo 56 2 (Cz [.ptr 2 0,.ptr 3 0])))],[(Gp b),(3,.cells [lst 3 AV.c types] 41)]⟩<|AY ?_
 exact zy (Cv.trans (My (⟨[(4,.av (.one (.clo 56 2 (Cz [.eptr 15 1 (gD (Cy b)) 0 0,.ptr 3 0]))))],[(3,.cells [lst 3 AV.c types] 41)]⟩) 2 (Cy b) 40 hk0 kr kr kr kr) (Cv.trans (My (⟨[(4,.av (.one (.clo 56 2 (Cz [.eptr 15 1 (gD (Cy b)) 0 0,.eptr 1 1 (gD [lst 3 AV.c types]) 0 0]))))],[]⟩) 3 [lst 3 AV.c types] 41 hk0 kr kr kr kr) (Cv.refl _)))
def GI (s:An) (m:Ac):Nat->List AN->Int->An
 | 0,_,_=>default
 | n0+1,s_1,v13=>bif decide ((v13:Int)<((s.Edges.length:Nat):Int)) then ((GI s m n0) (s_1.set v13.toNat (EQ (s_1.getD v13.toNat default) m)) (v13+1)) else (An.mk s.Kind s_1 s.R)
def FB (s:An) (m:Ac):An:=GI s m ((((s.Edges.length:Nat):Int)-0).toNat+1) s.Edges 0
def TP (s:An) (m:Ac):CT:=(30,[.agg (An.c s),.agg (Ac.c m)],.val [] (.av (.agg (An.c (FB s m)))))
abbrev OX (m:Ac):Nat×Blk:=(3,.cells (Ac.c m) 51)
abbrev Rr (s:An):Nat×Tv:=(12,tI ((s.Edges.length:Nat):Int))
abbrev Rq:Nat×Blk:=(4,.cells [.i 0,vN,.i 0] 27)
abbrev Hc (t_:List (Nat×Tv)):List (Nat×Tv):=(2,tP 2 0)::(3,tP 3 0)::(4,tP 4 0)::t_
theorem oD (s:An) (m:Ac) (h0:(s.Edges.length:Int)<=1000000):PuP 30 (TP s m).2.1 (.av (.agg (An.c (FB s m)))):=by
 refine pwf Tryz.func30 fun W0 M0 => ?_
 refine AA<|on<|AA ?_
 refine oq 8 (Ny s.Edges) (PL s.Edges au22)<|AG ?_
 refine Ap (A2 8 (Am 7 AN.c s.Edges))<|AA<|AA ?_
 refine rn ⟨(Hc [(Rr s),(13,tI 0)]),[(2,.cells [.i s.Kind,.own 8 7 s.Edges.length,.i s.R] 27),(OX m),Rq,(8,.row 7 s.Edges.length (AU AN.c s.Edges) 136)]⟩<|AQ ?_
 refine BP (ι:=Nat×List AN×Int) (fun x=>⟨(Hc [(Rr s),(13,tI x.2.2)]),[(2,.cells [.i s.Kind,.own 8 7 x.2.1.length,.i s.R] 27),(OX m),Rq,(8,.row 7 x.2.1.length (AU AN.c x.2.1) 136)]⟩) (fun x=>(((s.Edges.length:Nat):Int)-x.2.2).toNat<x.1/\(x.2.1.length=s.Edges.length/\0<=x.2.2/\(x.2.2<=((s.Edges.length:Nat):Int)\/x.2.2=0))/\GI s m x.1 x.2.1 x.2.2=FB s m) (fun x=>x.1) ?_ ((((s.Edges.length:Nat):Int)-0).toNat+1,s.Edges,0) ⟨Nat.lt_succ_self _,⟨ax0,ax0,ax0⟩,(by simp only [FB,cond_true,cond_false])⟩
 rintro ⟨n0,s_1,v13⟩ ⟨hm0,hinv0,hF0⟩
 try dsimp only at hm0 hinv0 hF0
 cases n0 with | zero=>exact nz hm0 | succ n0 => ?_
 refine AA<|rn ⟨(Hc [(Rr s),(13,tI v13),(14,tB (decide ((v13:Int)<((s.Edges.length:Nat):Int))))]),[(2,.cells [.i s.Kind,.own 8 7 s_1.length,.i s.R] 27),(OX m),Rq,(8,.row 7 s_1.length (AU AN.c s_1) 136)]⟩<|AA ?_
 refine AO _ rfl (fun h1 => ?_) (fun h1 => ?_)
 ·have g1:=oT h1
  refine AZ<|AG ?_
  refine AA<|AQ<|AA ?_
  refine on ?_
  refine od [] [(25,YY (s_1.getD v13.toNat default) m)] [0<=(v13:Int)/\(v13:Int)<((s_1.length:Nat):Int),v13.toNat<s_1.length,Ay (YY (s_1.getD v13.toNat default) m).2.1,0<=(v13:Int)/\(v13:Int)<((s_1.length:Nat):Int),v13.toNat<s_1.length] (.cons (oY (s_1.getD v13.toNat default) m) .nil) (.cons au0 (.cons au0 (.cons rfl (.cons au0 (.cons au0 .nil)))))<|A3<|AG ?_
  refine Ap (A2 8 (EM (l:=(AN.c (EQ (s_1.getD v13.toNat default) m))) (off:=0) (q:=7) (k:=v13.toNat) (Am 7 AN.c s_1) au0 (EQ (s_1.getD v13.toNat default) m) (D2 kr))) ?_
  refine rg ⟨(Hc [(Rr s),(13,tI (W64 (v13+1)))]),[(2,.cells [.i s.Kind,.own 8 7 (s_1.set v13.toNat (EQ (s_1.getD v13.toNat default) m)).length,.i s.R] 27),(OX m),Rq,(8,.row 7 (s_1.set v13.toNat (EQ (s_1.getD v13.toNat default) m)).length (AU AN.c (s_1.set v13.toNat (EQ (s_1.getD v13.toNat default) m))) 136)]⟩ ?_
  (try rw [(show W64 (v13+1)=v13+1 from Az oM au6)])
  refine AG ?_
  refine ⟨(n0,s_1.set v13.toNat (EQ (s_1.getD v13.toNat default) m),v13+1),⟨?_,?_,(by rw [<- hF0];simp only [GI,h1,cond_true,cond_false])⟩,Nat.lt_succ_self _,BE kr⟩
  ·show (((s.Edges.length:Nat):Int)-(v13+1)).toNat<n0;omega
  exact ⟨ax0,ax0,ax0⟩
 refine BH<|A5 ?_
 refine A5<|BI ?_
 refine AG<|AA ?_
 refine on<|AY ?_
 exact zy (Cv.trans (vf 8 hk0) (Cv.refl _)) (by rw [<- hF0];simp only [GI,h1,cond_true,cond_false] <;> kernel_rfl)
theorem kN (s:An) (m:Ac) (h0:(s.Edges.length:Int)<=1000000):OKc (TP s m):=cPu<|oD s m h0
def CJ (p:AX):Value:=.agg #[.string p.Ref,.string p.Pad]
def BD (a b:AX):Bool:=eqS a.Ref b.Ref&&eqS a.Pad b.Pad
theorem Q2 (a b:AX):BD a b=true↔CJ a=CJ b:=by
 unfold BD CJ
 rw [Bool.and_eq_true,W9,W9]
 simp
theorem U7 (k:AX):Fx Tryz.prog eqE 65 (CJ k):=.inr ⟨_,_,_,rfl,rfl,by kernel_rfl,rfl,rfl⟩
theorem Y3 {b:AC} {types:List AV} (ht:CM types) (k:Nat):(((Aw b types).getD k default).2.Shape.Edges.length:Int)<=1000000:=by
 refine GN (p:=fun x:AF×BL=>(x.2.Shape.Edges.length:Int)<=1000000) (by decide) (fun x hx => ?_) k
 unfold Aw at hx
 obtain ⟨p,_,hp⟩:=List.mem_flatMap.1 hx
 unfold F8 at hp
 obtain ⟨q,hq,rfl⟩:=List.mem_map.1 hp
 rw [Hb] at hq
 unfold S8 at hq
 cases hf:types.find? (fun t=>Gc t p.Type') with
 | none=>rw [hf] at hq;cases hq
 | some t=>rw [hf] at hq;exact (ht.2 t (List.mem_of_find?_eq_some hf)).2.2.1 q hq
theorem Hy {b:AC} {types:List AV} (hp:b.Parts.length<20) (ht:CM types):((Aw b types).length:Int)<=20000000:=by
 have key:∀ l:List AF,((l.flatMap (F8 types)).length:Int)<=1000000*(l.length:Int):=by
  intro l
  induction l with
  | nil=>simp
  | cons p l ih =>
   rw [List.flatMap_cons,List.length_append,Kx,Hb,List.length_cons]
   have:=Ij ht p.Type'
   omega
 have h1:=key (C0 b.Parts)
 have h2:=NF b.Parts hp
 unfold Aw
 omega
def Be (x0:AF):Ac:=Ac.mk x0.At x0.Turn x0.Under
def FN (x0:AF):CT:=(8,[.agg (AF.c x0)],.val [] (.av (.agg (Ac.c (Be x0)))))
theorem kG (x0:AF):PuP 8 (FN x0).2.1 (.av (.agg (Ac.c (Be x0)))):=by
 refine pwf Tryz.func8 fun W0 M0 => ?_
 refine AA<|on<|AA ?_
 refine on<|AY ?_
 exact zl
theorem JZ (x0:AF):OKc (FN x0):=cPu<|kG x0
def Eo (b:AC) (p:AF):Int:=bif p.Under then b.Layers else 1
def NZ (b:AC) (p:AF):CT:=(29,[.agg (Cy b),.agg (AF.c p)],.val [] (.av (.one (.i (Eo b p)))))
theorem pside (b:AC) (p:AF):PuP 29 (NZ b p).2.1 (tO (.i (Eo b p))):=by
 refine pwf Tryz.func29 fun W0 M0 => ?_
 refine AA<|on ?_
 refine AA<|AA ?_
 refine rn ⟨[(2,tP 2 0),(6,tB p.Under)],[(Gp b)]⟩ ?_
 refine AO p.Under kr (fun h1 => ?_) (fun h1 => ?_)
 ·refine AA<|on ?_
  refine AY<|BJ ?_
  exact zl (by simp only [Eo,h1,cond_true,cond_false] <;> kernel_rfl)
 refine AZ<|AG<|AA ?_
 refine on<|AY ?_
 exact zl (by simp only [Eo,h1,cond_true,cond_false] <;> kernel_rfl)
theorem We (b:AC) (p:AF):OKc (NZ b p):=cPu<|pside b p
section
open Go.RowKit
variable (b:AC) (types:List AV) (A4:List BC) (x0_ x2_:Nat)
def Z0j:CT:=(27,[.one (lst 2 BA.c b.Nets)],.val [] (.av (.one (.clo 55 1 (Cz [.eptr 1 1 (fun _ j_=>([lst 2 BA.c b.Nets]:List Cl).getD j_ default) 0 0])))))
def Z0k:CT:=(28,[.agg (Cy b),.one (I7 types)],.val [] (.av (.one (.clo 56 2 (Cz [.eptr 15 1 (fun _ j_=>((Cy b):List Cl).getD j_ default) 0 0,.eptr 1 1 (fun _ j_=>([lst 3 AV.c types]:List Cl).getD j_ default) 0 0])))))
def HS (b:AC) (types:(List AV)) (AW:List (AX×ByteArray)) (x0:Nat) (K0:List (AX×ByteArray)->(List BC)):Nat->List (AX×ByteArray)->Int->(List BC)
 | 0,_,_=>default
 | n1+1,A9,v23=>bif decide ((v23:Int)<((b.Nets.getD (b.Nets.length-1-x0) default).Pins.length:Int)) then ((HS b types AW x0 K0 n1) (Gi BD A9 ((b.Nets.getD (b.Nets.length-1-x0) default).Pins.getD v23.toNat default) (b.Nets.getD (b.Nets.length-1-x0) default).Name) (v23+1)) else (K0 A9)
def Dx (b:AC) (types:(List AV)) (AW:List (AX×ByteArray)) (K0:List (AX×ByteArray)->(List BC)):Nat->Nat->List BC->(List BC)
 | 0,_,A4=>A4
 | m+1,x,A4=>(Dx b types AW K0 m (x+1)) (A4++[BC.mk ((Aw b types).getD x default).1.Id ((Aw b types).getD x default).2.Name 1 (bif Ek BD AW (AX.mk ((Aw b types).getD x default).1.Ref ((Aw b types).getD x default).2.Name) then (AW.getD (Dj BD AW (AX.mk ((Aw b types).getD x default).1.Ref ((Aw b types).getD x default).2.Name)) default).2 else ⟨#[]⟩) (bif decide ((((Aw b types).getD x default).2.Drill:Int)=0) then (Eo b ((Aw b types).getD x default).1) else 1) (bif decide ((((Aw b types).getD x default).2.Drill:Int)=0) then (Eo b ((Aw b types).getD x default).1) else b.Layers) (FB ((Aw b types).getD x default).2.Shape (Be ((Aw b types).getD x default).1))])
def DY (b:AC) (types:(List AV)):Nat->Nat->List (AX×ByteArray)->(List BC)
 | 0,_,AW=>Dx b types AW (fun _=>default) (Aw b types).length 0 ([]:List BC)
 | m+1,x,AW=>HS b types AW x (DY b types m (x+1)) ((((b.Nets.getD (b.Nets.length-1-x) default).Pins.length:Int)-0).toNat+1) AW 0
def CQ (b:AC) (types:(List AV)):(List BC):=DY b types b.Nets.length 0 ([]:List (AX×ByteArray))
abbrev ED:=b.Nets.getD (b.Nets.length-1-x0_) default
abbrev Tq (AW:List (AX×ByteArray)) (b:AC) (types:List AV) (x2_:Nat):=bif Ek BD AW (AX.mk ((Aw b types).getD x2_ default).1.Ref ((Aw b types).getD x2_ default).2.Name) then (AW.getD (Dj BD AW (AX.mk ((Aw b types).getD x2_ default).1.Ref ((Aw b types).getD x2_ default).2.Name)) default).2 else ⟨#[]⟩
abbrev QI:=AX.mk ((Aw b types).getD x2_ default).1.Ref ((Aw b types).getD x2_ default).2.Name
abbrev OR:Nat×Tv:=(34,.av (.one (.clo 56 2 (Cz [.eptr 15 1 (gD (Cy b)) 0 0,.eptr 1 1 (gD [lst 3 AV.c types]) 0 0]))))
abbrev EL:Nat×Tv:=(1,tO (I7 types))
abbrev N7:Nat×Tv:=(17,.av (.one (.clo 55 1 (Cz [.eptr 1 1 (gD [lst 2 BA.c b.Nets]) 0 0]))))
abbrev Eb:Nat×Blk:=(200005,.cells [.om 200014] 112)
abbrev Ea:Nat×Blk:=(200002,.cells (Cy b) 40)
abbrev Xc:Nat×Tv:=(11,.av (.one (.eptr 7 1 (gD (AF.c ((Aw b types).getD x2_ default).1)) 0 0)))
abbrev Xa:=FB ((Aw b types).getD x2_ default).2.Shape (Be ((Aw b types).getD x2_ default).1)
abbrev mG:=(bif decide ((((Aw b types).getD x2_ default).2.Drill:Int)=0) then (Eo b ((Aw b types).getD x2_ default).1) else b.Layers)
abbrev mE:=(bif decide ((((Aw b types).getD x2_ default).2.Drill:Int)=0) then (Eo b ((Aw b types).getD x2_ default).1) else 1)
abbrev NH:Nat×Blk:=(100000,.row 9 A4.length (AU BC.c A4) 63)
abbrev V4:Nat×Tv:=(12,.av (.one (.eptr 7 1 (gD (BL.c ((Aw b types).getD x2_ default).2)) 0 0)))
abbrev JV:Nat×Blk:=(200010,.cells [.own 100000 9 A4.length] 55)
abbrev Vt:Nat×Tv:=(7,.av (.one (.eptr 2 1 (gD (BA.c (ED b x0_))) 0 0)))
abbrev ME (t_:List (Nat×Tv)):List (Nat×Tv):=(2,tP 200002 0)::(5,tP 200005 0)::(10,tP 200010 0)::t_
abbrev SH:List (Nat×Tv):=(ME [(Xc b types x2_),(V4 b types x2_),(13,tP 13 0),(OR b types)])
abbrev Vo (b:AC) (types:List AV) (x2_:Nat) (AW:List (AX×ByteArray)):=[BC.mk ((Aw b types).getD x2_ default).1.Id ((Aw b types).getD x2_ default).2.Name 1 (Tq AW b types x2_) (mE b types x2_) (mG b types x2_) (Xa b types x2_)]
abbrev aW:Nat×Tv:=(22,tI ((ED b x0_).Pins.length:Int))
abbrev aS:Nat×Tv:=(21,tO (lst 2 AX.c (ED b x0_).Pins))
abbrev VO:List (Nat×Tv):=(ME [(OR b types)])
abbrev MI (types:List AV) (b:AC) (x0_:Nat) (t_:List (Nat×Tv)):List (Nat×Tv):=(EL types)::(2,tP 200002 0)::(5,tP 200005 0)::(Vt b x0_)::(N7 b)::(aS b x0_)::(aW b x0_)::t_
abbrev MH (t_:List Cl):List Cl:=(.i ((Aw b types).getD x2_ default).1.Id)::(.s ((Aw b types).getD x2_ default).2.Name)::(.i 1)::t_
abbrev OB (t_:List (Nat×Tv)):List (Nat×Tv):=(EL types)::(2,tP 200002 0)::(5,tP 200005 0)::t_
theorem lr {p:Prop} (h:p:=by repeat (first | exact .nil | refine .cons ⟨rfl,.refl _⟩ ?_)):p:=h
theorem qPads (b:AC) (types:(List AV)) (hn:(b.Nets.length:Int)<=1000000) (hp:b.Parts.length<20) (ht:CM types) (hm:((Aw b types).length:Int)<=20000000) (hq:∀ n∈b.Nets,(n.Pins.length:Int)<=1000000):Fr Tryz.prog 11 [.agg (Cy b),.one (lst 3 AV.c types)] (.row 9 (CQ b types).length (AU BC.c (CQ b types)) 63) (fun d=>tO (.own d 9 (CQ b types).length)):=by
 refine Ms Tryz.func11 rfl kr (PG _ _) fun W0 M0 => ?_
 refine AA<|on<|AA ?_
 refine rn ⟨[(EL types),(2,tP 2 0),(5,tP 5 0)],[(Gp b),(5,.cells [.om 14] 112),(14,.omap false 1 0 (fun _=>undef) (fun _ _=>default))]⟩ ?_
 refine Ap (Cv.trans (DH (⟨[(EL types),(2,tP 2 0),(5,tP 5 0)],[(Gp b),(5,.cells [.om 14] 112),(14,.omap false 1 ([]:List (AX×ByteArray)).length (kfG CJ ([]:List (AX×ByteArray))) (vfG (fun x=>[.s x]) ([]:List (AX×ByteArray))))]⟩) lr (.cons ⟨rfl,.refl _⟩ (.cons ⟨rfl,.refl _⟩ (.cons ⟨rfl,iA (ck:=CJ) (cv:=(fun x=>[.s x]))⟩ .nil)))) (Cv.refl _))<|AA<|AA ?_
 refine rs 17 (Z0j b) ⟨[(EL types),(2,tP 2 0),(5,tP 5 0),(N7 b)],[(Gp b),(5,.cells [.om 14] 112),(14,.omap false 1 ([]:List (AX×ByteArray)).length (kfG CJ ([]:List (AX×ByteArray))) (vfG (fun x=>[.s x]) ([]:List (AX×ByteArray))))]⟩ (cPu<|Yy b.Nets)<|AG<|AQ ?_
 refine Ap (Cv.trans (vr 2 200002 hk0) (Cv.trans (vr 5 200005 hk0) (Cv.trans (wr (⟨(OB types [(N7 b)]),[(Ea b),Eb,(200014,.omap false 1 ([]:List (AX×ByteArray)).length (kfG CJ ([]:List (AX×ByteArray))) (vfG (fun x=>[.s x]) ([]:List (AX×ByteArray))))]⟩) 14 200014 hk0) (Cv.refl _)))) ?_
 refine Pt (ι:=List (AX×ByteArray)) [200002,200005,200014] 299999 200002 9999 299998 (fun x=>[(200002,.cells (Cy b) 40),(200005,.cells [.om 200014] 112),(200014,.omap false 1 x.length (kfG CJ x) (vfG (fun x=>[.s x]) x))]) (fun x0=>[(1,tO (lst 3 AV.c types)),(2,tP 200002 0),(5,tP 200005 0),(7,.av (.one (.eptr 2 1 (gD (BA.c (b.Nets.getD (b.Nets.length-1-x0.val) default))) 0 0))),(17,.av (.one (.clo 55 1 (Cz [.eptr 1 1 (gD [lst 2 BA.c b.Nets]) 0 0]))))]) (fun j x=>True) (fun y x=>DY b types (b.Nets.length-y) y x=CQ b types) ([]:List (AX×ByteArray)) (fun _=>rfl) kr kr (fun _ _=>kr) (lP b.Nets oM) kr (fun _=>by kernel_rfl) (fun _=>rfl) (fun _=>rfl) (fun x=>(Dk (p:=BkN) (by simp only [List.forall_mem_cons];exact ⟨VB (Mh _),VB (by simp only [List.forall_mem_cons];exact ⟨(.om _),fun x hx=>by cases hx⟩),nC (fun x y hy=>by rw [List.mem_singleton.1 hy];exact (.val _)),fun x hx=>by cases hx⟩))) (fun x0=>(Dk (p:=TvM) (by simp only [List.forall_mem_cons];exact ⟨Ca (C2 PM),Ca (.ptr _ _),Ca (.ptr _ _),Ca (Hh (Sn _)),Ca (eF (by simp only [List.forall_mem_cons];exact ⟨(Hh (by simp only [List.forall_mem_cons];exact ⟨(C2 Sn),fun x hx=>by cases hx⟩)),fun x hx=>by cases hx⟩)),fun x hx=>by cases hx⟩))) (fun _=>by kernel_rfl) ax0 (by simp only [CQ,Nat.sub_zero,cond_true,cond_false]) (fun l1 W1 M1 X1 x0 j AW hinv hPX => ?_) (fun l2 W2 M2 X2 x0 j AW hPX hj hinv => ?_) (fun AW hinv hF0 => ?_)
 ·have hinv0:True:=hinv;clear hinv
  refine EP ?_
  refine rg ⟨(OB types [(7,tP 7 0),(N7 b)]),[(7,.cells (BA.c (ED b x0.val)) 84),(Ea b),Eb,(200014,.omap false 1 AW.length (kfG CJ AW) (vfG (fun x=>[.s x]) AW))]⟩ ?_
  exact ⟨_,Cv.trans (Pl (⟨(OB types [(Vt b x0.val),(N7 b)]),[(Ea b),Eb,(200014,.omap false 1 AW.length (kfG CJ AW) (vfG (fun x=>[.s x]) AW))]⟩) 7 (BA.c (b.Nets.getD (b.Nets.length-1-x0.val) default)) 84 [200002,200005,200014] 299998 hPX kr (fun h=>by obtain ⟨_,h⟩:=h;cases h) kr kr kr) (Cv.refl _),rfl,rfl⟩
 ·have hinv0:True:=hinv;clear hinv
  obtain ⟨Xb0,hXb0⟩:∃ Xb,DY b types (b.Nets.length-x0.val) x0.val AW=Xb:=⟨_,rfl⟩
  have hF0:=hXb0
  rw [show b.Nets.length-x0.val=(b.Nets.length-(x0.val+1))+1 by have:=x0.isLt;omega] at hF0
  have hqx:=GN (p:=fun n:BA=>(n.Pins.length:Int)<=1000000) (by decide) hq (b.Nets.length-1-x0.val)
  refine EP<|AQ<|AA ?_
  refine rn ⟨(MI types b x0.val [(23,tI 0)]),[(Ea b),Eb,(200014,.omap false 1 AW.length (kfG CJ AW) (vfG (fun x=>[.s x]) AW))]⟩<|AQ ?_
  refine BP (ι:=Nat×List (AX×ByteArray)×Int) (fun x=>⟨(MI types b x0.val [(23,tI x.2.2)]),[(Ea b),Eb,(200014,.omap false 1 x.2.1.length (kfG CJ x.2.1) (vfG (fun x=>[.s x]) x.2.1))]⟩) (fun x=>(((b.Nets.getD (b.Nets.length-1-x0.val) default).Pins.length:Int)-x.2.2).toNat<x.1/\(0<=x.2.2/\(x.2.2<=((b.Nets.getD (b.Nets.length-1-x0.val) default).Pins.length:Int)\/x.2.2=0))/\HS b types AW x0.val (DY b types (b.Nets.length-(x0.val+1)) (x0.val+1)) x.1 x.2.1 x.2.2=Xb0) (fun x=>x.1) ?_ ((((b.Nets.getD (b.Nets.length-1-x0.val) default).Pins.length:Int)-0).toNat+1,AW,0) ⟨Nat.lt_succ_self _,⟨ax0,ax0⟩,(by rw [<- hF0];simp only [DY,cond_true,cond_false])⟩
  rintro ⟨n1,A9,v23⟩ ⟨hm1,hinv1,hF1⟩
  try dsimp only at hm1 hinv1 hF1
  cases n1 with | zero=>exact nz hm1 | succ n1 => ?_
  refine AA<|rn ⟨(MI types b x0.val [(23,tI v23),(24,tB (decide ((v23:Int)<((b.Nets.getD (b.Nets.length-1-x0.val) default).Pins.length:Int))))]),[(Ea b),Eb,(200014,.omap false 1 A9.length (kfG CJ A9) (vfG (fun x=>[.s x]) A9))]⟩<|AA ?_
  refine AO _ rfl (fun h1 => ?_) (fun h1 => ?_)
  ·have g1:=oT h1
   refine AZ<|AG ?_
   refine AA<|AQ<|AA ?_
   refine rc [] [0<=(v23:Int)/\(v23:Int)<(((b.Nets.getD (b.Nets.length-1-x0.val) default).Pins.length:Nat):Int)] ⟨(OB types [(Vt b x0.val),(9,tP 9 0),(N7 b),(aS b x0.val),(aW b x0.val),(23,tI v23)]),[(9,.cells (AX.c ((ED b x0.val).Pins.getD v23.toNat default)) 65),(Ea b),Eb,(200014,.omap false 1 A9.length (kfG CJ A9) (vfG (fun x=>[.s x]) A9))]⟩ .nil (.cons au0 .nil)<|AG ?_
   refine DP Dh [] [(999999,((Ek BD A9 ((ED b x0.val).Pins.getD v23.toNat default)),(Dj BD A9 ((ED b x0.val).Pins.getD v23.toNat default))))] [] [1,2,5,7,17,21,22,23] [200002,200005,200014] [VF Tryz.prog eqE 65 A9.length (kfG CJ A9) (CJ ((b.Nets.getD (b.Nets.length-1-x0.val) default).Pins.getD v23.toNat default)) (Ek BD A9 ((b.Nets.getD (b.Nets.length-1-x0.val) default).Pins.getD v23.toNat default)) (Dj BD A9 ((b.Nets.getD (b.Nets.length-1-x0.val) default).Pins.getD v23.toNat default))] ⟨(MI types b x0.val [(23,tI v23)]),[(Ea b),Eb,(200014,.omap false 1 (bif Ek BD A9 ((ED b x0.val).Pins.getD v23.toNat default) then A9.length else A9.length+1) (fun j=>bif Nat.beq j (bif Ek BD A9 ((ED b x0.val).Pins.getD v23.toNat default) then Dj BD A9 ((ED b x0.val).Pins.getD v23.toNat default) else A9.length) then CJ ((ED b x0.val).Pins.getD v23.toNat default) else kfG CJ A9 j) (fun j c=>bif Nat.beq j (bif Ek BD A9 ((ED b x0.val).Pins.getD v23.toNat default) then Dj BD A9 ((ED b x0.val).Pins.getD v23.toNat default) else A9.length) then ([.s (ED b x0.val).Name]:List Cl).getD c default else vfG (fun x=>[.s x]) A9 j c))]⟩ .nil kr (.cons (Ui Q2 U7 _ _) .nil)<|A3<|AG ?_
   refine Ap (Cv.trans (DH (⟨(MI types b x0.val [(23,tI v23)]),[(Ea b),Eb,(200014,.omap false 1 (Gi BD A9 ((ED b x0.val).Pins.getD v23.toNat default) (ED b x0.val).Name).length (kfG CJ (Gi BD A9 ((ED b x0.val).Pins.getD v23.toNat default) (ED b x0.val).Name)) (vfG (fun x=>[.s x]) (Gi BD A9 ((ED b x0.val).Pins.getD v23.toNat default) (ED b x0.val).Name)))]⟩) lr (.cons ⟨rfl,.refl _⟩ (.cons ⟨rfl,.refl _⟩ (.cons ⟨rfl,hZ (ck:=CJ) (cv:=(fun x=>[.s x])) (eq:=BD) A9 ((b.Nets.getD (b.Nets.length-1-x0.val) default).Pins.getD v23.toNat default) (b.Nets.getD (b.Nets.length-1-x0.val) default).Name [.s (b.Nets.getD (b.Nets.length-1-x0.val) default).Name] rfl⟩ .nil)))) (Cv.refl _)) ?_
   refine rg ⟨(MI types b x0.val [(23,tI (W64 (v23+1)))]),[(Ea b),Eb,(200014,.omap false 1 (Gi BD A9 ((ED b x0.val).Pins.getD v23.toNat default) (ED b x0.val).Name).length (kfG CJ (Gi BD A9 ((ED b x0.val).Pins.getD v23.toNat default) (ED b x0.val).Name)) (vfG (fun x=>[.s x]) (Gi BD A9 ((ED b x0.val).Pins.getD v23.toNat default) (ED b x0.val).Name)))]⟩ ?_
   (try rw [(show W64 (v23+1)=v23+1 from Az oM au6)])
   refine AG ?_
   refine ⟨(n1,Gi BD A9 ((b.Nets.getD (b.Nets.length-1-x0.val) default).Pins.getD v23.toNat default) (b.Nets.getD (b.Nets.length-1-x0.val) default).Name,v23+1),⟨?_,?_,(by rw [<- hF1];simp only [HS,h1,cond_true,cond_false])⟩,Nat.lt_succ_self _,BE kr⟩
   ·show (((b.Nets.getD (b.Nets.length-1-x0.val) default).Pins.length:Int)-(v23+1)).toNat<n1;omega
   exact ⟨ax0,ax0⟩
  have g1:=oF h1
  refine BH<|A5 ?_
  refine A5<|BI<|A3 ?_
  refine ⟨_,Cv.trans (ck (⟨(OB types [(N7 b)]),[(Ea b),Eb,(200014,.omap false 1 A9.length (kfG CJ A9) (vfG (fun x=>[.s x]) A9))]⟩)) (Cv.refl _),rfl,A9,ax0,fun hk hF => ?_,fun _ _ h=>h⟩
  have e0:DY b types (b.Nets.length-(x0.val+1)) (x0.val+1) A9=Xb0:=by
   rw [<- hF1]
   first | (simp only [HS,h1,cond_true,cond_false] <;> rfl)
  subst hk
  change DY b types (b.Nets.length-x0.val) x0.val AW=CQ b types at hF
  show DY b types (b.Nets.length-(x0.val+1)) (x0.val+1) A9=CQ b types
  exact e0.trans (hXb0.symm.trans hF)
 have hinv0:True:=hinv;clear hinv
 change DY b types (b.Nets.length-b.Nets.length) b.Nets.length AW=CQ b types at hF0
 rw [Nat.sub_self] at hF0
 refine A3<|AG<|AA ?_
 refine on ?_
 refine AA<|AA ?_
 refine rs 34 (Z0k b types) ⟨[(2,tP 200002 0),(5,tP 200005 0),(10,tP 10 0),(OR b types)],[(10,.cells [vN] 55),(Ea b),Eb,(200014,.omap false 1 AW.length (kfG CJ AW) (vfG (fun x=>[.s x]) AW))]⟩ (cPu<|ppads b types)<|AG<|AQ ?_
 refine Ap (Cv.trans (vr 10 200010 hk0) (Cv.trans (vk [2,5,10,34] [200002,200005,200010,200014]) (Cv.trans (vg 100000 9 (fun _ _=>default) 63 [] [(200010,[0])] hk0) (Cv.trans (GP (⟨(VO b types),[(100000,.row 9 ([]:List BC).length (AU BC.c ([]:List BC)) 63),(Ea b),Eb,(200010,.cells [.own 100000 9 ([]:List BC).length] 55),(200014,.omap false 1 AW.length (kfG CJ AW) (vfG (fun x=>[.s x]) AW))]⟩) 100000 (CI 9 (fun _ _=>default) BC.c)) (Cv.refl _))))) ?_
 refine Pt (ι:=List BC) [200002,200005,200010,200014] 299999 200010 0 100000 (fun x=>[(100000,.row 9 x.length (AU BC.c x) 63),(200002,.cells (Cy b) 40),(200005,.cells [.om 200014] 112),(200010,.cells [.own 100000 9 x.length] 55),(200014,.omap false 1 AW.length (kfG CJ AW) (vfG (fun x=>[.s x]) AW))]) (fun x2=>[(2,tP 200002 0),(5,tP 200005 0),(10,tP 200010 0),(11,.av (.one (.eptr 7 1 (gD (AF.c ((Aw b types).getD x2.val default).1)) 0 0))),(12,.av (.one (.eptr 7 1 (gD (BL.c ((Aw b types).getD x2.val default).2)) 0 0))),(34,.av (.one (.clo 56 2 (Cz [.eptr 15 1 (gD (Cy b)) 0 0,.eptr 1 1 (gD [lst 3 AV.c types]) 0 0]))))]) (fun j x=>x.length<=j) (fun y x=>Dx b types AW (fun _=>default) ((Aw b types).length-y) y x=CQ b types) ([]:List BC) (fun _=>rfl) kr kr (fun _ _=>kr) (kC b types hp ht) kr (fun _=>by kernel_rfl) (fun _=>rfl) (fun _=>rfl) (fun x=>(Dk (p:=BkN) (by simp only [List.forall_mem_cons];exact ⟨bkN_r eL,VB (Mh _),VB (by simp only [List.forall_mem_cons];exact ⟨(.om _),fun x hx=>by cases hx⟩),VB (by simp only [List.forall_mem_cons];exact ⟨(.own _ _ _),fun x hx=>by cases hx⟩),nC (fun x y hy=>by rw [List.mem_singleton.1 hy];exact (.val _)),fun x hx=>by cases hx⟩))) (fun x2=>(Dk (p:=TvM) (by simp only [List.forall_mem_cons];exact ⟨Ca (.ptr _ _),Ca (.ptr _ _),Ca (.ptr _ _),Ca (Hh (GA _)),Ca (Hh (J0 _)),Ca (eF (by simp only [List.forall_mem_cons];exact ⟨(Hh (Mh _)),(Hh (by simp only [List.forall_mem_cons];exact ⟨(C2 PM),fun x hx=>by cases hx⟩)),fun x hx=>by cases hx⟩)),fun x hx=>by cases hx⟩))) (fun _=>by kernel_rfl) ax0 (by rw [<- hF0];simp only [DY,Nat.sub_zero,cond_true,cond_false]) (fun l1 W1 M1 X1 x2 j A4 hinv hPX => ?_) (fun l2 W2 M2 X2 x2 j A4 hPX hj hinv => ?_) (fun A4 hinv hF2 => ?_)
 ·have hinv2:A4.length<=j:=hinv;clear hinv
  refine EP<|AA ?_
  refine on ?_
  refine rg ⟨(ME [(11,tP 11 0),(12,tP 12 0),(OR b types)]),[(11,.cells (AF.c ((Aw b types).getD x2.val default).1) 49),(12,.cells (BL.c ((Aw b types).getD x2.val default).2) 120),(NH A4),(Ea b),Eb,(JV A4),(200014,.omap false 1 AW.length (kfG CJ AW) (vfG (fun x=>[.s x]) AW))]⟩ ?_
  exact ⟨_,Cv.trans (Pl (⟨(ME [(Xc b types x2.val),(12,tP 12 0),(OR b types)]),[(12,.cells (BL.c ((Aw b types).getD x2.val default).2) 120),(NH A4),(Ea b),Eb,(JV A4),(200014,.omap false 1 AW.length (kfG CJ AW) (vfG (fun x=>[.s x]) AW))]⟩) 11 (AF.c ((Aw b types).getD x2.val default).1) 49 [200002,200005,200010,200014] 100000 hPX kr (fun _=>⟨_,rfl⟩) kr kr kr) (Cv.trans (Pl (⟨(ME [(Xc b types x2.val),(V4 b types x2.val),(OR b types)]),[(NH A4),(Ea b),Eb,(JV A4),(200014,.omap false 1 AW.length (kfG CJ AW) (vfG (fun x=>[.s x]) AW))]⟩) 12 (BL.c ((Aw b types).getD x2.val default).2) 120 [200002,200005,200010,200014] 100000 hPX kr (fun _=>⟨_,rfl⟩) kr kr kr) (Cv.refl _)),rfl,rfl⟩
 ·have hinv2:A4.length<=j:=hinv;clear hinv
  obtain ⟨Xb2,hXb2⟩:∃ Xb,Dx b types AW (fun _=>default) ((Aw b types).length-x2.val) x2.val A4=Xb:=⟨_,rfl⟩
  have hF2:=hXb2
  rw [show (Aw b types).length-x2.val=((Aw b types).length-(x2.val+1))+1 by have:=x2.isLt;omega] at hF2
  have hpe:=Y3 (b:=b) ht x2.val
  refine EP<|AQ<|AA ?_
  refine TT Ld Dh [] [(47,((Ek BD AW (QI b types x2.val)),(Dj BD AW (QI b types x2.val))))] [] [2,5,10,11,12,13,34] [13,100000,200002,200005,200010,200014] [VF Tryz.prog eqE 65 AW.length (kfG CJ AW) (CJ (AX.mk ((Aw b types).getD x2.val default).1.Ref ((Aw b types).getD x2.val default).2.Name)) (Ek BD AW (AX.mk ((Aw b types).getD x2.val default).1.Ref ((Aw b types).getD x2.val default).2.Name)) (Dj BD AW (AX.mk ((Aw b types).getD x2.val default).1.Ref ((Aw b types).getD x2.val default).2.Name))] ⟨(SH b types x2.val),[(13,.cells (MH b types x2.val [.s (Tq AW b types x2.val),.i 1,.i b.Layers,.i 0,vN,.i 0]) 63),(NH A4),(Ea b),Eb,(JV A4),(200014,.omap false 1 AW.length (kfG CJ AW) (vfG (fun x=>[.s x]) AW))]⟩ .nil kr kr (.cons (Ui Q2 U7 _ _) .nil)<|AG ?_
  refine AA<|AA ?_
  refine rn ⟨(ME [(Xc b types x2.val),(V4 b types x2.val),(13,tP 13 0),(OR b types),(53,tB (decide ((((Aw b types).getD x2.val default).2.Drill:Int)=0)))]),[(13,.cells (MH b types x2.val [.s (Tq AW b types x2.val),.i 1,.i b.Layers,.i 0,vN,.i 0]) 63),(NH A4),(Ea b),Eb,(JV A4),(200014,.omap false 1 AW.length (kfG CJ AW) (vfG (fun x=>[.s x]) AW))]⟩ ?_
  refine B4 (⟨(SH b types x2.val),[(13,.cells (MH b types x2.val [.s (bif Ek BD AW (QI b types x2.val) then (AW.getD (Dj BD AW (QI b types x2.val)) default).2 else ⟨#[]⟩),.i (bif decide ((((Aw b types).getD x2.val default).2.Drill:Int)=0) then (Eo b ((Aw b types).getD x2.val default).1) else 1),.i (bif decide ((((Aw b types).getD x2.val default).2.Drill:Int)=0) then (Eo b ((Aw b types).getD x2.val default).1) else b.Layers),.i 0,vN,.i 0]) 63),(NH A4),(Ea b),Eb,(JV A4),(200014,.omap false 1 AW.length (kfG CJ AW) (vfG (fun x=>[.s x]) AW))]⟩) ?_ ?_
  ·refine AO _ rfl (fun h1 => ?_) (fun h1 => ?_)
   ·refine dw [] [(56,NZ b ((Aw b types).getD x2.val default).1),(59,NZ b ((Aw b types).getD x2.val default).1)] [Ay (NZ b ((Aw b types).getD x2.val default).1).2.1,Ay (NZ b ((Aw b types).getD x2.val default).1).2.1] ⟨(SH b types x2.val),[(13,.cells (MH b types x2.val [.s (Tq AW b types x2.val),.i (Eo b ((Aw b types).getD x2.val default).1),.i (Eo b ((Aw b types).getD x2.val default).1),.i 0,vN,.i 0]) 63),(NH A4),(Ea b),Eb,(JV A4),(200014,.omap false 1 AW.length (kfG CJ AW) (vfG (fun x=>[.s x]) AW))]⟩ (.cons (We b ((Aw b types).getD x2.val default).1) (.cons (We b ((Aw b types).getD x2.val default).1) .nil)) (.cons rfl (.cons rfl .nil))<|AG ?_
    refine BE ?_
    first | rfl | (simp only [h1,cond_true,cond_false] <;> rfl)
   refine AZ<|AG ?_
   refine Cv.trans (ck (⟨(SH b types x2.val),[(13,.cells (MH b types x2.val [.s (bif Ek BD AW (QI b types x2.val) then (AW.getD (Dj BD AW (QI b types x2.val)) default).2 else ⟨#[]⟩),.i 1,.i b.Layers,.i 0,vN,.i 0]) 63),(NH A4),(Ea b),Eb,(JV A4),(200014,.omap false 1 AW.length (kfG CJ AW) (vfG (fun x=>[.s x]) AW))]⟩)) (BE ?_)
   first | rfl | (simp only [h1,cond_true,cond_false] <;> rfl)
  refine AA<|od [] [(65,FN ((Aw b types).getD x2.val default).1),(66,TP ((Aw b types).getD x2.val default).2.Shape (Be ((Aw b types).getD x2.val default).1))] [Ay (FN ((Aw b types).getD x2.val default).1).2.1,Ay (TP ((Aw b types).getD x2.val default).2.Shape (Be ((Aw b types).getD x2.val default).1)).2.1] (.cons (JZ ((Aw b types).getD x2.val default).1) (.cons (kN ((Aw b types).getD x2.val default).2.Shape (Be ((Aw b types).getD x2.val default).1) au22) .nil)) (.cons rfl (.cons rfl .nil))<|AG ?_
  refine rc [] [A4.length=A4.length,A4.length+1<=maxLen,(A4.length+1)*104<=140737488355328] ⟨(VO b types),[(71,.row 9 (A4.length+1) (fun i_ j_=>if i_<A4.length then (AU BC.c A4) i_ j_ else (BB 9 1 (MH b types x2.val [.s (Tq AW b types x2.val),.i (mE b types x2.val),.i (mG b types x2.val),.i (Xa b types x2.val).Kind,lst 7 AN.c (Xa b types x2.val).Edges,.i (Xa b types x2.val).R])) (i_-A4.length) j_) 63),(Ea b),Eb,(200010,.cells [.own 71 9 (A4.length+1)] 55),(200014,.omap false 1 AW.length (kfG CJ AW) (vfG (fun x=>[.s x]) AW))]⟩ .nil (.cons rfl (.cons au3 (.cons au3 .nil)))<|A3 ?_
  refine ⟨_,Cv.trans (A2 71 (Au (Am 9 BC.c A4) (A0 9 BC.c ([BC.mk ((Aw b types).getD x2.val default).1.Id ((Aw b types).getD x2.val default).2.Name 1 (bif Ek BD AW (AX.mk ((Aw b types).getD x2.val default).1.Ref ((Aw b types).getD x2.val default).2.Name) then (AW.getD (Dj BD AW (AX.mk ((Aw b types).getD x2.val default).1.Ref ((Aw b types).getD x2.val default).2.Name)) default).2 else ⟨#[]⟩) (bif decide ((((Aw b types).getD x2.val default).2.Drill:Int)=0) then (Eo b ((Aw b types).getD x2.val default).1) else 1) (bif decide ((((Aw b types).getD x2.val default).2.Drill:Int)=0) then (Eo b ((Aw b types).getD x2.val default).1) else b.Layers) (FB ((Aw b types).getD x2.val default).2.Shape (Be ((Aw b types).getD x2.val default).1))]:List BC)))) (Cv.trans (wr (⟨(VO b types),[(100000,.row 9 (A4++(Vo b types x2.val AW)).length (AU BC.c (A4++(Vo b types x2.val AW))) 63),(Ea b),Eb,(200010,.cells [.own 100000 9 (A4++(Vo b types x2.val AW)).length] 55),(200014,.omap false 1 AW.length (kfG CJ AW) (vfG (fun x=>[.s x]) AW))]⟩) 71 100000 (K:=[299999,200002,200005,200010,200014]) (fun k x h=>.inl (hPX k x h))) (Cv.refl _)),rfl,(A4++[BC.mk ((Aw b types).getD x2.val default).1.Id ((Aw b types).getD x2.val default).2.Name 1 (bif Ek BD AW (AX.mk ((Aw b types).getD x2.val default).1.Ref ((Aw b types).getD x2.val default).2.Name) then (AW.getD (Dj BD AW (AX.mk ((Aw b types).getD x2.val default).1.Ref ((Aw b types).getD x2.val default).2.Name)) default).2 else ⟨#[]⟩) (bif decide ((((Aw b types).getD x2.val default).2.Drill:Int)=0) then (Eo b ((Aw b types).getD x2.val default).1) else 1) (bif decide ((((Aw b types).getD x2.val default).2.Drill:Int)=0) then (Eo b ((Aw b types).getD x2.val default).1) else b.Layers) (FB ((Aw b types).getD x2.val default).2.Shape (Be ((Aw b types).getD x2.val default).1))]),ax0,fun hk hF => ?_,fun _ _ h=>h⟩
  have e0:Dx b types AW (fun _=>default) ((Aw b types).length-(x2.val+1)) (x2.val+1) (A4++[BC.mk ((Aw b types).getD x2.val default).1.Id ((Aw b types).getD x2.val default).2.Name 1 (bif Ek BD AW (AX.mk ((Aw b types).getD x2.val default).1.Ref ((Aw b types).getD x2.val default).2.Name) then (AW.getD (Dj BD AW (AX.mk ((Aw b types).getD x2.val default).1.Ref ((Aw b types).getD x2.val default).2.Name)) default).2 else ⟨#[]⟩) (bif decide ((((Aw b types).getD x2.val default).2.Drill:Int)=0) then (Eo b ((Aw b types).getD x2.val default).1) else 1) (bif decide ((((Aw b types).getD x2.val default).2.Drill:Int)=0) then (Eo b ((Aw b types).getD x2.val default).1) else b.Layers) (FB ((Aw b types).getD x2.val default).2.Shape (Be ((Aw b types).getD x2.val default).1))])=Xb2:=by
   rw [<- hF2]
   first | (simp only [Dx,cond_true,cond_false] <;> rfl)
  subst hk
  change Dx b types AW (fun _=>default) ((Aw b types).length-x2.val) x2.val A4=CQ b types at hF
  show Dx b types AW (fun _=>default) ((Aw b types).length-(x2.val+1)) (x2.val+1) (A4++[BC.mk ((Aw b types).getD x2.val default).1.Id ((Aw b types).getD x2.val default).2.Name 1 (bif Ek BD AW (AX.mk ((Aw b types).getD x2.val default).1.Ref ((Aw b types).getD x2.val default).2.Name) then (AW.getD (Dj BD AW (AX.mk ((Aw b types).getD x2.val default).1.Ref ((Aw b types).getD x2.val default).2.Name)) default).2 else ⟨#[]⟩) (bif decide ((((Aw b types).getD x2.val default).2.Drill:Int)=0) then (Eo b ((Aw b types).getD x2.val default).1) else 1) (bif decide ((((Aw b types).getD x2.val default).2.Drill:Int)=0) then (Eo b ((Aw b types).getD x2.val default).1) else b.Layers) (FB ((Aw b types).getD x2.val default).2.Shape (Be ((Aw b types).getD x2.val default).1))])=CQ b types
  exact e0.trans (hXb2.symm.trans hF)
 have hinv2:A4.length<=(Aw b types).length:=hinv;clear hinv
 change Dx b types AW (fun _=>default) ((Aw b types).length-(Aw b types).length) (Aw b types).length A4=CQ b types at hF2
 rw [Nat.sub_self] at hF2
 refine A3<|AG<|AA ?_
 refine on<|AY ?_
 exact xl (tO (.own 100000 9 A4.length)) (frE (c:=BC.c) (xs:=A4) (by rw [<- hF2];first | (simp only [Dx,cond_true,cond_false] <;> rfl)) kr)
end
section
open Go.RowKit
theorem KU {types:List AV} (h:CM types) (name:ByteArray):((Ct types name).1.Pads.length:Int)<=1000000:=by rw [Hb];exact Ij h name
def HF (b:AC) (v:List (AX×ByteArray)) (x:AF×BL):BC:=BC.mk x.1.Id x.2.Name 1 (bif Ek BD v (AX.mk x.1.Ref x.2.Name) then (v.getD (Dj BD v (AX.mk x.1.Ref x.2.Name)) default).2 else ⟨#[]⟩) (bif decide (x.2.Drill=0) then Eo b x.1 else 1) (bif decide (x.2.Drill=0) then Eo b x.1 else b.Layers) (FB x.2.Shape (Be x.1))
def eN (v:List (AX×ByteArray)) (n:BA):List (AX×ByteArray):=n.Pins.foldl (fun v p=>Gi BD v p n.Name) v
def KP (b:AC):List (AX×ByteArray):=b.Nets.reverse.foldl eN []
theorem P4 (b:AC) (types:List AV):CQ b types=(Aw b types).map (HF b (KP b)):=by
 have h2:∀ v K0,Dx b types v K0 (Aw b types).length 0 []=(Aw b types).map (HF b v):=fun v K0=>by
  have:=gC (Aw b types) (fun acc x=>acc++[HF b v x]) (Dx b types v K0) id (fun x acc=>by rw [Dx];rfl) (fun m x acc hx=>by rw [Dx];rfl) (Aw b types).length 0 [] (by omega)
  rw [this,List.drop_zero,Mt,List.nil_append];rfl
 have hrev:∀ x,x<b.Nets.reverse.length->b.Nets.getD (b.Nets.length-1-x) default=b.Nets.reverse.getD x default:=fun x hx=>by
  rw [List.length_reverse] at hx
  rw [List.getD_eq_getElem?_getD,List.getD_eq_getElem?_getD,List.getElem?_reverse hx]
 unfold CQ
 have:=gC b.Nets.reverse eN (DY b types) (fun v=>(Aw b types).map (HF b v)) (fun x acc=>by rw [DY];exact h2 _ _) (fun m x acc hx=>by
  rw [DY,hrev x hx]
  have h1:=TB (b.Nets.reverse.getD x default).Pins (fun v p=>Gi BD v p (b.Nets.reverse.getD x default).Name) (HS b types acc x (DY b types m (x+1))) (fun v _=>DY b types m (x+1) v) (fun m v k=>by rw [HS,hrev x hx,Int.toNat_natCast]) (b.Nets.reverse.getD x default).Pins.length 0 ((((b.Nets.reverse.getD x default).Pins.length:Int)-0).toNat+1) acc rfl (Nat.zero_le _) (by omega)
  rw [List.drop_zero] at h1
  exact h1) b.Nets.length 0 [] (by rw [List.length_reverse];omega)
 rw [this,List.drop_zero];rfl
theorem Zm (b:AC) (types:List AV):(CQ b types).length=(Aw b types).length:=by rw [P4,List.length_map]
variable (b:AC) (t:AV) (types:List AV) (p:AX) (pad:ByteArray)
def Ho:CT:=(11,[.agg (Cy b),.one (I7 types)],.val [] (.av (.one (lst 9 BC.c (CQ b types)))))
theorem Lb (b:AC) (types:(List AV)) (hn:(b.Nets.length:Int)<=1000000) (hp:b.Parts.length<20) (ht:CM types) (hm:((Aw b types).length:Int)<=20000000) (hq:∀ n∈b.Nets,(n.Pins.length:Int)<=1000000):OKc (Ho b types):=cPu<|O7 (qPads b types hn hp ht hm hq)
def Z0l:Blk:=.cells [.s (⟨#[]⟩),.i 0,vN,.i 0,.i 0,.i 0,.i 0] 120
def Z0m:BL:=t.Pads.getD (Gs t.Pads pad).toNat default
def Z0n:Blk:=.cells [.s (Z0m t pad).Name,.i (Z0m t pad).Shape.Kind,.own 23 7 (Z0m t pad).Shape.Edges.length,.i (Z0m t pad).Shape.R,.i (Z0m t pad).At.X,.i (Z0m t pad).At.Y,.i (Z0m t pad).Drill] 120
def Z0o:Blk:=.row 7 (Z0m t pad).Shape.Edges.length (AU AN.c (Z0m t pad).Shape.Edges) 136
def ID (t:AV) (pad:ByteArray):(BL×Bool):=bif decide (((Gs t.Pads pad):Int)<0) then (BL.mk (⟨#[]⟩) (An.mk 0 [] 0) (AE.mk 0 0) 0,false) else (BL.mk (Z0m t pad).Name (An.mk (Z0m t pad).Shape.Kind (Z0m t pad).Shape.Edges (Z0m t pad).Shape.R) (Z0m t pad).At (Z0m t pad).Drill,true)
def gW:CT:=(37,[.agg (AV.c t),.one (.s pad)],.val [] (.tup [.agg (BL.c (ID t pad).1),.one (.b (ID t pad).2)]))
theorem pFind (t:AV) (pad:ByteArray) (h0:(t.Pads.length:Int)<=1000000) (ha:∀ k,((t.Pads.getD k default).Shape.Edges.length:Int)<=1000000):PuP 37 (gW t pad).2.1 (.tup [.agg (BL.c (ID t pad).1),.one (.b (ID t pad).2)]):=by
 refine pwf Tryz.func37 fun W0 M0 => ?_
 have ha1:=ha (Gs t.Pads pad).toNat
 refine AA<|on<|AA ?_
 refine oc [(11,(69,[.one (lst 7 BL.c t.Pads),.one (.clo 70 1 (Cz [.ptr 3 0]))],rdI [3] [.cells [.s pad] 9] (tI (Gs t.Pads pad))))] [Ay [.one (lst 7 BL.c t.Pads),.one (.clo 70 1 (Cz [.ptr 3 0]))],TU [.cells [.s pad] 9]] (.cons (M8 (fun _ _=>kr) kr kr (SV (pixPd t.Pads pad au22) (.cons (AvE.refl _) (.cons (.one (.clo 70 1 _ _ (D2 kr))) .nil)))) .nil) (.cons rfl (.cons rfl .nil))<|AG ?_
 refine AA<|AA ?_
 refine rn ⟨[(2,tP 2 0),(4,tP 4 0),(6,tI (Gs t.Pads pad)),(13,tB (decide (((Gs t.Pads pad):Int)<0)))],[(2,.cells (AV.c t) 61),(4,Z0l)]⟩ ?_
 refine AO _ rfl (fun h1 => ?_) (fun h1 => ?_)
 ·refine AA<|on ?_
  refine AY<|BJ ?_
  exact xl (.tup [.agg [.s (⟨#[]⟩),.i 0,vN,.i 0,.i 0,.i 0,.i 0],.one (.b false)]) (DS (y:=.tup [.agg [.s (⟨#[]⟩),.i 0,lst 7 AN.c [],.i 0,.i 0,.i 0,.i 0],.one (.b false)]) (.tup (.cons (.agg (rr2 (.cons (Cx 7 AN.c) (rr (rr (rr (rr .nil))))))) (.cons (AvE.refl _) .nil))) (by simp only [ID,h1,cond_true,cond_false] <;> rfl))
 have g1:=oF h1
 refine AZ<|AG<|AA ?_
 refine oc [] [0<=(Gs t.Pads pad:Int)/\(Gs t.Pads pad:Int)<((t.Pads.length:Nat):Int)] .nil (.cons (by first | exact pS (by assumption) | omega) .nil)<|AG<|AA ?_
 refine oq 23 (Ny (Z0m t pad).Shape.Edges) (PL (Z0m t pad).Shape.Edges au22)<|AG<|AA ?_
 refine on<|AY ?_
 exact zy (Cv.trans (vf 23 hk0) (Cv.refl _)) (by simp only [ID,h1,cond_true,cond_false] <;> kernel_rfl)
theorem pA (t:AV) (pad:ByteArray) (h0:(t.Pads.length:Int)<=1000000) (ha:∀ k,((t.Pads.getD k default).Shape.Edges.length:Int)<=1000000):OKc (gW t pad):=cPu<|pFind t pad h0 ha
theorem NU {types:List AV} (h:CM types) (name:ByteArray):∀ k,(((Ct types name).1.Pads.getD k default).Shape.Edges.length:Int)<=1000000:=by
 rw [Hb]
 unfold S8
 cases hf:types.find? (fun t=>Gc t name) with
 | none=>exact fun k=>(by decide:((0:Nat):Int)<=1000000)
 | some t=>exact fun k=>PF (h.2 t (List.mem_of_find?_eq_some hf)) k
def Z0p (types:(List AV)) (b:AC) (p:AX):AV:=(Ct types (b.Parts.getD (EZ b.Parts p).toNat default).Type').1
def Z0q:AF:=b.Parts.getD (EZ b.Parts p).toNat default
def Z0r (b:AC) (p:AX) (types:(List AV)):AE:=Aj (Be (Z0q b p)) (ID (Z0p types b p) p.Pad).1.At
def FAt (b:AC) (types:(List AV)) (p:AX):(AE×Int×Bool):=bif decide (((EZ b.Parts p):Int)<0) then (AE.mk 0 0,0,false) else (bif !((ID (Z0p types b p) p.Pad).2) then (AE.mk 0 0,0,false) else (Z0r b p types,Eo b (Z0q b p),true))
def cAt:CT:=(13,[.agg (Cy b),.one (I7 types),.agg (AX.c p)],.val [] (.tup [.agg (AE.c (FAt b types p).1),.one (.i (FAt b types p).2.1),.one (.b (FAt b types p).2.2)]))
abbrev OW:Nat×Blk:=(6,.cells [.i 0,.i 0] 47)
theorem au29 {p:Prop} (h:p:=by first | (exact NU ht _) | (exact KU ht _) | with_reducible assumption | omega | decide | (simp only [List.length_cons,List.length_nil,List.length_append];omega) | assumption):p:=h
theorem au33 {p:Prop} (h:p:=by first | exact pR (by assumption) | omega):p:=h
theorem pAt (b:AC) (types:(List AV)) (p:AX) (hp:(b.Parts.length:Int)<=1000000) (ht:CM types):PuP 13 (cAt b types p).2.1 (.tup [.agg (AE.c (FAt b types p).1),.one (.i (FAt b types p).2.1),.one (.b (FAt b types p).2.2)]):=by
 refine pwf Tryz.func13 fun W0 M0 => ?_
 refine AA<|on<|AA ?_
 refine oc [(17,(34,[.one (lst 7 AF.c b.Parts),.one (.clo 35 1 (Cz [.ptr 5 0]))],rdI [5] [.cells (AX.c p) 65] (tI (EZ b.Parts p))))] [Ay [.one (lst 7 AF.c b.Parts),.one (.clo 35 1 (Cz [.ptr 5 0]))],TU [.cells (AX.c p) 65]] (.cons (M8 (fun _ _=>kr) kr kr (SV (pixPl b.Parts p au29) (.cons (AvE.refl _) (.cons (.one (.clo 35 1 _ _ (D2 kr))) .nil)))) .nil) (.cons rfl (.cons rfl .nil))<|AG ?_
 refine AA<|AA ?_
 refine rn ⟨[(EL types),(3,tP 3 0),(5,tP 5 0),(6,tP 6 0),(9,tI (EZ b.Parts p)),(19,tB (decide (((EZ b.Parts p):Int)<0)))],[(3,.cells (Cy b) 40),(5,.cells (AX.c p) 65),OW]⟩ ?_
 refine AO _ rfl (fun h1 => ?_) (fun h1 => ?_)
 ·refine AA<|on ?_
  refine AY<|BJ ?_
  exact zl (by simp only [FAt,h1,cond_true,cond_false] <;> kernel_rfl)
 have g1:=oF h1
 refine AZ<|AG<|AA ?_
 refine oc [(29,gV types (b.Parts.getD (EZ b.Parts p).toNat default).Type')] [0<=(EZ b.Parts p:Int)/\(EZ b.Parts p:Int)<((b.Parts.length:Nat):Int),Ay (gV types (b.Parts.getD (EZ b.Parts p).toNat default).Type').2.1] (.cons (mT types (b.Parts.getD (EZ b.Parts p).toNat default).Type' au29) .nil) (.cons au33 (.cons rfl .nil))<|AG<|AA ?_
 refine oq 36 (gW (Z0p types b p) p.Pad) (pA (Z0p types b p) p.Pad au29 au29)<|AG ?_
 refine AA<|AA ?_
 refine rn ⟨[(3,tP 3 0),(6,tP 6 0),(9,tI (EZ b.Parts p)),(12,tP 12 0),(40,tB (!((ID (Z0p types b p) p.Pad).2)))],[(3,.cells (Cy b) 40),OW,(12,.cells (BL.c (ID (Z0p types b p) p.Pad).1) 120)]⟩ ?_
 refine AO _ rfl (fun h2 => ?_) (fun h2 => ?_)
 ·refine AA<|on ?_
  refine AY<|BJ ?_
  exact zl (by simp only [FAt,h1,h2,cond_true,cond_false] <;> kernel_rfl)
 refine AZ<|AG<|AA ?_
 refine od [] [(47,FN (Z0q b p)),(50,CS (Be (Z0q b p)) (ID (Z0p types b p) p.Pad).1.At),(57,NZ b (Z0q b p))] [0<=(EZ b.Parts p:Int)/\(EZ b.Parts p:Int)<((b.Parts.length:Nat):Int),Ay (FN (Z0q b p)).2.1,Ay (CS (Be (Z0q b p)) (ID (Z0p types b p) p.Pad).1.At).2.1,0<=(EZ b.Parts p:Int)/\(EZ b.Parts p:Int)<((b.Parts.length:Nat):Int),Ay (NZ b (Z0q b p)).2.1] (.cons (JZ (Z0q b p)) (.cons (Dy (Be (Z0q b p)) (ID (Z0p types b p) p.Pad).1.At) (.cons (We b (Z0q b p)) .nil))) (.cons au33 (.cons rfl (.cons rfl (.cons au33 (.cons rfl .nil)))))<|AG<|AY ?_
 exact zl (by simp only [FAt,h1,h2,cond_true,cond_false] <;> kernel_rfl)
theorem okAt (b:AC) (types:(List AV)) (p:AX) (hp:(b.Parts.length:Int)<=1000000) (ht:CM types):OKc (cAt b types p):=cPu<|pAt b types p hp ht
end
section
open Go.RowKit
def Z0s:Blk:=.cells ON 61
variable (b:AC) (types:List AV) (out:List AF) (s:An) (k:Int) (p:AF) (i:Int) (m:Ac) (name:ByteArray) (pad:BL)
def Z0t:Bool:=((types.getD k.toNat default).Name.toList==name.toList)
def EC (types:(List AV)) (name:ByteArray):Nat->Int->(AV×Bool)
 | 0,_=>default
 | n0+1,k=>bif decide ((k:Int)<(types.length:Int)) then (bif Z0t types k name then (types.getD k.toNat default,true) else ((EC types name n0) (k+1))) else (AV.mk (⟨#[]⟩) [] [],false)
def Bs (types:(List AV)) (name:ByteArray):(AV×Bool):=EC types name (((types.length:Int)-0).toNat+1) 0
def LJ:CT:=(32,[.one (I7 types),.one (.s name)],.val [] (.tup [.agg (AV.c (Bs types name).1),.one (.b (Bs types name).2)]))
theorem oK (types:(List AV)) (name:ByteArray) (h0:(types.length:Int)<=1000000):PuP 32 (LJ types name).2.1 (.tup [.agg (AV.c (Bs types name).1),.one (.b (Bs types name).2)]):=by
 refine pwf Tryz.func32 fun W0 M0 => ?_
 refine AA<|on ?_
 refine AA<|AA ?_
 refine rn ⟨[(IL types),(1,tO (.s name)),(4,tP 4 0),(6,tI 0)],[(4,Z0s)]⟩<|AQ ?_
 refine BP (ι:=Nat×Int) (fun x=>⟨[(IL types),(1,tO (.s name)),(4,tP 4 0),(6,tI x.2)],[(4,Z0s)]⟩) (fun x=>((types.length:Int)-x.2).toNat<x.1/\(0<=x.2/\0<=x.2/\(x.2<=(types.length:Int)\/x.2=0))/\EC types name x.1 x.2=Bs types name) (fun x=>x.1) ?_ (((types.length:Int)-0).toNat+1,0) ⟨Nat.lt_succ_self _,⟨ax0,ax0,ax0⟩,(by simp only [Bs,cond_true,cond_false])⟩
 rintro ⟨n0,k⟩ ⟨hm0,hinv0,hF0⟩
 try dsimp only at hm0 hinv0 hF0
 cases n0 with | zero=>exact nz hm0 | succ n0 => ?_
 refine AA<|AA ?_
 refine rn ⟨[(IL types),(1,tO (.s name)),(4,tP 4 0),(6,tI k),(10,tB (decide ((k:Int)<(types.length:Int))))],[(4,Z0s)]⟩ ?_
 refine AO _ rfl (fun h1 => ?_) (fun h1 => ?_)
 ·have g1:=oT h1
  refine AZ<|AG ?_
  refine AA<|AQ<|AA ?_
  refine rc [] [0<=(k:Int)/\(k:Int)<((types.length:Nat):Int)] ⟨[(IL types),(1,tO (.s name)),(4,tP 4 0),(6,tI k),(19,tB (Z0t types k name))],[(4,Z0s)]⟩ .nil (.cons au0 .nil)<|AG ?_
  refine AO _ rfl (fun h2 => ?_) (fun h2 => ?_)
  ·refine AA<|oc [] [0<=(k:Int)/\(k:Int)<((types.length:Nat):Int)] .nil (.cons au0 .nil)<|AG ?_
   refine AY<|Bw ?_
   refine BJ<|BJ ?_
   refine Bw<|BJ ?_
   exact zl (by rw [<- hF0];simp only [EC,h1,h2,cond_true,cond_false] <;> kernel_rfl)
  refine AZ<|A3<|AG ?_
  refine rg ⟨[(IL types),(1,tO (.s name)),(4,tP 4 0),(6,tI (W64 (k+1)))],[(4,Z0s)]⟩ ?_
  (try rw [(show W64 (k+1)=k+1 from Az oM oM)])
  refine AG ?_
  refine ⟨(n0,k+1),⟨?_,?_,(by rw [<- hF0];simp only [EC,h1,h2,cond_true,cond_false])⟩,Nat.lt_succ_self _,BE kr⟩
  ·show ((types.length:Int)-(k+1)).toNat<n0;omega
  exact ⟨ax0,ax0,ax0⟩
 refine BH<|A5 ?_
 refine A5<|BI ?_
 refine AG<|AA ?_
 refine on<|AY ?_
 exact xl (.tup [.agg ON,.one (.b false)]) (DS (y:=.tup Z9) (.tup (.cons (.agg (rr (.cons (Cx 7 BL.c) (.cons (Cx 2 BO.c) .nil)))) (.cons (AvE.refl _) .nil))) (by rw [<- hF0];first | (simp only [EC,h1,cond_true,cond_false] <;> rfl)))
theorem Sj (types:(List AV)) (name:ByteArray) (h0:(types.length:Int)<=1000000):OKc (LJ types name):=cPu<|oK types name h0
theorem iJ {p:Prop} [Decidable p] {q:Bool} (h:(bif q then decide p else false)=true):p:=by
 cases q with
 | true=>exact oT h
 | false=>cases h
theorem TD {α β:Type} [Inhabited α] (f:α->Bool) (K:α->β) (D:β) (xs:List α) (g:Nat->Int->β) (hg:∀ m (v:Nat),g (m+1) v=bif decide ((v:Int)<(xs.length:Int)) then (bif f (xs.getD v default) then K (xs.getD v default) else g m ((v:Int)+1)) else D) :
  ∀ (k v m:Nat),xs.length-v=k->v<=xs.length->k<m->g m v=match (xs.drop v).find? f with | some x=>K x | none=>D:=by
 intro k
 induction k with
 | zero =>
  intro v m hk hv hm
  obtain ⟨m,rfl⟩:∃ k,m=k+1:=⟨m-1,by omega⟩
  rw [hg,decide_eq_false (by omega),cond_false,List.drop_eq_nil_of_le (by omega)]
  rfl
 | succ k ih =>
  intro v m hk hv hm
  obtain ⟨m,rfl⟩:∃ k,m=k+1:=⟨m-1,by omega⟩
  have hlt:v<xs.length:=by omega
  have e:xs.getD v default=xs[v]:=by rw [List.getD_eq_getElem?_getD,List.getElem?_eq_getElem hlt];rfl
  rw [hg,decide_eq_true (by omega),cond_true,e,List.drop_eq_getElem_cons hlt,List.find?_cons]
  cases f xs[v] with
  | true=>rfl
  | false=>exact ih (v+1) m (by omega) (by omega) (by omega)
theorem iE {a c:ByteArray} (h:(a.toList==c.toList)=true):a=c:=by have:=(W9 a c).1 h;cases this;rfl
theorem KE (types:List AV) (name:ByteArray):Bs types name=Ct types name:=by
 rw [Hb]
 unfold Bs S8
 have h:=TD (fun t=>Gc t name) (fun t=>((t,true):AV×Bool)) (⟨⟨#[]⟩,[],[]⟩,false) types (EC types name) (fun m v=>by rw [EC];unfold Z0t;rw [Int.toNat_natCast];rfl) types.length 0 (((types.length:Int)-0).toNat+1) rfl (Nat.zero_le _) (by omega)
 rw [List.drop_zero] at h
 refine h.trans ?_
 cases hf:types.find? (fun t=>Gc t name) with
 | none=>rfl
 | some t =>
  have e:t.Name=name:=iE (List.find?_some (p:=fun t=>Gc t name) hf)
  subst e
  rfl
theorem Qs {types:List AV} (h:CM types) (name:ByteArray):((Bs types name).1.Pads.length:Int)<=1000000:=by rw [KE];exact KU h name
theorem fX {types:List AV} (h:CM types) (name:ByteArray):∀ k,(((Bs types name).1.Pads.getD k default).Shape.Edges.length:Int)<=1000000:=by rw [KE];exact NU h name
theorem jX {b:AC} (h:∀ n∈b.Nets,(n.Pins.length:Int)<=1000000) (k:Nat):((b.Nets.getD k default).Pins.length:Int)<=1000000:=GN (p:=fun n:BA=>(n.Pins.length:Int)<=1000000) (by decide) h k
def Bj (p:AF):Ac:=Ac.mk p.At p.Turn p.Under
def Fc:CT:=(9,[.agg (AF.c p)],.val [] (.av (.agg (Ac.c (Bj p)))))
theorem Y5 (p:AF):PuP 9 (Fc p).2.1 (.av (.agg (Ac.c (Bj p)))):=by
 refine pwf Tryz.func9 fun W0 M0 => ?_
 refine AA<|on<|AA ?_
 refine on<|AY ?_
 exact zl
theorem Kz (p:AF):OKc (Fc p):=cPu<|Y5 p
def Z0u:AX:=(b.Nets.getD k.toNat default).Pins.getD i.toNat default
def Z0v (p:AX):Bool:=(((Z0u b k i).Ref.toList==p.Ref.toList)&&(((Z0u b k i).Pad.toList==p.Pad.toList)&&true))
def E0 (b:AC) (p:AX) (k:Int) (K0:Int->ByteArray):Nat->Int->ByteArray
 | 0,_=>default
 | n1+1,i=>bif decide ((i:Int)<((b.Nets.getD k.toNat default).Pins.length:Int)) then (bif Z0v b k i p then (b.Nets.getD k.toNat default).Name else ((E0 b p k K0 n1) (i+1))) else (K0 (k+1))
def E1 (b:AC) (p:AX):Nat->Int->ByteArray
 | 0,_=>default
 | n0+1,k=>bif decide ((k:Int)<(b.Nets.length:Int)) then (E0 b p k (E1 b p n0) ((((b.Nets.getD k.toNat default).Pins.length:Int)-0).toNat+1) 0) else ({ data := #[] }:ByteArray)
def HQ (b:AC) (p:AX):ByteArray:=E1 b p (((b.Nets.length:Int)-0).toNat+1) 0
def TL (p:AX):CT:=(63,[.agg (Cy b),.agg (AX.c p)],.val [] (.av (.one (.s (HQ b p)))))
abbrev Ib (p:AX):List (Nat×Blk):=[(Gp b),(3,.cells (AX.c p) 65)]
abbrev JH (t_:List (Nat×Tv)):List (Nat×Tv):=(2,tP 2 0)::(3,tP 3 0)::(5,tI k)::t_
theorem nT (b:AC) (p:AX) (hn:(b.Nets.length:Int)<=1000000) (hq:∀ n∈b.Nets,(n.Pins.length:Int)<=1000000):PuP 63 (TL b p).2.1 (tO (.s (HQ b p))):=by
 refine pwf Tryz.func63 fun W0 M0 => ?_
 refine AA<|on ?_
 refine AA<|AA ?_
 refine rn ⟨[(2,tP 2 0),(3,tP 3 0),(5,tI 0)],(Ib b p)⟩<|AQ ?_
 refine BP (ι:=Nat×Int) (fun x=>⟨[(2,tP 2 0),(3,tP 3 0),(5,tI x.2)],(Ib b p)⟩) (fun x=>((b.Nets.length:Int)-x.2).toNat<x.1/\(0<=x.2/\(x.2<=(b.Nets.length:Int)\/x.2=0))/\E1 b p x.1 x.2=HQ b p) (fun x=>x.1) ?_ (((b.Nets.length:Int)-0).toNat+1,0) ⟨Nat.lt_succ_self _,⟨ax0,ax0⟩,(by simp only [HQ,cond_true,cond_false])⟩
 rintro ⟨n0,k⟩ ⟨hm0,hinv0,hF0⟩
 try dsimp only at hm0 hinv0 hF0
 cases n0 with | zero=>exact nz hm0 | succ n0 => ?_
 refine AA<|AA ?_
 refine rn ⟨(JH k [(11,tB (decide ((k:Int)<(b.Nets.length:Int))))]),(Ib b p)⟩ ?_
 refine AO _ rfl (fun h1 => ?_) (fun h1 => ?_)
 ·have g1:=oT h1
  refine AZ<|AG ?_
  refine AA<|AQ<|AA ?_
  refine rn ⟨(JH k [(6,tI 0)]),(Ib b p)⟩<|AQ ?_
  refine BP (ι:=Nat×Int) (fun x=>⟨(JH k [(6,tI x.2)]),(Ib b p)⟩) (fun x=>(((b.Nets.getD k.toNat default).Pins.length:Int)-x.2).toNat<x.1/\(0<=x.2/\(x.2<=((b.Nets.getD k.toNat default).Pins.length:Int)\/x.2=0))/\E0 b p k (E1 b p n0) x.1 x.2=HQ b p) (fun x=>x.1) ?_ ((((b.Nets.getD k.toNat default).Pins.length:Int)-0).toNat+1,0) ⟨Nat.lt_succ_self _,⟨ax0,ax0⟩,(by rw [<- hF0];simp only [E1,h1,cond_true,cond_false])⟩
  rintro ⟨n1,i⟩ ⟨hm1,hinv1,hF1⟩
  try dsimp only at hm1 hinv1 hF1
  cases n1 with | zero=>exact nz hm1 | succ n1 => ?_
  have hb1:=jX hq k.toNat
  refine AA<|AA ?_
  refine rc [] [0<=(k:Int)/\(k:Int)<((b.Nets.length:Nat):Int)] ⟨(JH k [(6,tI i),(22,tB (decide ((i:Int)<((b.Nets.getD k.toNat default).Pins.length:Int))))]),(Ib b p)⟩ .nil (.cons au0 .nil)<|AG ?_
  refine AO _ rfl (fun h2 => ?_) (fun h2 => ?_)
  ·have g2:=oT h2
   refine AZ<|AG ?_
   refine AA<|AQ<|AA ?_
   refine dw [] [] [0<=(k:Int)/\(k:Int)<((b.Nets.length:Nat):Int),0<=(i:Int)/\(i:Int)<(((b.Nets.getD k.toNat default).Pins.length:Nat):Int)] ⟨(JH k [(6,tI i),(35,tB (Z0v b k i p))]),(Ib b p)⟩ .nil (.cons au0 (.cons au0 .nil))<|AG ?_
   refine AO _ rfl (fun h3 => ?_) (fun h3 => ?_)
   ·refine AA<|oc [] [0<=(k:Int)/\(k:Int)<((b.Nets.length:Nat):Int)] .nil (.cons au0 .nil)<|AG ?_
    refine AY<|Bw ?_
    refine BJ<|BJ ?_
    refine Bw<|Bw ?_
    refine BJ<|BJ ?_
    refine Bw<|BJ ?_
    exact zl (by rw [<- hF1];simp only [E0,h2,h3,cond_true,cond_false] <;> kernel_rfl)
   refine AZ<|A3<|AG ?_
   refine rg ⟨(JH k [(6,tI (W64 (i+1)))]),(Ib b p)⟩ ?_
   (try rw [(show W64 (i+1)=i+1 from Az oM au6)])
   refine AG ?_
   refine ⟨(n1,i+1),⟨?_,?_,(by rw [<- hF1];simp only [E0,h2,h3,cond_true,cond_false])⟩,Nat.lt_succ_self _,BE kr⟩
   ·show (((b.Nets.getD k.toNat default).Pins.length:Int)-(i+1)).toNat<n1;omega
   exact ⟨ax0,ax0⟩
  have g2:=oF h2
  refine BH<|A5 ?_
  refine A5<|BI ?_
  refine A3<|AG ?_
  refine rg ⟨[(2,tP 2 0),(3,tP 3 0),(5,tI (W64 (k+1)))],(Ib b p)⟩ ?_
  (try rw [(show W64 (k+1)=k+1 from Az oM au6)])
  refine AG ?_
  refine ⟨(n0,k+1),⟨?_,?_,(by rw [<- hF1];simp only [E0,h2,cond_true,cond_false])⟩,Nat.lt_succ_self _,BE kr⟩
  ·show ((b.Nets.length:Int)-(k+1)).toNat<n0;omega
  exact ⟨ax0,ax0⟩
 refine BH<|A5 ?_
 refine A5<|BI ?_
 refine AG<|AA ?_
 refine on<|AY ?_
 exact zl (by rw [<- hF0];simp only [E1,h1,cond_true,cond_false] <;> kernel_rfl)
theorem kL (b:AC) (p:AX) (hn:(b.Nets.length:Int)<=1000000) (hq:∀ n∈b.Nets,(n.Pins.length:Int)<=1000000):OKc (TL b p):=cPu<|nT b p hn hq
def GT (b:AC) (p:AF):Int:=bif p.Under then b.Layers else 1
def TK:CT:=(64,[.agg (Cy b),.agg (AF.c p)],.val [] (.av (.one (.i (GT b p)))))
theorem jR (b:AC) (p:AF):PuP 64 (TK b p).2.1 (tO (.i (GT b p))):=by
 refine pwf Tryz.func64 fun W0 M0 => ?_
 refine AA<|on ?_
 refine AA<|AA ?_
 refine rn ⟨[(2,tP 2 0),(6,tB p.Under)],[(Gp b)]⟩ ?_
 refine AO p.Under kr (fun h1 => ?_) (fun h1 => ?_)
 ·refine AA<|on ?_
  refine AY<|BJ ?_
  exact zl (by simp only [GT,h1,cond_true,cond_false] <;> kernel_rfl)
 refine AZ<|AG<|AA ?_
 refine on<|AY ?_
 exact zl (by simp only [GT,h1,cond_true,cond_false] <;> kernel_rfl)
theorem dT (b:AC) (p:AF):OKc (TK b p):=cPu<|jR b p
def Z0w:Blk:=.cells [.i 0,vN,.i 0] 27
def Z0x:Blk:=.row 7 ([]:List AN).length (AU AN.c ([]:List AN)) 136
def Z0y:Blk:=.cells [.i s.Kind,.own 100000 7 ([]:List AN).length,.i s.R] 27
def Z0z:AN:=HP (s.Edges.getD k.toNat default) m
def Z0A (out_1:List AN) (s:An) (k:Int) (m:Ac):Blk:=.row 7 (out_1++[Z0z s k m]).length (AU AN.c (out_1++[Z0z s k m])) 136
def FT (s:An) (m:Ac):Nat->List AN->Int->An
 | 0,_,_=>default
 | n0+1,out_1,k=>bif decide ((k:Int)<(s.Edges.length:Int)) then ((FT s m n0) (out_1++[Z0z s k m]) (k+1)) else (An.mk s.Kind out_1 s.R)
def I3 (s:An) (m:Ac):An:=FT s m (((s.Edges.length:Int)-0).toNat+1) ([]:List AN) 0
def Nz:CT:=(65,[.agg (An.c s),.agg (Ac.c m)],.val [] (.av (.agg (An.c (I3 s m)))))
abbrev OA (t_:List (Nat×Blk)):List (Nat×Blk):=(2,.cells (An.c s) 27)::(OX m)::(4,Z0w)::t_
theorem kF (s:An) (m:Ac) (h0:(s.Edges.length:Int)<=1000000):PuP 65 (Nz s m).2.1 (.av (.agg (An.c (I3 s m)))):=by
 refine pwf Tryz.func65 fun W0 M0 => ?_
 refine AA<|on<|AA ?_
 refine on ?_
 refine AA<|AA ?_
 refine rn ⟨(Hc [(5,tP 5 0),(6,tI 0)]),(OA s m [(5,.cells [.i s.Kind,vN,.i s.R] 27)])⟩<|AQ ?_
 refine Ap (Cv.trans (vg 100000 7 (fun _ _=>default) 136 [] [(5,[1])] hk0) (Cv.trans (A2 100000 (CI 7 (fun _ _=>default) AN.c)) (Cv.trans (ck (⟨(Hc [(5,tP 5 0),(6,tI 0)]),(OA s m [(5,Z0y s),(100000,Z0x)])⟩)) (Cv.refl _)))) ?_
 refine BP (ι:=Nat×List AN×Int) (fun x=>⟨(Hc [(5,tP 5 0),(6,tI x.2.2)]),(OA s m [(5,.cells [.i s.Kind,.own 100000 7 x.2.1.length,.i s.R] 27),(100000,.row 7 x.2.1.length (AU AN.c x.2.1) 136)])⟩) (fun x=>((s.Edges.length:Int)-x.2.2).toNat<x.1/\(0<=x.2.2/\(x.2.2<=(s.Edges.length:Int)\/x.2.2=0)/\(x.2.1.length:Int)<=0+1*(x.2.2-0))/\FT s m x.1 x.2.1 x.2.2=I3 s m) (fun x=>x.1) ?_ (((s.Edges.length:Int)-0).toNat+1,([]:List AN),0) ⟨Nat.lt_succ_self _,⟨ax0,ax0,ax0⟩,(by simp only [I3,cond_true,cond_false])⟩
 rintro ⟨n0,out_1,k⟩ ⟨hm0,hinv0,hF0⟩
 try dsimp only at hm0 hinv0 hF0
 cases n0 with | zero=>exact nz hm0 | succ n0 => ?_
 refine AA<|AA ?_
 refine rn ⟨(Hc [(5,tP 5 0),(6,tI k),(16,tB (decide ((k:Int)<(s.Edges.length:Int))))]),(OA s m [(5,.cells [.i s.Kind,.own 100000 7 out_1.length,.i s.R] 27),(100000,.row 7 out_1.length (AU AN.c out_1) 136)])⟩ ?_
 refine AO _ rfl (fun h1 => ?_) (fun h1 => ?_)
 ·have g1:=oT h1
  refine AZ<|AG ?_
  refine AA<|AQ ?_
  refine od [] [(27,Iw (s.Edges.getD k.toNat default) m)] [0<=(k:Int)/\(k:Int)<((s.Edges.length:Nat):Int),Ay (Iw (s.Edges.getD k.toNat default) m).2.1,out_1.length=out_1.length,out_1.length+1<=maxLen,(out_1.length+1)*56<=140737488355328] (.cons (UM (s.Edges.getD k.toNat default) m) .nil) (.cons au0 (.cons rfl (.cons rfl (.cons au3 (.cons au3 .nil)))))<|A3<|AG ?_
  refine Ap (A2 29 (Au (Am 7 AN.c out_1) (A0 7 AN.c ([Z0z s k m]:List AN)))) ?_
  refine rg ⟨(Hc [(5,tP 5 0),(6,tI (W64 (k+1)))]),(OA s m [(5,.cells [.i s.Kind,.own 29 7 (out_1++[Z0z s k m]).length,.i s.R] 27),(29,Z0A out_1 s k m)])⟩ ?_
  (try rw [(show W64 (k+1)=k+1 from Az oM au6)])
  refine AG ?_
  refine ⟨(n0,out_1++[Z0z s k m],k+1),⟨?_,?_,(by rw [<- hF0];simp only [FT,h1,cond_true,cond_false])⟩,Nat.lt_succ_self _,Cv.trans (vr 29 100000 hk0) (BE kr)⟩
  ·show ((s.Edges.length:Int)-(k+1)).toNat<n0;omega
  exact ⟨ax0,ax0,ax0⟩
 refine BH<|A5 ?_
 refine A5<|BI ?_
 refine AG<|AA ?_
 refine on<|AY ?_
 exact zy (Cv.trans (vf 100000 hk0) (Cv.refl _)) (by rw [<- hF0];simp only [FT,h1,cond_true,cond_false] <;> kernel_rfl)
theorem dX (s:An) (m:Ac) (h0:(s.Edges.length:Int)<=1000000):OKc (Nz s m):=cPu<|kF s m h0
abbrev Z6:List Cl:=[.i 0,.s (⟨#[]⟩),.i 0,.s (⟨#[]⟩),.i 0,.i 0,.i 0,vN,.i 0]
def Z0B:Blk:=.cells Z6 63
def Z0C (p:AF) (pad:BL) (b:AC):Blk:=.cells [.i p.Id,.s pad.Name,.i 1,.s (HQ b (AX.mk p.Ref pad.Name)),.i 1,.i b.Layers,.i 0,vN,.i 0] 63
def L4 (b:AC) (p:AF) (pad:BL):BC:=BC.mk p.Id pad.Name 1 (HQ b (AX.mk p.Ref pad.Name)) (bif decide ((pad.Drill:Int)=0) then (GT b p) else 1) (bif decide ((pad.Drill:Int)=0) then (GT b p) else b.Layers) (I3 pad.Shape (Bj p))
def Nx:CT:=(33,[.agg (Cy b),.agg (AF.c p),.agg (BL.c pad)],.val [] (.av (.agg (BC.c (L4 b p pad)))))
abbrev VZ:List (Nat×Tv):=[(4,tP 4 0),(5,tP 5 0),(6,tP 6 0),(7,tP 7 0)]
theorem jW (b:AC) (p:AF) (pad:BL) (hn:(b.Nets.length:Int)<=1000000) (hq:∀ n∈b.Nets,(n.Pins.length:Int)<=1000000) (he:(pad.Shape.Edges.length:Int)<=1000000):PuP 33 (Nx b p pad).2.1 (.av (.agg (BC.c (L4 b p pad)))):=by
 refine pwf Tryz.func33 fun W0 M0 => ?_
 refine AA<|on<|AA ?_
 refine od [] [(18,TL b (AX.mk p.Ref pad.Name))] [Ay (TL b (AX.mk p.Ref pad.Name)).2.1] (.cons (kL b (AX.mk p.Ref pad.Name) au12 au12) .nil) (.cons rfl .nil)<|AG ?_
 refine AA<|AA ?_
 refine rn ⟨[(3,tP 3 0),(4,tP 4 0),(5,tP 5 0),(6,tP 6 0),(7,tP 7 0),(24,tB (decide ((pad.Drill:Int)=0)))],[(3,.cells (Cy b) 40),(4,.cells (AF.c p) 49),(5,.cells (BL.c pad) 120),(6,Z0B),(7,Z0C p pad b)]⟩ ?_
 refine B4 (⟨VZ,[(4,.cells (AF.c p) 49),(5,.cells (BL.c pad) 120),(6,.cells Z6 63),(7,.cells [.i p.Id,.s pad.Name,.i 1,.s (HQ b (AX.mk p.Ref pad.Name)),.i (bif decide ((pad.Drill:Int)=0) then (GT b p) else 1),.i (bif decide ((pad.Drill:Int)=0) then (GT b p) else b.Layers),.i 0,vN,.i 0] 63)]⟩) ?_ ?_
 ·refine AO _ rfl (fun h1 => ?_) (fun h1 => ?_)
  ·refine AA<|oq 27 (TK b p) (dT b p)<|AG ?_
   refine rn ⟨VZ,[(4,.cells (AF.c p) 49),(5,.cells (BL.c pad) 120),(6,Z0B),(7,.cells [.i p.Id,.s pad.Name,.i 1,.s (HQ b (AX.mk p.Ref pad.Name)),.i (GT b p),.i (GT b p),.i 0,vN,.i 0] 63)]⟩ ?_
   refine BE ?_
   first | rfl | (simp only [h1,cond_true,cond_false] <;> rfl)
  refine AZ<|AG ?_
  refine Cv.trans (ck (⟨VZ,[(4,.cells (AF.c p) 49),(5,.cells (BL.c pad) 120),(6,Z0B),(7,Z0C p pad b)]⟩)) (BE ?_)
  first | rfl | (simp only [h1,cond_true,cond_false] <;> rfl)
 refine AA<|od [] [(35,Fc p),(36,Nz pad.Shape (Bj p))] [Ay (Fc p).2.1,Ay (Nz pad.Shape (Bj p)).2.1] (.cons (Kz p) (.cons (dX pad.Shape (Bj p) au12) .nil)) (.cons rfl (.cons rfl .nil))<|AG<|AA ?_
 refine on<|AY ?_
 exact zl
theorem dV (b:AC) (p:AF) (pad:BL) (hn:(b.Nets.length:Int)<=1000000) (hq:∀ n∈b.Nets,(n.Pins.length:Int)<=1000000) (he:(pad.Shape.Edges.length:Int)<=1000000):OKc (Nx b p pad):=cPu<|jW b p pad hn hq he
def Z0D (out:List AF) (at_:Int) (b:AC) (k:Int):Tv:=.av (.one (.own 49 7 (((out.take (at_:Int).toNat)++[b.Parts.getD k.toNat default])++(out.drop (at_:Int).toNat)).length))
def Z0E (out:List AF) (at_:Int) (b:AC) (k:Int):Blk:=.row 7 (((out.take (at_:Int).toNat)++[b.Parts.getD k.toNat default])++(out.drop (at_:Int).toNat)).length (AU AF.c (((out.take (at_:Int).toNat)++[b.Parts.getD k.toNat default])++(out.drop (at_:Int).toNat))) 49
def EF (b:AC) (out:List AF) (k:Int) (K0:List AF->Int->(List AF)):Nat->Int->(List AF)
 | 0,_=>default
 | n1+1,at_=>bif bif decide ((0:Int)<at_) then decide (((b.Parts.getD k.toNat default).Id:Int)<(out.getD (at_-1).toNat default).Id) else false then ((EF b out k K0 n1) (at_-1)) else (K0 (((out.take (at_:Int).toNat)++[b.Parts.getD k.toNat default])++(out.drop (at_:Int).toNat)) (k+1))
def Dw (b:AC):Nat->List AF->Int->(List AF)
 | 0,_,_=>default
 | n0+1,out,k=>bif decide ((k:Int)<(b.Parts.length:Int)) then (EF b out k (Dw b n0) ((out.length:Int).toNat+1) (out.length:Int)) else out
def Bo (b:AC):(List AF):=Dw b (((b.Parts.length:Int)-0).toNat+1) [] 0
def Pp:CT:=(31,[.agg (Cy b)],.val [] (.av (.one (lst 7 AF.c (Bo b)))))
abbrev Ia:Nat×Blk:=(1,.cells (Cy b) 40)
abbrev OC (t_:List (Nat×Tv)):List (Nat×Tv):=(1,tP 1 0)::(3,tO (lst 7 AF.c out))::(4,tI k)::t_
theorem au2 {p:Prop} (h:p:=by first | omega | (unfold maxLen;omega) | (simp only [ZF,ZE,ZD];omega)):p:=h
theorem dN (b:AC) (hp:(b.Parts.length:Int)<=1000000):PuP 31 (Pp b).2.1 (tO (lst 7 AF.c (Bo b))):=by
 refine pwf Tryz.func31 fun W0 M0 => ?_
 refine AA<|on<|AA ?_
 refine on ?_
 refine AA<|AA ?_
 refine rn ⟨[(1,tP 1 0),(3,.av (.one vN)),(4,tI 0)],[(Ia b)]⟩<|AQ ?_
 refine Ap (Cv.trans (DH (⟨[(1,tP 1 0),(3,tO (lst 7 AF.c [])),(4,tI 0)],[(Ia b)]⟩) (.cons ⟨rfl,.refl _⟩ (.cons ⟨rfl,.av (.one (Cx 7 AF.c))⟩ lr)) lr) (Cv.refl _)) ?_
 refine BP (ι:=Nat×List AF×Int) (fun x=>⟨[(1,tP 1 0),(3,tO (lst 7 AF.c x.2.1)),(4,tI x.2.2)],[(Ia b)]⟩) (fun x=>((b.Parts.length:Int)-x.2.2).toNat<x.1/\((x.2.1.length:Int)=x.2.2/\0<=x.2.2/\(x.2.2<=(b.Parts.length:Int)\/x.2.2=0))/\Dw b x.1 x.2.1 x.2.2=Bo b) (fun x=>x.1) ?_ (((b.Parts.length:Int)-0).toNat+1,[],0) ⟨Nat.lt_succ_self _,⟨ax0,ax0,ax0⟩,(by simp only [Bo,cond_true,cond_false])⟩
 rintro ⟨n0,out,k⟩ ⟨hm0,hinv0,hF0⟩
 try dsimp only at hm0 hinv0 hF0
 cases n0 with | zero=>exact nz hm0 | succ n0 => ?_
 refine AA<|AA ?_
 refine rn ⟨(OC out k [(10,tB (decide ((k:Int)<(b.Parts.length:Int))))]),[(Ia b)]⟩ ?_
 refine AO _ rfl (fun h1 => ?_) (fun h1 => ?_)
 ·have g1:=oT h1
  refine AZ<|AG ?_
  refine AA<|AQ<|AA ?_
  refine rn ⟨(OC out k [(5,tI (out.length:Int))]),[(Ia b)]⟩ ?_
  refine AA<|AQ ?_
  refine BP (ι:=Nat×Int) (fun x=>⟨(OC out k [(5,tI x.2)]),[(Ia b)]⟩) (fun x=>x.2.toNat<x.1/\(0<=x.2/\x.2<=(out.length:Int))/\EF b out k (Dw b n0) x.1 x.2=Bo b) (fun x=>x.1) ?_ ((out.length:Int).toNat+1,(out.length:Int)) ⟨Nat.lt_succ_self _,⟨ax0,ax0⟩,(by rw [<- hF0];simp only [Dw,h1,cond_true,cond_false])⟩
  rintro ⟨n1,at_⟩ ⟨hm1,hinv1,hF1⟩
  try dsimp only at hm1 hinv1 hF1
  cases n1 with | zero=>exact nz hm1 | succ n1 => ?_
  refine AA<|AA ?_
  refine dw [] [] (t3 (decide ((0:Int)<at_)) ((gk (decide ((0:Int)<at_)) (0<=(W64 (at_-1):Int)/\(W64 (at_-1):Int)<((out.length:Nat):Int)))::(t5 (decide ((0:Int)<at_)) ((gk (decide ((0:Int)<at_)) (0<=(k:Int)/\(k:Int)<((b.Parts.length:Nat):Int)))::(t5 (decide ((0:Int)<at_)) []))))) ⟨(OC out k [(5,tI at_),(31,tB (bif decide ((0:Int)<at_) then decide (((b.Parts.getD k.toNat default).Id:Int)<(out.getD (W64 (at_-1)).toNat default).Id) else false))]),[(Ia b)]⟩ .nil (c3 (.cons (fun hG=>by first | exact oM | (simp only [decide_eq_true_eq,decide_eq_false_iff_not,Bool.not_eq_true,Bool.and_eq_true] at hG <;> omega) | (simp at hG <;> omega) | (simp only [decide_eq_true_eq,decide_eq_false_iff_not] at hG;simp only [Do];omega)) (c5 (.cons (fun hG=>by first | exact oM | (simp only [decide_eq_true_eq,decide_eq_false_iff_not,Bool.not_eq_true,Bool.and_eq_true] at hG <;> omega) | (simp at hG <;> omega) | (simp only [decide_eq_true_eq,decide_eq_false_iff_not] at hG;simp only [Do];omega)) (c5 .nil))))) ?_
  (try rw [(show W64 (at_-1)=at_-1 from Az oM oM)])
  refine AG ?_
  refine AO _ rfl (fun h2 => ?_) (fun h2 => ?_)
  ·have g2:=N1 h2
   refine AZ<|AG<|AQ ?_
   refine rg ⟨(OC out k [(5,tI (W64 (at_-1)))]),[(Ia b)]⟩ ?_
   (try rw [(show W64 (at_-1)=at_-1 from Az oM oM)])
   refine A3<|AG ?_
   refine ⟨(n1,at_-1),⟨?_,?_,(by rw [<- hF1];simp only [EF,h2,cond_true,cond_false])⟩,Nat.lt_succ_self _,BE kr⟩
   ·show (at_-1).toNat<n1;omega
   exact ⟨ax0,ax0⟩
  refine BH<|A5 ?_
  refine A5<|BI<|AG ?_
  refine od [34] [] [0<=(0:Int)/\(0:Int)<=(at_:Int)/\(at_:Int)<=((out.length:Nat):Int),0=0,0+((at_:Int).toNat-(0:Int).toNat)<=maxLen,(0+((at_:Int).toNat-(0:Int).toNat))*72<=140737488355328,0<=(k:Int)/\(k:Int)<((b.Parts.length:Nat):Int),0+((at_:Int).toNat-(0:Int).toNat)=0+((at_:Int).toNat-(0:Int).toNat),(0+((at_:Int).toNat-(0:Int).toNat))+1<=maxLen,((0+((at_:Int).toNat-(0:Int).toNat))+1)*72<=140737488355328,0<=(at_:Int)/\(at_:Int)<=(((out.length:Nat):Int):Int)/\(((out.length:Nat):Int):Int)<=((out.length:Nat):Int),(0+((at_:Int).toNat-(0:Int).toNat))+1=(0+((at_:Int).toNat-(0:Int).toNat))+1,((0+((at_:Int).toNat-(0:Int).toNat))+1)+((((out.length:Nat):Int):Int).toNat-(at_:Int).toNat)<=maxLen,(((0+((at_:Int).toNat-(0:Int).toNat))+1)+((((out.length:Nat):Int):Int).toNat-(at_:Int).toNat))*72<=140737488355328] .nil (.cons oM (.cons rfl (.cons au2 (.cons au2 (.cons oM (.cons rfl (.cons au2 (.cons au2 (.cons oM (.cons rfl (.cons au2 (.cons au2 .nil))))))))))))<|A3<|AG ?_
  refine Ap (A2 49 (Au (Au (Au (A0 7 AF.c (([]:List AF):List AF)) (Hu (b:=at_) (Am 7 AF.c out) (by have hc:=(show 0<=(0:Int)/\(0:Int)<=(at_:Int)/\(at_:Int)<=((out.length:Nat):Int) from oM);exact hc.2.1) (by have hc:=(show 0<=(0:Int)/\(0:Int)<=(at_:Int)/\(at_:Int)<=((out.length:Nat):Int) from oM);exact hc.2.2))) (A0 7 AF.c ([b.Parts.getD k.toNat default]:List AF))) (QL (a:=at_) (Am 7 AF.c out) (by have hc:=(show 0<=(at_:Int)/\(at_:Int)<=(((out.length:Nat):Int):Int)/\(((out.length:Nat):Int):Int)<=((out.length:Nat):Int) from oM);exact hc.1) (by have hc:=(show 0<=(at_:Int)/\(at_:Int)<=(((out.length:Nat):Int):Int)/\(((out.length:Nat):Int):Int)<=((out.length:Nat):Int) from oM);exact hc.2.1)))) ?_
  refine rg ⟨[(1,tP 1 0),(3,Z0D out at_ b k),(4,tI (W64 (k+1)))],[(Ia b),(49,Z0E out at_ b k)]⟩ ?_
  (try rw [(show W64 (k+1)=k+1 from Az oM au6)])
  refine AG ?_
  refine ⟨(n0,((out.take (at_:Int).toNat)++[b.Parts.getD k.toNat default])++(out.drop (at_:Int).toNat),k+1),⟨?_,?_,(by rw [<- hF1];simp only [EF,h2,cond_true,cond_false])⟩,Nat.lt_succ_self _,Cv.trans (vf 49 hk0) (BE kr)⟩
  ·show ((b.Parts.length:Int)-(k+1)).toNat<n0;omega
  exact (by show ((((out.take (at_:Int).toNat)++[b.Parts.getD k.toNat default])++(out.drop (at_:Int).toNat)).length:Int)=(k+1)/\0<=(k+1)/\((k+1)<=(b.Parts.length:Int)\/(k+1)=0);(simp only [List.length_append,List.length_take,List.length_drop,List.length_cons,List.length_nil];omega))
 refine BH<|A5 ?_
 refine A5<|BI ?_
 refine AG<|AA ?_
 refine on<|AY ?_
 exact zl (by rw [<- hF0];simp only [Dw,h1,cond_true,cond_false] <;> kernel_rfl)
theorem ZA (b:AC) (hp:(b.Parts.length:Int)<=1000000):OKc (Pp b):=cPu<|dN b hp
theorem WY (b:AC) (out:List AF) (k:Nat) (K0:List AF->Int->List AF):∀ (j m:Nat),j<m->EF b out k K0 m j=K0 (out.take (Hj (fun y=>decide ((b.Parts.getD k default).Id<y.Id)) out j)++[b.Parts.getD k default]++out.drop (Hj (fun y=>decide ((b.Parts.getD k default).Id<y.Id)) out j)) ((k:Int)+1):=by
 intro j
 induction j with
 | zero =>
  intro m hm
  obtain ⟨m,rfl⟩:∃ k,m=k+1:=⟨m-1,by omega⟩
  rw [EF]
  simp only [Int.toNat_natCast]
  rfl
 | succ j ih =>
  intro m hm
  obtain ⟨m,rfl⟩:∃ k,m=k+1:=⟨m-1,by omega⟩
  rw [EF,Hj,decide_eq_true (show (0:Int)<((j+1:Nat):Int) by omega),cond_true]
  have e:(((j+1:Nat):Int)-1)=(j:Int):=by omega
  rw [e]
  simp only [Int.toNat_natCast]
  cases decide ((b.Parts.getD k default).Id<(out.getD j default).Id) with
  | true=>exact ih m oM
  | false=>rfl
theorem Nd (b:AC):Bo b=Hi (fun x y=>decide (x.Id<y.Id)) b.Parts:=by
 have h:=TB b.Parts (Sz fun x y:AF=>decide (x.Id<y.Id)) (Dw b) (fun acc _=>acc) (fun m acc v=>by
  rw [Dw,WY b acc v (Dw b m) acc.length _ (by omega)]
  unfold Sz
  rw [List.append_assoc]
  rfl) b.Parts.length 0 (((((b.Parts.length:Int)))-0).toNat+1) [] rfl (Nat.zero_le _) (by omega)
 rw [List.drop_zero] at h
 exact h
theorem PE (b:AC):Bo b=C0 b.Parts:=by
 rw [Nd,iU]
 congr 1
 funext x y
 unfold L5 FJ Hp
 by_cases h:x.Id<y.Id <;> by_cases k:y.Id<x.Id <;> simp [h,k]
theorem UF (b:AC):(Bo b).length=b.Parts.length:=by rw [Nd];exact K6 _ _
def Z0F:Tv:=.av (.one (lst 7 AF.c (Bo b)))
def Z0G:Blk:=.row 9 ([]:List BC).length (AU BC.c ([]:List BC)) 63
def Z0H:Tv:=.av (.one (.own 100000 9 ([]:List BC).length))
def Z0I (types:(List AV)) (b:AC) (k:Int):AV:=(Bs types ((Bo b).getD k.toNat default).Type').1
def Z0J (types:(List AV)) (b:AC) (k:Int):Tv:=tB (Bs types ((Bo b).getD k.toNat default).Type').2
def Z0K (types:(List AV)) (b:AC) (k:Int):Blk:=.cells (AV.c (Z0I types b k)) 61
def Z0L (types:(List AV)) (b:AC) (k:Int) (i:Int):BL:=(Z0I types b k).Pads.getD i.toNat default
def Z0M (b:AC) (k:Int) (types:(List AV)) (i:Int):BC:=L4 b ((Bo b).getD k.toNat default) (Z0L types b k i)
def Z0N (out':List BC) (b:AC) (k:Int) (types:(List AV)) (i:Int):Blk:=.row 9 (out'++[Z0M b k types i]).length (AU BC.c (out'++[Z0M b k types i])) 63
def Er (b:AC) (types:(List AV)) (out:List BC) (k:Int) (K0:List BC->Int->(List BC)):Nat->List BC->Int->(List BC)
 | 0,_,_=>default
 | n1+1,out',i=>bif bif (Bs types ((Bo b).getD k.toNat default).Type').2 then decide ((i:Int)<((Z0I types b k).Pads.length:Int)) else false then ((Er b types out k K0 n1) (out'++[Z0M b k types i]) (i+1)) else (K0 out' (k+1))
def DU (b:AC) (types:(List AV)):Nat->List BC->Int->(List BC)
 | 0,_,_=>default
 | n0+1,out,k=>bif decide ((k:Int)<((Bo b).length:Int)) then (Er b types out k (DU b types n0) ((((Z0I types b k).Pads.length:Int)-0).toNat+1) out 0) else out
def Dq (b:AC) (types:(List AV)):(List BC):=DU b types ((((Bo b).length:Int)-0).toNat+1) ([]:List BC) 0
def GS:CT:=(12,[.agg (Cy b),.one (I7 types)],.val [] (.av (.one (lst 9 BC.c (Dq b types)))))
theorem au27 {p:Prop} (h:p:=by first | (exact Qs ht _) | (exact fX ht _ _) | with_reducible assumption | omega | decide | (simp only [List.length_cons,List.length_nil,List.length_append];omega) | assumption):p:=h
theorem kE (b:AC) (types:(List AV)) (hp:b.Parts.length<20) (ht:CM types) (hn:(b.Nets.length:Int)<=1000000) (hq:∀ n∈b.Nets,(n.Pins.length:Int)<=1000000):PuP 12 (GS b types).2.1 (tO (lst 9 BC.c (Dq b types))):=by
 refine pwf Tryz.func12 fun W0 M0 => ?_
 have ht1:=ht.1
 have hl:=UF b
 refine AA<|on<|AA ?_
 refine on<|AA ?_
 refine oq 12 (Pp b) (ZA b au27)<|AG ?_
 refine AA<|AA ?_
 refine rn ⟨[(EL types),(2,tP 2 0),(5,.av (.one vN)),(6,Z0F b),(7,tI 0)],[(Gp b)]⟩<|AQ ?_
 refine Ap (Cv.trans (vg 100000 9 (fun _ _=>default) 63 [(5,[0])] [] hk0) (Cv.trans (A2 100000 (CI 9 (fun _ _=>default) BC.c)) (Cv.trans (ck (⟨[(EL types),(2,tP 2 0),(5,Z0H),(6,Z0F b),(7,tI 0)],[(Gp b),(100000,Z0G)]⟩)) (Cv.refl _)))) ?_
 refine BP (ι:=Nat×List BC×Int) (fun x=>⟨[(EL types),(2,tP 2 0),(5,tO (.own 100000 9 x.2.1.length)),(6,Z0F b),(7,tI x.2.2)],[(Gp b),(100000,.row 9 x.2.1.length (AU BC.c x.2.1) 63)]⟩) (fun x=>(((Bo b).length:Int)-x.2.2).toNat<x.1/\((x.2.1.length:Int)<=1000000*x.2.2/\0<=x.2.2/\(x.2.2<=((Bo b).length:Int)\/x.2.2=0))/\DU b types x.1 x.2.1 x.2.2=Dq b types) (fun x=>x.1) ?_ ((((Bo b).length:Int)-0).toNat+1,([]:List BC),0) ⟨Nat.lt_succ_self _,⟨ax0,ax0,ax0⟩,(by simp only [Dq,cond_true,cond_false])⟩
 rintro ⟨n0,out,k⟩ ⟨hm0,hinv0,hF0⟩
 try dsimp only at hm0 hinv0 hF0
 cases n0 with | zero=>exact nz hm0 | succ n0 => ?_
 refine AA<|AA ?_
 refine rn ⟨[(EL types),(2,tP 2 0),(5,tO (.own 100000 9 out.length)),(6,Z0F b),(7,tI k),(16,tB (decide ((k:Int)<((Bo b).length:Int))))],[(Gp b),(100000,.row 9 out.length (AU BC.c out) 63)]⟩ ?_
 refine AO _ rfl (fun h1 => ?_) (fun h1 => ?_)
 ·have g1:=oT h1
  refine AZ<|AG ?_
  refine AA<|AQ<|AA ?_
  refine oc [(26,LJ types ((Bo b).getD k.toNat default).Type')] [0<=(k:Int)/\(k:Int)<(((Bo b).length:Nat):Int),Ay (LJ types ((Bo b).getD k.toNat default).Type').2.1] (.cons (Sj types ((Bo b).getD k.toNat default).Type' au27) .nil) (.cons au0 (.cons rfl .nil))<|AG<|AA ?_
  refine rn ⟨[(EL types),(2,tP 2 0),(5,tO (.own 100000 9 out.length)),(6,Z0F b),(7,tI k),(8,tP 8 0),(9,Z0J types b k),(10,tI 0)],[(Gp b),(8,Z0K types b k),(100000,.row 9 out.length (AU BC.c out) 63)]⟩<|AQ ?_
  refine BP (ι:=Nat×List BC×Int) (fun x=>⟨[(EL types),(2,tP 2 0),(5,tO (.own 100000 9 x.2.1.length)),(6,Z0F b),(7,tI k),(8,tP 8 0),(9,Z0J types b k),(10,tI x.2.2)],[(Gp b),(8,Z0K types b k),(100000,.row 9 x.2.1.length (AU BC.c x.2.1) 63)]⟩) (fun x=>(((Z0I types b k).Pads.length:Int)-x.2.2).toNat<x.1/\(0<=x.2.2/\x.2.2<=((Z0I types b k).Pads.length:Int)/\(x.2.1.length:Int)<=1000000*k+x.2.2/\0<=x.2.2)/\Er b types out k (DU b types n0) x.1 x.2.1 x.2.2=Dq b types) (fun x=>x.1) ?_ ((((Z0I types b k).Pads.length:Int)-0).toNat+1,out,0) ⟨Nat.lt_succ_self _,⟨ax0,ax0,ax0,ax0⟩,(by rw [<- hF0];simp only [DU,h1,cond_true,cond_false])⟩
  rintro ⟨n1,out',i⟩ ⟨hm1,hinv1,hF1⟩
  try dsimp only at hm1 hinv1 hF1
  cases n1 with | zero=>exact nz hm1 | succ n1 => ?_
  have hb1:((Z0I types b k).Pads.length:Int)<=1000000:=Qs ht ((Bo b).getD k.toNat default).Type'
  refine AA<|AA ?_
  refine rc [] (t5 ((Bs types ((Bo b).getD k.toNat default).Type').2) []) ⟨[(EL types),(2,tP 2 0),(5,tO (.own 100000 9 out'.length)),(6,Z0F b),(7,tI k),(8,tP 8 0),(9,Z0J types b k),(10,tI i),(36,tB (bif (Bs types ((Bo b).getD k.toNat default).Type').2 then decide ((i:Int)<((Z0I types b k).Pads.length:Int)) else false))],[(Gp b),(8,Z0K types b k),(100000,.row 9 out'.length (AU BC.c out') 63)]⟩ .nil (c5 .nil)<|AG ?_
  refine AO _ rfl (fun h2 => ?_) (fun h2 => ?_)
  ·have g2:=iJ h2
   refine AZ<|AG ?_
   refine AA<|AQ ?_
   refine od [] [(50,Nx b ((Bo b).getD k.toNat default) (Z0L types b k i))] [0<=(k:Int)/\(k:Int)<(((Bo b).length:Nat):Int),0<=(i:Int)/\(i:Int)<(((Z0I types b k).Pads.length:Nat):Int),Ay (Nx b ((Bo b).getD k.toNat default) (Z0L types b k i)).2.1,out'.length=out'.length,out'.length+1<=maxLen,(out'.length+1)*104<=140737488355328] (.cons (dV b ((Bo b).getD k.toNat default) (Z0L types b k i) au27 au27 au27) .nil) (.cons au0 (.cons au0 (.cons rfl (.cons rfl (.cons au2 (.cons au2 .nil))))))<|A3<|AG ?_
   refine Ap (A2 52 (Au (Am 9 BC.c out') (A0 9 BC.c ([Z0M b k types i]:List BC)))) ?_
   refine rg ⟨[(EL types),(2,tP 2 0),(5,tO (.own 52 9 (out'++[Z0M b k types i]).length)),(6,Z0F b),(7,tI k),(8,tP 8 0),(9,Z0J types b k),(10,tI (W64 (i+1)))],[(Gp b),(8,Z0K types b k),(52,Z0N out' b k types i)]⟩ ?_
   (try rw [(show W64 (i+1)=i+1 from Az oM oM)])
   refine AG ?_
   refine ⟨(n1,out'++[Z0M b k types i],i+1),⟨?_,?_,(by rw [<- hF1];simp only [Er,h2,cond_true,cond_false])⟩,Nat.lt_succ_self _,Cv.trans (vr 52 100000 hk0) (BE kr)⟩
   ·show (((Z0I types b k).Pads.length:Int)-(i+1)).toNat<n1;omega
   exact ⟨ax0,ax0,ax0,ax0⟩
  refine BH<|A5 ?_
  refine A5<|BI ?_
  refine A3<|AG ?_
  refine rg ⟨[(EL types),(2,tP 2 0),(5,tO (.own 100000 9 out'.length)),(6,Z0F b),(7,tI (W64 (k+1)))],[(Gp b),(100000,.row 9 out'.length (AU BC.c out') 63)]⟩ ?_
  (try rw [(show W64 (k+1)=k+1 from Az oM au6)])
  refine AG ?_
  refine ⟨(n0,out',k+1),⟨?_,?_,(by rw [<- hF1];simp only [Er,h2,cond_true,cond_false])⟩,Nat.lt_succ_self _,BE kr⟩
  ·show (((Bo b).length:Int)-(k+1)).toNat<n0;omega
  exact ⟨ax0,ax0,ax0⟩
 refine BH<|A5 ?_
 refine A5<|BI ?_
 refine AG<|AA ?_
 refine on<|AY ?_
 exact zy (Cv.trans (vf 100000 hk0) (Cv.refl _)) (by rw [<- hF0];simp only [DU,h1,cond_true,cond_false] <;> kernel_rfl)
theorem Lc (b:AC) (types:(List AV)) (hp:b.Parts.length<20) (ht:CM types) (hn:(b.Nets.length:Int)<=1000000) (hq:∀ n∈b.Nets,(n.Pins.length:Int)<=1000000):OKc (GS b types):=cPu<|kE b types hp ht hn hq
end
section
open Go.RowKit
theorem or3_f {p q r:Prop} [Decidable p] [Decidable q] [Decidable r] (h:(bif bif !decide p then true else !decide q then true else !decide r)=false):p/\q/\r:=by
 by_cases hp:p <;> by_cases hq:q <;> by_cases hr:r <;> simp_all
def Fe (a:An) (b:An):Nat->Int->Bool
 | 0,_=>default
 | n0+1,k=>bif decide ((k:Int)<(a.Edges.length:Int)) then (bif !(decide ((a.Edges.getD k.toNat default).Kind=(b.Edges.getD k.toNat default).Kind)&&(decide ((a.Edges.getD k.toNat default).A.X=(b.Edges.getD k.toNat default).A.X)&&(decide ((a.Edges.getD k.toNat default).A.Y=(b.Edges.getD k.toNat default).A.Y)&&(decide ((a.Edges.getD k.toNat default).B.X=(b.Edges.getD k.toNat default).B.X)&&(decide ((a.Edges.getD k.toNat default).B.Y=(b.Edges.getD k.toNat default).B.Y)&&(decide ((a.Edges.getD k.toNat default).C.X=(b.Edges.getD k.toNat default).C.X)&&(decide ((a.Edges.getD k.toNat default).C.Y=(b.Edges.getD k.toNat default).C.Y)&&true))))))) then false else ((Fe a b n0) (k+1))) else true
def Ju (a:An) (b:An):Bool:=bif bif bif !decide ((a.Kind:Int)=b.Kind) then true else !decide ((a.R:Int)=b.R) then true else !decide (((a.Edges.length:Int):Int)=(b.Edges.length:Int)) then false else (Fe a b (((a.Edges.length:Int)-0).toNat+1) 0)
def XK (a:An) (b:An):CT:=(26,[.agg (An.c a),.agg (An.c b)],.val [] (.av (.one (.b (Ju a b)))))
abbrev MV (a:An) (b:An):List (Nat×Blk):=[(2,.cells (An.c a) 27),(3,.cells (An.c b) 27)]
abbrev Z3 (a:An) (b:An):=(bif !decide ((a.Kind:Int)=b.Kind) then true else !decide ((a.R:Int)=b.R))
theorem nX (a:An) (b:An) (h0:(a.Edges.length:Int)<=1000000) (h1:(b.Edges.length:Int)<=1000000):PuP 26 (XK a b).2.1 (tO (.b (Ju a b))):=by
 refine pwf Tryz.func26 fun W0 M0 => ?_
 refine AA<|on ?_
 refine AA<|AA ?_
 refine rc [] (i5 (!decide ((a.Kind:Int)=b.Kind)) (i2 (Z3 a b) (i5 (Z3 a b) []))) ⟨[(2,tP 2 0),(3,tP 3 0),(26,tB (bif bif !decide ((a.Kind:Int)=b.Kind) then true else !decide ((a.R:Int)=b.R) then true else !decide (((a.Edges.length:Int):Int)=(b.Edges.length:Int))))],(MV a b)⟩ .nil (c5 (c2 (c5 .nil)))<|AG ?_
 refine AO _ rfl (fun h1 => ?_) (fun h1 => ?_)
 ·refine AA<|on ?_
  refine AY<|BJ ?_
  exact zl (by simp only [Ju,h1,cond_true,cond_false] <;> kernel_rfl)
 refine AZ<|AG ?_
 refine AA<|AA ?_
 refine rn ⟨[(2,tP 2 0),(3,tP 3 0),(5,tI 0)],(MV a b)⟩<|AQ ?_
 refine BP (ι:=Nat×Int) (fun x=>⟨[(2,tP 2 0),(3,tP 3 0),(5,tI x.2)],(MV a b)⟩) (fun x=>((a.Edges.length:Int)-x.2).toNat<x.1/\(0<=x.2/\(x.2<=(a.Edges.length:Int)\/x.2=0))/\Fe a b x.1 x.2=Ju a b) (fun x=>x.1) ?_ (((a.Edges.length:Int)-0).toNat+1,0) ⟨Nat.lt_succ_self _,⟨ax0,ax0⟩,(by simp only [Ju,h1,cond_true,cond_false])⟩
 rintro ⟨n0,k⟩ ⟨hm0,hinv0,hF0⟩
 try dsimp only at hm0 hinv0 hF0
 cases n0 with | zero=>exact nz hm0 | succ n0 => ?_
 have hE:=(or3_f h1).2.2
 refine AA<|AA ?_
 refine rn ⟨(JH k [(31,tB (decide ((k:Int)<(a.Edges.length:Int))))]),(MV a b)⟩ ?_
 refine AO _ rfl (fun h2 => ?_) (fun h2 => ?_)
 ·have g2:=oT h2
  refine AZ<|AG ?_
  refine AA<|AQ<|AA ?_
  refine dw [] [] [0<=(k:Int)/\(k:Int)<((a.Edges.length:Nat):Int),0<=(k:Int)/\(k:Int)<((b.Edges.length:Nat):Int)] ⟨(JH k [(44,tB (!(decide ((a.Edges.getD k.toNat default).Kind=(b.Edges.getD k.toNat default).Kind)&&(decide ((a.Edges.getD k.toNat default).A.X=(b.Edges.getD k.toNat default).A.X)&&(decide ((a.Edges.getD k.toNat default).A.Y=(b.Edges.getD k.toNat default).A.Y)&&(decide ((a.Edges.getD k.toNat default).B.X=(b.Edges.getD k.toNat default).B.X)&&(decide ((a.Edges.getD k.toNat default).B.Y=(b.Edges.getD k.toNat default).B.Y)&&(decide ((a.Edges.getD k.toNat default).C.X=(b.Edges.getD k.toNat default).C.X)&&(decide ((a.Edges.getD k.toNat default).C.Y=(b.Edges.getD k.toNat default).C.Y)&&true)))))))))]),(MV a b)⟩ .nil (.cons au0 (.cons au0 .nil))<|AG ?_
  refine AO (!(decide ((a.Edges.getD k.toNat default).Kind=(b.Edges.getD k.toNat default).Kind)&&(decide ((a.Edges.getD k.toNat default).A.X=(b.Edges.getD k.toNat default).A.X)&&(decide ((a.Edges.getD k.toNat default).A.Y=(b.Edges.getD k.toNat default).A.Y)&&(decide ((a.Edges.getD k.toNat default).B.X=(b.Edges.getD k.toNat default).B.X)&&(decide ((a.Edges.getD k.toNat default).B.Y=(b.Edges.getD k.toNat default).B.Y)&&(decide ((a.Edges.getD k.toNat default).C.X=(b.Edges.getD k.toNat default).C.X)&&(decide ((a.Edges.getD k.toNat default).C.Y=(b.Edges.getD k.toNat default).C.Y)&&true)))))))) kr (fun h3 => ?_) (fun h3 => ?_)
  ·refine AA<|on ?_
   refine AY<|Bw ?_
   refine BJ<|BJ ?_
   refine Bw<|BJ ?_
   exact zl (by rw [<- hF0];simp only [Fe,h2,h3,cond_true,cond_false] <;> kernel_rfl)
  refine AZ<|A3<|AG ?_
  refine rg ⟨[(2,tP 2 0),(3,tP 3 0),(5,tI (W64 (k+1)))],(MV a b)⟩ ?_
  (try rw [(show W64 (k+1)=k+1 from Az oM au6)])
  refine AG ?_
  refine ⟨(n0,k+1),⟨?_,?_,(by rw [<- hF0];simp only [Fe,h2,h3,cond_true,cond_false])⟩,Nat.lt_succ_self _,BE kr⟩
  ·show ((a.Edges.length:Int)-(k+1)).toNat<n0;omega
  exact ⟨ax0,ax0⟩
 refine BH<|A5 ?_
 refine A5<|BI ?_
 refine AG<|AA ?_
 refine on<|AY ?_
 exact zl (by rw [<- hF0];simp only [Fe,h2,cond_true,cond_false] <;> kernel_rfl)
theorem kM (a:An) (b:An) (h0:(a.Edges.length:Int)<=1000000) (h1:(b.Edges.length:Int)<=1000000):OKc (XK a b):=cPu<|nX a b h0 h1
variable (a:List BC) (s_1:List AN) (l:List AE) (v3:Al) (s:An) (x0:AE) (b:List BC) (k:Int) (r:Al) (v21 v5 x1:Int)
abbrev E8:=a.getD v5.toNat default
def Z0O:Blk:=.cells (BC.c (E8 a v5)) 63
def Z0P (a:(List BC)) (v5:Int) (b:(List BC)):Bool:=Ju (a.getD v5.toNat default).Shape (b.getD v5.toNat default).Shape
def Ep (a:(List BC)) (b:(List BC)):Nat->Int->Bool
 | 0,_=>default
 | n0+1,v5=>bif decide ((v5:Int)<(a.length:Int)) then (bif bif bif bif bif bif bif !(Z0P a v5 b) then true else !decide (((a.getD v5.toNat default).Id:Int)=(b.getD v5.toNat default).Id) then true else !((a.getD v5.toNat default).Pad.toList==(b.getD v5.toNat default).Pad.toList) then true else !decide (((a.getD v5.toNat default).Kind:Int)=(b.getD v5.toNat default).Kind) then true else !((a.getD v5.toNat default).Net.toList==(b.getD v5.toNat default).Net.toList) then true else !decide (((a.getD v5.toNat default).From:Int)=(b.getD v5.toNat default).From) then true else !decide (((a.getD v5.toNat default).To:Int)=(b.getD v5.toNat default).To) then false else ((Ep a b n0) (v5+1))) else true
def FO (a:(List BC)) (b:(List BC)):Bool:=bif !decide (((a.length:Int):Int)=(b.length:Int)) then false else (Ep a b (((a.length:Int)-0).toNat+1) 0)
def GR:CT:=(10,[.one (lst 9 BC.c a),.one (lst 9 BC.c b)],.val [] (.av (.one (.b (FO a b)))))
abbrev FR:=b.getD v5.toNat default
abbrev MN:Nat×Tv:=(0,tO (lst 9 BC.c a))
abbrev ML:Nat×Tv:=(1,tO (lst 9 BC.c b))
theorem kD (a:(List BC)) (b:(List BC)) (h0:(a.length:Int)<=1000000000) (ha:∀ k,(((a.getD k default).Shape.Edges.length:Int)<=1000000)) (hbb:∀ k,(((b.getD k default).Shape.Edges.length:Int)<=1000000)):PuP 10 (GR a b).2.1 (tO (.b (FO a b))):=by
 refine pwf Tryz.func10 fun W0 M0 => ?_
 refine AA<|on ?_
 refine AA<|AA ?_
 refine rn ⟨[(MN a),(ML b),(13,tB (!decide (((a.length:Int):Int)=(b.length:Int))))],[]⟩ ?_
 refine AO _ rfl (fun h1 => ?_) (fun h1 => ?_)
 ·have g1:=EH h1
  refine AA<|on ?_
  refine AY<|BJ ?_
  exact zl (by simp only [FO,h1,cond_true,cond_false] <;> kernel_rfl)
 have g1:=D4 h1
 refine AZ<|AG ?_
 refine AA<|AA ?_
 refine rn ⟨[(MN a),(ML b),(5,tI 0)],[]⟩<|AQ ?_
 refine BP (ι:=Nat×Int) (fun x=>⟨[(MN a),(ML b),(5,tI x.2)],[]⟩) (fun x=>((a.length:Int)-x.2).toNat<x.1/\(0<=x.2/\(x.2<=(a.length:Int)\/x.2=0))/\Ep a b x.1 x.2=FO a b) (fun x=>x.1) ?_ (((a.length:Int)-0).toNat+1,0) ⟨Nat.lt_succ_self _,⟨ax0,ax0⟩,(by simp only [FO,h1,cond_true,cond_false])⟩
 rintro ⟨n0,v5⟩ ⟨hm0,hinv0,hF0⟩
 try dsimp only at hm0 hinv0 hF0
 cases n0 with | zero=>exact nz hm0 | succ n0 => ?_
 refine AA<|AA ?_
 refine rn ⟨[(MN a),(ML b),(5,tI v5),(17,tB (decide ((v5:Int)<(a.length:Int))))],[]⟩ ?_
 refine AO _ rfl (fun h2 => ?_) (fun h2 => ?_)
 ·have g2:=oT h2
  refine AZ<|AG ?_
  refine AA<|AQ<|AA ?_
  refine oc [] [0<=(v5:Int)/\(v5:Int)<((a.length:Nat):Int)] .nil (.cons au0 .nil)<|AG<|AA ?_
  refine oc [] [0<=(v5:Int)/\(v5:Int)<((b.length:Nat):Int)] .nil (.cons au0 .nil)<|AG<|AA ?_
  refine oq 32 (XK (a.getD v5.toNat default).Shape (b.getD v5.toNat default).Shape) (kM (a.getD v5.toNat default).Shape (b.getD v5.toNat default).Shape (by first | (exact ha _) | (exact hbb _) | with_reducible assumption | omega | decide | (simp only [List.length_cons,List.length_nil,List.length_append];omega) | assumption) (by first | (exact ha _) | (exact hbb _) | with_reducible assumption | omega | decide | (simp only [List.length_cons,List.length_nil,List.length_append];omega) | assumption))<|AG<|AA ?_
  refine rc [] (i5 (!(Z0P a v5 b)) (i5 (bif !(Z0P a v5 b) then true else !decide (((E8 a v5).Id:Int)=(FR b v5).Id)) (i5 (bif bif !(Z0P a v5 b) then true else !decide (((E8 a v5).Id:Int)=(FR b v5).Id) then true else !((E8 a v5).Pad.toList==(FR b v5).Pad.toList)) (i5 (bif bif bif !(Z0P a v5 b) then true else !decide (((E8 a v5).Id:Int)=(FR b v5).Id) then true else !((E8 a v5).Pad.toList==(FR b v5).Pad.toList) then true else !decide (((E8 a v5).Kind:Int)=(FR b v5).Kind)) (i5 (bif bif bif bif !(Z0P a v5 b) then true else !decide (((E8 a v5).Id:Int)=(FR b v5).Id) then true else !((E8 a v5).Pad.toList==(FR b v5).Pad.toList) then true else !decide (((E8 a v5).Kind:Int)=(FR b v5).Kind) then true else !((E8 a v5).Net.toList==(FR b v5).Net.toList)) (i5 (bif bif bif bif bif !(Z0P a v5 b) then true else !decide (((E8 a v5).Id:Int)=(FR b v5).Id) then true else !((E8 a v5).Pad.toList==(FR b v5).Pad.toList) then true else !decide (((E8 a v5).Kind:Int)=(FR b v5).Kind) then true else !((E8 a v5).Net.toList==(FR b v5).Net.toList) then true else !decide (((E8 a v5).From:Int)=(FR b v5).From)) [])))))) ⟨[(MN a),(ML b),(5,tI v5),(76,tB (bif bif bif bif bif bif !(Z0P a v5 b) then true else !decide (((a.getD v5.toNat default).Id:Int)=(b.getD v5.toNat default).Id) then true else !((a.getD v5.toNat default).Pad.toList==(b.getD v5.toNat default).Pad.toList) then true else !decide (((a.getD v5.toNat default).Kind:Int)=(b.getD v5.toNat default).Kind) then true else !((a.getD v5.toNat default).Net.toList==(b.getD v5.toNat default).Net.toList) then true else !decide (((a.getD v5.toNat default).From:Int)=(b.getD v5.toNat default).From) then true else !decide (((a.getD v5.toNat default).To:Int)=(b.getD v5.toNat default).To)))],[]⟩ .nil (c5 (c5 (c5 (c5 (c5 (c5 .nil))))))<|AG ?_
  refine AO _ rfl (fun h3 => ?_) (fun h3 => ?_)
  ·refine AA<|on ?_
   refine AY<|Bw ?_
   refine BJ<|BJ ?_
   refine Bw<|BJ ?_
   exact zl (by rw [<- hF0];simp only [Ep,h2,h3,cond_true,cond_false] <;> kernel_rfl)
  refine AZ<|A3<|AG ?_
  refine rg ⟨[(MN a),(ML b),(5,tI (W64 (v5+1)))],[]⟩ ?_
  (try rw [(show W64 (v5+1)=v5+1 from Az oM au6)])
  refine AG ?_
  refine ⟨(n0,v5+1),⟨?_,?_,(by rw [<- hF0];simp only [Ep,h2,h3,cond_true,cond_false])⟩,Nat.lt_succ_self _,BE kr⟩
  ·show ((a.length:Int)-(v5+1)).toNat<n0;omega
  exact ⟨ax0,ax0⟩
 refine BH<|A5 ?_
 refine A5<|BI ?_
 refine AG<|AA ?_
 refine on<|AY ?_
 exact zl (by rw [<- hF0];simp only [Ep,h2,cond_true,cond_false] <;> kernel_rfl)
theorem LZ (a:(List BC)) (b:(List BC)) (h0:(a.length:Int)<=1000000000) (ha:∀ k,(((a.getD k default).Shape.Edges.length:Int)<=1000000)) (hbb:∀ k,(((b.getD k default).Shape.Edges.length:Int)<=1000000)):OKc (GR a b):=cPu<|kD a b h0 ha hbb
def Z0Q:Blk:=.cells (Al.c (DN (s.Edges.getD 0 default))) 74
def Z0R:Tv:=tI (((((s.Edges.length:Nat):Int):Int).toNat-(1:Int).toNat:Nat):Int)
def Z0S:Tv:=.av (.one (lst 7 AN.c (s.Edges.drop (1:Int).toNat)))
def Z0T:AN:=(s.Edges.drop (1:Int).toNat).getD v21.toNat default
def Z0U:Blk:=.cells [.i (min v3.X0 (DN (Z0T s v21)).X0),.i (min v3.Y0 (DN (Z0T s v21)).Y0),.i (max v3.X1 (DN (Z0T s v21)).X1),.i (max v3.Y1 (DN (Z0T s v21)).Y1)] 74
def L7 (s:An):Nat->Al->Int->Al
 | 0,_,_=>default
 | n0+1,v3,v21=>bif decide ((v21:Int)<(((((s.Edges.length:Nat):Int):Int).toNat-(1:Int).toNat:Nat):Int)) then ((L7 s n0) (Al.mk (min v3.X0 (DN (Z0T s v21)).X0) (min v3.Y0 (DN (Z0T s v21)).Y0) (max v3.X1 (DN (Z0T s v21)).X1) (max v3.Y1 (DN (Z0T s v21)).Y1)) (v21+1)) else (Al.mk (W64 (v3.X0-s.R)) (W64 (v3.Y0-s.R)) (W64 (v3.X1+s.R)) (W64 (v3.Y1+s.R)))
def Tb (s:An):Al:=bif decide (((s.Edges.length:Int):Int)=0) then (Al.mk 0 0 0 0) else (L7 s (((((((s.Edges.length:Nat):Int):Int).toNat-(1:Int).toNat:Nat):Int)-0).toNat+1) (DN (s.Edges.getD 0 default)) 0)
def lN:CT:=(18,[.agg (An.c s)],.val [] (.av (.agg (Al.c (Tb s)))))
abbrev MX:Nat×Blk:=(2,.cells [.i 0,.i 0,.i 0,.i 0] 74)
abbrev Ki:Nat×Blk:=(1,.cells (An.c s) 27)
abbrev Rb (t_:List (Nat×Tv)):List (Nat×Tv):=(1,tP 1 0)::(2,tP 2 0)::(3,tP 3 0)::(19,Z0S s)::(20,Z0R s)::t_
theorem pBox (s:An) (h0:(s.Edges.length:Int)<=1000000):PuP 18 (lN s).2.1 (.av (.agg (Al.c (Tb s)))):=by
 refine pwf Tryz.func18 fun W0 M0 => ?_
 refine AA<|on ?_
 refine AA<|AA ?_
 refine rn ⟨[(1,tP 1 0),(2,tP 2 0),(10,tB (decide (((s.Edges.length:Int):Int)=0)))],[(Ki s),MX]⟩ ?_
 refine AO _ rfl (fun h1 => ?_) (fun h1 => ?_)
 ·refine AA<|on ?_
  refine AY<|BJ ?_
  exact zl (by simp only [Tb,h1,cond_true,cond_false] <;> kernel_rfl)
 have g1:=oF h1
 refine AZ<|AG<|AA ?_
 refine oc [(16,Jj (s.Edges.getD 0 default))] [0<=(0:Int)/\(0:Int)<((s.Edges.length:Nat):Int),Ay (Jj (s.Edges.getD 0 default)).2.1] (.cons (QY (s.Edges.getD 0 default)) .nil) (.cons au0 (.cons rfl .nil))<|AG ?_
 refine AA<|AA ?_
 refine rc [] [0<=(1:Int)/\(1:Int)<=(((s.Edges.length:Nat):Int):Int)/\(((s.Edges.length:Nat):Int):Int)<=((s.Edges.length:Nat):Int)] ⟨[(1,tP 1 0),(2,tP 2 0),(3,tP 3 0),(19,.av (.one (.list false 7 ((((s.Edges.length:Nat):Int):Int).toNat-(1:Int).toNat) (fun i_ j_=>(AU AN.c s.Edges) (i_+(1:Int).toNat) j_)))),(20,Z0R s),(21,tI 0)],[(Ki s),MX,(3,Z0Q s)]⟩ .nil (.cons au0 .nil)<|AG ?_
 refine Ap (Cv.trans (DH (⟨(Rb s [(21,tI 0)]),[(Ki s),MX,(3,Z0Q s)]⟩) (.cons ⟨rfl,.refl _⟩ (.cons ⟨rfl,.refl _⟩ (.cons ⟨rfl,.refl _⟩ (.cons ⟨rfl,.av (.one (Bk false (QL (a:=1) (Am 7 AN.c s.Edges) (by have hc:=(show 0<=(1:Int)/\(1:Int)<=(((s.Edges.length:Nat):Int):Int)/\(((s.Edges.length:Nat):Int):Int)<=((s.Edges.length:Nat):Int) from au0);exact hc.1) (by have hc:=(show 0<=(1:Int)/\(1:Int)<=(((s.Edges.length:Nat):Int):Int)/\(((s.Edges.length:Nat):Int):Int)<=((s.Edges.length:Nat):Int) from au0);exact hc.2.1))))⟩ lr)))) lr) (Cv.refl _))<|AQ ?_
 refine BP (ι:=Nat×Al×Int) (fun x=>⟨(Rb s [(21,tI x.2.2)]),[(Ki s),MX,(3,.cells (Al.c x.2.1) 74)]⟩) (fun x=>((((((s.Edges.length:Nat):Int):Int).toNat-(1:Int).toNat:Nat):Int)-x.2.2).toNat<x.1/\(0<=x.2.2/\(x.2.2<=(((((s.Edges.length:Nat):Int):Int).toNat-(1:Int).toNat:Nat):Int)\/x.2.2=0))/\L7 s x.1 x.2.1 x.2.2=Tb s) (fun x=>x.1) ?_ (((((((s.Edges.length:Nat):Int):Int).toNat-(1:Int).toNat:Nat):Int)-0).toNat+1,DN (s.Edges.getD 0 default),0) ⟨Nat.lt_succ_self _,⟨ax0,ax0⟩,(by simp only [Tb,h1,cond_true,cond_false])⟩
 rintro ⟨n0,v3,v21⟩ ⟨hm0,hinv0,hF0⟩
 try dsimp only at hm0 hinv0 hF0
 cases n0 with | zero=>exact nz hm0 | succ n0 => ?_
 refine AA<|rn ⟨(Rb s [(21,tI v21),(22,tB (decide ((v21:Int)<(((((s.Edges.length:Nat):Int):Int).toNat-(1:Int).toNat:Nat):Int))))]),[(Ki s),MX,(3,.cells (Al.c v3) 74)]⟩<|AA ?_
 refine AO (decide ((v21:Int)<(((((s.Edges.length:Nat):Int):Int).toNat-(1:Int).toNat:Nat):Int))) kr (fun h2 => ?_) (fun h2 => ?_)
 ·have g2:=oT h2
  refine AZ<|AG ?_
  refine AA<|AQ<|AA ?_
  refine oc [] [0<=(v21:Int)/\(v21:Int)<(((s.Edges.drop (1:Int).toNat).length:Nat):Int)] .nil (.cons au0 .nil)<|AG<|AA ?_
  refine oq 26 (Jj (Z0T s v21)) (QY (Z0T s v21))<|AG ?_
  refine og<|A3<|AG ?_
  refine rg ⟨(Rb s [(21,tI (W64 (v21+1)))]),[(Ki s),MX,(3,Z0U v3 s v21)]⟩ ?_
  (try rw [(show W64 (v21+1)=v21+1 from Az oM au6)])
  refine AG ?_
  refine ⟨(n0,Al.mk (min v3.X0 (DN (Z0T s v21)).X0) (min v3.Y0 (DN (Z0T s v21)).Y0) (max v3.X1 (DN (Z0T s v21)).X1) (max v3.Y1 (DN (Z0T s v21)).Y1),v21+1),⟨?_,?_,(by rw [<- hF0];simp only [L7,h2,cond_true,cond_false])⟩,Nat.lt_succ_self _,BE kr⟩
  ·show ((((((s.Edges.length:Nat):Int):Int).toNat-(1:Int).toNat:Nat):Int)-(v21+1)).toNat<n0;omega
  exact ⟨ax0,ax0⟩
 refine BH<|A5 ?_
 refine A5<|BI ?_
 refine AG<|AA ?_
 refine on<|AY ?_
 exact zl (by rw [<- hF0];simp only [L7,h2,cond_true,cond_false] <;> kernel_rfl)
theorem okBox (s:An) (h0:(s.Edges.length:Int)<=1000000):OKc (lN s):=cPu<|pBox s h0
def Z0V:Blk:=.cells [.i 0,vN,.i 0] 27
def Z0W:Blk:=.row 7 ([]:List AN).length (AU AN.c ([]:List AN)) 136
def Z0X:Blk:=.cells [.i 2,.own 100000 7 ([]:List AN).length,.i 0] 27
def Z0Y:AE:=l.getD (Int.tmod (W64 (k+1)) (l.length:Int)).toNat default
abbrev VU:=[AN.mk 1 (l.getD k.toNat default) (Z0Y l k) (AE.mk 0 0)]
def Z0Z:Blk:=.cells [.i 2,.own 28 7 (s_1++(VU l k)).length,.i 0] 27
def Z10:Blk:=.row 7 (s_1++(VU l k)).length (AU AN.c (s_1++(VU l k))) 136
def Jw (l:(List AE)):Nat->List AN->Int->An
 | 0,_,_=>default
 | n0+1,s_1,k=>bif decide ((k:Int)<(l.length:Int)) then ((Jw l n0) (s_1++[AN.mk 1 (l.getD k.toNat default) (Z0Y l k) (AE.mk 0 0)]) (k+1)) else (An.mk 2 s_1 0)
def VG (l:(List AE)):An:=Jw l (((l.length:Int)-0).toNat+1) ([]:List AN) 0
def gU:CT:=(86,[.one (lst 2 AE.c l)],.val [] (.av (.agg (An.c (VG l)))))
abbrev OE (t_:List (Nat×Tv)):List (Nat×Tv):=(0,tO (lst 2 AE.c l))::(2,tP 2 0)::(3,tP 3 0)::t_
theorem pLoop (l:(List AE)) (h0:(l.length:Int)<=1000000):PuP 86 (gU l).2.1 (.av (.agg (An.c (VG l)))):=by
 refine pwf Tryz.func86 fun W0 M0 => ?_
 refine AA<|on<|AA ?_
 refine on ?_
 refine AA<|AA ?_
 refine rn ⟨(OE l [(4,tI 0)]),[(2,Z0V),(3,.cells [.i 2,vN,.i 0] 27)]⟩<|AQ ?_
 refine Ap (Cv.trans (vg 100000 7 (fun _ _=>default) 136 [] [(3,[1])] hk0) (Cv.trans (A2 100000 (CI 7 (fun _ _=>default) AN.c)) (Cv.trans (ck (⟨(OE l [(4,tI 0)]),[(2,Z0V),(3,Z0X),(100000,Z0W)]⟩)) (Cv.refl _)))) ?_
 refine BP (ι:=Nat×List AN×Int) (fun x=>⟨(OE l [(4,tI x.2.2)]),[(2,Z0V),(3,.cells [.i 2,.own 100000 7 x.2.1.length,.i 0] 27),(100000,.row 7 x.2.1.length (AU AN.c x.2.1) 136)]⟩) (fun x=>((l.length:Int)-x.2.2).toNat<x.1/\(0<=x.2.2/\(x.2.2<=(l.length:Int)\/x.2.2=0)/\(x.2.1.length:Int)<=0+1*(x.2.2-0))/\Jw l x.1 x.2.1 x.2.2=VG l) (fun x=>x.1) ?_ (((l.length:Int)-0).toNat+1,([]:List AN),0) ⟨Nat.lt_succ_self _,⟨ax0,ax0,ax0⟩,(by simp only [VG,cond_true,cond_false])⟩
 rintro ⟨n0,s_1,k⟩ ⟨hm0,hinv0,hF0⟩
 try dsimp only at hm0 hinv0 hF0
 cases n0 with | zero=>exact nz hm0 | succ n0 => ?_
 refine AA<|AA ?_
 refine rn ⟨(OE l [(4,tI k),(9,tB (decide ((k:Int)<(l.length:Int))))]),[(2,Z0V),(3,.cells [.i 2,.own 100000 7 s_1.length,.i 0] 27),(100000,.row 7 s_1.length (AU AN.c s_1) 136)]⟩ ?_
 refine AO _ rfl (fun h1 => ?_) (fun h1 => ?_)
 ·have g1:=oT h1
  refine AZ<|AG ?_
  refine AA<|AQ ?_
  refine od [] [] [0<=(k:Int)/\(k:Int)<((l.length:Nat):Int),((l.length:Int):Int)≠0,0<=(Int.tmod (W64 (k+1)) (l.length:Int):Int)/\(Int.tmod (W64 (k+1)) (l.length:Int):Int)<((l.length:Nat):Int),s_1.length=s_1.length,s_1.length+1<=maxLen,(s_1.length+1)*56<=140737488355328] .nil (.cons au0 (.cons au14 (.cons au0 (.cons rfl (.cons au3 (.cons au3 .nil))))))<|A3<|AG ?_
  refine Ap (A2 28 (Au (Am 7 AN.c s_1) (A0 7 AN.c ([AN.mk 1 (l.getD k.toNat default) (Z0Y l k) (AE.mk 0 0)]:List AN)))) ?_
  refine rg ⟨(OE l [(4,tI (W64 (k+1)))]),[(2,Z0V),(3,Z0Z s_1 l k),(28,Z10 s_1 l k)]⟩ ?_
  (try rw [(show W64 (k+1)=k+1 from Az oM au6)])
  refine AG ?_
  refine ⟨(n0,s_1++[AN.mk 1 (l.getD k.toNat default) (Z0Y l k) (AE.mk 0 0)],k+1),⟨?_,?_,(by rw [<- hF0];simp only [Jw,h1,cond_true,cond_false])⟩,Nat.lt_succ_self _,Cv.trans (vr 28 100000 hk0) (BE kr)⟩
  ·show ((l.length:Int)-(k+1)).toNat<n0;omega
  exact ⟨ax0,ax0,ax0⟩
 refine BH<|A5 ?_
 refine A5<|BI ?_
 refine AG<|AA ?_
 refine on<|AY ?_
 exact zy (Cv.trans (vf 100000 hk0) (Cv.refl _)) (by rw [<- hF0];simp only [Jw,h1,cond_true,cond_false] <;> kernel_rfl)
theorem oZ (l:(List AE)) (h0:(l.length:Int)<=1000000):OKc (gU l):=cPu<|pLoop l h0
def Z11:An:=VG [AE.mk r.X0 r.Y0,AE.mk r.X1 r.Y0,AE.mk r.X1 r.Y1,AE.mk r.X0 r.Y1]
def DT (r:Al):An:=Z11 r
def Hn:CT:=(44,[.agg (Al.c r)],.val [] (.av (.agg (An.c (DT r)))))
theorem nY (r:Al):PuP 44 (Hn r).2.1 (.av (.agg (An.c (DT r)))):=by
 refine pwf Tryz.func44 fun W0 M0 => ?_
 refine AA<|on<|AA ?_
 refine oq 24 (ceI [.one (.list true 2 4 (BB 2 4 [.i r.X0,.i r.Y0,.i r.X1,.i r.Y0,.i r.X1,.i r.Y1,.i r.X0,.i r.Y1]))] (gU [AE.mk r.X0 r.Y0,AE.mk r.X1 r.Y0,AE.mk r.X1 r.Y1,AE.mk r.X0 r.Y1])) (Ck (oZ [AE.mk r.X0 r.Y0,AE.mk r.X1 r.Y0,AE.mk r.X1 r.Y1,AE.mk r.X0 r.Y1] au12) (.cons (.one (Bk true (Bd (c:=AE.c) (xs:=([AE.mk r.X0 r.Y0,AE.mk r.X1 r.Y0,AE.mk r.X1 r.Y1,AE.mk r.X0 r.Y1]:List AE)) rfl kr))) .nil))<|AG<|AY ?_
 exact zl
theorem La (r:Al):OKc (Hn r):=cPu<|nY r
def Dc (x0:AE) (x1:Int):An:=An.mk 1 [AN.mk 1 x0 x0 (AE.mk 0 0)] x1
def I0:CT:=(25,[.agg (AE.c x0),.one (.i x1)],.val [] (.av (.agg (An.c (Dc x0 x1)))))
theorem oN (x0:AE) (x1:Int):PuP 25 (I0 x0 x1).2.1 (.av (.agg (An.c (Dc x0 x1)))):=by
 refine pwf Tryz.func25 fun W0 M0 => ?_
 refine AA<|on<|AA ?_
 refine on<|AY ?_
 exact xl (.av (.agg [.i 1,.list true 7 1 (BB 7 1 [.i 1,.i x0.X,.i x0.Y,.i x0.X,.i x0.Y,.i 0,.i 0]),.i x1])) (DS (y:=.av (.agg [.i 1,lst 7 AN.c [AN.mk 1 x0 x0 (AE.mk 0 0)],.i x1])) (.av (.agg (rr (.cons (Bk true (Bd (c:=AN.c) (xs:=([AN.mk 1 x0 x0 (AE.mk 0 0)]:List AN)) rfl kr)) (rr .nil))))) (by rfl))
theorem Nt (x0:AE) (x1:Int):OKc (I0 x0 x1):=cPu<|oN x0 x1
end
abbrev Gg:List Cl:=[.i 0,.i 0,vN,.i 0,vN,vN,vN,vN,vN,vN,vN,vN,vN,vN,vN]
def Z12:Blk:=.cells Gg 40
abbrev Rm:=Al.mk 10 (-3) 20 3
def Z13:Blk:=.cells [.s ({ data := #[84] }:ByteArray),.list true 7 2 (BB 7 2 [.s ({ data := #[65] }:ByteArray),.i (Dc (AE.mk 0 0) 5).Kind,lst 7 AN.c (Dc (AE.mk 0 0) 5).Edges,.i (Dc (AE.mk 0 0) 5).R,.i 0,.i 0,.i 4,.s ({ data := #[66] }:ByteArray),.i (DT Rm).Kind,lst 7 AN.c (DT Rm).Edges,.i (DT Rm).R,.i 15,.i 0,.i 0]),vN] 61
def Z14:Blk:=.cells [.i 2,.i 0,vN,.i 0,.list true 7 2 (BB 7 2 [.i 7,.s ({ data := #[85,49] }:ByteArray),.s ({ data := #[84] }:ByteArray),.i 100,.i 50,.i 1,.b false,.i 3,.s ({ data := #[85,50] }:ByteArray),.s ({ data := #[84] }:ByteArray),.i 0,.i 0,.i 0,.b true]),.list true 2 1 (BB 2 1 [.s ({ data := #[78] }:ByteArray),.list true 2 2 (BB 2 2 [.s ({ data := #[85,49] }:ByteArray),.s ({ data := #[66] }:ByteArray),.s ({ data := #[85,50] }:ByteArray),.s ({ data := #[65] }:ByteArray)])]),vN,vN,vN,vN,vN,vN,vN,vN,vN] 40
def Ab:(AC×(List AV)):=(AC.mk 2 (An.mk 0 [] 0) [AF.mk 7 ({ data := #[85,49] }:ByteArray) ({ data := #[84] }:ByteArray) (AE.mk 100 50) 1 false,AF.mk 3 ({ data := #[85,50] }:ByteArray) ({ data := #[84] }:ByteArray) (AE.mk 0 0) 0 true] [BA.mk ({ data := #[78] }:ByteArray) [AX.mk ({ data := #[85,49] }:ByteArray) ({ data := #[66] }:ByteArray),AX.mk ({ data := #[85,50] }:ByteArray) ({ data := #[65] }:ByteArray)]] [] [] [] [] [] [] [] [] [],[AV.mk ({ data := #[84] }:ByteArray) [BL.mk ({ data := #[65] }:ByteArray) (Dc (AE.mk 0 0) 5) (AE.mk 0 0) 4,BL.mk ({ data := #[66] }:ByteArray) (DT (Al.mk 10 (-3) 20 3)) (AE.mk 15 0) 0] []])
def Iy:CT:=(16,[],.val [] (.tup [.agg (AC.c Ab.1),.one (lst 3 AV.c Ab.2)]))
theorem WX  : GE Tryz.prog 16 (Iy ).2.1 (.tup [.agg (AC.c Ab.1),.one (lst 3 AV.c Ab.2)]):=by
 refine pwf Tryz.func16 fun W0 M0 => ?_
 refine AA<|on<|AA ?_
 refine oc [(5,I0 (AE.mk 0 0) 5),(8,Hn Rm)] [Ay (I0 (AE.mk 0 0) 5).2.1,Ay (Hn (Al.mk 10 (-3) 20 3)).2.1] (.cons (Nt (AE.mk 0 0) 5) (.cons (La (Al.mk 10 (-3) 20 3)) .nil)) (.cons rfl (.cons rfl .nil))<|AG<|AA ?_
 refine on<|AA ?_
 refine on<|AA ?_
 refine od [] [] [] .nil .nil<|AG<|AY ?_
 exact xl (.tup [.agg [.i 2,.i 0,vN,.i 0,.list true 7 2 (BB 7 2 [.i 7,.s ({ data := #[85,49] }:ByteArray),.s ({ data := #[84] }:ByteArray),.i 100,.i 50,.i 1,.b false,.i 3,.s ({ data := #[85,50] }:ByteArray),.s ({ data := #[84] }:ByteArray),.i 0,.i 0,.i 0,.b true]),.list true 2 1 (BB 2 1 [.s ({ data := #[78] }:ByteArray),.list true 2 2 (BB 2 2 [.s ({ data := #[85,49] }:ByteArray),.s ({ data := #[66] }:ByteArray),.s ({ data := #[85,50] }:ByteArray),.s ({ data := #[65] }:ByteArray)])]),vN,vN,vN,vN,vN,vN,vN,vN,vN],.one (.list true 3 1 (BB 3 1 [.s ({ data := #[84] }:ByteArray),.list true 7 2 (BB 7 2 [.s ({ data := #[65] }:ByteArray),.i (Dc (AE.mk 0 0) 5).Kind,lst 7 AN.c (Dc (AE.mk 0 0) 5).Edges,.i (Dc (AE.mk 0 0) 5).R,.i 0,.i 0,.i 4,.s ({ data := #[66] }:ByteArray),.i (DT (Al.mk 10 (-3) 20 3)).Kind,lst 7 AN.c (DT (Al.mk 10 (-3) 20 3)).Edges,.i (DT (Al.mk 10 (-3) 20 3)).R,.i 15,.i 0,.i 0]),vN]))]) (DS (y:=.tup [.agg [.i 2,.i 0,lst 7 AN.c [],.i 0,lst 7 AF.c [AF.mk 7 ({ data := #[85,49] }:ByteArray) ({ data := #[84] }:ByteArray) (AE.mk 100 50) 1 false,AF.mk 3 ({ data := #[85,50] }:ByteArray) ({ data := #[84] }:ByteArray) (AE.mk 0 0) 0 true],lst 2 BA.c [BA.mk ({ data := #[78] }:ByteArray) [AX.mk ({ data := #[85,49] }:ByteArray) ({ data := #[66] }:ByteArray),AX.mk ({ data := #[85,50] }:ByteArray) ({ data := #[65] }:ByteArray)]],lst 6 Aq.c [],lst 8 Bx.c [],lst 8 A8.c [],lst 5 BR.c [],lst 4 Bq.c [],lst 2 BS.c [],lst 20 A1.c [],lst 3 BM.c [],lst 3 Bb.c []],.one (lst 3 AV.c [AV.mk ({ data := #[84] }:ByteArray) [BL.mk ({ data := #[65] }:ByteArray) (Dc (AE.mk 0 0) 5) (AE.mk 0 0) 4,BL.mk ({ data := #[66] }:ByteArray) (DT (Al.mk 10 (-3) 20 3)) (AE.mk 15 0) 0] []])]) (.tup (.cons (.agg (rr2 (.cons (Cx 7 AN.c) (rr (.cons (Bk true (Bd (c:=AF.c) (xs:=([AF.mk 7 ({ data := #[85,49] }:ByteArray) ({ data := #[84] }:ByteArray) (AE.mk 100 50) 1 false,AF.mk 3 ({ data := #[85,50] }:ByteArray) ({ data := #[84] }:ByteArray) (AE.mk 0 0) 0 true]:List AF)) rfl kr)) (.cons (Bk true (Dr (c:=BA.c) (xs:=([BA.mk ({ data := #[78] }:ByteArray) [AX.mk ({ data := #[85,49] }:ByteArray) ({ data := #[66] }:ByteArray),AX.mk ({ data := #[85,50] }:ByteArray) ({ data := #[65] }:ByteArray)]]:List BA)) (y:=[[.s ({ data := #[78] }:ByteArray),.list true 2 2 (BB 2 2 [.s ({ data := #[85,49] }:ByteArray),.s ({ data := #[66] }:ByteArray),.s ({ data := #[85,50] }:ByteArray),.s ({ data := #[65] }:ByteArray)])]]) (z:=[[.s ({ data := #[78] }:ByteArray),lst 2 AX.c [AX.mk ({ data := #[85,49] }:ByteArray) ({ data := #[66] }:ByteArray),AX.mk ({ data := #[85,50] }:ByteArray) ({ data := #[65] }:ByteArray)]]]) rfl kr kr (.cons (rr (.cons (Bk true (Bd (c:=AX.c) (xs:=([AX.mk ({ data := #[85,49] }:ByteArray) ({ data := #[66] }:ByteArray),AX.mk ({ data := #[85,50] }:ByteArray) ({ data := #[65] }:ByteArray)]:List AX)) rfl kr)) .nil)) .nil))) (.cons (Cx 6 Aq.c) (.cons (Cx 8 Bx.c) (.cons (Cx 8 A8.c) (.cons (Cx 5 BR.c) (.cons (Cx 4 Bq.c) (.cons (Cx 2 BS.c) (.cons (Cx 20 A1.c) (.cons (Cx 3 BM.c) (.cons (Cx 3 Bb.c) .nil))))))))))))))) (.cons (.one (Bk true (Dr (c:=AV.c) (xs:=([AV.mk ({ data := #[84] }:ByteArray) [BL.mk ({ data := #[65] }:ByteArray) (Dc (AE.mk 0 0) 5) (AE.mk 0 0) 4,BL.mk ({ data := #[66] }:ByteArray) (DT (Al.mk 10 (-3) 20 3)) (AE.mk 15 0) 0] []]:List AV)) (y:=[[.s ({ data := #[84] }:ByteArray),.list true 7 2 (BB 7 2 [.s ({ data := #[65] }:ByteArray),.i (Dc (AE.mk 0 0) 5).Kind,lst 7 AN.c (Dc (AE.mk 0 0) 5).Edges,.i (Dc (AE.mk 0 0) 5).R,.i 0,.i 0,.i 4,.s ({ data := #[66] }:ByteArray),.i (DT (Al.mk 10 (-3) 20 3)).Kind,lst 7 AN.c (DT (Al.mk 10 (-3) 20 3)).Edges,.i (DT (Al.mk 10 (-3) 20 3)).R,.i 15,.i 0,.i 0]),vN]]) (z:=[[.s ({ data := #[84] }:ByteArray),lst 7 BL.c [BL.mk ({ data := #[65] }:ByteArray) (Dc (AE.mk 0 0) 5) (AE.mk 0 0) 4,BL.mk ({ data := #[66] }:ByteArray) (DT (Al.mk 10 (-3) 20 3)) (AE.mk 15 0) 0],lst 2 BO.c []]]) rfl kr kr (.cons (rr (.cons (Bk true (Bd (c:=BL.c) (xs:=([BL.mk ({ data := #[65] }:ByteArray) (Dc (AE.mk 0 0) 5) (AE.mk 0 0) 4,BL.mk ({ data := #[66] }:ByteArray) (DT (Al.mk 10 (-3) 20 3)) (AE.mk 15 0) 0]:List BL)) rfl kr)) (.cons (Cx 2 BO.c) .nil))) .nil)))) .nil))) (by rfl))
theorem NO  : OKc (Iy ):=cPu<|WX
def RG (x:BC) (id_:Int) (pad:ByteArray) (net:ByteArray) (from_:Int) (to_:Int):Bool:=bif bif bif bif bif decide ((x.Id:Int)=id_) then (x.Pad.toList==pad.toList) else false then (x.Net.toList==net.toList) else false then decide ((x.From:Int)=from_) else false then decide ((x.To:Int)=to_) else false then decide ((x.Kind:Int)=1) else false
def KW (x:BC) (id_:Int) (pad:ByteArray) (net:ByteArray) (from_:Int) (to_:Int):CT:=(17,[.agg (BC.c x),.one (.i id_),.one (.s pad),.one (.s net),.one (.i from_),.one (.i to_)],.val [] (.av (.one (.b (RG x id_ pad net from_ to_)))))
theorem pis18 (x:BC) (id_:Int) (pad:ByteArray) (net:ByteArray) (from_:Int) (to_:Int):PuP 17 (KW x id_ pad net from_ to_).2.1 (tO (.b (RG x id_ pad net from_ to_))):=by
 refine pwf Tryz.func17 fun W0 M0 => ?_
 refine AA<|on<|AA ?_
 refine oc [] (t4 (decide ((x.Id:Int)=id_)) (t4 (bif decide ((x.Id:Int)=id_) then (x.Pad.toList==pad.toList) else false) (t4 (bif bif decide ((x.Id:Int)=id_) then (x.Pad.toList==pad.toList) else false then (x.Net.toList==net.toList) else false) (t4 (bif bif bif decide ((x.Id:Int)=id_) then (x.Pad.toList==pad.toList) else false then (x.Net.toList==net.toList) else false then decide ((x.From:Int)=from_) else false) (t3 (bif bif bif bif decide ((x.Id:Int)=id_) then (x.Pad.toList==pad.toList) else false then (x.Net.toList==net.toList) else false then decide ((x.From:Int)=from_) else false then decide ((x.To:Int)=to_) else false) []))))) .nil (c4 (c4 (c4 (c4 (c3 .nil)))))<|AG<|AY ?_
 exact zl
theorem Sh (x:BC) (id_:Int) (pad:ByteArray) (net:ByteArray) (from_:Int) (to_:Int):OKc (KW x id_ pad net from_ to_):=cPu<|pis18 x id_ pad net from_ to_
theorem gH:CM Ab.2:=by
 refine ⟨by decide,fun t ht => ?_⟩
 rw [show Ab.2=[Ab.2.getD 0 default] from rfl,List.mem_singleton] at ht
 subst ht
 refine ⟨by decide,by decide,fun p hp => ?_,fun g hg=>by cases hg⟩
 have hl:(Ab.2.getD 0 default).Pads=[(Ab.2.getD 0 default).Pads.getD 0 default,(Ab.2.getD 0 default).Pads.getD 1 default]:=rfl
 rw [hl] at hp
 simp only [List.mem_cons,List.not_mem_nil,or_false] at hp
 rcases hp with rfl | rfl <;> (unfold VE;decide)
theorem lL:∀ n∈Ab.1.Nets,(n.Pins.length:Int)<=1000000:=by
 intro n hn
 rw [show Ab.1.Nets=[Ab.1.Nets.getD 0 default] from rfl,List.mem_singleton] at hn
 subst hn
 decide
def Z15 (ref:ByteArray) (pad:ByteArray):AE:=(FAt Ab.1 Ab.2 (AX.mk ref pad)).1
def Z16 (ref:ByteArray) (pad:ByteArray):Bool:=(FAt Ab.1 Ab.2 (AX.mk ref pad)).2.2
def RH (ref:ByteArray) (pad:ByteArray) (x:Int) (y:Int) (layer:Int):Bool:=bif bif ((Z16 ref pad)==(decide ((0:Int)<layer))) then (decide ((Z15 ref pad).X=x)&&(decide ((Z15 ref pad).Y=y)&&true)) else false then decide (((FAt Ab.1 Ab.2 (AX.mk ref pad)).2.1:Int)=layer) else false
def KX (ref:ByteArray) (pad:ByteArray) (x:Int) (y:Int) (layer:Int):CT:=(19,[.one (.s ref),.one (.s pad),.one (.i x),.one (.i y),.one (.i layer)],.val [] (.av (.one (.b (RH ref pad x y layer)))))
theorem au24 {p:Prop} (h:p:=by first | (exact gH) | (exact lL) | (decide +kernel) | with_reducible assumption | omega | decide | (simp only [List.length_cons,List.length_nil,List.length_append];omega) | assumption):p:=h
theorem pat18 (ref:ByteArray) (pad:ByteArray) (x:Int) (y:Int) (layer:Int):PuP 19 (KX ref pad x y layer).2.1 (tO (.b (RH ref pad x y layer))):=by
 refine pwf Tryz.func19 fun W0 M0 => ?_
 refine AA<|on<|AA ?_
 refine oq 17 Iy NO<|AG<|AA ?_
 refine oq 26 (ceI [.agg (AC.c Ab.1),.one (lst 3 AV.c Ab.2),.agg [.s ref,.s pad]] (cAt Ab.1 Ab.2 (AX.mk ref pad))) (Ck (okAt Ab.1 Ab.2 (AX.mk ref pad) au24 au24) (.cons (.agg (rr9 (rr3 (.cons (.any _) (rr (rr .nil)))))) (.cons (AvE.refl _) (.cons (AvE.refl _) .nil))))<|AG<|AA ?_
 refine oc [] (t5 ((Z16 ref pad)==(decide ((0:Int)<layer))) (t3 (bif ((Z16 ref pad)==(decide ((0:Int)<layer))) then (decide ((Z15 ref pad).X=x)&&(decide ((Z15 ref pad).Y=y)&&true)) else false) [])) .nil (c5 (c3 .nil))<|AG<|AY ?_
 exact zl
theorem Si (ref:ByteArray) (pad:ByteArray) (x:Int) (y:Int) (layer:Int):OKc (KX ref pad x y layer):=cPu<|pat18 ref pad x y layer
abbrev OI:=CQ Ab.1 Ab.2
def Z17:Tv:=.av (.one (lst 9 BC.c OI))
def Z18:Bool := !decide ((((CQ Ab.1 Ab.2).length:Int):Int)=4)
def Z19:Bool:=bif Z18 then true else !(decide ((Be (Ab.1.Parts.getD 1 default)).At.X=0)&&(decide ((Be (Ab.1.Parts.getD 1 default)).At.Y=0)&&(decide ((Be (Ab.1.Parts.getD 1 default)).Turn=0)&&(((Be (Ab.1.Parts.getD 1 default)).Mirror==true)&&true))))
def Z1a:BC:=(CQ Ab.1 Ab.2).getD 0 default
def Z1b:Bool:=RG Z1a 3 ({ data := #[65] }:ByteArray) ({ data := #[78] }:ByteArray) 1 2
def Z1c:Bool:=bif Z1b then RG ((CQ Ab.1 Ab.2).getD 1 default) 3 ({ data := #[66] }:ByteArray) ({ data := #[] }:ByteArray) 2 2 else false
def Z1d:Bool:=bif Z1c then RG ((CQ Ab.1 Ab.2).getD 2 default) 7 ({ data := #[65] }:ByteArray) ({ data := #[] }:ByteArray) 1 2 else false
def Z1e:Bool:=bif Z1d then RG ((CQ Ab.1 Ab.2).getD 3 default) 7 ({ data := #[66] }:ByteArray) ({ data := #[78] }:ByteArray) 1 1 else false
def Z1f:Bool:=bif Z1e then (decide ((Tb ((CQ Ab.1 Ab.2).getD 3 default).Shape).X0=97)&&(decide ((Tb ((CQ Ab.1 Ab.2).getD 3 default).Shape).Y0=60)&&(decide ((Tb ((CQ Ab.1 Ab.2).getD 3 default).Shape).X1=103)&&(decide ((Tb ((CQ Ab.1 Ab.2).getD 3 default).Shape).Y1=70)&&true)))) else false
def Z1g:Bool:=bif Z1f then RH ({ data := #[85,49] }:ByteArray) ({ data := #[66] }:ByteArray) 100 65 1 else false
def Z1h:Bool:=bif Z1g then RH ({ data := #[85,50] }:ByteArray) ({ data := #[66] }:ByteArray) (-15) 0 2 else false
def Z1i:Bool:=bif Z1h then RH ({ data := #[85,51] }:ByteArray) ({ data := #[65] }:ByteArray) 0 0 0 else false
def Z1j:Bool:=bif Z1i then RH ({ data := #[85,49] }:ByteArray) ({ data := #[67] }:ByteArray) 0 0 0 else false
def DR:Bool:=bif Z19 then false else Z1j
def Mz:CT:=(5,[],.val [] (.av (.one (.b DR))))
theorem Ys  : GE Tryz.prog 5 (Mz ).2.1 (tO (.b DR)):=by
 refine pwf Tryz.func5 fun W0 M0 => ?_
 refine AA<|on<|AA ?_
 refine oq 6 Iy NO<|AG<|AA ?_
 refine oq 11 (ceI [.agg (AC.c Ab.1),.one (lst 3 AV.c Ab.2)] (Ho Ab.1 Ab.2)) (Ck (Lb Ab.1 Ab.2 au24 au24 au24 au24 au24) (.cons (.agg (rr9 (rr3 (.cons (.any _) (rr (rr .nil)))))) (.cons (AvE.refl _) .nil)))<|AG ?_
 refine AA<|AA ?_
 refine rc [(20,FN (Ab.1.Parts.getD 1 default))] [(Z18=false)->(Z18=false),(Z18=false)->(Z18=false),(Z18=false)->(0<=(1:Int)/\(1:Int)<((Ab.1.Parts.length:Nat):Int)),(Z18=false)->(Z18=false),(Z18=false)->(Z18=false),(Z18=false)->(Ay (FN (Ab.1.Parts.getD 1 default)).2.1),(Z18=false)->(Z18=false),(Z18=false)->(Z18=false),Z18=false->(Z18=false)] ⟨[(3,Z17),(23,tB Z19)],[]⟩ (.cons (JZ (Ab.1.Parts.getD 1 default)) .nil) (ci (ci (.cons (fun hG=>by first | exact (by decide +kernel) | (simp only [decide_eq_true_eq,decide_eq_false_iff_not,Bool.not_eq_true,Bool.and_eq_true] at hG <;> omega) | (simp at hG <;> omega) | (simp only [decide_eq_true_eq,decide_eq_false_iff_not] at hG;simp only [Do];omega)) (ci (ci (.cons (fun _=>rfl) (ci (ci (ci .nil)))))))))<|AG ?_
 refine AO _ rfl (fun h1 => ?_) (fun h1 => ?_)
 ·refine AA<|on ?_
  refine AY<|BJ ?_
  exact zl (by simp only [DR,h1,cond_true,cond_false] <;> kernel_rfl)
 refine AZ<|AG<|AA ?_
 refine oc [(27,KW Z1a 3 ({ data := #[65] }:ByteArray) ({ data := #[78] }:ByteArray) 1 2),(32,KW (OI.getD 1 default) 3 ({ data := #[66] }:ByteArray) ({ data := #[] }:ByteArray) 2 2),(38,KW (OI.getD 2 default) 7 ({ data := #[65] }:ByteArray) ({ data := #[] }:ByteArray) 1 2),(44,KW (OI.getD 3 default) 7 ({ data := #[66] }:ByteArray) ({ data := #[78] }:ByteArray) 1 1)] [0<=(0:Int)/\(0:Int)<(((CQ Ab.1 Ab.2).length:Nat):Int),Ay (KW Z1a 3 ({ data := #[65] }:ByteArray) ({ data := #[78] }:ByteArray) 1 2).2.1,(Z1b=true)->(Z1b=true),(Z1b=true)->(0<=(1:Int)/\(1:Int)<(((CQ Ab.1 Ab.2).length:Nat):Int)),(Z1b=true)->(Z1b=true),(Z1b=true)->(Z1b=true),(Z1b=true)->(Ay (KW ((CQ Ab.1 Ab.2).getD 1 default) 3 ({ data := #[66] }:ByteArray) ({ data := #[] }:ByteArray) 2 2).2.1),Z1b=true->(Z1b=true),(Z1c=true)->(Z1c=true),(Z1c=true)->(0<=(2:Int)/\(2:Int)<(((CQ Ab.1 Ab.2).length:Nat):Int)),(Z1c=true)->(Z1c=true),(Z1c=true)->(Z1c=true),(Z1c=true)->(Ay (KW ((CQ Ab.1 Ab.2).getD 2 default) 7 ({ data := #[65] }:ByteArray) ({ data := #[] }:ByteArray) 1 2).2.1),Z1c=true->(Z1c=true),(Z1d=true)->(Z1d=true),(Z1d=true)->(0<=(3:Int)/\(3:Int)<(((CQ Ab.1 Ab.2).length:Nat):Int)),(Z1d=true)->(Z1d=true),(Z1d=true)->(Z1d=true),(Z1d=true)->(Ay (KW ((CQ Ab.1 Ab.2).getD 3 default) 7 ({ data := #[66] }:ByteArray) ({ data := #[78] }:ByteArray) 1 1).2.1),Z1d=true->(Z1d=true)] (.cons (Sh Z1a 3 ({ data := #[65] }:ByteArray) ({ data := #[78] }:ByteArray) 1 2) (.cons (Sh ((CQ Ab.1 Ab.2).getD 1 default) 3 ({ data := #[66] }:ByteArray) ({ data := #[] }:ByteArray) 2 2) (.cons (Sh ((CQ Ab.1 Ab.2).getD 2 default) 7 ({ data := #[65] }:ByteArray) ({ data := #[] }:ByteArray) 1 2) (.cons (Sh ((CQ Ab.1 Ab.2).getD 3 default) 7 ({ data := #[66] }:ByteArray) ({ data := #[78] }:ByteArray) 1 1) .nil)))) (.cons (by decide +kernel) (.cons rfl (ci (.cons (fun hG=>by first | exact (by decide +kernel) | (simp only [decide_eq_true_eq,decide_eq_false_iff_not,Bool.not_eq_true,Bool.and_eq_true] at hG <;> omega) | (simp at hG <;> omega) | (simp only [decide_eq_true_eq,decide_eq_false_iff_not] at hG;simp only [Do];omega)) (ci (ci (.cons (fun _=>rfl) (ci (ci (.cons (fun hG=>by first | exact (by decide +kernel) | (simp only [decide_eq_true_eq,decide_eq_false_iff_not,Bool.not_eq_true,Bool.and_eq_true] at hG <;> omega) | (simp at hG <;> omega) | (simp only [decide_eq_true_eq,decide_eq_false_iff_not] at hG;simp only [Do];omega)) (ci (ci (.cons (fun _=>rfl) (ci (ci (.cons (fun hG=>by first | exact (by decide +kernel) | (simp only [decide_eq_true_eq,decide_eq_false_iff_not,Bool.not_eq_true,Bool.and_eq_true] at hG <;> omega) | (simp at hG <;> omega) | (simp only [decide_eq_true_eq,decide_eq_false_iff_not] at hG;simp only [Do];omega)) (ci (ci (.cons (fun _=>rfl) (ci .nil))))))))))))))))))))<|AG<|AA ?_
 refine oc [(52,lN (OI.getD 3 default).Shape),(57,KX ({ data := #[85,49] }:ByteArray) ({ data := #[66] }:ByteArray) 100 65 1),(60,KX ({ data := #[85,50] }:ByteArray) ({ data := #[66] }:ByteArray) (-15) 0 2),(63,KX ({ data := #[85,51] }:ByteArray) ({ data := #[65] }:ByteArray) 0 0 0),(66,KX ({ data := #[85,49] }:ByteArray) ({ data := #[67] }:ByteArray) 0 0 0)] [(Z1e=true)->(Z1e=true),(Z1e=true)->(0<=(3:Int)/\(3:Int)<(((CQ Ab.1 Ab.2).length:Nat):Int)),(Z1e=true)->(Z1e=true),(Z1e=true)->(Z1e=true),(Z1e=true)->(Z1e=true),(Z1e=true)->(Ay (lN ((CQ Ab.1 Ab.2).getD 3 default).Shape).2.1),(Z1e=true)->(Z1e=true),(Z1e=true)->(Z1e=true),Z1e=true->(Z1e=true),(Z1f=true)->(Ay (KX ({ data := #[85,49] }:ByteArray) ({ data := #[66] }:ByteArray) 100 65 1).2.1),Z1f=true->(Z1f=true),(Z1g=true)->(Ay (KX ({ data := #[85,50] }:ByteArray) ({ data := #[66] }:ByteArray) (-15) 0 2).2.1),Z1g=true->(Z1g=true),(Z1h=true)->(Ay (KX ({ data := #[85,51] }:ByteArray) ({ data := #[65] }:ByteArray) 0 0 0).2.1),Z1h=true->(Z1h=true),(Z1i=true)->(Ay (KX ({ data := #[85,49] }:ByteArray) ({ data := #[67] }:ByteArray) 0 0 0).2.1),Z1i=true->(Z1i=true)] (.cons (okBox ((CQ Ab.1 Ab.2).getD 3 default).Shape au24) (.cons (Si ({ data := #[85,49] }:ByteArray) ({ data := #[66] }:ByteArray) 100 65 1) (.cons (Si ({ data := #[85,50] }:ByteArray) ({ data := #[66] }:ByteArray) (-15) 0 2) (.cons (Si ({ data := #[85,51] }:ByteArray) ({ data := #[65] }:ByteArray) 0 0 0) (.cons (Si ({ data := #[85,49] }:ByteArray) ({ data := #[67] }:ByteArray) 0 0 0) .nil))))) (ci (.cons (fun hG=>by first | exact (by decide +kernel) | (simp only [decide_eq_true_eq,decide_eq_false_iff_not,Bool.not_eq_true,Bool.and_eq_true] at hG <;> omega) | (simp at hG <;> omega) | (simp only [decide_eq_true_eq,decide_eq_false_iff_not] at hG;simp only [Do];omega)) (ci (ci (ci (.cons (fun _=>rfl) (ci (ci (ci (.cons (fun _=>rfl) (ci (.cons (fun _=>rfl) (ci (.cons (fun _=>rfl) (ci (.cons (fun _=>rfl) (ci .nil)))))))))))))))))<|AG<|AY ?_
 exact zl (by simp only [DR,h1,cond_true,cond_false] <;> kernel_rfl)
theorem Wf  : OKc (Mz ):=cPu<|Ys
theorem nS:DR=true:=by decide +kernel
section
open Go.RowKit
def As (k:Int):ByteArray:=([({ data := #[80,49] }:ByteArray),({ data := #[80,50] }:ByteArray),({ data := #[80,51] }:ByteArray),({ data := #[80,52] }:ByteArray),({ data := #[80,53] }:ByteArray),({ data := #[80,54] }:ByteArray)]:List ByteArray).getD k.toNat ⟨#[]⟩
variable (a:AE) (b:AC) (b_:AE) (l:List (List Int)) (d:AD) (k n:Int) (s:An) (types:List AV) (x0:AF)
def Cu:CT:=(87,[.one (.i k)],.val [] (.av (.one (.s (As k)))))
theorem dF (k:Int) (hk:0<=k/\k<6):PuP 87 (Cu k).2.1 (tO (.s (As k))):=by
 refine pwf Tryz.func87 fun W0 M0 => ?_
 refine AA<|on<|AA ?_
 refine oc [] [0<=(k:Int)/\(k:Int)<((6:Nat):Int)] .nil (.cons au0 .nil)<|AG<|AY ?_
 exact zl
theorem Ew (k:Int) (hk:0<=k/\k<6):OKc (Cu k):=cPu<|dF k hk
def G3 (x0:AF):Ac:=Ac.mk x0.At x0.Turn x0.Under
def KA:CT:=(105,[.agg (AF.c x0)],.val [] (.av (.agg (Ac.c (G3 x0)))))
theorem Y6 (x0:AF):PuP 105 (KA x0).2.1 (.av (.agg (Ac.c (G3 x0)))):=by
 refine pwf Tryz.func105 fun W0 M0 => ?_
 refine AA<|on<|AA ?_
 refine on<|AY ?_
 exact zl
theorem Wi (x0:AF):OKc (KA x0):=cPu<|Y6 x0
def EJ (x0:AE) (x1:AE):AN:=AN.mk 1 x0 x1 (AE.mk 0 0)
def C3 (x0:AE) (x1:AE):CT:=(54,[.agg (AE.c x0),.agg (AE.c x1)],.val [] (.av (.agg (AN.c (EJ x0 x1)))))
theorem WL (x0:AE) (x1:AE):PuP 54 (C3 x0 x1).2.1 (.av (.agg (AN.c (EJ x0 x1)))):=by
 refine pwf Tryz.func54 fun W0 M0 => ?_
 refine AA<|on<|AA ?_
 refine on<|AY ?_
 exact zl
theorem EE (x0:AE) (x1:AE):OKc (C3 x0 x1):=cPu<|WL x0 x1
def Aa (l:(List (List Int))) (k:Int):(List Int):=bif decide ((k:Int)<(l.length:Int)) then (l.getD k.toNat default) else ([])
def Ex:CT:=(47,[.one (lst 1 (fun x=>[lst 1 eIn x]) l),.one (.i k)],.val [] (.av (.one (lst 1 eIn (Aa l k)))))
abbrev oL (l:List (List Int)):Av:=.one (lst 1 (fun x=>[lst 1 (fun x=>[.i x]) x]) l)
theorem jT (l:(List (List Int))) (k:Int) (hk:0<=k):PuP 47 (Ex l k).2.1 (tO (lst 1 eIn (Aa l k))):=by
 refine pwf Tryz.func47 fun W0 M0 => ?_
 refine AA<|on ?_
 refine AA<|AA ?_
 refine rn ⟨[(0,.av (oL l)),(1,tI k),(8,tB (decide ((k:Int)<(l.length:Int))))],[]⟩ ?_
 refine AO _ rfl (fun h1 => ?_) (fun h1 => ?_)
 ·have g1:=oT h1
  refine AA<|oc [] [0<=(k:Int)/\(k:Int)<((l.length:Nat):Int)] .nil (.cons au0 .nil)<|AG ?_
  refine AY<|BJ ?_
  exact zl (by simp only [Aa,h1,cond_true,cond_false] <;> kernel_rfl)
 refine AZ<|AG<|AA ?_
 refine on<|AY ?_
 exact xl (.av (.one vN)) (DS (y:=tO (lst 1 eIn [])) (.av (.one (Cx 1 eIn))) (by simp only [Aa,h1,cond_true,cond_false] <;> rfl))
theorem GX (l:(List (List Int))) (k:Int) (hk:0<=k):OKc (Ex l k):=cPu<|jT l k hk
abbrev KI:List Av:=[.one (.ptr 1000 0),.one (.i 4)]
abbrev Hf:Blk:=.cells (AD.c d) 146
def Z1k:CT:=(48,(KI:List Av).map (CC 1000 1000),wrI 1000 (Hf d) (tI (AB d 4).1) (.cells (AD.c (AB d 4).2) 146))
def Z1l:AN:=EJ a (AE.mk (bif (decide (a.X=b_.X)&&(decide (a.Y=b_.Y)&&true)) then (W64 (b_.X+20)) else b_.X) a.Y)
def Z1m:AN:=EJ (AE.mk (bif (decide (a.X=b_.X)&&(decide (a.Y=b_.Y)&&true)) then (W64 (b_.X+20)) else b_.X) a.Y) (AE.mk (bif (decide (a.X=b_.X)&&(decide (a.Y=b_.Y)&&true)) then (W64 (b_.X+20)) else b_.X) b_.Y)
def Z1n:CT:=(48,([.one (.ptr 1000 0),.one (.i 20)]:List Av).map (CC 1000 1000),wrI 1000 (.cells (AD.c (AB d 4).2) 146) (tI (AB (AB d 4).2 20).1) (.cells (AD.c (AB (AB d 4).2 20).2) 146))
def Z1o:Blk:=.cells (AD.c (AB (AB d 4).2 20).2) 146
def Z1p:AN:=Fd (AE.mk (bif (decide (a.X=b_.X)&&(decide (a.Y=b_.Y)&&true)) then (W64 (b_.X+20)) else b_.X) (W64 (b_.Y+(W64 (5+(AB (AB d 4).2 20).1))))) (W64 (5+(AB (AB d 4).2 20).1)) 3 2
def Z1q:AN:=EJ a (AE.mk (bif (decide (a.X=b_.X)&&(decide (a.Y=b_.Y)&&true)) then (W64 (b_.X+20)) else b_.X) b_.Y)
def DC (a:AE) (b_:AE) (d:AD):((List AN)×AD):=bif bif bif bif decide ((0:Int)<(AB d 4).1) then decide (((AB d 4).1:Int)<3) else false then !(decide ((bif (decide (a.X=b_.X)&&(decide (a.Y=b_.Y)&&true)) then (W64 (b_.X+20)) else b_.X)=a.X)&&(decide (a.Y=a.Y)&&true)) else false then !(decide ((bif (decide (a.X=b_.X)&&(decide (a.Y=b_.Y)&&true)) then (W64 (b_.X+20)) else b_.X)=(bif (decide (a.X=b_.X)&&(decide (a.Y=b_.Y)&&true)) then (W64 (b_.X+20)) else b_.X))&&(decide (a.Y=b_.Y)&&true)) else false then ([Z1l a b_,Z1m a b_],(AB d 4).2) else (bif decide (((AB d 4).1:Int)=3) then ([Z1q a b_,Z1p a b_ d],(AB (AB d 4).2 20).2) else ([Z1q a b_],(AB d 4).2))
abbrev F3:Bool:=decide (a.X=b_.X)&&(decide (a.Y=b_.Y)&&true)
abbrev Ic:=bif (F3 a b_) then (W64 (b_.X+20)) else b_.X
abbrev Kl:Nat×Blk:=(3,.cells (AE.c a) 47)
abbrev N9 (t_:List (Nat×Tv)):List (Nat×Tv):=(2,tP 1000 0)::(3,tP 3 0)::(4,tP 4 0)::t_
abbrev VR:List (Nat×Tv):=(N9 [])
abbrev aB:List (Nat×Blk):=[(Kl a),(4,.cells [.i (Ic a b_),.i b_.Y] 47),(7,.cells [.i (Ic a b_),.i a.Y] 47),(1000,.cells (AD.c (AB d 4).2) 146)]
theorem au26 {p:Prop} (h:p:=by repeat (first | assumption | exact DA (by assumption) | refine Bl ?_ | refine DK ?_ ?_ | refine hKd _ _ ?_ | refine cond_dk _ ?_)):p:=h
theorem au10 {p:Prop} (h:p:=by first | decide | omega | (simp only [Do];omega)):p:=h
theorem dI  (a:AE) (b_:AE) (d:AD) (hd:B2 d):Wr Tryz.prog 91 1000 [.agg (AE.c a),.agg (AE.c b_),.one (.ptr 1000 0)] (.cells (AD.c d) 146) (tO (lst 7 AN.c (DC a b_ d).1)) (.cells (AD.c (DC a b_ d).2) 146):=by
 refine Ht Tryz.func91 rfl kr kr kr kr fun W0 M0 X hX => ?_
 refine AA<|on ?_
 refine AA<|AA ?_
 refine rn ⟨(N9 [(13,tB (F3 a b_))]),[(Kl a),(4,.cells (AE.c b_) 47),(1000,.cells (AD.c d) 146)]⟩ ?_
 refine B4 (⟨VR,[(Kl a),(4,.cells [.i (bif (F3 a b_) then (W64 (b_.X+20)) else b_.X),.i b_.Y] 47),(1000,.cells (AD.c d) 146)]⟩) ?_ ?_
 ·refine AO _ rfl (fun h1 => ?_) (fun h1 => ?_)
  ·refine rn ⟨VR,[(Kl a),(4,.cells [.i (W64 (b_.X+20)),.i b_.Y] 47),(1000,.cells (AD.c d) 146)]⟩ ?_
   refine BE ?_
   first | rfl | (simp only [h1,cond_true,cond_false] <;> rfl)
  refine AZ<|AG ?_
  refine Cv.trans (ck (⟨VR,[(Kl a),(4,.cells (AE.c b_) 47),(1000,.cells (AD.c d) 146)]⟩)) (BE ?_)
  first | rfl | (simp only [h1,cond_true,cond_false] <;> rfl)
 refine AA<|on ?_
 refine AA<|AA ?_
 refine rb 24 (Z1k d) (Hf d) ⟨(N9 [(7,tP 7 0),(8,tI (AB d 4).1)]),(aB a b_ d)⟩ (cWr (Bp d 4 au26 au10))<|AG ?_
 refine AQ<|AA ?_
 refine rc [] (t2 (decide ((0:Int)<(AB d 4).1)) (t3 (bif decide ((0:Int)<(AB d 4).1) then decide (((AB d 4).1:Int)<3) else false) (t3 (bif bif decide ((0:Int)<(AB d 4).1) then decide (((AB d 4).1:Int)<3) else false then !(decide ((Ic a b_)=a.X)&&(decide (a.Y=a.Y)&&true)) else false) []))) ⟨(N9 [(7,tP 7 0),(8,tI (AB d 4).1),(25,tB (bif bif bif decide ((0:Int)<(AB d 4).1) then decide (((AB d 4).1:Int)<3) else false then !(decide ((bif (decide (a.X=b_.X)&&(decide (a.Y=b_.Y)&&true)) then (W64 (b_.X+20)) else b_.X)=a.X)&&(decide (a.Y=a.Y)&&true)) else false then !(decide ((bif (decide (a.X=b_.X)&&(decide (a.Y=b_.Y)&&true)) then (W64 (b_.X+20)) else b_.X)=(bif (decide (a.X=b_.X)&&(decide (a.Y=b_.Y)&&true)) then (W64 (b_.X+20)) else b_.X))&&(decide (a.Y=b_.Y)&&true)) else false))]),(aB a b_ d)⟩ .nil (c2 (c3 (c3 .nil)))<|AG ?_
 refine AO (bif bif bif decide ((0:Int)<(AB d 4).1) then decide (((AB d 4).1:Int)<3) else false then !(decide ((bif (F3 a b_) then (W64 (b_.X+20)) else b_.X)=a.X)&&(decide (a.Y=a.Y)&&true)) else false then !(decide ((bif (F3 a b_) then (W64 (b_.X+20)) else b_.X)=(bif (F3 a b_) then (W64 (b_.X+20)) else b_.X))&&(decide (a.Y=b_.Y)&&true)) else false) kr (fun h1 => ?_) (fun h1 => ?_)
 ·refine AA<|od [] [(44,C3 a (AE.mk (Ic a b_) a.Y)),(47,C3 (AE.mk (Ic a b_) a.Y) (AE.mk (Ic a b_) b_.Y))] [Ay (C3 a (AE.mk (bif (F3 a b_) then (W64 (b_.X+20)) else b_.X) a.Y)).2.1,Ay (C3 (AE.mk (bif (F3 a b_) then (W64 (b_.X+20)) else b_.X) a.Y) (AE.mk (bif (F3 a b_) then (W64 (b_.X+20)) else b_.X) b_.Y)).2.1] (.cons (EE a (AE.mk (bif (F3 a b_) then (W64 (b_.X+20)) else b_.X) a.Y)) (.cons (EE (AE.mk (bif (F3 a b_) then (W64 (b_.X+20)) else b_.X) a.Y) (AE.mk (bif (F3 a b_) then (W64 (b_.X+20)) else b_.X) b_.Y)) .nil)) (.cons rfl (.cons rfl .nil))<|AG ?_
  refine AY<|Bw<|BJ ?_
  exact xl (.av (.one (.list true 7 2 (BB 7 2 [.i (Z1l a b_).Kind,.i (Z1l a b_).A.X,.i (Z1l a b_).A.Y,.i (Z1l a b_).B.X,.i (Z1l a b_).B.Y,.i (Z1l a b_).C.X,.i (Z1l a b_).C.Y,.i (Z1m a b_).Kind,.i (Z1m a b_).A.X,.i (Z1m a b_).A.Y,.i (Z1m a b_).B.X,.i (Z1m a b_).B.Y,.i (Z1m a b_).C.X,.i (Z1m a b_).C.Y])))) ⟨DS (y:=tO (lst 7 AN.c [Z1l a b_,Z1m a b_])) (.av (.one (Bk true (Bd (c:=AN.c) (xs:=([Z1l a b_,Z1m a b_]:List AN)) rfl kr)))) (by unfold DC;rw [h1];rfl),.cells (AD.c (AB d 4).2) 146,by kernel_rfl,D9 (by unfold DC;rw [h1];kernel_rfl)⟩
 refine AA<|rn ⟨(N9 [(49,tB (decide (((AB d 4).1:Int)=3)))]),[(Kl a),(4,.cells [.i (Ic a b_),.i b_.Y] 47),(1000,.cells (AD.c (AB d 4).2) 146)]⟩ ?_
 refine AO _ rfl (fun h2 => ?_) (fun h2 => ?_)
 ·have g2:=oT h2
  refine AA<|rb 53 (Z1n d) (.cells (AD.c (AB d 4).2) 146) ⟨[(3,tP 3 0),(4,tP 4 0),(9,tI (W64 (5+(AB (AB d 4).2 20).1)))],[(Kl a),(4,.cells [.i (Ic a b_),.i b_.Y] 47),(1000,Z1o d)]⟩ (cWr (Bp (AB d 4).2 20 au26 au10))<|AG<|AA ?_
  refine oq 63 (CZ (AE.mk (bif (F3 a b_) then (W64 (b_.X+20)) else b_.X) (W64 (b_.Y+(W64 (5+(AB (AB d 4).2 20).1))))) (W64 (5+(AB (AB d 4).2 20).1)) 3 2) (EG (AE.mk (bif (F3 a b_) then (W64 (b_.X+20)) else b_.X) (W64 (b_.Y+(W64 (5+(AB (AB d 4).2 20).1))))) (W64 (5+(AB (AB d 4).2 20).1)) 3 2)<|AG<|AA ?_
  refine od [] [(66,C3 a (AE.mk (Ic a b_) b_.Y))] [Ay (C3 a (AE.mk (bif (F3 a b_) then (W64 (b_.X+20)) else b_.X) b_.Y)).2.1] (.cons (EE a (AE.mk (bif (F3 a b_) then (W64 (b_.X+20)) else b_.X) b_.Y)) .nil) (.cons rfl .nil)<|AG ?_
  refine AY<|Bw<|BJ ?_
  exact xl (.av (.one (.list true 7 2 (BB 7 2 [.i (Z1q a b_).Kind,.i (Z1q a b_).A.X,.i (Z1q a b_).A.Y,.i (Z1q a b_).B.X,.i (Z1q a b_).B.Y,.i (Z1q a b_).C.X,.i (Z1q a b_).C.Y,.i (Z1p a b_ d).Kind,.i (Z1p a b_ d).A.X,.i (Z1p a b_ d).A.Y,.i (Z1p a b_ d).B.X,.i (Z1p a b_ d).B.Y,.i (Z1p a b_ d).C.X,.i (Z1p a b_ d).C.Y])))) ⟨DS (y:=tO (lst 7 AN.c [Z1q a b_,Z1p a b_ d])) (.av (.one (Bk true (Bd (c:=AN.c) (xs:=([Z1q a b_,Z1p a b_ d]:List AN)) rfl kr)))) (by unfold DC;rw [h1,h2];rfl),.cells (AD.c (AB (AB d 4).2 20).2) 146,by kernel_rfl,D9 (by unfold DC;rw [h1,h2];kernel_rfl)⟩
 refine AZ<|A3 ?_
 refine AG<|AA ?_
 refine oq 71 (C3 a (AE.mk (bif (F3 a b_) then (W64 (b_.X+20)) else b_.X) b_.Y)) (EE a (AE.mk (bif (F3 a b_) then (W64 (b_.X+20)) else b_.X) b_.Y))<|AG<|AY ?_
 exact xl (.av (.one (.list true 7 1 (BB 7 1 (AN.c (Z1q a b_)))))) ⟨DS (y:=tO (lst 7 AN.c [Z1q a b_])) (.av (.one (Bk true (Bd (c:=AN.c) (xs:=([Z1q a b_]:List AN)) rfl kr)))) (by unfold DC;rw [h1,h2];rfl),.cells (AD.c (AB d 4).2) 146,by kernel_rfl,D9 (by unfold DC;rw [h1,h2];kernel_rfl)⟩
def Z1r:CT:=(48,([.one (.ptr 1000 0),.one (.i (b.Nets.length:Int))]:List Av).map (CC 1000 1001),wrI 1001 (Hf d) (tI (AB d (b.Nets.length:Int)).1) (.cells (AD.c (AB d (b.Nets.length:Int)).2) 146))
def C8 (b:AC) (d:AD):(ByteArray×AD):=((b.Nets.getD (AB d (b.Nets.length:Int)).1.toNat default).Name,(AB d (b.Nets.length:Int)).2)
theorem SX  (b:AC) (d:AD) (vs:Nat->Value) (hd:B2 d) (hn:1<=(b.Nets.length:Int)/\(b.Nets.length:Int)<=1000000):Wr2 Tryz.prog 90 1000 1001 [.one (.ptr 1000 0),.one (.ptr 1001 0)] (.cells [.i b.Layers,.i b.Outline.Kind,lst 7 AN.c b.Outline.Edges,.i b.Outline.R,lst 7 AF.c b.Parts,lst 2 BA.c b.Nets,.val (vs 6),.val (vs 7),.val (vs 8),.val (vs 9),.val (vs 10),.val (vs 11),.val (vs 12),.val (vs 13),.val (vs 14)] 40) (.cells (AD.c d) 146) (tO (.s (C8 b d).1)) (.cells [.i b.Layers,.i b.Outline.Kind,lst 7 AN.c b.Outline.Edges,.i b.Outline.R,lst 7 AF.c b.Parts,lst 2 BA.c b.Nets,.val (vs 6),.val (vs 7),.val (vs 8),.val (vs 9),.val (vs 10),.val (vs 11),.val (vs 12),.val (vs 13),.val (vs 14)] 40) (.cells (AD.c (C8 b d).2) 146):=by
 refine Ol Tryz.func90 rfl kr kr kr rfl kr kr kr fun W0 M0 X hX => ?_
 have hnb:=Db d (b.Nets.length:Int) oM oM
 refine AA<|on<|AA ?_
 refine od [] [(15,(Z1r b d))] [Ay (Z1r b d).2.1,CH (Hf d),0<=((AB d (b.Nets.length:Int)).1:Int)/\((AB d (b.Nets.length:Int)).1:Int)<((b.Nets.length:Nat):Int)] (.cons (cWr (Bp d (b.Nets.length:Int) au26 au10)) .nil) (.cons rfl (.cons rfl (.cons oM .nil)))<|AG<|AY ?_
 exact xl (tO (.s (b.Nets.getD (AB d (b.Nets.length:Int)).1.toNat default).Name)) ⟨Bz (by rfl),⟨.cells (Bc b [.val (vs 6),.val (vs 7),.val (vs 8),.val (vs 9),.val (vs 10),.val (vs 11),.val (vs 12),.val (vs 13),.val (vs 14)]) 40,by kernel_rfl,D9 rfl⟩,.cells (AD.c (AB d (b.Nets.length:Int)).2) 146,by kernel_rfl,D9 kr⟩
theorem Lv {p q:Prop} [Decidable p] [Decidable q] (h:(bif decide p then decide q else false)=true):q:=by
 by_cases hp:p
 ·rw [decide_eq_true hp] at h;exact oT h
 rw [decide_eq_false hp] at h;cases h
def N3 (b:AC) (types:List AV):Prop:=∀ k:Int,0<=k->k<(b.Parts.length:Int)->1<=((Bs types (b.Parts.getD k.toNat default).Type').1.Pads.length:Int)
theorem Tt {b:AC} {d:AD} (h:(bif decide ((AB d 12).1<8) then decide ((0:Int)<(b.Parts.length:Int)) else false)=true):0<=Int.tmod (AB d 12).1 (b.Parts.length:Int)/\Int.tmod (AB d 12).1 (b.Parts.length:Int)<(b.Parts.length:Int):=Jc (Db d 12 (by decide) (by decide)).1 (Lv h)
theorem LU {b:AC} {types:List AV} {d:AD} (hg:N3 b types) (h:(bif decide ((AB d 12).1<8) then decide ((0:Int)<(b.Parts.length:Int)) else false)=true):1<=((Bs types (b.Parts.getD (Int.tmod (AB d 12).1 (b.Parts.length:Int)).toNat default).Type').1.Pads.length:Int):=hg _ (Tt h).1 (Tt h).2
abbrev bB:List Cl:=[.i b.Layers,.i b.Outline.Kind,lst 7 AN.c b.Outline.Edges,.i b.Outline.R,lst 7 AF.c b.Parts,.any,.any,.any,.any,.any,.any,.any,.any,.any,.any]
def Z1s:Blk:=.cells (bB b) 40
abbrev VN:List Av:=[.one (.ptr 1000 0),.one (.i 12)]
def Z1t:CT:=(48,(VN:List Av).map (CC 1000 1000),wrI 1000 (Hf d) (tI (AB d 12).1) (.cells (AD.c (AB d 12).2) 146))
abbrev OY:List Av:=[.one (.ptr 1000 0),.one (.i 6)]
def Z1u:CT:=(48,(OY:List Av).map (CC 1000 1000),wrI 1000 (.cells (AD.c (AB d 12).2) 146) (tI (AB (AB d 12).2 6).1) (.cells (AD.c (AB (AB d 12).2 6).2) 146))
def Z1v:Blk:=.cells (AD.c (AB (AB d 12).2 6).2) 146
def Z1w:AF:=b.Parts.getD (Int.tmod (AB d 12).1 (b.Parts.length:Int)).toNat default
def Z1x (types:(List AV)) (b:AC) (d:AD):AE:=((Bs types (Z1w b d).Type').1.Pads.getD (Int.tmod (AB (AB d 12).2 6).1 ((Bs types (Z1w b d).Type').1.Pads.length:Int)).toNat default).At
def Z1y:AE:=Ae (G3 (Z1w b d)) (Z1x types b d)
def B8 (b:AC) (types:(List AV)) (d:AD):(AE×AD):=bif bif decide (((AB d 12).1:Int)<8) then decide ((0:Int)<(b.Parts.length:Int)) else false then (Z1y b d types,(AB (AB d 12).2 6).2) else (AE.mk (W64 (30+(Int.tmod (W64 (40*(AB d 12).1)) 360))) (W64 (30+(W64 (60*(AB (AB d 12).2 6).1)))),(AB (AB d 12).2 6).2)
theorem LW  (b:AC) (types:(List AV)) (d:AD) (hd:B2 d) (hb:(b.Parts.length:Int)<=1000000) (ht:(types.length:Int)<=1000000) (hg:N3 b types):Wr Tryz.prog 92 1000 [.agg [.i b.Layers,.i b.Outline.Kind,lst 7 AN.c b.Outline.Edges,.i b.Outline.R,lst 7 AF.c b.Parts,.any,.any,.any,.any,.any,.any,.any,.any,.any,.any],.one (lst 3 AV.c types),.one (.ptr 1000 0)] (.cells (AD.c d) 146) (.av (.agg (AE.c (B8 b types d).1))) (.cells (AD.c (B8 b types d).2) 146):=by
 refine Ht Tryz.func92 rfl kr kr kr kr fun W0 M0 X hX => ?_
 refine AA<|on<|AA ?_
 refine rb 13 (Z1t d) (Hf d) ⟨[(EL types),(2,tP 1000 0),(3,tP 3 0),(6,tP 6 0),(7,tI (AB d 12).1)],[(3,Z1s b),OW,(1000,.cells (AD.c (AB d 12).2) 146)]⟩ (cWr (Bp d 12 au26 au10))<|AG<|AA ?_
 refine rb 15 (Z1u d) (.cells (AD.c (AB d 12).2) 146) ⟨[(EL types),(3,tP 3 0),(6,tP 6 0),(7,tI (AB d 12).1),(8,tI (AB (AB d 12).2 6).1)],[(3,Z1s b),OW,(1000,Z1v d)]⟩ (cWr (Bp (AB d 12).2 6 au26 au10))<|AG ?_
 refine AA<|AA ?_
 refine rc [] (t4 (decide (((AB d 12).1:Int)<8)) []) ⟨[(EL types),(3,tP 3 0),(6,tP 6 0),(7,tI (AB d 12).1),(8,tI (AB (AB d 12).2 6).1),(23,tB (bif decide (((AB d 12).1:Int)<8) then decide ((0:Int)<(b.Parts.length:Int)) else false))],[(3,Z1s b),OW,(1000,Z1v d)]⟩ .nil (c4 .nil)<|AG ?_
 refine AO _ rfl (fun h1 => ?_) (fun h1 => ?_)
 ·have g1:=N1 h1
  refine AA<|od [] [] [((b.Parts.length:Int):Int)≠0,0<=(Int.tmod (AB d 12).1 (b.Parts.length:Int):Int)/\(Int.tmod (AB d 12).1 (b.Parts.length:Int):Int)<((b.Parts.length:Nat):Int)] .nil (.cons (by first | decide | (have hq:=Lv h1;omega) | (have hq:=LU hg h1;show ¬ ((Bs types (b.Parts.getD (Int.tmod (AB d 12).1 (b.Parts.length:Int)).toNat default).Type').1.Pads.length:Int)=0;omega)) (.cons (by first | exact Tt h1 | exact Jc (Db _ 6 (by decide) (by decide)).1 (by have hq:=LU hg h1;show (0:Int)<((Bs types (b.Parts.getD (Int.tmod (AB d 12).1 (b.Parts.length:Int)).toNat default).Type').1.Pads.length:Int);omega) | decide | omega) .nil))<|AG<|AA ?_
  refine oq 37 (LJ types (Z1w b d).Type') (Sj types (Z1w b d).Type' au12)<|AG<|AA ?_
  refine od [] [(41,KA (Z1w b d)),(52,DL (G3 (Z1w b d)) (Z1x types b d))] [Ay (KA (Z1w b d)).2.1,(((Bs types (Z1w b d).Type').1.Pads.length:Int):Int)≠0,0<=(Int.tmod (AB (AB d 12).2 6).1 ((Bs types (Z1w b d).Type').1.Pads.length:Int):Int)/\(Int.tmod (AB (AB d 12).2 6).1 ((Bs types (Z1w b d).Type').1.Pads.length:Int):Int)<(((Bs types (Z1w b d).Type').1.Pads.length:Nat):Int),Ay (DL (G3 (Z1w b d)) (Z1x types b d)).2.1] (.cons (Wi (Z1w b d)) (.cons (Ev (G3 (Z1w b d)) (Z1x types b d)) .nil)) (.cons rfl (.cons (by first | decide | (have hq:=Lv h1;omega) | (have hq:=LU hg h1;show ¬ ((Bs types (b.Parts.getD (Int.tmod (AB d 12).1 (b.Parts.length:Int)).toNat default).Type').1.Pads.length:Int)=0;omega)) (.cons (by first | exact Tt h1 | exact Jc (Db _ 6 (by decide) (by decide)).1 (by have hq:=LU hg h1;show (0:Int)<((Bs types (b.Parts.getD (Int.tmod (AB d 12).1 (b.Parts.length:Int)).toNat default).Type').1.Pads.length:Int);omega) | decide | omega) (.cons rfl .nil))))<|AG ?_
  refine AY<|BJ ?_
  exact xl (.av (.agg (AE.c (Z1y b d types)))) ⟨Bz (by simp only [B8,h1,cond_true,cond_false] <;> rfl),.cells (AD.c (AB (AB d 12).2 6).2) 146,by kernel_rfl,D9 (by first | (simp only [B8,h1,cond_true,cond_false];done) | (simp only [B8,h1,cond_true,cond_false];kernel_rfl))⟩
 refine AZ<|AG<|AA ?_
 refine oc [] [(360:Int)≠0] .nil (.cons (by first | decide | (have hq:=Lv h1;omega) | (have hq:=LU hg h1;show ¬ ((Bs types (b.Parts.getD (Int.tmod (AB d 12).1 (b.Parts.length:Int)).toNat default).Type').1.Pads.length:Int)=0;omega)) .nil)<|AG<|AY ?_
 exact xl (.av (.agg [.i (W64 (30+(Int.tmod (W64 (40*(AB d 12).1)) 360))),.i (W64 (30+(W64 (60*(AB (AB d 12).2 6).1))))])) ⟨Bz (by simp only [B8,h1,cond_true,cond_false] <;> rfl),.cells (AD.c (AB (AB d 12).2 6).2) 146,by kernel_rfl,D9 (by first | (simp only [B8,h1,cond_true,cond_false];done) | (simp only [B8,h1,cond_true,cond_false];kernel_rfl))⟩
def BN (n:Int):ByteArray:=([({ data := #[78,49] }:ByteArray),({ data := #[78,50] }:ByteArray),({ data := #[71,78,68] }:ByteArray),({ data := #[82,49] }:ByteArray),({ data := #[120,47,82,49] }:ByteArray),({ data := #[110,101,119] }:ByteArray),({ data := #[] }:ByteArray),({ data := #[57] }:ByteArray),({ data := #[97,47,98,47,99,47,100,47,101,47,102] }:ByteArray),({ data := #[80,49] }:ByteArray),({ data := #[112,111,119,101,114] }:ByteArray),({ data := #[109,49] }:ByteArray)]:List ByteArray).getD (Int.tmod n 12).toNat ⟨#[]⟩
def Ch:CT:=(24,[.one (.i n)],.val [] (.av (.one (.s (BN n)))))
theorem jQ (n:Int) (hn:0<=n):PuP 24 (Ch n).2.1 (tO (.s (BN n))):=by
 refine pwf Tryz.func24 fun W0 M0 => ?_
 refine AA<|on<|AA ?_
 refine oc [] [(12:Int)≠0,0<=(Int.tmod n 12:Int)/\(Int.tmod n 12:Int)<((12:Nat):Int)] .nil (.cons au14 (.cons (Jc hn (by decide)) .nil))<|AG<|AY ?_
 exact zl
theorem EO (n:Int) (hn:0<=n):OKc (Ch n):=cPu<|jQ n hn
def Z1z:Blk:=.cells [.i 0,vN,.i 0] 27
def Z1A:An:=DT (Al.mk (W64 (10*n)) 50 (W64 ((W64 (10*n))+9)) 59)
def Z1B:AN:=EJ (AE.mk (W64 (10*n)) 50) (AE.mk 300 (W64 (9*n)))
def Z1C:AN:=EJ (AE.mk (W64 (10*n)) 50) (AE.mk 67108865 0)
def Co (n:Int):An:=bif decide (((Int.tmod n 6):Int)=0) then (An.mk 0 [] 0) else (bif decide (((Int.tmod n 6):Int)=1) then (Dc (AE.mk (W64 (10*n)) 50) 5) else (bif decide (((Int.tmod n 6):Int)=2) then (Z1A n) else (bif decide (((Int.tmod n 6):Int)=3) then (An.mk 1 [Z1B n] 4) else (bif decide (((Int.tmod n 6):Int)=4) then (An.mk 1 [Z1B n] 0) else (An.mk 1 [Z1C n] 4)))))
def Fu:CT:=(23,[.one (.i n)],.val [] (.av (.agg (An.c (Co n)))))
abbrev Oh:List (Nat×Blk):=[(2,Z1z),(3,.cells [.i (W64 (10*n)),.i 50] 47)]
abbrev Ra (t_:List (Nat×Tv)):List (Nat×Tv):=(0,tI n)::(2,tP 2 0)::(3,tP 3 0)::(8,tI (Int.tmod n 6))::t_
theorem dC (n:Int):PuP 23 (Fu n).2.1 (.av (.agg (An.c (Co n)))):=by
 refine pwf Tryz.func23 fun W0 M0 => ?_
 refine AA<|on<|AA ?_
 refine on ?_
 refine AA<|AA ?_
 refine oc [] [(6:Int)≠0] .nil (.cons au14 .nil)<|AG ?_
 refine AQ<|AA ?_
 refine rn ⟨(Ra n [(9,tB (decide (((Int.tmod n 6):Int)=0)))]),(Oh n)⟩ ?_
 refine AO _ rfl (fun h1 => ?_) (fun h1 => ?_)
 ·refine AA<|on ?_
  refine AY<|Bw<|BJ ?_
  exact xl (.av (.agg [.i 0,vN,.i 0])) (DS (y:=.av (.agg [.i 0,lst 7 AN.c [],.i 0])) (.av (.agg (rr (.cons (Cx 7 AN.c) (rr .nil))))) (by simp only [Co,h1,cond_true,cond_false] <;> rfl))
 refine AA<|rn ⟨(Ra n [(12,tB (decide (((Int.tmod n 6):Int)=1)))]),(Oh n)⟩ ?_
 refine AO _ rfl (fun h2 => ?_) (fun h2 => ?_)
 ·refine AA<|oq 15 (I0 (AE.mk (W64 (10*n)) 50) 5) (Nt (AE.mk (W64 (10*n)) 50) 5)<|AG ?_
  refine AY<|Bw<|BJ ?_
  exact zl (by simp only [Co,h1,h2,cond_true,cond_false] <;> kernel_rfl)
 refine AA<|rn ⟨(Ra n [(16,tB (decide (((Int.tmod n 6):Int)=2)))]),(Oh n)⟩ ?_
 refine AO _ rfl (fun h3 => ?_) (fun h3 => ?_)
 ·refine AA<|oq 29 (Hn (Al.mk (W64 (10*n)) 50 (W64 ((W64 (10*n))+9)) 59)) (La (Al.mk (W64 (10*n)) 50 (W64 ((W64 (10*n))+9)) 59))<|AG ?_
  refine AY<|Bw<|BJ ?_
  exact zl (by simp only [Co,h1,h2,h3,cond_true,cond_false] <;> kernel_rfl)
 refine AA<|rn ⟨(Ra n [(30,tB (decide (((Int.tmod n 6):Int)=3)))]),(Oh n)⟩ ?_
 refine AO _ rfl (fun h4 => ?_) (fun h4 => ?_)
 ·refine AA<|oq 36 (C3 (AE.mk (W64 (10*n)) 50) (AE.mk 300 (W64 (9*n)))) (EE (AE.mk (W64 (10*n)) 50) (AE.mk 300 (W64 (9*n))))<|AG ?_
  refine AY<|Bw<|BJ ?_
  exact xl (.av (.agg [.i 1,.list true 7 1 (BB 7 1 (AN.c (Z1B n))),.i 4])) (DS (y:=.av (.agg [.i 1,lst 7 AN.c [Z1B n],.i 4])) (.av (.agg (rr (.cons (Bk true (Bd (c:=AN.c) (xs:=([Z1B n]:List AN)) rfl kr)) (rr .nil))))) (by simp only [Co,h1,h2,h3,h4,cond_true,cond_false] <;> rfl))
 refine AA<|rn ⟨[(0,tI n),(2,tP 2 0),(3,tP 3 0),(39,tB (decide (((Int.tmod n 6):Int)=4)))],(Oh n)⟩ ?_
 refine AO _ rfl (fun h5 => ?_) (fun h5 => ?_)
 ·refine AA<|oq 45 (C3 (AE.mk (W64 (10*n)) 50) (AE.mk 300 (W64 (9*n)))) (EE (AE.mk (W64 (10*n)) 50) (AE.mk 300 (W64 (9*n))))<|AG ?_
  refine AY<|Bw<|BJ ?_
  exact xl (.av (.agg [.i 1,.list true 7 1 (BB 7 1 (AN.c (Z1B n))),.i 0])) (DS (y:=.av (.agg [.i 1,lst 7 AN.c [Z1B n],.i 0])) (.av (.agg (rr (.cons (Bk true (Bd (c:=AN.c) (xs:=([Z1B n]:List AN)) rfl kr)) (rr .nil))))) (by simp only [Co,h1,h2,h3,h4,h5,cond_true,cond_false] <;> rfl))
 refine AZ<|A3 ?_
 refine AG<|AA ?_
 refine oq 50 (C3 (AE.mk (W64 (10*n)) 50) (AE.mk 67108865 0)) (EE (AE.mk (W64 (10*n)) 50) (AE.mk 67108865 0))<|AG<|AY ?_
 exact xl (.av (.agg [.i 1,.list true 7 1 (BB 7 1 (AN.c (Z1C n))),.i 4])) (DS (y:=.av (.agg [.i 1,lst 7 AN.c [Z1C n],.i 4])) (.av (.agg (rr (.cons (Bk true (Bd (c:=AN.c) (xs:=([Z1C n]:List AN)) rfl kr)) (rr .nil))))) (by simp only [Co,h1,h2,h3,h4,h5,cond_true,cond_false] <;> rfl))
theorem Jz (n:Int):OKc (Fu n):=cPu<|dC n
def Z1D:Blk:=.cells [.i 0,vN,.i 0] 27
def Z1E:Blk:=.cells [.i s.Kind,.own 6 7 s.Edges.length,.i s.R] 27
def Z1F:Blk:=.row 7 s.Edges.length (AU AN.c s.Edges) 136
def Ak (s:An):An:=s
def B7:CT:=(52,[.agg (An.c s)],.val [] (.av (.agg (An.c (Ak s)))))
theorem Sd (s:An) (hl:(s.Edges.length:Int)<=1000000):PuP 52 (B7 s).2.1 (.av (.agg (An.c (Ak s)))):=by
 refine pwf Tryz.func52 fun W0 M0 => ?_
 refine AA<|rn ⟨[(1,tP 1 0),(2,tP 2 0)],[(Ki s),(2,Z1D)]⟩<|AA ?_
 refine DP Dh [3] [] [] [1,2] [1,2,6] [0=0,0+s.Edges.length<=maxLen,(0+s.Edges.length)*56<=140737488355328] ⟨[(1,tP 1 0),(2,tP 2 0)],[(1,.cells [.i s.Kind,.own 6 7 (0+s.Edges.length),.i s.R] 27),(2,Z1D),(6,.row 7 (0+s.Edges.length) (fun i_ j_=>if i_<0 then (BB 7 0 []) i_ j_ else (AU AN.c s.Edges) (i_-0) j_) 136)]⟩ .nil kr (.cons rfl (.cons au3 (.cons au3 .nil)))<|AG ?_
 refine Ap (A2 6 (Au (A0 7 AN.c (([]:List AN):List AN)) (Am 7 AN.c s.Edges)))<|AA ?_
 refine on<|AY ?_
 exact zy (Cv.trans (vf 6 hk0) (Cv.refl _))
theorem Dz (s:An) (hl:(s.Edges.length:Int)<=1000000):OKc (B7 s):=cPu<|Sd s hl
theorem D8 {α:Type} {c:Bool} {a b:α×AD} (ha:B2 a.2) (hb:B2 b.2):B2 (bif c then a else b).2:=by cases c <;> assumption
theorem E9 {b:AC} {d:AD} (h:B2 d):B2 (C8 b d).2:=Bl h
theorem Dl {a c:AE} {d:AD} (h:B2 d):B2 (DC a c d).2:=by
 unfold DC
 exact D8 (Bl h) (D8 (Bl (Bl h)) (Bl h))
theorem D3 {b:AC} {types:List AV} {d:AD} (h:B2 d):B2 (B8 b types d).2:=by
 unfold B8
 exact D8 (Bl (Bl h)) (Bl (Bl h))
theorem Dt {l:List (List Int)} (hl:∀ x∈l,(x.length:Int)<=9223372036854775807) (k:Int):((Aa l k).length:Int)<=9223372036854775807:=by
 unfold Aa
 by_cases h:k<(l.length:Int)
 ·rw [decide_eq_true h]
  simp only [cond_true]
  by_cases hk:k.toNat<l.length
  ·rw [List.getD_eq_getElem?_getD,List.getElem?_eq_getElem hk]
   exact hl _ (List.getElem_mem _)
  rw [List.getD_eq_getElem?_getD,List.getElem?_eq_none oM]
  decide
 rw [decide_eq_false h]
 exact Int.le_of_lt (by decide:((([]:List Int).length:Nat):Int)<9223372036854775807)
theorem Sr {v:Int} {d:AD} {n:Int} (h:v<(AB d n).1) (h0:0<n) (h1:n<=1000000):v<n:=by
 have:=Db d n h0 (by omega)
 omega
end
section
open Go.RowKit
variable (b:AC) (Ad:List Aq) (Ao:List Bx) (A6:List A8) (types:List AV) (v12:Int) (l:List (List Int)) (v6 v6' v6'':AD)
def Z1G:Tv:=.av (oL l)
abbrev Zo:List Cl:=(Bc b [vN,vN,vN,vN,vN,vN,vN,vN,vN])
def Z1H:Blk:=.cells (Zo b) 40
abbrev NK:List Cl:=(Bc b [lst 6 Aq.c [],lst 8 Bx.c [],lst 8 A8.c [],lst 5 BR.c [],lst 4 Bq.c [],lst 2 BS.c [],lst 20 A1.c [],lst 3 BM.c [],lst 3 Bb.c []])
abbrev JU:=AC.mk b.Layers b.Outline b.Parts b.Nets [] [] [] [] [] [] [] [] []
abbrev Oe:List Av:=[.one (.ptr 1000 0),.one (.ptr 1001 0)]
def Z1I:CT:=(90,(Oe:List Av).map (F4 1000 1000 1001 22),wqV 1000 22 [6,7,8,9,10,11,12,13,14] (NK b) 40 (.cells [lst 1 eIn (Aa l 4),.i 0] 146) (.av (.one (.s (C8 (JU b) (AD.mk (Aa l 4) 0)).1))) (.cells (AD.c (C8 (JU b) (AD.mk (Aa l 4) 0)).2) 146))
abbrev Z1J:AD:=(C8 (AC.mk b.Layers b.Outline b.Parts b.Nets [] [] [] [] [] [] [] [] []) (AD.mk (Aa l 4) 0)).2
def Z1K:Tv:=.av (.one (.s (C8 (JU b) (AD.mk (Aa l 4) 0)).1))
def Z1L:CT:=(48,(OY:List Av).map (CC 1000 22),wrI 22 (.cells (AD.c (Z1J b l)) 146) (tI (AB (Z1J b l) 6).1) (.cells (AD.c (AB (Z1J b l) 6).2) 146))
def Z1M:Blk:=.cells (AD.c (AB (Z1J b l) 6).2) 146
abbrev FX:List Av:=[.one (.ptr 1000 0),.one (.i 3)]
def Z1N:CT:=(48,(FX:List Av).map (CC 1000 75),wrI 75 (.cells [lst 1 eIn (Aa l 5),.i 0] 146) (tI (AB (AD.mk (Aa l 5) 0) 3).1) (.cells (AD.c (AB (AD.mk (Aa l 5) 0) 3).2) 146))
def Z1O:Tv:=tI (AB (AD.mk (Aa l 5) 0) 3).1
def Z1P:Blk:=.cells (AD.c (AB (AD.mk (Aa l 5) 0) 3).2) 146
abbrev Kj:=AB (AD.mk (Aa l 6) 0) 3
def Z1Q:CT:=(48,(FX:List Av).map (CC 1000 189),wrI 189 (.cells [lst 1 eIn (Aa l 6),.i 0] 146) (tI (Kj l).1) (.cells (AD.c (Kj l).2) 146))
def Z1R:Blk:=.cells (AD.c (Kj l).2) 146
abbrev Tm:List Av:=[.agg (bB b),.one (I7 types),.one (.ptr 1000 0)]
abbrev KJ:=AC.mk b.Layers b.Outline b.Parts [] [] [] [] [] [] [] [] [] []
def Z1S:CT:=(92,((Tm b types):List Av).map (CC 1000 189),wrI 189 (.cells (AD.c (Kj l).2) 146) (.av (.agg (AE.c (B8 (KJ b) types (Kj l).2).1))) (.cells (AD.c (B8 (KJ b) types (Kj l).2).2) 146))
abbrev Z1T:AD:=(B8 (AC.mk b.Layers b.Outline b.Parts [] [] [] [] [] [] [] [] [] []) types (AB (AD.mk (Aa l 6) 0) 3).2).2
def Z1U:AE:=(B8 (AC.mk b.Layers b.Outline b.Parts [] [] [] [] [] [] [] [] [] []) types (AB (AD.mk (Aa l 6) 0) 3).2).1
def Z1V:CT:=(48,(FX:List Av).map (CC 1000 189),wrI 189 (.cells (AD.c (Z1T b types l)) 146) (tI (AB (Z1T b types l) 3).1) (.cells (AD.c (AB (Z1T b types l) 3).2) 146))
def Z1W:An:=DT (Al.mk (Z1U b types l).X (Z1U b types l).Y (W64 ((Z1U b types l).X+30)) (W64 ((Z1U b types l).Y+20)))
abbrev Z1X (l:(List (List Int))) (b:AC) (types:(List AV)):AD:=bif decide (((AB (AD.mk (Aa l 6) 0) 3).1:Int)=0) then (AB (Z1T b types l) 3).2 else (AB (AD.mk (Aa l 6) 0) 3).2
def Z1Y (l:(List (List Int))) (b:AC) (types:(List AV)):(List BR):=bif decide (((AB (AD.mk (Aa l 6) 0) 3).1:Int)=0) then [BR.mk 41 (AB (Z1T b types l) 3).1 (Z1W b types l)] else []
def Z1Z (l:(List (List Int))) (b:AC) (types:(List AV)):CT:=(48,(FX:List Av).map (CC 1000 189),wrI 189 (.cells (AD.c (Z1X l b types)) 146) (tI (AB (Z1X l b types) 3).1) (.cells (AD.c (AB (Z1X l b types) 3).2) 146))
def Z20 (l:(List (List Int))) (b:AC) (types:(List AV)):Tv:=tB (decide (((AB (Z1X l b types) 3).1:Int)=0))
def Z21 (l:(List (List Int))) (b:AC) (types:(List AV)):Blk:=.cells (AD.c (AB (Z1X l b types) 3).2) 146
def Z22:CT:=(92,((Tm b types):List Av).map (CC 1000 189),wrI 189 (.cells (AD.c (AB (Z1X l b types) 3).2) 146) (.av (.agg (AE.c (B8 (KJ b) types (AB (Z1X l b types) 3).2).1))) (.cells (AD.c (B8 (KJ b) types (AB (Z1X l b types) 3).2).2) 146))
abbrev Z23:AD:=(B8 (AC.mk b.Layers b.Outline b.Parts [] [] [] [] [] [] [] [] [] []) types (AB (Z1X l b types) 3).2).2
def Z24:AE:=(B8 (AC.mk b.Layers b.Outline b.Parts [] [] [] [] [] [] [] [] [] []) types (AB (Z1X l b types) 3).2).1
def Z25:CT:=(48,(KI:List Av).map (CC 1000 189),wrI 189 (.cells (AD.c (Z23 b types l)) 146) (tI (AB (Z23 b types l) 4).1) (.cells (AD.c (AB (Z23 b types l) 4).2) 146))
def Z26:AN:=EJ (Z24 b types l) (AE.mk (W64 ((Z24 b types l).X+25)) (W64 ((Z24 b types l).Y+10)))
def Z27:Blk:=.row 8 ([]:List A8).length (AU A8.c ([]:List A8)) 92
def Z28:Blk:=.row 8 A6.length (AU A8.c A6) 92
def Z29:Blk:=.row 8 ([]:List Bx).length (AU Bx.c ([]:List Bx)) 89
def Z2a:Blk:=.row 8 Ao.length (AU Bx.c Ao) 89
def Z2b:Blk:=.row 6 ([]:List Aq).length (AU Aq.c ([]:List Aq)) 87
def Z2c:Blk:=.cells (Bc b [.own 100000 6 ([]:List Aq).length,vN,vN,vN,vN,vN,vN,vN,vN]) 40
abbrev Th:List Cl:=(Bc b [.own 100000 6 Ad.length,vN,vN,vN,vN,vN,vN,vN,vN])
def Z2d:Blk:=.cells (Th b Ad) 40
def Z2e:Blk:=.row 6 Ad.length (AU Aq.c Ad) 87
abbrev Hq:List Av:=[.one (.ptr 1000 0),.one (.i 2)]
def Z2f:CT:=(48,(Hq:List Av).map (CC 1000 22),wrI 22 (.cells (AD.c v6) 146) (tI (AB v6 2).1) (.cells (AD.c (AB v6 2).2) 146))
abbrev Ke:=AB (AB v6 2).2 4
def Z2g:CT:=(48,(KI:List Av).map (CC 1000 22),wrI 22 (.cells (AD.c (AB v6 2).2) 146) (tI (Ke v6).1) (.cells (AD.c (Ke v6).2) 146))
def Z2h:CT:=(92,((Tm b types):List Av).map (CC 1000 22),wrI 22 (.cells (AD.c (Ke v6).2) 146) (.av (.agg (AE.c (B8 (KJ b) types (Ke v6).2).1))) (.cells (AD.c (B8 (KJ b) types (Ke v6).2).2) 146))
abbrev Z2i:AD:=(B8 (AC.mk b.Layers b.Outline b.Parts [] [] [] [] [] [] [] [] [] []) types (AB (AB v6 2).2 4).2).2
def Z2j:AE:=(B8 (AC.mk b.Layers b.Outline b.Parts [] [] [] [] [] [] [] [] [] []) types (AB (AB v6 2).2 4).2).1
def Z2k:CT:=(92,((Tm b types):List Av).map (CC 1000 22),wrI 22 (.cells (AD.c (Z2i b types v6)) 146) (.av (.agg (AE.c (B8 (KJ b) types (Z2i b types v6)).1))) (.cells (AD.c (B8 (KJ b) types (Z2i b types v6)).2) 146))
abbrev Z2l:AD:=(B8 (AC.mk b.Layers b.Outline b.Parts [] [] [] [] [] [] [] [] [] []) types (Z2i b types v6)).2
def Z2m:AE:=(B8 (AC.mk b.Layers b.Outline b.Parts [] [] [] [] [] [] [] [] [] []) types (Z2i b types v6)).1
abbrev Rp:=DC (Z2j b types v6) (Z2m b types v6) (Z2l b types v6)
def Z2n:CT:=(91,([.agg (AE.c (Z2j b types v6)),.agg (AE.c (Z2m b types v6)),.one (.ptr 1000 0)]:List Av).map (CC 1000 22),wrI 22 (.cells (AD.c (Z2l b types v6)) 146) (.av (.one (lst 7 AN.c (Rp b types v6).1))) (.cells (AD.c (Rp b types v6).2) 146))
abbrev Z2o:AD:=(DC (Z2j b types v6) (Z2m b types v6) (Z2l b types v6)).2
abbrev Zs (v9:Int) (v7:ByteArray) (v6:AD) (b:AC) (types:List AV):=[Aq.mk (W64 (11+v9)) v7 (W64 (1+(AB v6 2).1)) (An.mk 1 (Rp b types v6).1 (W64 (3+(Ke v6).1)))]
def Z2p (Ad:List Aq) (v9:Int) (v7:ByteArray) (v6:AD) (b:AC) (types:(List AV)):Blk:=.row 6 (Ad++(Zs v9 v7 v6 b types)).length (AU Aq.c (Ad++(Zs v9 v7 v6 b types))) 87
abbrev Zu (b:AC) (Ad:List Aq) (v9:Int) (v7:ByteArray) (v6:AD) (types:List AV):List Cl:=(Bc b [.own 66 6 (Ad++(Zs v9 v7 v6 b types)).length,vN,vN,vN,vN,vN,vN,vN,vN])
def Z2q (b:AC) (Ad:List Aq) (v9:Int) (v7:ByteArray) (v6:AD) (types:(List AV)):Blk:=.cells (Zu b Ad v9 v7 v6 types) 40
def Z2r:CT:=(90,(Oe:List Av).map (F4 1000 1000 1001 22),wqV 1000 22 [6,7,8,9,10,11,12,13,14] (NK b) 40 (.cells (AD.c (Z2o b types v6)) 146) (.av (.one (.s (C8 (JU b) (Z2o b types v6)).1))) (.cells (AD.c (C8 (JU b) (Z2o b types v6)).2) 146))
abbrev Z2s:AD:=(C8 (AC.mk b.Layers b.Outline b.Parts b.Nets [] [] [] [] [] [] [] [] []) (Z2o b types v6)).2
def Z2t:Tv:=.av (.one (.s (C8 (JU b) (Z2o b types v6)).1))
def Z2u:Blk:=.cells (AD.c (Z2s b types v6)) 146
def Z2v:CT:=(90,(Oe:List Av).map (F4 1000 1000 1001 75),wqV 1000 75 [6,7,8,9,10,11,12,13,14] (NK b) 40 (.cells (AD.c v6') 146) (.av (.one (.s (C8 (JU b) v6').1))) (.cells (AD.c (C8 (JU b) v6').2) 146))
abbrev Z2w:AD:=(C8 (AC.mk b.Layers b.Outline b.Parts b.Nets [] [] [] [] [] [] [] [] []) v6').2
def Z2x:CT:=(92,((Tm b types):List Av).map (CC 1000 75),wrI 75 (.cells (AD.c (Z2w b v6')) 146) (.av (.agg (AE.c (B8 (KJ b) types (Z2w b v6')).1))) (.cells (AD.c (B8 (KJ b) types (Z2w b v6')).2) 146))
abbrev Z2y:AD:=(B8 (AC.mk b.Layers b.Outline b.Parts [] [] [] [] [] [] [] [] [] []) types (Z2w b v6')).2
def Z2z:AE:=(B8 (AC.mk b.Layers b.Outline b.Parts [] [] [] [] [] [] [] [] [] []) types (Z2w b v6')).1
abbrev nJ:List Av:=[.one (.ptr 1000 0),.one (.i 5)]
abbrev Kh:List Av:=(nJ:List Av)
def Z2A:CT:=(48,Kh.map (CC 1000 75),wrI 75 (.cells (AD.c (Z2y b types v6')) 146) (tI (AB (Z2y b types v6') 5).1) (.cells (AD.c (AB (Z2y b types v6') 5).2) 146))
def Z2B:CT:=(48,(FX:List Av).map (CC 1000 75),wrI 75 (.cells (AD.c (AB (Z2y b types v6') 5).2) 146) (tI (AB (AB (Z2y b types v6') 5).2 3).1) (.cells (AD.c (AB (AB (Z2y b types v6') 5).2 3).2) 146))
abbrev Z2C:AD:=(AB (AB (Z2y b types v6') 5).2 3).2
def Z2D:Blk:=.cells (AD.c (Z2C b types v6')) 146
abbrev SJ (v11:Int) (b:AC) (v6':AD) (types:List AV):=[Bx.mk (W64 (21+v11)) (C8 (JU b) v6').1 (Z2z b types v6') (W64 (6+(AB (Z2y b types v6') 5).1)) (W64 (4+(W64 (2*(AB (AB (Z2y b types v6') 5).2 3).1)))) 1 2]
def Z2E (Ao:List Bx) (v11:Int) (b:AC) (v6':AD) (types:(List AV)):Blk:=.row 8 (Ao++(SJ v11 b v6' types)).length (AU Bx.c (Ao++(SJ v11 b v6' types))) 89
def Z2F (b:AC) (Ad:List Aq) (Ao:List Bx) (v11:Int) (v6':AD) (types:(List AV)):Blk:=.cells (Bc b [.own 100000 6 Ad.length,.own 108 8 (Ao++(SJ v11 b v6' types)).length,vN,vN,vN,vN,vN,vN,vN]) 40
def Z2G:CT:=(48,(FX:List Av).map (CC 1000 75),wrI 75 (.cells (AD.c v6') 146) (tI (AB v6' 3).1) (.cells (AD.c (AB v6' 3).2) 146))
def Z2H:CT:=(48,(VN:List Av).map (CC 1000 75),wrI 75 (.cells (AD.c v6'') 146) (tI (AB v6'' 12).1) (.cells (AD.c (AB v6'' 12).2) 146))
abbrev KK:=AB (AB v6'' 12).2 12
def Z2I:CT:=(48,(VN:List Av).map (CC 1000 75),wrI 75 (.cells (AD.c (AB v6'' 12).2) 146) (tI (KK v6'').1) (.cells (AD.c (KK v6'').2) 146))
def Z2J:CT:=(48,(OY:List Av).map (CC 1000 75),wrI 75 (.cells (AD.c (KK v6'').2) 146) (tI (AB (KK v6'').2 6).1) (.cells (AD.c (AB (KK v6'').2 6).2) 146))
abbrev Z2K:AD:=(AB (AB (AB v6'' 12).2 12).2 6).2
def Z2L:CT:=(48,Kh.map (CC 1000 75),wrI 75 (.cells (AD.c (Z2K v6'')) 146) (tI (AB (Z2K v6'') 5).1) (.cells (AD.c (AB (Z2K v6'') 5).2) 146))
abbrev SE:=C8 (JU b) (AB (Z2K v6'') 5).2
def Z2M:CT:=(90,(Oe:List Av).map (F4 1000 1000 1001 75),wqV 1000 75 [6,7,8,9,10,11,12,13,14] (NK b) 40 (.cells (AD.c (AB (Z2K v6'') 5).2) 146) (.av (.one (.s (SE b v6'').1))) (.cells (AD.c (SE b v6'').2) 146))
abbrev Z2N:AD:=(C8 (AC.mk b.Layers b.Outline b.Parts b.Nets [] [] [] [] [] [] [] [] []) (AB (Z2K v6'') 5).2).2
def Z2O:CT:=(48,(Hq:List Av).map (CC 1000 75),wrI 75 (.cells (AD.c (Z2N b v6'')) 146) (tI (AB (Z2N b v6'') 2).1) (.cells (AD.c (AB (Z2N b v6'') 2).2) 146))
abbrev Vj:=AB (AB (Z2N b v6'') 2).2 3
def Z2P:CT:=(48,(FX:List Av).map (CC 1000 75),wrI 75 (.cells (AD.c (AB (Z2N b v6'') 2).2) 146) (tI (Vj b v6'').1) (.cells (AD.c (Vj b v6'').2) 146))
abbrev Z2Q:AD:=(AB (AB (Z2N b v6'') 2).2 3).2
def Z2R:CT:=(48,(Hq:List Av).map (CC 1000 75),wrI 75 (.cells (AD.c (Z2Q b v6'')) 146) (tI (AB (Z2Q b v6'') 2).1) (.cells (AD.c (AB (Z2Q b v6'') 2).2) 146))
abbrev Vi:=AB (AB (Z2Q b v6'') 2).2 4
def Z2S:CT:=(48,(KI:List Av).map (CC 1000 75),wrI 75 (.cells (AD.c (AB (Z2Q b v6'') 2).2) 146) (tI (Vi b v6'').1) (.cells (AD.c (Vi b v6'').2) 146))
abbrev Z2T:AD:=(AB (AB (Z2Q b v6'') 2).2 4).2
def Z2U:CT:=(48,(OY:List Av).map (CC 1000 75),wrI 75 (.cells (AD.c (Z2T b v6'')) 146) (tI (AB (Z2T b v6'') 6).1) (.cells (AD.c (AB (Z2T b v6'') 6).2) 146))
abbrev Nf:=[Al.mk (AB v6'' 12).1 (KK v6'').1 (W64 ((W64 ((AB v6'' 12).1+1))+(AB (KK v6'').2 6).1)) (W64 ((W64 ((KK v6'').1+1))+(AB (Z2K v6'') 5).1))]
abbrev Rg (v12:Int) (b:AC) (v6'':AD) (t_:List Cl):List Cl:=(.i (W64 (31+v12)))::(.s (SE b v6'').1)::(.i (W64 (1+(AB (Z2N b v6'') 2).1)))::(.i (W64 (20+(W64 (5*(Vj b v6'').1)))))::(.i (AB (Z2Q b v6'') 2).1)::(.i (([0,0,5,9]:List Int).getD (Vi b v6'').1.toNat 0))::(.i (W64 (4+(AB (Z2T b v6'') 6).1)))::t_
def Z2V (v12:Int) (b:AC) (v6'':AD):Blk:=.cells (Rg v12 b v6'' [.own 158 4 ((Nf v6'').length)]) 92
def Z2W:Blk:=.row 4 ((Nf v6'').length) (AU Al.c (Nf v6'')) 74
def Z2X:CT:=(48,(FX:List Av).map (CC 1000 75),wrI 75 (.cells (AD.c (AB (Z2T b v6'') 6).2) 146) (tI (AB (AB (Z2T b v6'') 6).2 3).1) (.cells (AD.c (AB (AB (Z2T b v6'') 6).2 3).2) 146))
abbrev Z2Y:AD:=(AB (AB (Z2T b v6'') 6).2 3).2
def Z2Z:Blk:=.cells (AD.c (Z2Y b v6'')) 146
abbrev Vl:=[Al.mk (W64 ((AB v6'' 12).1-2)) (KK v6'').1 (W64 ((AB v6'' 12).1+1)) (W64 ((KK v6'').1+2))]
def Z30:Blk:=.row 4 ((Nf v6'')++(Vl v6'')).length (AU Al.c ((Nf v6'')++(Vl v6''))) 74
def Z31:(List Al):=bif decide (((AB (AB (Z2T b v6'') 6).2 3).1:Int)=0) then ([Al.mk (AB v6'' 12).1 (AB (AB v6'' 12).2 12).1 (W64 ((W64 ((AB v6'' 12).1+1))+(AB (AB (AB v6'' 12).2 12).2 6).1)) (W64 ((W64 ((AB (AB v6'' 12).2 12).1+1))+(AB (Z2K v6'') 5).1))]++[Al.mk (W64 ((AB v6'' 12).1-2)) (AB (AB v6'' 12).2 12).1 (W64 ((AB v6'' 12).1+1)) (W64 ((AB (AB v6'' 12).2 12).1+2))]) else [Al.mk (AB v6'' 12).1 (AB (AB v6'' 12).2 12).1 (W64 ((W64 ((AB v6'' 12).1+1))+(AB (AB (AB v6'' 12).2 12).2 6).1)) (W64 ((W64 ((AB (AB v6'' 12).2 12).1+1))+(AB (Z2K v6'') 5).1))]
abbrev SM (v12:Int) (b:AC) (v6'':AD):=[A8.mk (W64 (31+v12)) (SE b v6'').1 (W64 (1+(AB (Z2N b v6'') 2).1)) (W64 (20+(W64 (5*(Vj b v6'').1)))) (AB (Z2Q b v6'') 2).1 (([0,0,5,9]:List Int).getD (Vi b v6'').1.toNat 0) (W64 (4+(AB (Z2T b v6'') 6).1)) (Z31 b v6'')]
def Z32 (A6:List A8) (v12:Int) (b:AC) (v6'':AD):Blk:=.row 8 (A6++(SM v12 b v6'')).length (AU A8.c (A6++(SM v12 b v6''))) 92
def Z33 (b:AC) (Ad:List Aq) (v9:Int) (v7:ByteArray) (v6:AD) (types:(List AV)):Blk:=.cells (Bc b [.own 100000 6 (Ad++(Zs v9 v7 v6 b types)).length,vN,vN,vN,vN,vN,vN,vN,vN]) 40
def Z34:Blk:=.cells (Bc b [.own 100000 6 Ad.length,.own 100001 8 ([]:List Bx).length,vN,vN,vN,vN,vN,vN,vN]) 40
abbrev G4 (t_:List Cl):List Cl:=(.own 100000 6 Ad.length)::(.own 100001 8 Ao.length)::t_
abbrev Ti:List Cl:=(Bc b (G4 Ad Ao [vN,vN,vN,vN,vN,vN,vN]))
def Z35:Blk:=.cells (Ti b Ad Ao) 40
def Z36:Blk:=.cells (Bc b (G4 Ad Ao [.own 183 8 (A6++(SM v12 b v6'')).length,vN,vN,vN,vN,vN,vN])) 40
def Z37 (b:AC) (Ad:List Aq) (Ao:List Bx) (v11:Int) (v6':AD) (types:(List AV)):Blk:=.cells (Bc b [.own 100000 6 Ad.length,.own 100001 8 (Ao++(SJ v11 b v6' types)).length,vN,vN,vN,vN,vN,vN,vN]) 40
def Z38:Blk:=.cells (Bc b (G4 Ad Ao [.own 100002 8 ([]:List A8).length,vN,vN,vN,vN,vN,vN])) 40
abbrev Tl:List Cl:=(Bc b (G4 Ad Ao [.own 100002 8 A6.length,vN,vN,vN,vN,vN,vN]))
def Z39:Blk:=.cells (Tl b Ad Ao A6) 40
abbrev aG (b:AC) (Ad:List Aq) (Ao:List Bx) (A6:List A8) (l:List (List Int)) (types:List AV):List Cl:=(Bc b (G4 Ad Ao [.own 100002 8 A6.length,lst 5 BR.c (Z1Y l b types),vN,vN,vN,vN,vN]))
def Z3a (b:AC) (Ad:List Aq) (Ao:List Bx) (A6:List A8) (l:(List (List Int))) (types:(List AV)):Blk:=.cells (aG b Ad Ao A6 l types) 40
def Z3b (v12:Int) (b:AC) (v6'':AD):Blk:=.cells (Rg v12 b v6'' [.own 100003 4 ((Nf v6'')++(Vl v6'')).length]) 92
def Z3c (v12:Int) (b:AC) (v6'':AD):Blk:=.cells (Rg v12 b v6'' [.own 100003 4 ((Nf v6'').length)]) 92
def Z3d:Blk:=.cells (Bc b (G4 Ad Ao [.own 100002 8 (A6++(SM v12 b v6'')).length,vN,vN,vN,vN,vN,vN])) 40
def CX (b:AC) (types:(List AV)) (l:(List (List Int))) (Ad:List Aq) (v6:AD) (v7:ByteArray) (v9:Int) (Ao:List Bx) (v6':AD) (v11:Int) (K0:List Aq->AD->ByteArray->Int->AC) (K1:List Bx->AD->Int->AC):Nat->List A8->AD->Int->AC
 | 0,_,_,_=>default
 | n2+1,A6,v6'',v12=>bif decide ((v12:Int)<(AB v6' 3).1) then ((CX b types l Ad v6 v7 v9 Ao v6' v11 K0 K1 n2) (A6++[A8.mk (W64 (31+v12)) (C8 (AC.mk b.Layers b.Outline b.Parts b.Nets [] [] [] [] [] [] [] [] []) (AB (Z2K v6'') 5).2).1 (W64 (1+(AB (Z2N b v6'') 2).1)) (W64 (20+(W64 (5*(AB (AB (Z2N b v6'') 2).2 3).1)))) (AB (Z2Q b v6'') 2).1 (([0,0,5,9]:List Int).getD (AB (AB (Z2Q b v6'') 2).2 4).1.toNat 0) (W64 (4+(AB (Z2T b v6'') 6).1)) (Z31 b v6'')]) (Z2Y b v6'') (v12+1)) else (bif decide (((AB (Z1X l b types) 3).1:Int)=0) then (AC.mk b.Layers b.Outline b.Parts b.Nets Ad Ao A6 (Z1Y l b types) [Bq.mk 51 (An.mk 1 [Z26 b types l] (W64 (3+(AB (Z23 b types l) 4).1)))] [] [] [] []) else (AC.mk b.Layers b.Outline b.Parts b.Nets Ad Ao A6 (Z1Y l b types) [] [] [] [] []))
def Cp (b:AC) (types:(List AV)) (l:(List (List Int))) (Ad:List Aq) (v6:AD) (v7:ByteArray) (v9:Int) (K0:List Aq->AD->ByteArray->Int->AC):Nat->List Bx->AD->Int->AC
 | 0,_,_,_=>default
 | n1+1,Ao,v6',v11=>bif decide ((v11:Int)<(AB (AD.mk (Aa l 5) 0) 3).1) then ((Cp b types l Ad v6 v7 v9 K0 n1) (Ao++[Bx.mk (W64 (21+v11)) (C8 (AC.mk b.Layers b.Outline b.Parts b.Nets [] [] [] [] [] [] [] [] []) v6').1 (Z2z b types v6') (W64 (6+(AB (Z2y b types v6') 5).1)) (W64 (4+(W64 (2*(AB (AB (Z2y b types v6') 5).2 3).1)))) 1 2]) (Z2C b types v6') (v11+1)) else (CX b types l Ad v6 v7 v9 Ao v6' v11 K0 (Cp b types l Ad v6 v7 v9 K0 n1) (((AB v6' 3).1-0).toNat+1) ([]:List A8) (AB v6' 3).2 0)
def CO (b:AC) (types:(List AV)) (l:(List (List Int))):Nat->List Aq->AD->ByteArray->Int->AC
 | 0,_,_,_,_=>default
 | n0+1,Ad,v6,v7,v9=>bif decide ((v9:Int)<(AB (Z1J b l) 6).1) then ((CO b types l n0) (Ad++[Aq.mk (W64 (11+v9)) v7 (W64 (1+(AB v6 2).1)) (An.mk 1 (DC (Z2j b types v6) (Z2m b types v6) (Z2l b types v6)).1 (W64 (3+(AB (AB v6 2).2 4).1)))]) (Z2s b types v6) (C8 (AC.mk b.Layers b.Outline b.Parts b.Nets [] [] [] [] [] [] [] [] []) (Z2o b types v6)).1 (v9+1)) else (Cp b types l Ad v6 v7 v9 (CO b types l n0) (((AB (AD.mk (Aa l 5) 0) 3).1-0).toNat+1) ([]:List Bx) (AB (AD.mk (Aa l 5) 0) 3).2 0)
def Ba (b:AC) (types:(List AV)) (l:(List (List Int))):AC:=CO b types l (((AB (Z1J b l) 6).1-0).toNat+1) ([]:List Aq) (AB (Z1J b l) 6).2 (C8 (AC.mk b.Layers b.Outline b.Parts b.Nets [] [] [] [] [] [] [] [] []) (AD.mk (Aa l 4) 0)).1 0
abbrev DE:Nat×Blk:=(100000,Z2e Ad)
abbrev Fl (t_:List (Nat×Tv)):List (Nat×Tv):=(0,tP 1000 0)::(EL types)::(2,Z1G l)::(6,tP 75 0)::t_
abbrev JR:Nat×Tv:=(8,tI (AB v6' 3).1)
abbrev R5 (types:List AV) (l:List (List Int)) (v6':AD) (v12:Int):List (Nat×Tv):=(Fl types l [(JR v6'),(12,tI v12),(16,tP 16 0)])
abbrev D6:Nat×Blk:=(100001,Z2a Ao)
abbrev OV:List (Nat×Tv):=[(0,tP 1000 0),(EL types),(6,tP 189 0)]
abbrev Fo:Nat×Blk:=(100002,Z28 A6)
abbrev Kg:Nat×Tv:=(8,tI (AB (Z1J b l) 6).1)
abbrev Z0 (v12:Int) (b:AC) (v6'':AD) (t_:List Cl):List Cl:=(.i (W64 (31+v12)))::(.s (SE b v6'').1)::(.i (W64 (1+(AB (Z2N b v6'') 2).1)))::(.i (W64 (20+(W64 (5*(AB (AB (Z2N b v6'') 2).2 3).1)))))::(.i (AB (Z2Q b v6'') 2).1)::(.i (([0,0,5,9]:List Int).getD (AB (AB (Z2Q b v6'') 2).2 4).1.toNat 0))::(.i (W64 (4+(AB (Z2T b v6'') 6).1)))::t_
abbrev KZ (t_:List (Nat×Tv)):List (Nat×Tv):=(0,tP 1000 0)::(EL types)::(2,Z1G l)::(6,tP 22 0)::t_
theorem au7 {p:Prop} (h:p:=by repeat (first | with_reducible assumption | exact DA (Dt hll _) | with_reducible refine Bl ?_ | with_reducible refine E9 ?_ | with_reducible refine D3 ?_ | with_reducible refine Dl ?_  | with_reducible refine DK ?_ ?_)):p:=h
set_option maxHeartbeats 2000000 in
theorem WS  (b:AC) (types:(List AV)) (l:(List (List Int))) (hb:(b.Parts.length:Int)<=1000000) (ht:(types.length:Int)<=1000000) (hg:N3 b types) (hn:1<=(b.Nets.length:Int)/\(b.Nets.length:Int)<=1000000) (hl:(l.length:Int)<=9223372036854775807) (hll:∀ x∈l,(x.length:Int)<=9223372036854775807):Wr Tryz.prog 50 1000 [.one (.ptr 1000 0),.one (lst 3 AV.c types),.one (lst 1 (fun x=>[lst 1 eIn x]) l)] (.cells [.i b.Layers,.i b.Outline.Kind,lst 7 AN.c b.Outline.Edges,.i b.Outline.R,lst 7 AF.c b.Parts,lst 2 BA.c b.Nets,vN,vN,vN,vN,vN,vN,vN,vN,vN] 40) (.tup []) (.cells [.i (Ba b types l).Layers,.i (Ba b types l).Outline.Kind,lst 7 AN.c (Ba b types l).Outline.Edges,.i (Ba b types l).Outline.R,lst 7 AF.c (Ba b types l).Parts,lst 2 BA.c (Ba b types l).Nets,lst 6 Aq.c (Ba b types l).Tracks,lst 8 Bx.c (Ba b types l).Vias,lst 8 A8.c (Ba b types l).Pours,lst 5 BR.c (Ba b types l).Keeps,lst 4 Bq.c (Ba b types l).Slots,vN,vN,vN,vN] 40):=by
 refine Ht Tryz.func50 rfl kr kr kr kr fun W0 M0 X hX => ?_
 refine AA<|oq 20 (Ex l 4) (GX l 4 au12)<|AG<|AA ?_
 refine oc [(25,(Z1I b l))] [Ay (Z1I b l).2.1,Blk.cells (Zo b) 40=Blk.cells (P9 [6,7,8,9,10,11,12,13,14] 0 (Zo b) (NK b)) 40,CH (.cells [lst 1 eIn (Aa l 4),.i 0] 146)] (.cons (Iz (B0:=fun vs=>(Bc b [.val (vs 6),.val (vs 7),.val (vs 8),.val (vs 9),.val (vs 10),.val (vs 11),.val (vs 12),.val (vs 13),.val (vs 14)])) (fun _ _=>kr) kr rfl rfl kr (fun vs=>by kernel_rfl) (fun vs=>by kernel_rfl) (fun vs=>SX (AC.mk b.Layers b.Outline b.Parts b.Nets [] [] [] [] [] [] [] [] []) (AD.mk (Aa l 4) 0) vs au7 oM)) .nil) (.cons rfl (.cons rfl (.cons rfl .nil)))<|AG<|AA ?_
 refine rb 27 (Z1L b l) (.cells (AD.c (Z1J b l)) 146) ⟨(KZ types l [(7,Z1K b l),(Kg b l)]),[(22,Z1M b l),(1000,Z1H b)]⟩ (cWr (Bp (Z1J b l) 6 au7 au10))<|AG ?_
 refine AA<|AA ?_
 refine rn ⟨(KZ types l [(7,Z1K b l),(Kg b l),(9,tI 0)]),[(22,Z1M b l),(1000,Z1H b)]⟩<|AQ ?_
 refine Ap (Cv.trans (vg 100000 6 (fun _ _=>default) 87 [] [(1000,[6])] (K:=[1000]) hX) (Cv.trans (A2 100000 (CI 6 (fun _ _=>default) Aq.c)) (Cv.trans (ck (⟨(KZ types l [(7,Z1K b l),(Kg b l),(9,tI 0)]),[(22,Z1M b l),(1000,Z2c b),(100000,Z2b)]⟩)) (Cv.refl _)))) ?_
 refine BP (ι:=Nat×List Aq×AD×ByteArray×Int) (fun x=>⟨(KZ types l [(7,tO (.s x.2.2.2.1)),(Kg b l),(9,tI x.2.2.2.2)]),[(22,.cells (AD.c x.2.2.1) 146),(1000,.cells (Bc b [.own 100000 6 x.2.1.length,vN,vN,vN,vN,vN,vN,vN,vN]) 40),(100000,.row 6 x.2.1.length (AU Aq.c x.2.1) 87)]⟩) (fun x=>((AB (Z1J b l) 6).1-x.2.2.2.2).toNat<x.1/\(B2 x.2.2.1/\0<=x.2.2.2.2/\(x.2.2.2.2<=(AB (Z1J b l) 6).1\/x.2.2.2.2=0)/\(x.2.1.length:Int)<=0+1*(x.2.2.2.2-0))/\CO b types l x.1 x.2.1 x.2.2.1 x.2.2.2.1 x.2.2.2.2=Ba b types l) (fun x=>x.1) ?_ (((AB (Z1J b l) 6).1-0).toNat+1,([]:List Aq),(AB (Z1J b l) 6).2,(C8 (AC.mk b.Layers b.Outline b.Parts b.Nets [] [] [] [] [] [] [] [] []) (AD.mk (Aa l 4) 0)).1,0) ⟨Nat.lt_succ_self _,⟨(by show B2 ((AB (Z1J b l) 6).2);repeat (first | with_reducible assumption | exact DA (Dt hll _) | with_reducible refine Bl ?_ | with_reducible refine E9 ?_ | with_reducible refine D3 ?_ | with_reducible refine Dl ?_  | with_reducible refine DK ?_ ?_)),ax0,ax0,ax0⟩,(by simp only [Ba,cond_true,cond_false])⟩
 rintro ⟨n0,Ad,v6,v7,v9⟩ ⟨hm0,hinv0,hF0⟩
 try dsimp only at hm0 hinv0 hF0
 cases n0 with | zero=>exact nz hm0 | succ n0 => ?_
 have hi0_0:=hinv0.1
 refine AA<|AA ?_
 refine rn ⟨(KZ types l [(7,tO (.s v7)),(Kg b l),(9,tI v9),(30,tB (decide ((v9:Int)<(AB (Z1J b l) 6).1)))]),[(22,.cells (AD.c v6) 146),(1000,Z2d b Ad),(DE Ad)]⟩ ?_
 refine AO _ rfl (fun h1 => ?_) (fun h1 => ?_)
 ·have g1:=oT h1
  have k1:=Sr g1 (by decide) (by decide)
  refine AZ<|AG ?_
  refine AA<|AQ<|AA ?_
  refine rb 37 (Z2f v6) (.cells (AD.c v6) 146) ⟨(KZ types l [(Kg b l),(9,tI v9),(10,tP 10 0)]),[(10,.cells [.i (W64 (11+v9)),.s v7,.i (W64 (1+(AB v6 2).1)),.i 0,vN,.i 0] 87),(22,.cells (AD.c (AB v6 2).2) 146),(1000,Z2d b Ad),(DE Ad)]⟩ (cWr (Bp v6 2 au7 au10))<|AG<|AA ?_
  refine od [] [(41,(Z2g v6)),(48,ceI [.agg (Th b Ad),.one (I7 types),.one (.ptr 22 0)] (Z2h b types v6)),(54,ceI [.agg (Th b Ad),.one (I7 types),.one (.ptr 22 0)] (Z2k b types v6)),(56,(Z2n b types v6))] [Ay (Z2g v6).2.1,CH (.cells (AD.c (AB v6 2).2) 146),Ay (ceI [.agg (Th b Ad),.one (lst 3 AV.c types),.one (.ptr 22 0)] (Z2h b types v6)).2.1,CH (.cells (AD.c (AB (AB v6 2).2 4).2) 146),Ay (ceI [.agg (Th b Ad),.one (lst 3 AV.c types),.one (.ptr 22 0)] (Z2k b types v6)).2.1,CH (.cells (AD.c (Z2i b types v6)) 146),Ay (Z2n b types v6).2.1,CH (.cells (AD.c (Z2l b types v6)) 146)] (.cons (cWr (Bp (AB v6 2).2 4 au7 au10)) (.cons (Ck (cWr (LW (AC.mk b.Layers b.Outline b.Parts [] [] [] [] [] [] [] [] [] []) types (AB (AB v6 2).2 4).2 au7 oM oM (by assumption))) (.cons (.agg (rr5 (.cons (.any _) (.cons (.any _) (.cons (.any _) (.cons (.any _) (.cons (.any _) (.cons (.any _) (.cons (.any _) (.cons (.any _) (.cons (.any _) (.cons (.any _) .nil)))))))))))) (.cons (AvE.refl _) (.cons (AvE.refl _) .nil)))) (.cons (Ck (cWr (LW (AC.mk b.Layers b.Outline b.Parts [] [] [] [] [] [] [] [] [] []) types (Z2i b types v6) au7 oM oM (by assumption))) (.cons (.agg (rr5 (.cons (.any _) (.cons (.any _) (.cons (.any _) (.cons (.any _) (.cons (.any _) (.cons (.any _) (.cons (.any _) (.cons (.any _) (.cons (.any _) (.cons (.any _) .nil)))))))))))) (.cons (AvE.refl _) (.cons (AvE.refl _) .nil)))) (.cons (cWr (dI (Z2j b types v6) (Z2m b types v6) (Z2l b types v6) au7)) .nil)))) (.cons rfl (.cons rfl (.cons rfl (.cons rfl (.cons rfl (.cons rfl (.cons rfl (.cons rfl .nil))))))))<|AG<|AA ?_
  refine od [] [] [Ad.length=Ad.length,Ad.length+1<=maxLen,(Ad.length+1)*72<=140737488355328] .nil (.cons rfl (.cons au3 (.cons au3 .nil)))<|AG ?_
  refine Ap (A2 66 (Au (Am 6 Aq.c Ad) (A0 6 Aq.c ([Aq.mk (W64 (11+v9)) v7 (W64 (1+(AB v6 2).1)) (An.mk 1 (DC (Z2j b types v6) (Z2m b types v6) (Z2l b types v6)).1 (W64 (3+(AB (AB v6 2).2 4).1)))]:List Aq)))) ?_
  refine oc [(71,(Z2r b types v6))] [Ay (Z2r b types v6).2.1,Blk.cells (Zu b Ad v9 v7 v6 types) 40=Blk.cells (P9 [6,7,8,9,10,11,12,13,14] 0 (Zu b Ad v9 v7 v6 types) (NK b)) 40,CH (.cells (AD.c (Z2o b types v6)) 146)] (.cons (Iz (B0:=fun vs=>(Bc b [.val (vs 6),.val (vs 7),.val (vs 8),.val (vs 9),.val (vs 10),.val (vs 11),.val (vs 12),.val (vs 13),.val (vs 14)])) (fun _ _=>kr) kr rfl rfl kr (fun vs=>by kernel_rfl) (fun vs=>by kernel_rfl) (fun vs=>SX (AC.mk b.Layers b.Outline b.Parts b.Nets [] [] [] [] [] [] [] [] []) (Z2o b types v6) vs au7 oM)) .nil) (.cons rfl (.cons rfl (.cons rfl .nil)))<|A3<|AG ?_
  refine rg ⟨(KZ types l [(7,Z2t b types v6),(Kg b l),(9,tI (W64 (v9+1)))]),[(22,Z2u b types v6),(66,Z2p Ad v9 v7 v6 b types),(1000,Z2q b Ad v9 v7 v6 types)]⟩ ?_
  (try rw [(show W64 (v9+1)=v9+1 from Az oM au6)])
  refine AG ?_
  refine ⟨(n0,Ad++[Aq.mk (W64 (11+v9)) v7 (W64 (1+(AB v6 2).1)) (An.mk 1 (DC (Z2j b types v6) (Z2m b types v6) (Z2l b types v6)).1 (W64 (3+(AB (AB v6 2).2 4).1)))],Z2s b types v6,(C8 (AC.mk b.Layers b.Outline b.Parts b.Nets [] [] [] [] [] [] [] [] []) (Z2o b types v6)).1,v9+1),⟨?_,?_,(by rw [<- hF0];simp only [CO,h1,cond_true,cond_false])⟩,Nat.lt_succ_self _,Cv.trans (vr 66 100000 (K:=[1000]) hX) (Cv.trans (vk [0,1,2,6,7,8,9] [22,1000,100000]) (BE kr))⟩
  ·show ((AB (Z1J b l) 6).1-(v9+1)).toNat<n0;omega
  exact ⟨(by show B2 (Z2s b types v6);repeat (first | with_reducible assumption | exact DA (Dt hll _) | with_reducible refine Bl ?_ | with_reducible refine E9 ?_ | with_reducible refine D3 ?_ | with_reducible refine Dl ?_  | with_reducible refine DK ?_ ?_)),ax0,ax0,ax0⟩
 have g1:=oF h1
 refine BH<|A5 ?_
 refine A5<|BI ?_
 refine AG<|AA ?_
 refine oq 73 (Ex l 5) (GX l 5 au12)<|AG<|AA ?_
 refine rb 77 (Z1N l) (.cells [lst 1 eIn (Aa l 5),.i 0] 146) ⟨(Fl types l [(8,Z1O l)]),[(75,Z1P l),(1000,Z2d b Ad),(DE Ad)]⟩ (cWr (Bp (AD.mk (Aa l 5) 0) 3 au7 au10))<|AG ?_
 refine AA<|AA ?_
 refine rn ⟨(Fl types l [(8,Z1O l),(11,tI 0)]),[(75,Z1P l),(1000,Z2d b Ad),(DE Ad)]⟩<|AQ ?_
 refine Ap (Cv.trans (vg 100001 8 (fun _ _=>default) 89 [] [(1000,[7])] (K:=[1000]) hX) (Cv.trans (A2 100001 (CI 8 (fun _ _=>default) Bx.c)) (Cv.trans (ck (⟨(Fl types l [(8,Z1O l),(11,tI 0)]),[(75,Z1P l),(1000,Z34 b Ad),(DE Ad),(100001,Z29)]⟩)) (Cv.refl _)))) ?_
 refine BP (ι:=Nat×List Bx×AD×Int) (fun x=>⟨(Fl types l [(8,Z1O l),(11,tI x.2.2.2)]),[(75,.cells (AD.c x.2.2.1) 146),(1000,.cells (Bc b [.own 100000 6 Ad.length,.own 100001 8 x.2.1.length,vN,vN,vN,vN,vN,vN,vN]) 40),(DE Ad),(100001,.row 8 x.2.1.length (AU Bx.c x.2.1) 89)]⟩) (fun x=>((AB (AD.mk (Aa l 5) 0) 3).1-x.2.2.2).toNat<x.1/\(B2 x.2.2.1/\0<=x.2.2.2/\(x.2.2.2<=(AB (AD.mk (Aa l 5) 0) 3).1\/x.2.2.2=0)/\(x.2.1.length:Int)<=0+1*(x.2.2.2-0))/\Cp b types l Ad v6 v7 v9 (CO b types l n0) x.1 x.2.1 x.2.2.1 x.2.2.2=Ba b types l) (fun x=>x.1) ?_ (((AB (AD.mk (Aa l 5) 0) 3).1-0).toNat+1,([]:List Bx),(AB (AD.mk (Aa l 5) 0) 3).2,0) ⟨Nat.lt_succ_self _,⟨(by show B2 ((AB (AD.mk (Aa l 5) 0) 3).2);repeat (first | with_reducible assumption | exact DA (Dt hll _) | with_reducible refine Bl ?_ | with_reducible refine E9 ?_ | with_reducible refine D3 ?_ | with_reducible refine Dl ?_  | with_reducible refine DK ?_ ?_)),ax0,ax0,ax0⟩,(by rw [<- hF0];simp only [CO,h1,cond_true,cond_false])⟩
 rintro ⟨n1,Ao,v6',v11⟩ ⟨hm1,hinv1,hF1⟩
 try dsimp only at hm1 hinv1 hF1
 cases n1 with | zero=>exact nz hm1 | succ n1 => ?_
 have hi1_0:=hinv1.1
 refine AA<|AA ?_
 refine rn ⟨(Fl types l [(8,Z1O l),(11,tI v11),(80,tB (decide ((v11:Int)<(AB (AD.mk (Aa l 5) 0) 3).1)))]),[(75,.cells (AD.c v6') 146),(1000,Z35 b Ad Ao),(DE Ad),(D6 Ao)]⟩ ?_
 refine AO _ rfl (fun h2 => ?_) (fun h2 => ?_)
 ·have g2:=oT h2
  have k2:=Sr g2 (by decide) (by decide)
  refine AZ<|AG ?_
  refine AA<|AQ ?_
  refine od [] [(92,(Z2v b v6')),(98,ceI [.agg (Ti b Ad Ao),.one (I7 types),.one (.ptr 75 0)] (Z2x b types v6')),(100,(Z2A b types v6')),(103,(Z2B b types v6'))] [Ay (Z2v b v6').2.1,Blk.cells (Ti b Ad Ao) 40=Blk.cells (P9 [6,7,8,9,10,11,12,13,14] 0 (Ti b Ad Ao) (NK b)) 40,CH (.cells (AD.c v6') 146),Ay (ceI [.agg (Ti b Ad Ao),.one (lst 3 AV.c types),.one (.ptr 75 0)] (Z2x b types v6')).2.1,CH (.cells (AD.c (Z2w b v6')) 146),Ay (Z2A b types v6').2.1,CH (.cells (AD.c (Z2y b types v6')) 146),Ay (Z2B b types v6').2.1,CH (.cells (AD.c (AB (Z2y b types v6') 5).2) 146),Ao.length=Ao.length,Ao.length+1<=maxLen,(Ao.length+1)*72<=140737488355328] (.cons (Iz (B0:=fun vs=>(Bc b [.val (vs 6),.val (vs 7),.val (vs 8),.val (vs 9),.val (vs 10),.val (vs 11),.val (vs 12),.val (vs 13),.val (vs 14)])) (fun _ _=>kr) kr rfl rfl kr (fun vs=>by kernel_rfl) (fun vs=>by kernel_rfl) (fun vs=>SX (AC.mk b.Layers b.Outline b.Parts b.Nets [] [] [] [] [] [] [] [] []) v6' vs au7 oM)) (.cons (Ck (cWr (LW (AC.mk b.Layers b.Outline b.Parts [] [] [] [] [] [] [] [] [] []) types (Z2w b v6') au7 oM oM (by assumption))) (.cons (.agg (rr5 (.cons (.any _) (.cons (.any _) (.cons (.any _) (.cons (.any _) (.cons (.any _) (.cons (.any _) (.cons (.any _) (.cons (.any _) (.cons (.any _) (.cons (.any _) .nil)))))))))))) (.cons (AvE.refl _) (.cons (AvE.refl _) .nil)))) (.cons (cWr (Bp (Z2y b types v6') 5 au7 au10)) (.cons (cWr (Bp (AB (Z2y b types v6') 5).2 3 au7 au10)) .nil)))) (.cons rfl (.cons rfl (.cons rfl (.cons rfl (.cons rfl (.cons rfl (.cons rfl (.cons rfl (.cons rfl (.cons rfl (.cons au3 (.cons au3 .nil))))))))))))<|A3<|AG ?_
  refine Ap (A2 108 (Au (Am 8 Bx.c Ao) (A0 8 Bx.c ([Bx.mk (W64 (21+v11)) (C8 (AC.mk b.Layers b.Outline b.Parts b.Nets [] [] [] [] [] [] [] [] []) v6').1 (Z2z b types v6') (W64 (6+(AB (Z2y b types v6') 5).1)) (W64 (4+(W64 (2*(AB (AB (Z2y b types v6') 5).2 3).1)))) 1 2]:List Bx)))) ?_
  refine rg ⟨(Fl types l [(8,Z1O l),(11,tI (W64 (v11+1)))]),[(75,Z2D b types v6'),(108,Z2E Ao v11 b v6' types),(1000,Z2F b Ad Ao v11 v6' types),(DE Ad)]⟩ ?_
  (try rw [(show W64 (v11+1)=v11+1 from Az oM au6)])
  refine AG ?_
  refine ⟨(n1,Ao++[Bx.mk (W64 (21+v11)) (C8 (AC.mk b.Layers b.Outline b.Parts b.Nets [] [] [] [] [] [] [] [] []) v6').1 (Z2z b types v6') (W64 (6+(AB (Z2y b types v6') 5).1)) (W64 (4+(W64 (2*(AB (AB (Z2y b types v6') 5).2 3).1)))) 1 2],Z2C b types v6',v11+1),⟨?_,?_,(by rw [<- hF1];simp only [Cp,h2,cond_true,cond_false])⟩,Nat.lt_succ_self _,Cv.trans (vr 108 100001 (K:=[1000]) hX) (Cv.trans (vk [0,1,2,6,8,11] [75,1000,100000,100001]) (BE kr))⟩
  ·show ((AB (AD.mk (Aa l 5) 0) 3).1-(v11+1)).toNat<n1;omega
  exact ⟨(by show B2 (Z2C b types v6');repeat (first | with_reducible assumption | exact DA (Dt hll _) | with_reducible refine Bl ?_ | with_reducible refine E9 ?_ | with_reducible refine D3 ?_ | with_reducible refine Dl ?_  | with_reducible refine DK ?_ ?_)),ax0,ax0,ax0⟩
 have g2:=oF h2
 refine BH<|A5 ?_
 refine A5<|BI ?_
 refine AG<|AA ?_
 refine rb 112 (Z2G v6') (.cells (AD.c v6') 146) ⟨(Fl types l [(JR v6')]),[(75,.cells (AD.c (AB v6' 3).2) 146),(1000,Z35 b Ad Ao),(DE Ad),(D6 Ao)]⟩ (cWr (Bp v6' 3 au7 au10))<|AG ?_
 refine AA<|AA ?_
 refine rn ⟨(Fl types l [(JR v6'),(12,tI 0)]),[(75,.cells (AD.c (AB v6' 3).2) 146),(1000,Z35 b Ad Ao),(DE Ad),(D6 Ao)]⟩<|AQ ?_
 refine Ap (Cv.trans (vg 100002 8 (fun _ _=>default) 92 [] [(1000,[8])] (K:=[1000]) hX) (Cv.trans (A2 100002 (CI 8 (fun _ _=>default) A8.c)) (Cv.trans (ck (⟨(Fl types l [(JR v6'),(12,tI 0)]),[(75,.cells (AD.c (AB v6' 3).2) 146),(1000,Z38 b Ad Ao),(DE Ad),(D6 Ao),(100002,Z27)]⟩)) (Cv.refl _)))) ?_
 refine BP (ι:=Nat×List A8×AD×Int) (fun x=>⟨(Fl types l [(JR v6'),(12,tI x.2.2.2)]),[(75,.cells (AD.c x.2.2.1) 146),(1000,.cells (Bc b (G4 Ad Ao [.own 100002 8 x.2.1.length,vN,vN,vN,vN,vN,vN])) 40),(DE Ad),(D6 Ao),(100002,.row 8 x.2.1.length (AU A8.c x.2.1) 92)]⟩) (fun x=>((AB v6' 3).1-x.2.2.2).toNat<x.1/\(B2 x.2.2.1/\0<=x.2.2.2/\(x.2.2.2<=(AB v6' 3).1\/x.2.2.2=0)/\(x.2.1.length:Int)<=0+1*(x.2.2.2-0))/\CX b types l Ad v6 v7 v9 Ao v6' v11 (CO b types l n0) (Cp b types l Ad v6 v7 v9 (CO b types l n0) n1) x.1 x.2.1 x.2.2.1 x.2.2.2=Ba b types l) (fun x=>x.1) ?_ (((AB v6' 3).1-0).toNat+1,([]:List A8),(AB v6' 3).2,0) ⟨Nat.lt_succ_self _,⟨(by show B2 ((AB v6' 3).2);repeat (first | with_reducible assumption | exact DA (Dt hll _) | with_reducible refine Bl ?_ | with_reducible refine E9 ?_ | with_reducible refine D3 ?_ | with_reducible refine Dl ?_  | with_reducible refine DK ?_ ?_)),ax0,ax0,ax0⟩,(by rw [<- hF1];simp only [Cp,h2,cond_true,cond_false])⟩
 rintro ⟨n2,A6,v6'',v12⟩ ⟨hm2,hinv2,hF2⟩
 try dsimp only at hm2 hinv2 hF2
 cases n2 with | zero=>exact nz hm2 | succ n2 => ?_
 have hi2_0:=hinv2.1
 refine AA<|AA ?_
 refine rn ⟨(Fl types l [(JR v6'),(12,tI v12),(115,tB (decide ((v12:Int)<(AB v6' 3).1)))]),[(75,.cells (AD.c v6'') 146),(1000,Z39 b Ad Ao A6),(DE Ad),(D6 Ao),(Fo A6)]⟩ ?_
 refine AO _ rfl (fun h3 => ?_) (fun h3 => ?_)
 ·have g3:=oT h3
  have k3:=Sr g3 (by decide) (by decide)
  refine AZ<|AG ?_
  refine AA<|AQ<|AA ?_
  refine oc [(119,(Z2H v6'')),(121,(Z2I v6''))] [Ay (Z2H v6'').2.1,CH (.cells (AD.c v6'') 146),Ay (Z2I v6'').2.1,CH (.cells (AD.c (AB v6'' 12).2) 146)] (.cons (cWr (Bp v6'' 12 au7 au10)) (.cons (cWr (Bp (AB v6'' 12).2 12 au7 au10)) .nil)) (.cons rfl (.cons rfl (.cons rfl (.cons rfl .nil))))<|AG<|AA ?_
  refine oc [(127,(Z2J v6'')),(132,(Z2L v6''))] [Ay (Z2J v6'').2.1,CH (.cells (AD.c (AB (AB v6'' 12).2 12).2) 146),Ay (Z2L v6'').2.1,CH (.cells (AD.c (Z2K v6'')) 146)] (.cons (cWr (Bp (AB (AB v6'' 12).2 12).2 6 au7 au10)) (.cons (cWr (Bp (Z2K v6'') 5 au7 au10)) .nil)) (.cons rfl (.cons rfl (.cons rfl (.cons rfl .nil))))<|AG<|AA ?_
  refine od [158] [(139,(Z2M b v6'')),(141,(Z2O b v6'')),(144,(Z2P b v6'')),(148,(Z2R b v6'')),(151,(Z2S b v6'')),(155,(Z2U b v6''))] [Ay (Z2M b v6'').2.1,Blk.cells (Tl b Ad Ao A6) 40=Blk.cells (P9 [6,7,8,9,10,11,12,13,14] 0 (Tl b Ad Ao A6) (NK b)) 40,CH (.cells (AD.c (AB (Z2K v6'') 5).2) 146),Ay (Z2O b v6'').2.1,CH (.cells (AD.c (Z2N b v6'')) 146),Ay (Z2P b v6'').2.1,CH (.cells (AD.c (AB (Z2N b v6'') 2).2) 146),Ay (Z2R b v6'').2.1,CH (.cells (AD.c (Z2Q b v6'')) 146),Ay (Z2S b v6'').2.1,CH (.cells (AD.c (AB (Z2Q b v6'') 2).2) 146),0<=((AB (AB (Z2Q b v6'') 2).2 4).1:Int)/\((AB (AB (Z2Q b v6'') 2).2 4).1:Int)<((4:Nat):Int),Ay (Z2U b v6'').2.1,CH (.cells (AD.c (Z2T b v6'')) 146)] (.cons (Iz (B0:=fun vs=>(Bc b [.val (vs 6),.val (vs 7),.val (vs 8),.val (vs 9),.val (vs 10),.val (vs 11),.val (vs 12),.val (vs 13),.val (vs 14)])) (fun _ _=>kr) kr rfl rfl kr (fun vs=>by kernel_rfl) (fun vs=>by kernel_rfl) (fun vs=>SX (AC.mk b.Layers b.Outline b.Parts b.Nets [] [] [] [] [] [] [] [] []) (AB (Z2K v6'') 5).2 vs au7 oM)) (.cons (cWr (Bp (Z2N b v6'') 2 au7 au10)) (.cons (cWr (Bp (AB (Z2N b v6'') 2).2 3 au7 au10)) (.cons (cWr (Bp (Z2Q b v6'') 2 au7 au10)) (.cons (cWr (Bp (AB (Z2Q b v6'') 2).2 4 au7 au10)) (.cons (cWr (Bp (Z2T b v6'') 6 au7 au10)) .nil)))))) (.cons rfl (.cons rfl (.cons rfl (.cons rfl (.cons rfl (.cons rfl (.cons rfl (.cons rfl (.cons rfl (.cons rfl (.cons rfl (.cons (by first | exact J3 _ _ _ (by decide) (by decide) (by decide) | decide | omega) (.cons rfl (.cons rfl .nil))))))))))))))<|AG ?_
  refine Ap (A2 158 (A0 4 Al.c ([Al.mk (AB v6'' 12).1 (AB (AB v6'' 12).2 12).1 (W64 ((W64 ((AB v6'' 12).1+1))+(AB (AB (AB v6'' 12).2 12).2 6).1)) (W64 ((W64 ((AB (AB v6'' 12).2 12).1+1))+(AB (Z2K v6'') 5).1))]:List Al)))<|AA<|AA ?_
  refine rb 161 (Z2X b v6'') (.cells (AD.c (AB (Z2T b v6'') 6).2) 146) ⟨(Fl types l [(JR v6'),(12,tI v12),(13,tI (AB v6'' 12).1),(14,tI (KK v6'').1),(16,tP 16 0),(162,tB (decide (((AB (AB (Z2T b v6'') 6).2 3).1:Int)=0)))]),[(16,Z2V v12 b v6''),(75,Z2Z b v6''),(158,Z2W v6''),(1000,Z39 b Ad Ao A6),(DE Ad),(D6 Ao),(Fo A6)]⟩ (cWr (Bp (AB (Z2T b v6'') 6).2 3 au7 au10))<|AG ?_
  refine B4 (⟨[(0,tP 1000 0),(EL types),(2,.av (oL l)),(6,tP 75 0),(JR v6'),(12,tI v12),(16,tP 16 0)],[(16,.cells (Rg v12 b v6'' [.own 100003 4 (Z31 b v6'').length]) 92),(75,.cells (AD.c (Z2Y b v6'')) 146),(1000,.cells (Tl b Ad Ao A6) 40),(100000,.row 6 Ad.length (AU Aq.c Ad) 87),(100001,.row 8 Ao.length (AU Bx.c Ao) 89),(100002,.row 8 A6.length (AU A8.c A6) 92),(100003,.row 4 (Z31 b v6'').length (AU Al.c (Z31 b v6'')) 74)]⟩) ?_ ?_
  ·refine AO _ rfl (fun h4 => ?_) (fun h4 => ?_)
   ·have g4:=oT h4
    refine rc [] [[Al.mk (AB v6'' 12).1 (AB (AB v6'' 12).2 12).1 (W64 ((W64 ((AB v6'' 12).1+1))+(AB (AB (AB v6'' 12).2 12).2 6).1)) (W64 ((W64 ((AB (AB v6'' 12).2 12).1+1))+(AB (Z2K v6'') 5).1))].length=[Al.mk (AB v6'' 12).1 (AB (AB v6'' 12).2 12).1 (W64 ((W64 ((AB v6'' 12).1+1))+(AB (AB (AB v6'' 12).2 12).2 6).1)) (W64 ((W64 ((AB (AB v6'' 12).2 12).1+1))+(AB (Z2K v6'') 5).1))].length,([Al.mk (AB v6'' 12).1 (AB (AB v6'' 12).2 12).1 (W64 ((W64 ((AB v6'' 12).1+1))+(AB (AB (AB v6'' 12).2 12).2 6).1)) (W64 ((W64 ((AB (AB v6'' 12).2 12).1+1))+(AB (Z2K v6'') 5).1))].length)+1<=maxLen,(([Al.mk (AB v6'' 12).1 (AB (AB v6'' 12).2 12).1 (W64 ((W64 ((AB v6'' 12).1+1))+(AB (AB (AB v6'' 12).2 12).2 6).1)) (W64 ((W64 ((AB (AB v6'' 12).2 12).1+1))+(AB (Z2K v6'') 5).1))].length)+1)*32<=140737488355328] ⟨(R5 types l v6' v12),[(16,.cells (Z0 v12 b v6'' [.own 174 4 (((Nf v6'').length)+1)]) 92),(75,Z2Z b v6''),(174,.row 4 (((Nf v6'').length)+1) (fun i_ j_=>if i_<((Nf v6'').length) then (AU Al.c (Nf v6'')) i_ j_ else (BB 4 1 [.i (W64 ((AB v6'' 12).1-2)),.i (KK v6'').1,.i (W64 ((AB v6'' 12).1+1)),.i (W64 ((KK v6'').1+2))]) (i_-((Nf v6'').length)) j_) 74),(1000,Z39 b Ad Ao A6),(DE Ad),(D6 Ao),(Fo A6)]⟩ .nil (.cons rfl (.cons au3 (.cons au3 .nil)))<|AG ?_
    refine Cv.trans (A2 174 (Au (Am 4 Al.c [Al.mk (AB v6'' 12).1 (AB (AB v6'' 12).2 12).1 (W64 ((W64 ((AB v6'' 12).1+1))+(AB (AB (AB v6'' 12).2 12).2 6).1)) (W64 ((W64 ((AB (AB v6'' 12).2 12).1+1))+(AB (Z2K v6'') 5).1))]) (A0 4 Al.c ([Al.mk (W64 ((AB v6'' 12).1-2)) (AB (AB v6'' 12).2 12).1 (W64 ((AB v6'' 12).1+1)) (W64 ((AB (AB v6'' 12).2 12).1+2))]:List Al)))) (Cv.trans (vr 174 100003 (K:=[1000]) hX) (Cv.trans (ck (⟨(R5 types l v6' v12),[(16,Z3b v12 b v6''),(75,Z2Z b v6''),(1000,Z39 b Ad Ao A6),(DE Ad),(D6 Ao),(Fo A6),(100003,Z30 v6'')]⟩)) (BE ?_)))
    first | rfl | (simp only [h4,Z31,cond_true,cond_false] <;> rfl)
   refine AZ<|AG ?_
   refine Cv.trans (vk [0,1,2,6,8,12,16] [16,75,158,1000,100000,100001,100002]) (Cv.trans (vr 158 100003 (K:=[1000]) hX) (Cv.trans (ck (⟨(R5 types l v6' v12),[(16,Z3c v12 b v6''),(75,Z2Z b v6''),(1000,Z39 b Ad Ao A6),(DE Ad),(D6 Ao),(Fo A6),(100003,Z2W v6'')]⟩)) (BE ?_)))
   first | rfl | (simp only [h4,Z31,cond_true,cond_false] <;> rfl)
  refine Ap (Cv.trans (H6 (⟨(R5 types l v6' v12),[(16,.cells (Z0 v12 b v6'' [lst 4 Al.c (Z31 b v6'')]) 92),(75,Z2Z b v6''),(1000,Z39 b Ad Ao A6),(DE Ad),(D6 Ao),(Fo A6)]⟩) 100003 (K:=[1000]) hX) (Cv.refl _)) ?_
  refine od [] [] [A6.length=A6.length,A6.length+1<=maxLen,(A6.length+1)*88<=140737488355328] .nil (.cons rfl (.cons au3 (.cons au3 .nil)))<|A3<|AG ?_
  refine Ap (A2 183 (Au (Am 8 A8.c A6) (A0 8 A8.c ([A8.mk (W64 (31+v12)) (C8 (AC.mk b.Layers b.Outline b.Parts b.Nets [] [] [] [] [] [] [] [] []) (AB (Z2K v6'') 5).2).1 (W64 (1+(AB (Z2N b v6'') 2).1)) (W64 (20+(W64 (5*(AB (AB (Z2N b v6'') 2).2 3).1)))) (AB (Z2Q b v6'') 2).1 (([0,0,5,9]:List Int).getD (AB (AB (Z2Q b v6'') 2).2 4).1.toNat 0) (W64 (4+(AB (Z2T b v6'') 6).1)) (Z31 b v6'')]:List A8)))) ?_
  refine rg ⟨(Fl types l [(JR v6'),(12,tI (W64 (v12+1)))]),[(75,Z2Z b v6''),(183,Z32 A6 v12 b v6''),(1000,Z36 b Ad Ao A6 v12 v6''),(DE Ad),(D6 Ao)]⟩ ?_
  (try rw [(show W64 (v12+1)=v12+1 from Az oM au6)])
  refine AG ?_
  refine ⟨(n2,A6++[A8.mk (W64 (31+v12)) (C8 (AC.mk b.Layers b.Outline b.Parts b.Nets [] [] [] [] [] [] [] [] []) (AB (Z2K v6'') 5).2).1 (W64 (1+(AB (Z2N b v6'') 2).1)) (W64 (20+(W64 (5*(AB (AB (Z2N b v6'') 2).2 3).1)))) (AB (Z2Q b v6'') 2).1 (([0,0,5,9]:List Int).getD (AB (AB (Z2Q b v6'') 2).2 4).1.toNat 0) (W64 (4+(AB (Z2T b v6'') 6).1)) (Z31 b v6'')],Z2Y b v6'',v12+1),⟨?_,?_,(by rw [<- hF2];simp only [CX,h3,cond_true,cond_false])⟩,Nat.lt_succ_self _,Cv.trans (vr 183 100002 (K:=[1000]) hX) (Cv.trans (vk [0,1,2,6,8,12] [75,1000,100000,100001,100002]) (BE kr))⟩
  ·show ((AB v6' 3).1-(v12+1)).toNat<n2;omega
  exact ⟨(by show B2 (Z2Y b v6'');repeat (first | with_reducible assumption | exact DA (Dt hll _) | with_reducible refine Bl ?_ | with_reducible refine E9 ?_ | with_reducible refine D3 ?_ | with_reducible refine Dl ?_  | with_reducible refine DK ?_ ?_)),ax0,ax0,ax0⟩
 have g3:=oF h3
 refine BH<|A5 ?_
 refine A5<|BI ?_
 refine AG<|AA ?_
 refine oq 187 (Ex l 6) (GX l 6 au12)<|AG ?_
 refine AA<|AA ?_
 refine rb 191 (Z1Q l) (.cells [lst 1 eIn (Aa l 6),.i 0] 146) ⟨[(0,tP 1000 0),(EL types),(6,tP 189 0),(192,tB (decide (((Kj l).1:Int)=0)))],[(189,Z1R l),(1000,Z39 b Ad Ao A6),(DE Ad),(D6 Ao),(Fo A6)]⟩ (cWr (Bp (AD.mk (Aa l 6) 0) 3 au7 au10))<|AG ?_
 refine B4 (⟨(OV types),[(189,.cells (AD.c (Z1X l b types)) 146),(1000,.cells (Bc b (G4 Ad Ao [.own 100002 8 A6.length,lst 5 BR.c (Z1Y l b types),vN,vN,vN,vN,vN])) 40),(100000,.row 6 Ad.length (AU Aq.c Ad) 87),(100001,.row 8 Ao.length (AU Bx.c Ao) 89),(100002,.row 8 A6.length (AU A8.c A6) 92)]⟩) ?_ ?_
 ·refine AO _ rfl (fun h4 => ?_) (fun h4 => ?_)
  ·have g4:=oT h4
   refine AA<|rb 198 (ceI [.agg (Tl b Ad Ao A6),.one (lst 3 AV.c types),.one (.ptr 189 0)] (Z1S b types l)) (.cells (AD.c (AB (AD.mk (Aa l 6) 0) 3).2) 146) ⟨[(0,tP 1000 0),(EL types),(6,tP 189 0),(17,tP 17 0)],[(17,.cells (AE.c (Z1U b types l)) 47),(189,.cells (AD.c (Z1T b types l)) 146),(1000,Z39 b Ad Ao A6),(DE Ad),(D6 Ao),(Fo A6)]⟩ (Ck (cWr (LW (AC.mk b.Layers b.Outline b.Parts [] [] [] [] [] [] [] [] [] []) types (AB (AD.mk (Aa l 6) 0) 3).2 au7 oM oM (by assumption))) (.cons (.agg (rr5 (.cons (.any _) (.cons (.any _) (.cons (.any _) (.cons (.any _) (.cons (.any _) (.cons (.any _) (.cons (.any _) (.cons (.any _) (.cons (.any _) (.cons (.any _) .nil)))))))))))) (.cons (AvE.refl _) (.cons (AvE.refl _) .nil))))<|AG ?_
   refine dw [] [(201,(Z1V b types l)),(213,Hn (Al.mk (Z1U b types l).X (Z1U b types l).Y (W64 ((Z1U b types l).X+30)) (W64 ((Z1U b types l).Y+20))))] [Ay (Z1V b types l).2.1,CH (.cells (AD.c (Z1T b types l)) 146),Ay (Hn (Al.mk (Z1U b types l).X (Z1U b types l).Y (W64 ((Z1U b types l).X+30)) (W64 ((Z1U b types l).Y+20)))).2.1] ⟨(OV types),[(189,.cells (AD.c (AB (Z1T b types l) 3).2) 146),(1000,.cells (Bc b (G4 Ad Ao [.own 100002 8 A6.length,.list true 5 1 (BB 5 1 [.i 41,.i (AB (Z1T b types l) 3).1,.i (Z1W b types l).Kind,lst 7 AN.c (Z1W b types l).Edges,.i (Z1W b types l).R]),vN,vN,vN,vN,vN])) 40),(DE Ad),(D6 Ao),(Fo A6)]⟩ (.cons (cWr (Bp (Z1T b types l) 3 au7 au10)) (.cons (La (Al.mk (Z1U b types l).X (Z1U b types l).Y (W64 ((Z1U b types l).X+30)) (W64 ((Z1U b types l).Y+20)))) .nil)) (.cons rfl (.cons rfl (.cons rfl .nil)))<|AG ?_
   refine Cv.trans (DH (⟨(OV types),[(189,.cells (AD.c (AB (Z1T b types l) 3).2) 146),(1000,.cells (Bc b (G4 Ad Ao [.own 100002 8 A6.length,lst 5 BR.c [BR.mk 41 (AB (Z1T b types l) 3).1 (Z1W b types l)],vN,vN,vN,vN,vN])) 40),(DE Ad),(D6 Ao),(Fo A6)]⟩) lr (.cons ⟨rfl,.refl _⟩ (.cons ⟨rfl,.cells _ (rr9 (.cons (Bk true (Bd (c:=BR.c) (xs:=([BR.mk 41 (AB (Z1T b types l) 3).1 (Z1W b types l)]:List BR)) rfl kr)) (rr (rr (rr (rr (rr .nil)))))))⟩ lr))) (BE ?_)
   first | rfl | (simp only [h4,Z1X,Z1Y,cond_true,cond_false] <;> rfl)
  refine AZ<|AG ?_
  refine Cv.trans (ck (⟨(OV types),[(189,Z1R l),(1000,Z39 b Ad Ao A6),(DE Ad),(D6 Ao),(Fo A6)]⟩)) (Cv.trans (DH (⟨(OV types),[(189,Z1R l),(1000,.cells (Bc b (G4 Ad Ao [.own 100002 8 A6.length,lst 5 BR.c [],vN,vN,vN,vN,vN])) 40),(DE Ad),(D6 Ao),(Fo A6)]⟩) lr (.cons ⟨rfl,.refl _⟩ (.cons ⟨rfl,.cells _ (rr9 (.cons (Cx 5 BR.c) (rr (rr (rr (rr (rr .nil)))))))⟩ lr))) (BE ?_))
  first | rfl | (simp only [h4,Z1X,Z1Y,cond_true,cond_false] <;> rfl)
 refine AA<|rb 219 (Z1Z l b types) (.cells (AD.c (Z1X l b types)) 146) ⟨[(0,tP 1000 0),(EL types),(6,tP 189 0),(220,Z20 l b types)],[(189,Z21 l b types),(1000,Z3a b Ad Ao A6 l types),(DE Ad),(D6 Ao),(Fo A6)]⟩ (cWr (Bp (Z1X l b types) 3 au7 au10))<|AG ?_
 refine AO _ rfl (fun h4 => ?_) (fun h4 => ?_)
 ·have g4:=oT h4
  refine AA<|rb 226 (ceI [.agg (aG b Ad Ao A6 l types),.one (lst 3 AV.c types),.one (.ptr 189 0)] (Z22 b types l)) (.cells (AD.c (AB (Z1X l b types) 3).2) 146) ⟨[(0,tP 1000 0),(6,tP 189 0),(18,tP 18 0)],[(18,.cells (AE.c (Z24 b types l)) 47),(189,.cells (AD.c (Z23 b types l)) 146),(1000,Z3a b Ad Ao A6 l types),(DE Ad),(D6 Ao),(Fo A6)]⟩ (Ck (cWr (LW (AC.mk b.Layers b.Outline b.Parts [] [] [] [] [] [] [] [] [] []) types (AB (Z1X l b types) 3).2 au7 oM oM (by assumption))) (.cons (.agg (rr5 (.cons (.any _) (.cons (.any _) (.cons (.any _) (.cons (.any _) (.cons (.any _) (.cons (.any _) (.cons (.any _) (.cons (.any _) (.cons (.any _) (.cons (.any _) .nil)))))))))))) (.cons (AvE.refl _) (.cons (AvE.refl _) .nil))))<|AG ?_
  refine od [] [(229,(Z25 b types l)),(239,C3 (Z24 b types l) (AE.mk (W64 ((Z24 b types l).X+25)) (W64 ((Z24 b types l).Y+10))))] [Ay (Z25 b types l).2.1,CH (.cells (AD.c (Z23 b types l)) 146),Ay (C3 (Z24 b types l) (AE.mk (W64 ((Z24 b types l).X+25)) (W64 ((Z24 b types l).Y+10)))).2.1] (.cons (cWr (Bp (Z23 b types l) 4 au7 au10)) (.cons (EE (Z24 b types l) (AE.mk (W64 ((Z24 b types l).X+25)) (W64 ((Z24 b types l).Y+10)))) .nil)) (.cons rfl (.cons rfl (.cons rfl .nil))) ?_
  exact yn (Cv.trans (vf 100000 (K:=[1000]) hX) (Cv.trans (vf 100001 (K:=[1000]) hX) (Cv.trans (vf 100002 (K:=[1000]) hX) (Cv.refl _)))) (.tup []) ⟨Bz rfl,.cells (Bc b [lst 6 Aq.c Ad,lst 8 Bx.c Ao,lst 8 A8.c A6,lst 5 BR.c (Z1Y l b types),.list true 4 1 (BB 4 1 [.i 51,.i 1,.list true 7 1 (BB 7 1 (AN.c (Z26 b types l))),.i (W64 (3+(AB (Z23 b types l) 4).1))]),vN,vN,vN,vN]) 40,by kernel_rfl,TS (y:=.cells (Bc b [lst 6 Aq.c Ad,lst 8 Bx.c Ao,lst 8 A8.c A6,lst 5 BR.c (Z1Y l b types),lst 4 Bq.c [Bq.mk 51 (An.mk 1 [Z26 b types l] (W64 (3+(AB (Z23 b types l) 4).1)))],vN,vN,vN,vN]) 40) (.cells _ (rr9 (rr (.cons (Bk true (Dr (c:=Bq.c) (xs:=([Bq.mk 51 (An.mk 1 [Z26 b types l] (W64 (3+(AB (Z23 b types l) 4).1)))]:List Bq)) (y:=[[.i 51,.i 1,.list true 7 1 (BB 7 1 (AN.c (Z26 b types l))),.i (W64 (3+(AB (Z23 b types l) 4).1))]]) (z:=[[.i 51,.i 1,lst 7 AN.c [Z26 b types l],.i (W64 (3+(AB (Z23 b types l) 4).1))]]) rfl kr kr (.cons (rr (rr (.cons (Bk true (Bd (c:=AN.c) (xs:=([Z26 b types l]:List AN)) rfl kr)) (rr .nil)))) .nil))) (rr (rr (rr (rr .nil)))))))) (by rw [<- hF2];first | (simp only [CX,h3,h4,cond_true,cond_false];done) | (simp only [CX,h3,h4,cond_true,cond_false];kernel_rfl))⟩
 refine AZ ?_
 exact yn (Cv.trans (vf 100000 (K:=[1000]) hX) (Cv.trans (vf 100001 (K:=[1000]) hX) (Cv.trans (vf 100002 (K:=[1000]) hX) (Cv.refl _)))) (.tup []) ⟨Bz rfl,.cells (Bc b [lst 6 Aq.c Ad,lst 8 Bx.c Ao,lst 8 A8.c A6,lst 5 BR.c (Z1Y l b types),vN,vN,vN,vN,vN]) 40,by kernel_rfl,TS (y:=.cells (Bc b [lst 6 Aq.c Ad,lst 8 Bx.c Ao,lst 8 A8.c A6,lst 5 BR.c (Z1Y l b types),lst 4 Bq.c [],vN,vN,vN,vN]) 40) (.cells _ (rr9 (rr (.cons (Cx 4 Bq.c) (rr (rr (rr (rr .nil)))))))) (by rw [<- hF2];first | (simp only [CX,h3,h4,cond_true,cond_false];done) | (simp only [CX,h3,h4,cond_true,cond_false];kernel_rfl))⟩
end
structure Lz (b:AC) (B:AC):Prop where
 lay:B.Layers=b.Layers
 out:B.Outline=b.Outline
 par:B.Parts=b.Parts
 net:B.Nets=b.Nets
 trk:(B.Tracks.length:Int)<=6
 edg:∀ t∈B.Tracks,(t.Shape.Edges.length:Int)<=2
 via:(B.Vias.length:Int)<=3
 pou:(B.Pours.length:Int)<=2
 kee:(B.Keeps.length:Int)<=1
 slo:(B.Slots.length:Int)<=1
theorem kR {b B C:AC} {c:Bool} (h:Lz b B) (k:Lz b C):Lz b (bif c then B else C):=by cases c <;> assumption
theorem Sf {α:Type} {c:Bool} {x:α}:((bif c then [x] else []:List α).length:Int)<=1:=by cases c <;> simp
theorem Q8 (a c:AE) (d:AD):((DC a c d).1.length:Int)<=2:=by
 unfold DC
 generalize (bif _ then _ else false:Bool)=q
 cases q with
 | true=>simp
 | false =>
  simp only [cond_false]
  cases decide (((AB d 4).1:Int)=3) <;> simp
theorem X4 (b:AC) (types:List AV) (l:List (List Int)) (v1:List Aq) (v6:AD) (v7:ByteArray) (v9:Int) (v2:List Bx) (v6':AD) (v11:Int) (K0:List Aq->AD->ByteArray->Int->AC) (K1:List Bx->AD->Int->AC) (h1:(v1.length:Int)<=6) (he:∀ t∈v1,(t.Shape.Edges.length:Int)<=2) (h2:(v2.length:Int)<=3):∀ (n:Nat) (v:List A8) (d:AD) (k:Int),0<=k->(v.length:Int)<=k->k<=2->((AB v6' 3).1-k).toNat<n->Lz b (CX b types l v1 v6 v7 v9 v2 v6' v11 K0 K1 n v d k)
 | 0,v,d,k,_,_,_,h=>absurd h (Nat.not_lt_zero _)
 | n+1,v,d,k,k0,kv,k3,h=>by
  unfold CX
  have hb:=Db v6' 3 (by decide) (by decide)
  by_cases hc:k<(AB v6' 3).1
  ·simp only [hc,decide_true,cond_true]
   exact X4 b types l v1 v6 v7 v9 v2 v6' v11 K0 K1 h1 he h2 n _ _ _ (by omega) (by simp only [List.length_append,List.length_cons,List.length_nil];omega) (by omega) (by omega)
  simp only [hc,decide_false,cond_false]
  have hv:(v.length:Int)<=2:=by omega
  repeat (first | exact ⟨rfl,rfl,rfl,rfl,h1,he,h2,hv,Sf,Sf⟩ | exact ⟨rfl,rfl,rfl,rfl,h1,he,h2,hv,Sf,(by simp:((([_]:List Bq).length:Nat):Int)<=1)⟩ | exact ⟨rfl,rfl,rfl,rfl,h1,he,h2,hv,Sf,(by simp:((([]:List Bq).length:Nat):Int)<=1)⟩ | refine kR ?_ ?_)
theorem X5 (b:AC) (types:List AV) (l:List (List Int)) (v1:List Aq) (v6:AD) (v7:ByteArray) (v9:Int) (K0:List Aq->AD->ByteArray->Int->AC) (h1:(v1.length:Int)<=6) (he:∀ t∈v1,(t.Shape.Edges.length:Int)<=2):∀ (n:Nat) (v:List Bx) (d:AD) (k:Int),0<=k->(v.length:Int)<=k->k<=3->((AB (AD.mk (Aa l 5) 0) 3).1-k).toNat<n->Lz b (Cp b types l v1 v6 v7 v9 K0 n v d k)
 | 0,v,d,k,_,_,_,h=>absurd h (Nat.not_lt_zero _)
 | n+1,v,d,k,k0,kv,k3,h=>by
  unfold Cp
  have hb:=Db (AD.mk (Aa l 5) 0) 3 (by decide) (by decide)
  by_cases hc:k<(AB (AD.mk (Aa l 5) 0) 3).1
  ·simp only [hc,decide_true,cond_true]
   exact X5 b types l v1 v6 v7 v9 K0 h1 he n _ _ _ (by omega) (by simp only [List.length_append,List.length_cons,List.length_nil];omega) (by omega) (by omega)
  simp only [hc,decide_false,cond_false]
  exact X4 b types l v1 v6 v7 v9 v d k K0 _ h1 he (by omega) _ _ _ 0 (by omega) (by simp) (by omega) (by omega)
theorem X6 (b:AC) (types:List AV) (l:List (List Int)):∀ (n:Nat) (v:List Aq) (d:AD) (s:ByteArray) (k:Int),0<=k->(v.length:Int)<=k->k<=6->(∀ t∈v,(t.Shape.Edges.length:Int)<=2)->((AB (Z1J b l) 6).1-k).toNat<n->Lz b (CO b types l n v d s k)
 | 0,v,d,s,k,_,_,_,_,h=>absurd h (Nat.not_lt_zero _)
 | n+1,v,d,s,k,k0,kv,k3,he,h=>by
  unfold CO
  have hb:=Db (Z1J b l) 6 (by decide) (by decide)
  by_cases hc:k<(AB (Z1J b l) 6).1
  ·simp only [hc,decide_true,cond_true]
   refine X6 b types l n _ _ _ _ (by omega) (by simp only [List.length_append,List.length_cons,List.length_nil];omega) (by omega) (fun t ht => ?_) (by omega)
   rcases List.mem_append.1 ht with ht | ht
   ·exact he t ht
   rw [List.mem_singleton.1 ht];exact Q8 _ _ _
  simp only [hc,decide_false,cond_false]
  exact X5 b types l v d s k _ (by omega) he _ _ _ 0 (by omega) (by simp) (by omega) (by omega)
theorem Gv (b:AC) (types:List AV) (l:List (List Int)):Lz b (Ba b types l):=by
 have hb:=Db (Z1J b l) 6 (by decide) (by decide)
 unfold Ba
 exact X6 b types l _ _ _ _ 0 (by omega) (by simp) (by omega) (fun t ht=>by cases ht) (by omega)
end Go.Proofs.YtdbampcfmjbgmaaGreat
