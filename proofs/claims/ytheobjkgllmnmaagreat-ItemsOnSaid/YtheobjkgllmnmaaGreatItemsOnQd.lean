/-
  No statement is proved in this text. It holds a part of what the proof of ItemsOn needs.
-/
import Derived.Test.YtheobjkgllmnmaaGreatItemsOnQc
namespace Go.Proofs.YtheobjkgllmnmaaGreat
set_option maxRecDepth 100000
set_option linter.unusedVariables false
set_option linter.unusedSimpArgs false
open Go.RowKit
section
open Go.RowKit
def Uj (p:BJ):Prop:=(p.Shape.Edges.length:Int)<=1000000
def LE (g:A5):Prop:=(g.Legs.length:Int)<=1000000
def LC (t:AR):Prop:=(t.Pads.length:Int)<=1000000/\(t.Gates.length:Int)<=1000000/\(∀ p∈t.Pads,Uj p)/\∀ g∈t.Gates,LE g
def B4 (l:List AR):Prop:=(l.length:Int)<=1000000/\∀ t∈l,LC t
theorem Ft {α:Type} [Inhabited α] {p:α->Prop} {l:List α} (hd:p default) (h:∀ x∈l,p x) (k:Nat):p (l.getD k default):=by
 rw [List.getD_eq_getElem?_getD]
 cases hk:l[k]? with
 | none=>exact hd
 | some x=>exact h x (List.mem_of_getElem? hk)
theorem Va {l:List AR} (h:B4 l) (k:Nat):LC (l.getD k default):=Ft (p:=LC) ⟨by decide,by decide,(fun p hp=>by cases hp),fun p hp=>by cases hp⟩ h.2 k
theorem PE {t:AR} (h:LC t) (k:Nat):((t.Pads.getD k default).Shape.Edges.length:Int)<=1000000:=Ft (p:=Uj) (by unfold Uj;decide) h.2.2.1 k
theorem Qo {t:AR} (h:LC t) (k:Nat):((t.Gates.getD k default).Legs.length:Int)<=1000000:=Ft (p:=LE) (by unfold LE;decide) h.2.2.2 k
theorem au3 {p:Prop} (h:p:=by first | (unfold maxLen;omega) | (unfold maxLen;simp only [List.length_append,List.length_cons,List.length_nil];omega) | first | omega | (simp only [List.length_append,List.length_cons,List.length_nil];omega) | (simp only [bY,bX,bW,Tu];omega)):p:=h
theorem nV {p:Prop} (h:p:=by
 refine Cu mp0 rfl kr (DQ _ _) fun W0 M0 => ?_
 refine AB<|rn ⟨[(0,.av (.one (.list true mp1 l.length (AL mp2 l))))],[]⟩ ?_
 refine AB<|AB ?_
 refine rn ⟨[(0,.av (.one (.list true mp1 l.length (AL mp2 l)))),(4,tB false)],[]⟩ ?_
 refine D5 kr<|AV ?_
 refine AF<|AB ?_
 refine Dk DN [5] [] [] [2] [7] [0=0,0+l.length<=maxLen,(0+l.length)*mp3<=140737488355328] ⟨[(2,tO (.own 7 mp1 (0+l.length)))],[(7,.row mp1 (0+l.length) (fun i_ j_=>if i_<0 then (Ap mp1 0 []) i_ j_ else (AL mp2 l) (i_-0) j_) mp4)]⟩ .nil kr (.cons rfl (.cons au3 (.cons au3 .nil)))<|AF ?_
 refine BI (Cv.trans (A7 (⟨[(2,tO (.own 7 mp1 l.length))],[(7,.row mp1 l.length (AL mp2 l) mp4)]⟩) (.cons ⟨rfl,.av (.one (.own _ _ au2))⟩ .nil) (.cons ⟨rfl,Ad mp4 (A8 (Al (c:=mp2) (xs:=(([]:List mp5):List mp5)) rfl kr) (Ay mp1 mp2 l))⟩ .nil)) (Cv.refl _))<|Ab ?_
 exact xl (tO (.own 7 mp1 l.length)) (frE (c:=mp2) (xs:=l) (by rfl) kr)):p:=h
section
 open Go.Proofs.YtheobjkgllmnmaaGreat renaming nn7→mp1,AH.c→mp2,bW→mp3,nn68→mp4,AH→mp5
 open Go.Proofs.Tryz renaming func77→mp0
theorem aQ (l:(List AH)) (h0:(l.length:Int)<=1000000):Fr Tryz.prog 77 [.one (.list true 7 l.length (AL AH.c l))] (.row 7 l.length (AL AH.c l) 68) (fun d=>tO (.own d 7 l.length)):=nV
end
abbrev vN:Cl:=.val (.slice none 0 0)
theorem nU {p:Prop} (h:p:=by
 refine Cu mp0 rfl kr (DQ _ _) fun W0 M0 => ?_
 cases l with
 | cons a l=>cases h0
 | nil =>
 refine AB<|rn ⟨[(0,.av (.one vN))],[]⟩ ?_
 refine AB<|AB ?_
 refine rn ⟨[(0,.av (.one vN)),(4,tB true)],[]⟩ ?_
 refine Bj kr<|AB ?_
 refine rn ⟨[(2,.av (.one vN))],[]⟩ ?_
 refine Ab<|An ?_
 exact yl (Cv.trans (wg (⟨[(2,tO (.own 100000 mp1 0))],[(100000,.row mp1 0 (fun _ _=>default) mp2)]⟩) 100000 mp1 (fun _ _=>default) mp2 [(2,[0])] [] hk0) (Cv.trans (A7 (⟨[(2,tO (.own 100000 mp1 ([]:List mp3).length))],[(100000,.row mp1 ([]:List mp3).length (AL mp4 ([]:List mp3)) mp2)]⟩) (.cons ⟨rfl,.av (.one (.own _ _ au2))⟩ .nil) (.cons ⟨rfl,Ad mp2 (B3 mp1 (fun _ _=>default) mp4)⟩ .nil)) (Cv.refl _))) (tO (.own 100000 mp1 ([]:List mp3).length)) (frE (c:=mp4) (xs:=([]:List mp3)) (by rfl) kr)):p:=h
section
 open Go.Proofs.YtheobjkgllmnmaaGreat renaming nn7→mp1,nn68→mp2,AH→mp3,AH.c→mp4
 open Go.Proofs.Tryz renaming func77→mp0
theorem aR (l:(List AH)) (h0:l.length=0):Fr Tryz.prog 77 [.one vN] (.row 7 l.length (AL AH.c l) 68) (fun d=>tO (.own d 7 l.length)):=nU
end
variable (types:List AR) (name:ByteArray) (v7_1:List BJ) (xs:List AR) (l:List AH) (v26 v49:Int)
def N2:CT:=(77,[.one (lst 7 AH.c l)],.new [] (.row 7 l.length (AL AH.c l) 68) (fun d=>.av (.one (.own d 7 l.length))))
theorem PI (l:(List AH)) (h0:(l.length:Int)<=1000000):OKc (N2 l):=Cx (fun _ _=>kr) (WP (fun hz=>aR l hz) (aQ l h0))
section
 open Go.Proofs.YtheobjkgllmnmaaGreat renaming nn2→mp1,Bn.c→mp2,bY→mp3,lF→mp4,Bn→mp5
 open Go.Proofs.Tryz renaming func78→mp0
theorem aO (l:(List Bn)) (h0:(l.length:Int)<=1000000):Fr Tryz.prog 78 [.one (.list true 2 l.length (AL Bn.c l))] (.row 2 l.length (AL Bn.c l) 183) (fun d=>tO (.own d 2 l.length)):=nV
end
section
 open Go.Proofs.YtheobjkgllmnmaaGreat renaming nn2→mp1,lF→mp2,Bn→mp3,Bn.c→mp4
 open Go.Proofs.Tryz renaming func78→mp0
theorem aP (l:(List Bn)) (h0:l.length=0):Fr Tryz.prog 78 [.one vN] (.row 2 l.length (AL Bn.c l) 183) (fun d=>tO (.own d 2 l.length)):=nU
end
section
 open Go.Proofs.YtheobjkgllmnmaaGreat renaming nn7→mp1,AE.c→mp2,Tu→mp3,nM→mp4,AE→mp5
 open Go.Proofs.Tryz renaming func148→mp0
theorem aM (l:(List AE)) (h0:(l.length:Int)<=1000000):Fr Tryz.prog 148 [.one (.list true 7 l.length (AL AE.c l))] (.row 7 l.length (AL AE.c l) 78) (fun d=>tO (.own d 7 l.length)):=nV
end
section
 open Go.Proofs.YtheobjkgllmnmaaGreat renaming nn7→mp1,nM→mp2,AE→mp3,AE.c→mp4
 open Go.Proofs.Tryz renaming func148→mp0
theorem aN (l:(List AE)) (h0:l.length=0):Fr Tryz.prog 148 [.one vN] (.row 7 l.length (AL AE.c l) 78) (fun d=>tO (.own d 7 l.length)):=nU
end
def Xx (l:(List AE)):CT:=(148,[.one (lst 7 AE.c l)],.new [] (Oc l) (fun d=>.av (.one (.own d 7 l.length))))
theorem bO (l:(List AE)) (h0:(l.length:Int)<=1000000):OKc (Xx l):=Cx (fun _ _=>kr) (WP (fun hz=>aN l hz) (aM l h0))
def HB (l:List Bn):List Bn:=l
def Pj (l:List Bn):CT:=(78,[.one (lst 2 Bn.c l)],.val [] (.av (.one (lst 2 Bn.c (HB l)))))
theorem Yc (l:List Bn) (h0:(l.length:Int)<=1000000):OKc (Pj l):=cPu<|IP (WP (fun hz=>aP l hz) (aO l h0))
def GU (t:AR) (name:ByteArray):Bool:=(t.Name.toList==name.toList)
theorem pisTy  (t:AR) (name:ByteArray):G8 Tryz.prog 76 [.agg (AR.c t),.one (.eptr 1 1 (gD [.s name]) 0 0)] (tO (.b (GU t name))):=by
 refine pwf Tryz.func76 fun W0 M0 => ?_
 refine AB<|rn ⟨[(1,.av (.one (.eptr 1 1 (gD [.s name]) 0 0))),(2,tP 2 0)],[(2,.cells (AR.c t) 82)]⟩<|AB ?_
 refine rn ⟨[(3,tB (t.Name.toList==name.toList))],[]⟩<|Ab ?_
 exact xl (tO (.b (t.Name.toList==name.toList))) (Ae (by rfl))
def Z0e (xs:(List AR)) (v8:Int) (name:ByteArray):CT:=(76,[.agg (AR.c (xs.getD v8.toNat default)),.one (.eptr 1 1 (fun _ j_=>([.s name]:List Cl).getD j_ default) 0 0)],.val [] (tB (GU (xs.getD v8.toNat default) name)))
def GD (xs:(List AR)) (name:ByteArray):Nat->Int->Int
 | 0,_=>default
 | n0+1,v8=>bif decide ((v8:Int)<(xs.length:Int)) then (bif GU (xs.getD v8.toNat default) name then v8 else ((GD xs name n0) (v8+1))) else (-1)
def CU (xs:(List AR)) (name:ByteArray):Int:=GD xs name (((xs.length:Int)-0).toNat+1) 0
abbrev Kj:Nat×Tv:=(1,.av (.one (.clo 76 1 (BK [.eptr 1 1 (gD [.s name]) 0 0]))))
abbrev KK:Nat×Tv:=(0,tO (lst 3 AR.c xs))
abbrev ME:Nat×Tv:=(7,tI (xs.length:Int))
theorem au5 {p:Prop} (h:p:=by first | omega | (simp only [List.length_drop,List.length_take] at *;omega)):p:=h
theorem pixTy  (xs:(List AR)) (name:ByteArray) (hx:(xs.length:Int)<=9223372036854775807):G8 Tryz.prog 75 [.one (lst 3 AR.c xs),.one (.clo 76 1 (BK [.eptr 1 1 (gD [.s name]) 0 0]))] (tO (.i (CU xs name))):=by
 refine pwf Tryz.func75 fun W0 M0 => ?_
 refine AB<|rn ⟨[(KK xs),(Kj name)],[]⟩ ?_
 refine AB<|AB ?_
 refine rn ⟨[(KK xs),(Kj name),(ME xs),(8,tI 0)],[]⟩<|AO ?_
 refine A0 (ι:=Nat×Int) (fun x=>⟨[(KK xs),(Kj name),(ME xs),(8,tI x.2)],[]⟩) (fun x=>((xs.length:Int)-x.2).toNat<x.1/\(0<=x.2/\(x.2<=(xs.length:Int)\/x.2=0))/\GD xs name x.1 x.2=CU xs name) (fun x=>x.1) ?_ (((xs.length:Int)-0).toNat+1,0) ⟨Nat.lt_succ_self _,⟨ax0,ax0⟩,(by simp only [CU,cond_true,cond_false])⟩
 rintro ⟨n0,v8⟩ ⟨hm0,hinv0,hF0⟩
 try dsimp only at hm0 hinv0 hF0
 cases n0 with | zero=>exact nz hm0 | succ n0 => ?_
 refine AB<|rn ⟨[(KK xs),(Kj name),(ME xs),(8,tI v8),(9,tB (decide ((v8:Int)<(xs.length:Int))))],[]⟩<|AB ?_
 refine AW _ rfl (fun h1 => ?_) (fun h1 => ?_)
 ·have g1:=oT h1
  refine AV<|AF ?_
  refine AB<|AO<|AB ?_
  refine rn ⟨[(KK xs),(Kj name),(5,tI v8),(ME xs),(8,tI v8)],[]⟩<|AB ?_
  refine rc [(16,(Z0e xs v8 name))] [0<=(v8:Int)/\(v8:Int)<((xs.length:Nat):Int),Aq (Z0e xs v8 name).2.1] ⟨[(KK xs),(Kj name),(5,tI v8),(ME xs),(8,tI v8),(16,tB (GU (xs.getD v8.toNat default) name))],[]⟩ (.cons (cPu<|pisTy (xs.getD v8.toNat default) name) .nil) (.cons au0 (.cons rfl .nil))<|AF ?_
  refine AW _ rfl (fun h2 => ?_) (fun h2 => ?_)
  ·refine AB<|rn ⟨[(4,tI v8)],[]⟩ ?_
   refine Ab<|BL ?_
   refine An<|An ?_
   refine BL<|An ?_
   exact xl (tO (.i v8)) (Ae (by rw [<- hF0];first | (simp only [GD,h1,h2,cond_true,cond_false] <;> rfl)))
  refine AV<|BA<|AF ?_
  refine rg ⟨[(KK xs),(Kj name),(ME xs),(8,tI (W64 (v8+1)))],[]⟩ ?_
  (try rw [(show W64 (v8+1)=v8+1 from Ah oM au5)])
  refine AF ?_
  refine ⟨(n0,v8+1),⟨?_,?_,(by rw [<- hF0];simp only [GD,h1,h2,cond_true,cond_false])⟩,Nat.lt_succ_self _,Aw kr⟩
  ·show ((xs.length:Int)-(v8+1)).toNat<n0;omega
  exact ⟨ax0,ax0⟩
 refine A3<|Ar ?_
 refine Ar<|A4 ?_
 refine AF<|AB ?_
 refine rn ⟨[(4,tI (-1))],[]⟩<|Ab ?_
 exact xl (tO (.i (-1))) (Ae (by rw [<- hF0];first | (simp only [GD,h1,cond_true,cond_false] <;> rfl)))
theorem Pt (xs:List AR) (c:ByteArray):CU xs c=ixI (fun x=>GU x c) xs:=by
 unfold CU
 have h:=ix_l0 (fun x=>GU x c) xs (GD xs c) (fun m v=>by rw [GD,Int.toNat_natCast]) xs.length 0 (((xs.length:Int)-0).toNat+1) rfl (Nat.zero_le _) (by omega)
 rw [List.drop_zero] at h
 refine h.trans ?_
 unfold ixI
 cases xs.findIdx? (fun x=>GU x c) with
 | none=>rfl
 | some i=>simp
theorem nY {xs:List AR} {c:ByteArray} (h:¬ CU xs c<0):0<=CU xs c/\CU xs c<(xs.length:Int):=by
 rw [Pt] at *
 exact ixI_b h
def Z0f:A5:=(types.getD (CU types name).toNat default).Gates.getD v49.toNat default
def Z0g:BJ:=(types.getD (CU types name).toNat default).Pads.getD v26.toNat default
def Iv (types:(List AR)) (name:ByteArray) (v7_1:List BJ) (v26:Int) (K0:List BJ->Int->(AR×Bool)):Nat->List A5->Int->(AR×Bool)
 | 0,_,_=>default
 | n1+1,v7_2,v49=>bif decide ((v49:Int)<((types.getD (CU types name).toNat default).Gates.length:Int)) then ((Iv types name v7_1 v26 K0 n1) (v7_2++[A5.mk (Z0f types name v49).Kind (HB (Z0f types name v49).Legs)]) (v49+1)) else (AR.mk name v7_1 v7_2,true)
def Fy (types:(List AR)) (name:ByteArray):Nat->List BJ->Int->(AR×Bool)
 | 0,_,_=>default
 | n0+1,v7_1,v26=>bif decide ((v26:Int)<((types.getD (CU types name).toNat default).Pads.length:Int)) then ((Fy types name n0) (v7_1++[BJ.mk (Z0g types name v26).Name (AQ.mk (Z0g types name v26).Shape.Kind (Z0g types name v26).Shape.Edges (Z0g types name v26).Shape.R) (Z0g types name v26).At (Z0g types name v26).Drill]) (v26+1)) else (Iv types name v7_1 v26 (Fy types name n0) ((((types.getD (CU types name).toNat default).Gates.length:Int)-0).toNat+1) ([]:List A5) 0)
def Be (types:(List AR)) (name:ByteArray):(AR×Bool):=bif decide (((CU types name):Int)<0) then (AR.mk (⟨#[]⟩) [] [],false) else (Fy types name ((((types.getD (CU types name).toNat default).Pads.length:Int)-0).toNat+1) ([]:List BJ) 0)
abbrev Fz:=lst 3 AR.c types
def jZ:CT:=(27,[.one (Fz types),.one (.s name)],.val [] (.tup [.agg (AR.c (Be types name).1),.one (.b (Be types name).2)]))
abbrev NA:=types.getD (CU types name).toNat default
abbrev OW:List Cl:=[.s (⟨#[]⟩),vN,vN]
abbrev Ct:Nat×Blk:=(4,.cells OW 82)
abbrev QI (v7_1:List BJ) (types:List AR) (name:ByteArray) (v26:Int):=v7_1++[BJ.mk (Z0g types name v26).Name (AQ.mk (Z0g types name v26).Shape.Kind (Z0g types name v26).Shape.Edges (Z0g types name v26).Shape.R) (Z0g types name v26).At (Z0g types name v26).Drill]
abbrev Gk:Nat×Blk:=(100000,.row 7 v7_1.length (AL BJ.c v7_1) 102)
abbrev Gm:Nat×Tv:=(0,tO (Fz types))
abbrev U2:Nat×Tv:=(24,tO (lst 7 BJ.c (NA types name).Pads))
abbrev lX:Nat×Tv:=(25,tI ((NA types name).Pads.length:Int))
abbrev OH (t_:List (Nat×Tv)):List (Nat×Tv):=(Gm types)::(4,tP 4 0)::(6,tI (CU types name))::(7,tP 7 0)::(U2 types name)::(lX types name)::t_
abbrev R7:List (Nat×Tv):=(OH types name [(26,tI 0)])
abbrev Zu:Nat×Tv:=(47,tO (lst 2 A5.c (NA types name).Gates))
abbrev Zw:Nat×Tv:=(48,tI ((NA types name).Gates.length:Int))
abbrev OB (t_:List (Nat×Tv)):List (Nat×Tv):=(4,tP 4 0)::(7,tP 7 0)::(Zu types name)::(Zw types name)::t_
abbrev R5:List (Nat×Tv):=(OB types name [(49,tI 0)])
abbrev VU:List (Nat×Tv):=[(Gm types),(4,tP 4 0),(6,tI (CU types name)),(7,tP 7 0),(9,tP 9 0),(U2 types name),(lX types name),(26,tI v26)]
abbrev MR (v7_2:List A5) (types:List AR) (name:ByteArray) (v49:Int):=v7_2++[A5.mk (Z0f types name v49).Kind (HB (Z0f types name v49).Legs)]
abbrev Og:Nat×Blk:=(7,.cells [.s name,.own 100000 7 v7_1.length,vN] 82)
abbrev ZY:List Av:=[.agg [.s (⟨#[]⟩),lst 7 BJ.c [],lst 2 A5.c []],.one (.b false)]
abbrev ZX:Nat×Blk:=(100000,.row 7 ([]:List BJ).length (AL BJ.c ([]:List BJ)) 102)
abbrev ZW:Nat×Blk:=(100001,.row 2 ([]:List A5).length (AL A5.c ([]:List A5)) 180)
abbrev Uz:List Cl:=[.s name,.own 100000 7 ([]:List BJ).length,vN]
theorem au4 {p:Prop} (h:p:=by first | (exact PE (hta _) _) | (exact Qo (hta _) _) | with_reducible assumption | omega | decide | (simp only [List.length_cons,List.length_nil,List.length_append];omega) | assumption):p:=h
theorem au24 {p:Prop} (h:p:=by first | exact nY (by assumption) | omega):p:=h
theorem pGet (types:(List AR)) (name:ByteArray) (ht:B4 types):PuP 27 (jZ types name).2.1 (.tup [.agg (AR.c (Be types name).1),.one (.b (Be types name).2)]):=by
 refine pwf Tryz.func27 fun W0 M0 => ?_
 have ht1:=ht.1
 have hta:=Va ht
 have htp:=(hta (CU types name).toNat).1
 have htg:=(hta (CU types name).toNat).2.1
 refine AB<|rn ⟨[(Gm types),(3,tP 3 0),(4,tP 4 0)],[(3,.cells [.s name] 9),Ct]⟩<|AB ?_
 refine rc [(14,(75,[.one (Fz types),.one (.clo 76 1 (BK [.ptr 3 0]))],rdI [3] [.cells [.s name] 9] (tI (CU types name))))] [Aq [.one (lst 3 AR.c types),.one (.clo 76 1 (BK [.ptr 3 0]))],fF [.cells [.s name] 9]] ⟨[(Gm types),(3,tP 3 0),(4,tP 4 0),(6,tI (CU types name))],[(3,.cells [.s name] 9),Ct]⟩ (.cons (Yx (fun _ _=>kr) kr kr (gV (pixTy types name au4) (.cons (AvE.refl _) (.cons (.one (.clo 76 1 _ _ (GW kr))) .nil)))) .nil) (.cons rfl (.cons rfl .nil))<|AF ?_
 refine AB<|AB ?_
 refine rn ⟨[(Gm types),(3,tP 3 0),(4,tP 4 0),(6,tI (CU types name)),(16,tB (decide (((CU types name):Int)<0)))],[(3,.cells [.s name] 9),Ct]⟩ ?_
 refine AW _ rfl (fun h1 => ?_) (fun h1 => ?_)
 ·refine AB<|rn ⟨[(4,tP 4 0),(5,tB false)],[Ct]⟩ ?_
  refine Ab<|An ?_
  exact xl (.tup [.agg OW,.one (.b false)]) (Du (y:=.tup ZY) (.tup (.cons (.agg (rr (.cons (Cd 7 BJ.c) (.cons (Cd 2 A5.c) .nil)))) (.cons (AvE.refl _) .nil))) (by simp only [Be,h1,cond_true,cond_false] <;> rfl))
 have g1:=oF h1
 refine AV<|AF<|AB ?_
 refine rn ⟨[(Gm types),(4,tP 4 0),(6,tI (CU types name)),(7,tP 7 0)],[Ct,(7,.cells [.s name,vN,vN] 82)]⟩ ?_
 refine AB<|AB ?_
 refine rc [] [0<=(CU types name:Int)/\(CU types name:Int)<((types.length:Nat):Int)] ⟨(R7 types name),[Ct,(7,.cells [.s name,vN,vN] 82)]⟩ .nil (.cons au24 .nil)<|AF<|AO ?_
 refine BI (Cv.trans (wg (⟨(R7 types name),[(100000,.row 7 0 (fun _ _=>default) 102),Ct,(7,.cells [.s name,.own 100000 7 0,vN] 82)]⟩) 100000 7 (fun _ _=>default) 102 [] [(7,[1])] hk0) (Cv.trans (A7 (⟨(R7 types name),[ZX,Ct,(7,.cells (Uz name) 82)]⟩) lr (.cons ⟨rfl,Ad 102 (B3 7 (fun _ _=>default) BJ.c)⟩ (.cons ⟨rfl,.refl _⟩ (.cons ⟨rfl,.cells _ (rr (.cons (.own _ _ au2) (rr .nil)))⟩ .nil)))) (Cv.trans (ck (⟨(R7 types name),[Ct,(7,.cells (Uz name) 82),ZX]⟩)) (Cv.refl _)))) ?_
 refine A0 (ι:=Nat×List BJ×Int) (fun x=>⟨(OH types name [(26,tI x.2.2)]),[Ct,(7,.cells [.s name,.own 100000 7 x.2.1.length,vN] 82),(100000,.row 7 x.2.1.length (AL BJ.c x.2.1) 102)]⟩) (fun x=>(((types.getD (CU types name).toNat default).Pads.length:Int)-x.2.2).toNat<x.1/\(0<=x.2.2/\(x.2.2<=((types.getD (CU types name).toNat default).Pads.length:Int)\/x.2.2=0)/\(x.2.1.length:Int)<=0+1*(x.2.2-0))/\Fy types name x.1 x.2.1 x.2.2=Be types name) (fun x=>x.1) ?_ ((((types.getD (CU types name).toNat default).Pads.length:Int)-0).toNat+1,([]:List BJ),0) ⟨Nat.lt_succ_self _,⟨ax0,ax0,ax0⟩,(by simp only [Be,h1,cond_true,cond_false])⟩
 rintro ⟨n0,v7_1,v26⟩ ⟨hm0,hinv0,hF0⟩
 try dsimp only at hm0 hinv0 hF0
 cases n0 with | zero=>exact nz hm0 | succ n0 => ?_
 refine AB<|rn ⟨(OH types name [(26,tI v26),(27,tB (decide ((v26:Int)<((types.getD (CU types name).toNat default).Pads.length:Int))))]),[Ct,(Og name v7_1),(Gk v7_1)]⟩<|AB ?_
 refine AW _ rfl (fun h2 => ?_) (fun h2 => ?_)
 ·have g2:=oT h2
  refine AV<|AF ?_
  refine AB<|AO<|AB ?_
  refine rc [] [0<=(v26:Int)/\(v26:Int)<(((types.getD (CU types name).toNat default).Pads.length:Nat):Int)] ⟨(VU types name v26),[Ct,(Og name v7_1),(9,.cells (BJ.c (Z0g types name v26)) 102),(Gk v7_1)]⟩ .nil (.cons au24 .nil)<|AF<|AB ?_
  refine rs 33 (N2 (Z0g types name v26).Shape.Edges) ⟨(VU types name v26),[Ct,(Og name v7_1),(9,.cells [.s (Z0g types name v26).Name,.i (Z0g types name v26).Shape.Kind,.own 33 7 (Z0g types name v26).Shape.Edges.length,.i (Z0g types name v26).Shape.R,.i (Z0g types name v26).At.X,.i (Z0g types name v26).At.Y,.i (Z0g types name v26).Drill] 102),(33,.row 7 (Z0g types name v26).Shape.Edges.length (AL AH.c (Z0g types name v26).Shape.Edges) 68),(Gk v7_1)]⟩ (PI (Z0g types name v26).Shape.Edges au4)<|AF ?_
  refine BI (Cv.trans (wf (⟨(VU types name v26),[Ct,(Og name v7_1),(9,.cells (BJ.c (Z0g types name v26)) 102),(Gk v7_1)]⟩) 33 7 (Z0g types name v26).Shape.Edges.length (AL AH.c (Z0g types name v26).Shape.Edges) 68 hk0 (.cons ⟨rfl,rfl⟩ .nil)) (Cv.refl _)) ?_
  refine rc [] [v7_1.length=v7_1.length,v7_1.length+1<=maxLen,(v7_1.length+1)*80<=140737488355328] ⟨(OH types name [(26,tI v26)]),[Ct,(7,.cells [.s name,.own 40 7 (v7_1.length+1),vN] 82),(40,.row 7 (v7_1.length+1) (fun i_ j_=>if i_<v7_1.length then (AL BJ.c v7_1) i_ j_ else (Ap 7 1 (BJ.c (Z0g types name v26))) (i_-v7_1.length) j_) 102)]⟩ .nil (.cons rfl (.cons au3 (.cons au3 .nil)))<|BA<|AF ?_
  refine BI (Cv.trans (A7 (⟨(OH types name [(26,tI v26)]),[Ct,(7,.cells [.s name,.own 40 7 (QI v7_1 types name v26).length,vN] 82),(40,.row 7 (QI v7_1 types name v26).length (AL BJ.c (QI v7_1 types name v26)) 102)]⟩) lr (.cons ⟨rfl,.refl _⟩ (.cons ⟨rfl,.cells _ (rr (.cons (.own _ _ au2) (rr .nil)))⟩ (.cons ⟨rfl,Ad 102 (A8 (Ay 7 BJ.c v7_1) (Al (c:=BJ.c) (xs:=([BJ.mk (Z0g types name v26).Name (AQ.mk (Z0g types name v26).Shape.Kind (Z0g types name v26).Shape.Edges (Z0g types name v26).Shape.R) (Z0g types name v26).At (Z0g types name v26).Drill]:List BJ)) rfl kr))⟩ .nil)))) (Cv.refl _)) ?_
  refine rg ⟨(OH types name [(26,tI (W64 (v26+1)))]),[Ct,(7,.cells [.s name,.own 40 7 (QI v7_1 types name v26).length,vN] 82),(40,.row 7 (QI v7_1 types name v26).length (AL BJ.c (QI v7_1 types name v26)) 102)]⟩ ?_
  (try rw [(show W64 (v26+1)=v26+1 from Ah oM au5)])
  refine AF ?_
  refine ⟨(n0,v7_1++[BJ.mk (Z0g types name v26).Name (AQ.mk (Z0g types name v26).Shape.Kind (Z0g types name v26).Shape.Edges (Z0g types name v26).Shape.R) (Z0g types name v26).At (Z0g types name v26).Drill],v26+1),⟨?_,?_,(by rw [<- hF0];simp only [Fy,h2,cond_true,cond_false])⟩,Nat.lt_succ_self _,Cv.trans (vr 40 100000 hk0) (Aw kr)⟩
  ·show (((types.getD (CU types name).toNat default).Pads.length:Int)-(v26+1)).toNat<n0;omega
  exact ⟨ax0,ax0,ax0⟩
 have g2:=oF h2
 refine A3<|Ar ?_
 refine Ar<|A4 ?_
 refine AF<|AB<|AB ?_
 refine rc [] [0<=(CU types name:Int)/\(CU types name:Int)<((types.length:Nat):Int)] ⟨(R5 types name),[Ct,(Og name v7_1),(Gk v7_1)]⟩ .nil (.cons au24 .nil)<|AF<|AO ?_
 refine BI (Cv.trans (wg (⟨(R5 types name),[(100001,.row 2 0 (fun _ _=>default) 180),Ct,(7,.cells [.s name,.own 100000 7 v7_1.length,.own 100001 2 0] 82),(Gk v7_1)]⟩) 100001 2 (fun _ _=>default) 180 [] [(7,[2])] hk0) (Cv.trans (A7 (⟨(R5 types name),[ZW,Ct,(7,.cells [.s name,.own 100000 7 v7_1.length,.own 100001 2 ([]:List A5).length] 82),(Gk v7_1)]⟩) lr (.cons ⟨rfl,Ad 180 (B3 2 (fun _ _=>default) A5.c)⟩ (.cons ⟨rfl,.refl _⟩ (.cons ⟨rfl,.cells _ (rr2 (.cons (.own _ _ au2) .nil))⟩ lr)))) (Cv.trans (ck (⟨(R5 types name),[Ct,(7,.cells [.s name,.own 100000 7 v7_1.length,.own 100001 2 ([]:List A5).length] 82),(Gk v7_1),ZW]⟩)) (Cv.refl _)))) ?_
 refine A0 (ι:=Nat×List A5×Int) (fun x=>⟨(OB types name [(49,tI x.2.2)]),[Ct,(7,.cells [.s name,.own 100000 7 v7_1.length,.own 100001 2 x.2.1.length] 82),(Gk v7_1),(100001,.row 2 x.2.1.length (AL A5.c x.2.1) 180)]⟩) (fun x=>(((types.getD (CU types name).toNat default).Gates.length:Int)-x.2.2).toNat<x.1/\(0<=x.2.2/\(x.2.2<=((types.getD (CU types name).toNat default).Gates.length:Int)\/x.2.2=0)/\(x.2.1.length:Int)<=0+1*(x.2.2-0))/\Iv types name v7_1 v26 (Fy types name n0) x.1 x.2.1 x.2.2=Be types name) (fun x=>x.1) ?_ ((((types.getD (CU types name).toNat default).Gates.length:Int)-0).toNat+1,([]:List A5),0) ⟨Nat.lt_succ_self _,⟨ax0,ax0,ax0⟩,(by rw [<- hF0];simp only [Fy,h2,cond_true,cond_false])⟩
 rintro ⟨n1,v7_2,v49⟩ ⟨hm1,hinv1,hF1⟩
 try dsimp only at hm1 hinv1 hF1
 cases n1 with | zero=>exact nz hm1 | succ n1 => ?_
 refine AB<|rn ⟨(OB types name [(49,tI v49),(50,tB (decide ((v49:Int)<((types.getD (CU types name).toNat default).Gates.length:Int))))]),[Ct,(7,.cells [.s name,.own 100000 7 v7_1.length,.own 100001 2 v7_2.length] 82),(Gk v7_1),(100001,.row 2 v7_2.length (AL A5.c v7_2) 180)]⟩<|AB ?_
 refine AW _ rfl (fun h3 => ?_) (fun h3 => ?_)
 ·have g3:=oT h3
  refine AV<|AF ?_
  refine AB<|AO<|AB ?_
  refine rc [] [0<=(v49:Int)/\(v49:Int)<(((types.getD (CU types name).toNat default).Gates.length:Nat):Int)] ⟨[(4,tP 4 0),(7,tP 7 0),(11,tP 11 0),(Zu types name),(Zw types name),(49,tI v49)],[Ct,(7,.cells [.s name,.own 100000 7 v7_1.length,.own 100001 2 v7_2.length] 82),(11,.cells (A5.c (Z0f types name v49)) 180),(Gk v7_1),(100001,.row 2 v7_2.length (AL A5.c v7_2) 180)]⟩ .nil (.cons au24 .nil)<|AF ?_
  refine dw [] [(59,Pj (Z0f types name v49).Legs)] [Aq (Pj (Z0f types name v49).Legs).2.1,v7_2.length=v7_2.length,v7_2.length+1<=maxLen,(v7_2.length+1)*32<=140737488355328] ⟨(OB types name [(49,tI v49)]),[Ct,(7,.cells [.s name,.own 100000 7 v7_1.length,.own 62 2 (v7_2.length+1)] 82),(62,.row 2 (v7_2.length+1) (fun i_ j_=>if i_<v7_2.length then (AL A5.c v7_2) i_ j_ else (Ap 2 1 [.i (Z0f types name v49).Kind,lst 2 Bn.c (HB (Z0f types name v49).Legs)]) (i_-v7_2.length) j_) 180),(Gk v7_1)]⟩ (.cons (Yc (Z0f types name v49).Legs (by first | assumption | exact Qo (hta _) _ | exact PE (hta _) _ | omega)) .nil) (.cons rfl (.cons rfl (.cons au3 (.cons au3 .nil))))<|BA<|AF ?_
  refine BI (Cv.trans (A7 (⟨(OB types name [(49,tI v49)]),[Ct,(7,.cells [.s name,.own 100000 7 v7_1.length,.own 62 2 (MR v7_2 types name v49).length] 82),(62,.row 2 (MR v7_2 types name v49).length (AL A5.c (MR v7_2 types name v49)) 180),(Gk v7_1)]⟩) lr (.cons ⟨rfl,.refl _⟩ (.cons ⟨rfl,.cells _ (rr2 (.cons (.own _ _ au2) .nil))⟩ (.cons ⟨rfl,Ad 180 (A8 (Ay 2 A5.c v7_2) (Al (c:=A5.c) (xs:=([A5.mk (Z0f types name v49).Kind (HB (Z0f types name v49).Legs)]:List A5)) rfl kr))⟩ lr)))) (Cv.refl _)) ?_
  refine rg ⟨(OB types name [(49,tI (W64 (v49+1)))]),[Ct,(7,.cells [.s name,.own 100000 7 v7_1.length,.own 62 2 (MR v7_2 types name v49).length] 82),(62,.row 2 (MR v7_2 types name v49).length (AL A5.c (MR v7_2 types name v49)) 180),(Gk v7_1)]⟩ ?_
  (try rw [(show W64 (v49+1)=v49+1 from Ah oM au5)])
  refine AF ?_
  refine ⟨(n1,v7_2++[A5.mk (Z0f types name v49).Kind (HB (Z0f types name v49).Legs)],v49+1),⟨?_,?_,(by rw [<- hF1];simp only [Iv,h3,cond_true,cond_false])⟩,Nat.lt_succ_self _,Cv.trans (vr 62 100001 hk0) (Cv.trans (vk [4,7,47,48,49] [4,7,100000,100001]) (Aw kr))⟩
  ·show (((types.getD (CU types name).toNat default).Gates.length:Int)-(v49+1)).toNat<n1;omega
  exact ⟨ax0,ax0,ax0⟩
 refine A3<|Ar ?_
 refine Ar<|A4 ?_
 refine AF<|AB ?_
 refine rn ⟨[(4,tP 4 0),(5,tB true)],[(4,.cells [.s name,.own 100000 7 v7_1.length,.own 100001 2 v7_2.length] 82),(Gk v7_1),(100001,.row 2 v7_2.length (AL A5.c v7_2) 180)]⟩<|Ab ?_
 exact yl (Cv.trans (vf 100000 7 v7_1.length (AL BJ.c v7_1) 102 hk0 (.cons ⟨rfl,rfl⟩ .nil)) (Cv.trans (vf 100001 2 v7_2.length (AL A5.c v7_2) 180 hk0 (.cons ⟨rfl,rfl⟩ .nil)) (Cv.refl _))) (.tup [.agg [.s name,lst 7 BJ.c v7_1,lst 2 A5.c v7_2],.one (.b true)]) (Ae (by rw [<- hF1];first | (simp only [Iv,h3,cond_true,cond_false] <;> rfl)))
theorem lB (types:(List AR)) (name:ByteArray) (ht:B4 types):OKc (jZ types name):=cPu<|pGet types name ht
def UV (types:List AR) (name:ByteArray):AR×Bool:=match types.find? (fun t=>GU t name) with
 | some t=>(⟨name,t.Pads,t.Gates⟩,true)
 | none=>(⟨⟨#[]⟩,[],[]⟩,false)
theorem Iw (types:List AR) (name:ByteArray):Be types name=UV types name:=by
 unfold Be UV
 rw [Pt]
 cases hc:decide ((ixI (fun x=>GU x name) types:Int)<0) with
 | true =>
  rw [cU (oT hc)]
  rfl
 | false =>
  obtain ⟨_,h2⟩:=cT (oF hc)
  rw [h2,cond_false]
  have e:=Pt types name
  rw [<- e]
  generalize ht:types.getD (CU types name).toNat default=t
  have h1:=fun (acc0:List BJ) (v0:Int) K0=>Yu t.Gates (Iv types name acc0 v0 K0) (fun acc _=>(AR.mk name acc0 acc,true)) (fun m acc v=>by
   rw [Iv]
   unfold Z0f HB
   rw [ht,Int.toNat_natCast]) t.Gates.length 0 ((((t.Gates.length:Int))-0).toNat+1) [] rfl (Nat.zero_le _) (by omega)
  have h0:=Yu t.Pads (Fy types name) (fun acc v=>(AR.mk name acc t.Gates,true)) (fun m acc v=>by
   rw [Fy]
   unfold Z0g
   rw [ht,Int.toNat_natCast]
   have:=h1 acc v (Fy types name m)
   rw [List.drop_zero,List.nil_append] at this
   cases decide ((v:Int)<(t.Pads.length:Int)) with
   | true=>rfl
   | false=>exact this) t.Pads.length 0 ((((t.Pads.length:Int))-0).toNat+1) [] rfl (Nat.zero_le _) (by omega)
  rw [List.drop_zero,List.nil_append] at h0
  exact h0
theorem IZ {types:List AR} (h:B4 types) (name:ByteArray):((UV types name).1.Pads.length:Int)<=1000000:=by
 unfold UV
 cases hf:types.find? (fun t=>GU t name) with
 | none=>exact (by decide:((0:Nat):Int)<=1000000)
 | some t=>exact (h.2 t (List.mem_of_find?_eq_some hf)).1
end
theorem Hq:∀ x:AH,∀ y∈AH.c x,NM y:=by
 intro x y hy
 simp only [AH.c,List.mem_cons,List.not_mem_nil,or_false] at hy
 rcases hy with rfl | rfl | rfl | rfl | rfl | rfl | rfl <;> first | exact .val _
theorem FZ:∀ x:AE,∀ y∈AE.c x,NM y:=by
 intro x y hy
 simp only [AE.c,List.mem_cons,List.not_mem_nil,or_false] at hy
 rcases hy with rfl | rfl | rfl | rfl | rfl | rfl | rfl <;> first | exact .val _
theorem jF:∀ x:Ak,∀ y∈Ak.c x,NM y:=by
 intro x y hy
 simp only [Ak.c,List.mem_cons,List.not_mem_nil,or_false] at hy
 rcases hy with rfl | rfl <;> first | exact .val _
theorem SU:∀ x:Bi,∀ y∈Bi.c x,NM y:=by
 intro x y hy
 simp only [Bi.c,List.mem_cons,List.not_mem_nil,or_false] at hy
 rcases hy with rfl | rfl <;> first | exact .val _ | exact CR jF
theorem Ye:∀ x:AM,∀ y∈AM.c x,NM y:=by
 intro x y hy
 simp only [AM.c,List.mem_cons,List.not_mem_nil,or_false] at hy
 rcases hy with rfl | rfl | rfl | rfl | rfl | rfl <;> first | exact .val _ | exact CR Hq
theorem jE:∀ x:Ag,∀ y∈Ag.c x,NM y:=by
 intro x y hy
 simp only [Ag.c,List.mem_cons,List.not_mem_nil,or_false] at hy
 rcases hy with rfl | rfl | rfl | rfl | rfl | rfl | rfl | rfl <;> first | exact .val _
theorem cA:∀ x:As,∀ y∈As.c x,NM y:=by
 intro x y hy
 simp only [As.c,List.mem_cons,List.not_mem_nil,or_false] at hy
 rcases hy with rfl | rfl | rfl | rfl <;> first | exact .val _
theorem cB:∀ x:Bc,∀ y∈Bc.c x,NM y:=by
 intro x y hy
 simp only [Bc.c,List.mem_cons,List.not_mem_nil,or_false] at hy
 rcases hy with rfl | rfl | rfl | rfl | rfl | rfl | rfl | rfl <;> first | exact .val _ | exact CR cA
theorem cC:∀ x:C4,∀ y∈C4.c x,NM y:=by
 intro x y hy
 simp only [C4.c,List.mem_cons,List.not_mem_nil,or_false] at hy
 rcases hy with rfl | rfl | rfl | rfl | rfl <;> first | exact .val _ | exact CR Hq
theorem bZ:∀ x:Au,∀ y∈Au.c x,NM y:=by
 intro x y hy
 simp only [Au.c,List.mem_cons,List.not_mem_nil,or_false] at hy
 rcases hy with rfl | rfl | rfl | rfl <;> first | exact .val _ | exact CR Hq
theorem Yg:∀ x:Cr,∀ y∈Cr.c x,NM y:=by
 intro x y hy
 simp only [Cr.c,List.mem_cons,List.not_mem_nil,or_false] at hy
 rcases hy with rfl | rfl <;> first | exact .val _ | exact CR (fun x y hy=>by rw [List.mem_singleton.1 hy];exact .val _)
theorem WC:∀ x:CY,∀ y∈CY.c x,NM y:=by
 intro x y hy
 simp only [CY.c,List.mem_cons,List.not_mem_nil,or_false] at hy
 rcases hy with rfl | rfl | rfl <;> first | exact .val _
theorem Yf:∀ x:Dw,∀ y∈Dw.c x,NM y:=by
 intro x y hy
 simp only [Dw.c,List.mem_cons,List.not_mem_nil,or_false] at hy
 rcases hy with rfl | rfl | rfl <;> first | exact .val _ | exact CR (fun x y hy=>by rw [List.mem_singleton.1 hy];exact .val _)
theorem JO:∀ x:AN,∀ y∈AN.c x,NM y:=by
 intro x y hy
 simp only [AN.c,List.mem_cons,List.not_mem_nil,or_false] at hy
 rcases hy with rfl | rfl | rfl | rfl | rfl | rfl | rfl | rfl | rfl <;> first | exact .val _ | exact CR Hq
theorem Jj:∀ x:BJ,∀ y∈BJ.c x,NM y:=by
 intro x y hy
 simp only [BJ.c,List.mem_cons,List.not_mem_nil,or_false] at hy
 rcases hy with rfl | rfl | rfl | rfl | rfl | rfl | rfl <;> first | exact .val _ | exact CR Hq
theorem jG:∀ x:Bn,∀ y∈Bn.c x,NM y:=by
 intro x y hy
 simp only [Bn.c,List.mem_cons,List.not_mem_nil,or_false] at hy
 rcases hy with rfl | rfl <;> first | exact .val _
theorem cD:∀ x:A5,∀ y∈A5.c x,NM y:=by
 intro x y hy
 simp only [A5.c,List.mem_cons,List.not_mem_nil,or_false] at hy
 rcases hy with rfl | rfl <;> first | exact .val _ | exact CR jG
theorem PM:∀ x:AR,∀ y∈AR.c x,NM y:=by
 intro x y hy
 simp only [AR.c,List.mem_cons,List.not_mem_nil,or_false] at hy
 rcases hy with rfl | rfl | rfl <;> first | exact .val _ | exact CR cD | exact CR Jj
section
open Go.RowKit
def DJ (r:As):AQ:=AQ.mk 2 ((([AH.mk 1 (AC.mk r.X0 r.Y0) (AC.mk r.X1 r.Y0) (AC.mk 0 0)]++[AH.mk 1 (AC.mk r.X1 r.Y0) (AC.mk r.X1 r.Y1) (AC.mk 0 0)])++[AH.mk 1 (AC.mk r.X1 r.Y1) (AC.mk r.X0 r.Y1) (AC.mk 0 0)])++[AH.mk 1 (AC.mk r.X0 r.Y1) (AC.mk r.X0 r.Y0) (AC.mk 0 0)]) 0
variable (a:AQ) (p1:List AH) (b:AQ) (k:Int) (p2:List AH) (r:As)
def In:CT:=(37,[.agg (As.c r)],.val [] (.av (.agg (AQ.c (DJ r)))))
abbrev pL:=AC.mk r.X0 r.Y0
abbrev DL:=[AH.mk 1 (pL r) (AC.mk r.X1 r.Y0) (AC.mk 0 0)]
abbrev Ex:=[AH.mk 1 (AC.mk r.X1 r.Y0) (AC.mk r.X1 r.Y1) (AC.mk 0 0)]
abbrev FP:Nat×Blk:=(3,.cells [.i r.X0,.i r.Y0,.i r.X1,.i r.Y0,.i r.X1,.i r.Y1,.i r.X0,.i r.Y1] 199)
abbrev pK:=AC.mk r.X0 r.Y1
abbrev F2:=[AH.mk 1 (AC.mk r.X1 r.Y1) (pK r) (AC.mk 0 0)]
abbrev C7:Nat×Blk:=(2,.cells [.i 0,vN,.i 0] 28)
abbrev Gj:List (Nat×Tv):=[(1,tP 1 0),(2,tP 2 0)]
abbrev MV:=[AH.mk 1 (pK r) (pL r) (AC.mk 0 0)]
abbrev Ca (t_:List (Nat×Tv)):List (Nat×Tv):=(2,tP 2 0)::(3,tP 3 0)::(4,tP 4 0)::t_
abbrev Kf:List (Nat×Tv):=(Ca [])
abbrev VJ:=AL AH.c (((DL r)++(Ex r))++(F2 r))
abbrev VK:Nat×Blk:=(100002,.row 7 (((DL r)++(Ex r))++(F2 r)).length (VJ r) 68)
abbrev Rt:List (Nat×Tv):=(Ca [(28,tI 1)])
abbrev Rs:List (Nat×Tv):=(Ca [(28,tI 2)])
abbrev Rr:List (Nat×Tv):=(Ca [(28,tI 3)])
abbrev VI:Nat×Blk:=(4,.cells [.i 2,.own 100002 7 (((DL r)++(Ex r))++(F2 r)).length,.i 0] 28)
abbrev VG:Nat×Blk:=(100001,.row 7 ((DL r)++(Ex r)).length (AL AH.c ((DL r)++(Ex r))) 68)
abbrev VE:Nat×Blk:=(4,.cells [.i 2,.own 100001 7 ((DL r)++(Ex r)).length,.i 0] 28)
abbrev VC:List (Nat×Tv):=(Ca [(28,tI 0)])
abbrev VB:Nat×Blk:=(4,.cells [.i 2,.own 100000 7 ((DL r).length),.i 0] 28)
abbrev Rg:Nat×Blk:=(4,.cells [.i 2,vN,.i 0] 28)
abbrev U7:Nat×Blk:=(100000,.row 7 ((DL r).length) (AL AH.c (DL r)) 68)
abbrev U4:Nat×Blk:=(100003,.row 7 ((((DL r)++(Ex r))++(F2 r))++(MV r)).length (AL AH.c ((((DL r)++(Ex r))++(F2 r))++(MV r))) 68)
abbrev U3:List Cl:=[.i 2,.own 100003 7 ((((DL r)++(Ex r))++(F2 r))++(MV r)).length,.i 0]
abbrev Zd:Nat×Blk:=(43,.row 7 ((((DL r)++(Ex r))++(F2 r))++(MV r)).length (AL AH.c ((((DL r)++(Ex r))++(F2 r))++(MV r))) 68)
abbrev Za:Nat×Blk:=(4,.cells [.i 2,.own 43 7 ((((DL r)++(Ex r))++(F2 r))++(MV r)).length,.i 0] 28)
abbrev ZM:Nat×Blk:=(4,.cells [.i 2,.own 43 7 (((DL r)++(Ex r))++(F2 r)).length,.i 0] 28)
theorem mP (r:As):PuP 37 (In r).2.1 (.av (.agg (AQ.c (DJ r)))):=by
 refine pwf Tryz.func37 fun W0 M0 => ?_
 refine AB<|rn ⟨Gj,[(1,.cells (As.c r) 90),C7]⟩<|AB ?_
 refine rn ⟨Gr,[C7,(FP r)]⟩<|AB ?_
 refine rn ⟨Kf,[C7,(FP r),Rg]⟩ ?_
 refine AB<|AB ?_
 refine rn ⟨VC,[C7,(FP r),Rg]⟩<|AO ?_
 refine Ea 5 ?_
 refine Bf<|AB ?_
 refine rn ⟨(Ca [(28,tI 0),(29,tB true)]),[C7,(FP r),Rg]⟩<|AB ?_
 refine Bj kr<|AV ?_
 refine AF<|AB ?_
 refine AO<|AB ?_
 refine rn ⟨(Ca [(5,tI 0),(28,tI 0)]),[C7,(FP r),Rg]⟩ ?_
 refine dw [] [] [0<=(0:Int)/\(0:Int)<(4:Int),(4:Int)≠0,0<=(1:Int)/\(1:Int)<(4:Int),1<=maxLen,1*56<=140737488355328] ⟨VC,[C7,(FP r),(4,.cells [.i 2,.own 43 7 1,.i 0] 28),(43,.row 7 1 (Ap 7 1 [.i 1,.i r.X0,.i r.Y0,.i r.X1,.i r.Y0,.i 0,.i 0]) 68)]⟩ .nil (.cons (by decide) (.cons au17 (.cons (by decide) (.cons au3 (.cons au3 .nil)))))<|BA<|AF ?_
 refine BI (Cv.trans (A7 (⟨VC,[C7,(FP r),(4,.cells [.i 2,.own 43 7 ((DL r).length),.i 0] 28),(43,.row 7 ((DL r).length) (AL AH.c (DL r)) 68)]⟩) lr (.cons ⟨rfl,.refl _⟩ (.cons ⟨rfl,.refl _⟩ (.cons ⟨rfl,.cells _ (rr (.cons (.own _ _ au2) (rr .nil)))⟩ (.cons ⟨rfl,Ad 68 (Al (c:=AH.c) (xs:=([AH.mk 1 (AC.mk r.X0 r.Y0) (AC.mk r.X1 r.Y0) (AC.mk 0 0)]:List AH)) rfl kr)⟩ .nil))))) (Cv.refl _)) ?_
 refine rn ⟨Rt,[C7,(FP r),(4,.cells [.i 2,.own 43 7 ((DL r).length),.i 0] 28),(43,.row 7 ((DL r).length) (AL AH.c (DL r)) 68)]⟩ ?_
 refine Bf ?_
 refine BI (Cv.trans (wr (⟨Rt,[C7,(FP r),(VB r),(U7 r)]⟩) 43 100000 hk0) (Cv.refl _))<|AB ?_
 refine rn ⟨(Ca [(28,tI 1),(29,tB true)]),[C7,(FP r),(VB r),(U7 r)]⟩<|AB ?_
 refine Bj kr<|AV ?_
 refine AF<|AB ?_
 refine AO<|AB ?_
 refine rn ⟨(Ca [(5,tI 1),(28,tI 1)]),[C7,(FP r),(VB r),(U7 r)]⟩ ?_
 refine dw [] [] [0<=(1:Int)/\(1:Int)<(4:Int),(4:Int)≠0,0<=(2:Int)/\(2:Int)<(4:Int),[AH.mk 1 (AC.mk r.X0 r.Y0) (AC.mk r.X1 r.Y0) (AC.mk 0 0)].length=[AH.mk 1 (AC.mk r.X0 r.Y0) (AC.mk r.X1 r.Y0) (AC.mk 0 0)].length,([AH.mk 1 (AC.mk r.X0 r.Y0) (AC.mk r.X1 r.Y0) (AC.mk 0 0)].length)+1<=maxLen,(([AH.mk 1 (AC.mk r.X0 r.Y0) (AC.mk r.X1 r.Y0) (AC.mk 0 0)].length)+1)*56<=140737488355328] ⟨Rt,[C7,(FP r),(4,.cells [.i 2,.own 43 7 (((DL r).length)+1),.i 0] 28),(43,.row 7 (((DL r).length)+1) (fun i_ j_=>if i_<((DL r).length) then (AL AH.c (DL r)) i_ j_ else (Ap 7 1 [.i 1,.i r.X1,.i r.Y0,.i r.X1,.i r.Y1,.i 0,.i 0]) (i_-((DL r).length)) j_) 68)]⟩ .nil (.cons (by decide) (.cons au17 (.cons (by decide) (.cons rfl (.cons au3 (.cons au3 .nil))))))<|BA<|AF ?_
 refine BI (Cv.trans (A7 (⟨Rt,[C7,(FP r),(4,.cells [.i 2,.own 43 7 ((DL r)++(Ex r)).length,.i 0] 28),(43,.row 7 ((DL r)++(Ex r)).length (AL AH.c ((DL r)++(Ex r))) 68)]⟩) lr (.cons ⟨rfl,.refl _⟩ (.cons ⟨rfl,.refl _⟩ (.cons ⟨rfl,.cells _ (rr (.cons (.own _ _ au2) (rr .nil)))⟩ (.cons ⟨rfl,Ad 68 (A8 (Ay 7 AH.c [AH.mk 1 (AC.mk r.X0 r.Y0) (AC.mk r.X1 r.Y0) (AC.mk 0 0)]) (Al (c:=AH.c) (xs:=([AH.mk 1 (AC.mk r.X1 r.Y0) (AC.mk r.X1 r.Y1) (AC.mk 0 0)]:List AH)) rfl kr))⟩ .nil))))) (Cv.refl _)) ?_
 refine rn ⟨Rs,[C7,(FP r),(4,.cells [.i 2,.own 43 7 ((DL r)++(Ex r)).length,.i 0] 28),(43,.row 7 ((DL r)++(Ex r)).length (AL AH.c ((DL r)++(Ex r))) 68)]⟩ ?_
 refine Bf ?_
 refine BI (Cv.trans (wr (⟨Rs,[C7,(FP r),(VE r),(VG r)]⟩) 43 100001 hk0) (Cv.refl _))<|AB ?_
 refine rn ⟨(Ca [(28,tI 2),(29,tB true)]),[C7,(FP r),(VE r),(VG r)]⟩<|AB ?_
 refine Bj kr<|AV ?_
 refine AF<|AB ?_
 refine AO<|AB ?_
 refine rn ⟨(Ca [(5,tI 2),(28,tI 2)]),[C7,(FP r),(VE r),(VG r)]⟩ ?_
 refine dw [] [] [0<=(2:Int)/\(2:Int)<(4:Int),(4:Int)≠0,0<=(3:Int)/\(3:Int)<(4:Int),([AH.mk 1 (AC.mk r.X0 r.Y0) (AC.mk r.X1 r.Y0) (AC.mk 0 0)]++[AH.mk 1 (AC.mk r.X1 r.Y0) (AC.mk r.X1 r.Y1) (AC.mk 0 0)]).length=([AH.mk 1 (AC.mk r.X0 r.Y0) (AC.mk r.X1 r.Y0) (AC.mk 0 0)]++[AH.mk 1 (AC.mk r.X1 r.Y0) (AC.mk r.X1 r.Y1) (AC.mk 0 0)]).length,([AH.mk 1 (AC.mk r.X0 r.Y0) (AC.mk r.X1 r.Y0) (AC.mk 0 0)]++[AH.mk 1 (AC.mk r.X1 r.Y0) (AC.mk r.X1 r.Y1) (AC.mk 0 0)]).length+1<=maxLen,(([AH.mk 1 (AC.mk r.X0 r.Y0) (AC.mk r.X1 r.Y0) (AC.mk 0 0)]++[AH.mk 1 (AC.mk r.X1 r.Y0) (AC.mk r.X1 r.Y1) (AC.mk 0 0)]).length+1)*56<=140737488355328] ⟨Rs,[C7,(FP r),(4,.cells [.i 2,.own 43 7 (((DL r)++(Ex r)).length+1),.i 0] 28),(43,.row 7 (((DL r)++(Ex r)).length+1) (fun i_ j_=>if i_<((DL r)++(Ex r)).length then (AL AH.c ((DL r)++(Ex r))) i_ j_ else (Ap 7 1 [.i 1,.i r.X1,.i r.Y1,.i r.X0,.i r.Y1,.i 0,.i 0]) (i_-((DL r)++(Ex r)).length) j_) 68)]⟩ .nil (.cons (by decide) (.cons au17 (.cons (by decide) (.cons rfl (.cons au3 (.cons au3 .nil))))))<|BA<|AF ?_
 refine BI (Cv.trans (A7 (⟨Rs,[C7,(FP r),(ZM r),(43,.row 7 (((DL r)++(Ex r))++(F2 r)).length (VJ r) 68)]⟩) lr (.cons ⟨rfl,.refl _⟩ (.cons ⟨rfl,.refl _⟩ (.cons ⟨rfl,.cells _ (rr (.cons (.own _ _ au2) (rr .nil)))⟩ (.cons ⟨rfl,Ad 68 (A8 (Ay 7 AH.c ([AH.mk 1 (AC.mk r.X0 r.Y0) (AC.mk r.X1 r.Y0) (AC.mk 0 0)]++[AH.mk 1 (AC.mk r.X1 r.Y0) (AC.mk r.X1 r.Y1) (AC.mk 0 0)])) (Al (c:=AH.c) (xs:=([AH.mk 1 (AC.mk r.X1 r.Y1) (AC.mk r.X0 r.Y1) (AC.mk 0 0)]:List AH)) rfl kr))⟩ .nil))))) (Cv.refl _)) ?_
 refine rn ⟨Rr,[C7,(FP r),(ZM r),(43,.row 7 (((DL r)++(Ex r))++(F2 r)).length (VJ r) 68)]⟩ ?_
 refine Bf ?_
 refine BI (Cv.trans (wr (⟨Rr,[C7,(FP r),(VI r),(VK r)]⟩) 43 100002 hk0) (Cv.refl _))<|AB ?_
 refine rn ⟨(Ca [(28,tI 3),(29,tB true)]),[C7,(FP r),(VI r),(VK r)]⟩<|AB ?_
 refine Bj kr<|AV ?_
 refine AF<|AB ?_
 refine AO<|AB ?_
 refine rn ⟨(Ca [(5,tI 3),(28,tI 3)]),[C7,(FP r),(VI r),(VK r)]⟩ ?_
 refine dw [] [] [0<=(3:Int)/\(3:Int)<(4:Int),(4:Int)≠0,0<=(0:Int)/\(0:Int)<(4:Int),(([AH.mk 1 (AC.mk r.X0 r.Y0) (AC.mk r.X1 r.Y0) (AC.mk 0 0)]++[AH.mk 1 (AC.mk r.X1 r.Y0) (AC.mk r.X1 r.Y1) (AC.mk 0 0)])++[AH.mk 1 (AC.mk r.X1 r.Y1) (AC.mk r.X0 r.Y1) (AC.mk 0 0)]).length=(([AH.mk 1 (AC.mk r.X0 r.Y0) (AC.mk r.X1 r.Y0) (AC.mk 0 0)]++[AH.mk 1 (AC.mk r.X1 r.Y0) (AC.mk r.X1 r.Y1) (AC.mk 0 0)])++[AH.mk 1 (AC.mk r.X1 r.Y1) (AC.mk r.X0 r.Y1) (AC.mk 0 0)]).length,(([AH.mk 1 (AC.mk r.X0 r.Y0) (AC.mk r.X1 r.Y0) (AC.mk 0 0)]++[AH.mk 1 (AC.mk r.X1 r.Y0) (AC.mk r.X1 r.Y1) (AC.mk 0 0)])++[AH.mk 1 (AC.mk r.X1 r.Y1) (AC.mk r.X0 r.Y1) (AC.mk 0 0)]).length+1<=maxLen,((([AH.mk 1 (AC.mk r.X0 r.Y0) (AC.mk r.X1 r.Y0) (AC.mk 0 0)]++[AH.mk 1 (AC.mk r.X1 r.Y0) (AC.mk r.X1 r.Y1) (AC.mk 0 0)])++[AH.mk 1 (AC.mk r.X1 r.Y1) (AC.mk r.X0 r.Y1) (AC.mk 0 0)]).length+1)*56<=140737488355328] ⟨Rr,[C7,(FP r),(4,.cells [.i 2,.own 43 7 ((((DL r)++(Ex r))++(F2 r)).length+1),.i 0] 28),(43,.row 7 ((((DL r)++(Ex r))++(F2 r)).length+1) (fun i_ j_=>if i_<(((DL r)++(Ex r))++(F2 r)).length then (VJ r) i_ j_ else (Ap 7 1 [.i 1,.i r.X0,.i r.Y1,.i r.X0,.i r.Y0,.i 0,.i 0]) (i_-(((DL r)++(Ex r))++(F2 r)).length) j_) 68)]⟩ .nil (.cons (by decide) (.cons au17 (.cons (by decide) (.cons rfl (.cons au3 (.cons au3 .nil))))))<|BA<|AF ?_
 refine BI (Cv.trans (A7 (⟨Rr,[C7,(FP r),(Za r),(Zd r)]⟩) lr (.cons ⟨rfl,.refl _⟩ (.cons ⟨rfl,.refl _⟩ (.cons ⟨rfl,.cells _ (rr (.cons (.own _ _ au2) (rr .nil)))⟩ (.cons ⟨rfl,Ad 68 (A8 (Ay 7 AH.c (([AH.mk 1 (AC.mk r.X0 r.Y0) (AC.mk r.X1 r.Y0) (AC.mk 0 0)]++[AH.mk 1 (AC.mk r.X1 r.Y0) (AC.mk r.X1 r.Y1) (AC.mk 0 0)])++[AH.mk 1 (AC.mk r.X1 r.Y1) (AC.mk r.X0 r.Y1) (AC.mk 0 0)])) (Al (c:=AH.c) (xs:=([AH.mk 1 (AC.mk r.X0 r.Y1) (AC.mk r.X0 r.Y0) (AC.mk 0 0)]:List AH)) rfl kr))⟩ .nil))))) (Cv.refl _)) ?_
 refine rn ⟨(Ca [(28,tI 4)]),[C7,(FP r),(Za r),(Zd r)]⟩ ?_
 refine Bf ?_
 refine BI (Cv.trans (wr (⟨(Ca [(28,tI 4)]),[C7,(FP r),(4,.cells (U3 r) 28),(U4 r)]⟩) 43 100003 hk0) (Cv.refl _))<|AB ?_
 refine rn ⟨(Ca [(28,tI 4),(29,tB false)]),[C7,(FP r),(4,.cells (U3 r) 28),(U4 r)]⟩<|AB ?_
 refine D5 kr<|A3 ?_
 refine Ar<|Ar ?_
 refine A4<|AF<|AB ?_
 refine rn ⟨[(2,tP 2 0)],[(2,.cells (U3 r) 28),(U4 r)]⟩<|Ab ?_
 exact yl (Cv.trans (vf 100003 7 ((([AH.mk 1 (AC.mk r.X0 r.Y0) (AC.mk r.X1 r.Y0) (AC.mk 0 0)]++[AH.mk 1 (AC.mk r.X1 r.Y0) (AC.mk r.X1 r.Y1) (AC.mk 0 0)])++[AH.mk 1 (AC.mk r.X1 r.Y1) (AC.mk r.X0 r.Y1) (AC.mk 0 0)])++[AH.mk 1 (AC.mk r.X0 r.Y1) (AC.mk r.X0 r.Y0) (AC.mk 0 0)]).length (AL AH.c ((([AH.mk 1 (AC.mk r.X0 r.Y0) (AC.mk r.X1 r.Y0) (AC.mk 0 0)]++[AH.mk 1 (AC.mk r.X1 r.Y0) (AC.mk r.X1 r.Y1) (AC.mk 0 0)])++[AH.mk 1 (AC.mk r.X1 r.Y1) (AC.mk r.X0 r.Y1) (AC.mk 0 0)])++[AH.mk 1 (AC.mk r.X0 r.Y1) (AC.mk r.X0 r.Y0) (AC.mk 0 0)])) 68 hk0 (.cons ⟨rfl,rfl⟩ .nil)) (Cv.refl _)) (.av (.agg [.i 2,lst 7 AH.c ((([AH.mk 1 (AC.mk r.X0 r.Y0) (AC.mk r.X1 r.Y0) (AC.mk 0 0)]++[AH.mk 1 (AC.mk r.X1 r.Y0) (AC.mk r.X1 r.Y1) (AC.mk 0 0)])++[AH.mk 1 (AC.mk r.X1 r.Y1) (AC.mk r.X0 r.Y1) (AC.mk 0 0)])++[AH.mk 1 (AC.mk r.X0 r.Y1) (AC.mk r.X0 r.Y0) (AC.mk 0 0)]),.i 0])) (Ae (by rfl))
theorem Ns (r:As):OKc (In r):=cPu<|mP r
def Ff (p1:(List AH)) (p2:(List AH)):Nat->Int->Bool
 | 0,_=>default
 | n0+1,v13=>bif decide ((v13:Int)<(p1.length:Int)) then (bif !(decide ((p1.getD v13.toNat default).Kind=(p2.getD v13.toNat default).Kind)&&(decide ((p1.getD v13.toNat default).A.X=(p2.getD v13.toNat default).A.X)&&(decide ((p1.getD v13.toNat default).A.Y=(p2.getD v13.toNat default).A.Y)&&(decide ((p1.getD v13.toNat default).B.X=(p2.getD v13.toNat default).B.X)&&(decide ((p1.getD v13.toNat default).B.Y=(p2.getD v13.toNat default).B.Y)&&(decide ((p1.getD v13.toNat default).C.X=(p2.getD v13.toNat default).C.X)&&(decide ((p1.getD v13.toNat default).C.Y=(p2.getD v13.toNat default).C.Y)&&true))))))) then false else ((Ff p1 p2 n0) (v13+1))) else true
def HU (p1:(List AH)) (p2:(List AH)):Bool:=bif !decide (((p1.length:Int):Int)=(p2.length:Int)) then false else (Ff p1 p2 (((p1.length:Int)-0).toNat+1) 0)
def N0:CT:=(81,[.one (lst 7 AH.c p1),.one (lst 7 AH.c p2)],.val [] (.av (.one (.b (HU p1 p2)))))
abbrev JD:Nat×Tv:=(0,tO (lst 7 AH.c p1))
abbrev JC:Nat×Tv:=(1,tO (lst 7 AH.c p2))
abbrev MG:Nat×Tv:=(12,tI (p1.length:Int))
theorem iC (p1:(List AH)) (p2:(List AH)) (h0:(p1.length:Int)<=1000000):PuP 81 (N0 p1 p2).2.1 (tO (.b (HU p1 p2))):=by
 refine pwf Tryz.func81 fun W0 M0 => ?_
 refine AB<|rn ⟨[(JD p1),(JC p2)],[]⟩ ?_
 refine AB<|AB ?_
 refine rn ⟨[(JD p1),(JC p2),(10,tB (!decide (((p1.length:Int):Int)=(p2.length:Int))))],[]⟩ ?_
 refine AW _ rfl (fun h1 => ?_) (fun h1 => ?_)
 ·have g1:=B8 h1
  refine AB<|rn ⟨[(4,tB false)],[]⟩ ?_
  refine Ab<|An ?_
  exact xl (tO (.b false)) (Ae (by simp only [HU,h1,cond_true,cond_false] <;> rfl))
 have g1:=B1 h1
 refine AV<|AF ?_
 refine AB<|AB ?_
 refine rn ⟨[(JD p1),(JC p2),(MG p1),(13,tI 0)],[]⟩<|AO ?_
 refine A0 (ι:=Nat×Int) (fun x=>⟨[(JD p1),(JC p2),(MG p1),(13,tI x.2)],[]⟩) (fun x=>((p1.length:Int)-x.2).toNat<x.1/\(0<=x.2/\(x.2<=(p1.length:Int)\/x.2=0))/\Ff p1 p2 x.1 x.2=HU p1 p2) (fun x=>x.1) ?_ (((p1.length:Int)-0).toNat+1,0) ⟨Nat.lt_succ_self _,⟨ax0,ax0⟩,(by simp only [HU,h1,cond_true,cond_false])⟩
 rintro ⟨n0,v13⟩ ⟨hm0,hinv0,hF0⟩
 try dsimp only at hm0 hinv0 hF0
 cases n0 with | zero=>exact nz hm0 | succ n0 => ?_
 refine AB<|rn ⟨[(JD p1),(JC p2),(MG p1),(13,tI v13),(14,tB (decide ((v13:Int)<(p1.length:Int))))],[]⟩<|AB ?_
 refine AW _ rfl (fun h2 => ?_) (fun h2 => ?_)
 ·have g2:=oT h2
  refine AV<|AF ?_
  refine AB<|AO<|AB ?_
  refine rn ⟨[(JD p1),(JC p2),(5,tI v13),(MG p1),(13,tI v13)],[]⟩<|AB ?_
  refine dw [] [] [0<=(v13:Int)/\(v13:Int)<((p1.length:Nat):Int),0<=(v13:Int)/\(v13:Int)<((p2.length:Nat):Int)] ⟨[(JD p1),(JC p2),(MG p1),(13,tI v13),(24,tB (!(decide ((p1.getD v13.toNat default).Kind=(p2.getD v13.toNat default).Kind)&&(decide ((p1.getD v13.toNat default).A.X=(p2.getD v13.toNat default).A.X)&&(decide ((p1.getD v13.toNat default).A.Y=(p2.getD v13.toNat default).A.Y)&&(decide ((p1.getD v13.toNat default).B.X=(p2.getD v13.toNat default).B.X)&&(decide ((p1.getD v13.toNat default).B.Y=(p2.getD v13.toNat default).B.Y)&&(decide ((p1.getD v13.toNat default).C.X=(p2.getD v13.toNat default).C.X)&&(decide ((p1.getD v13.toNat default).C.Y=(p2.getD v13.toNat default).C.Y)&&true)))))))))],[]⟩ .nil (.cons au0 (.cons au0 .nil))<|AF ?_
  refine AW (!(decide ((p1.getD v13.toNat default).Kind=(p2.getD v13.toNat default).Kind)&&(decide ((p1.getD v13.toNat default).A.X=(p2.getD v13.toNat default).A.X)&&(decide ((p1.getD v13.toNat default).A.Y=(p2.getD v13.toNat default).A.Y)&&(decide ((p1.getD v13.toNat default).B.X=(p2.getD v13.toNat default).B.X)&&(decide ((p1.getD v13.toNat default).B.Y=(p2.getD v13.toNat default).B.Y)&&(decide ((p1.getD v13.toNat default).C.X=(p2.getD v13.toNat default).C.X)&&(decide ((p1.getD v13.toNat default).C.Y=(p2.getD v13.toNat default).C.Y)&&true)))))))) kr (fun h3 => ?_) (fun h3 => ?_)
  ·refine AB<|rn ⟨[(4,tB false)],[]⟩ ?_
   refine Ab<|BL ?_
   refine An<|An ?_
   refine BL<|An ?_
   exact xl (tO (.b false)) (Ae (by rw [<- hF0];first | (simp only [Ff,h2,h3,cond_true,cond_false] <;> rfl)))
  refine AV<|BA<|AF ?_
  refine rg ⟨[(JD p1),(JC p2),(MG p1),(13,tI (W64 (v13+1)))],[]⟩ ?_
  (try rw [(show W64 (v13+1)=v13+1 from Ah oM au5)])
  refine AF ?_
  refine ⟨(n0,v13+1),⟨?_,?_,(by rw [<- hF0];simp only [Ff,h2,h3,cond_true,cond_false])⟩,Nat.lt_succ_self _,Aw kr⟩
  ·show ((p1.length:Int)-(v13+1)).toNat<n0;omega
  exact ⟨ax0,ax0⟩
 refine A3<|Ar ?_
 refine Ar<|A4 ?_
 refine AF<|AB ?_
 refine rn ⟨[(4,tB true)],[]⟩<|Ab ?_
 exact xl (tO (.b true)) (Ae (by rw [<- hF0];first | (simp only [Ff,h2,cond_true,cond_false] <;> rfl)))
theorem bM (p1:(List AH)) (p2:(List AH)) (h0:(p1.length:Int)<=1000000):OKc (N0 p1 p2):=cPu<|iC p1 p2 h0
def M7 (a:AQ) (b:AQ):Bool:=bif bif decide ((a.Kind:Int)=b.Kind) then decide ((a.R:Int)=b.R) else false then HU a.Edges b.Edges else false
def Ms:CT:=(31,[.agg (AQ.c a),.agg (AQ.c b)],.val [] (.av (.one (.b (M7 a b)))))
abbrev JM:List (Nat×Blk):=[(2,.cells (AQ.c a) 28),(3,.cells (AQ.c b) 28)]
abbrev VH:=(bif decide ((a.Kind:Int)=b.Kind) then decide ((a.R:Int)=b.R) else false)
theorem au15 {p:Prop} (h:p:=by first | (exact Vc hb _) | (exact Vk hb _) | (exact hb.parts) | (exact hb.tracks) | (exact hb.vias) | (exact hb.slots) | (exact hb.nets) | (exact hb.pins) | (exact Hp hb.parts ht) | with_reducible assumption | omega | decide | (simp only [List.length_cons,List.length_nil,List.length_append];omega) | assumption):p:=h
theorem mM (a:AQ) (b:AQ) (h0:(a.Edges.length:Int)<=1000000) (h1:(b.Edges.length:Int)<=1000000):PuP 31 (Ms a b).2.1 (tO (.b (M7 a b))):=by
 refine pwf Tryz.func31 fun W0 M0 => ?_
 refine AB<|rn ⟨Gr,(JM a b)⟩<|AB ?_
 refine rc [(22,N0 a.Edges b.Edges)] (t5 (decide ((a.Kind:Int)=b.Kind)) (t4 (VH a b) [gk (VH a b) (Aq (N0 a.Edges b.Edges).2.1),gt (VH a b)])) ⟨[(4,tB (bif bif decide ((a.Kind:Int)=b.Kind) then decide ((a.R:Int)=b.R) else false then HU a.Edges b.Edges else false))],[]⟩ (.cons (bM a.Edges b.Edges au15) .nil) (c5 (c4 (.cons (fun _=>rfl) (ci .nil))))<|AF<|Ab ?_
 exact xl (tO (.b (bif bif decide ((a.Kind:Int)=b.Kind) then decide ((a.R:Int)=b.R) else false then HU a.Edges b.Edges else false))) (Ae (by rfl))
theorem XN (a:AQ) (b:AQ) (h0:(a.Edges.length:Int)<=1000000) (h1:(b.Edges.length:Int)<=1000000):OKc (Ms a b):=cPu<|mM a b h0 h1
theorem or3_f {p q r:Prop} [Decidable p] [Decidable q] [Decidable r] (h:(bif bif !decide p then true else !decide q then true else !decide r)=false):p/\q/\r:=by
 by_cases hp:p <;> by_cases hq:q <;> by_cases hr:r <;> simp_all
def Gg (a:AQ) (b:AQ):Nat->Int->Bool
 | 0,_=>default
 | n0+1,k=>bif decide ((k:Int)<(a.Edges.length:Int)) then (bif !(decide ((a.Edges.getD k.toNat default).Kind=(b.Edges.getD k.toNat default).Kind)&&(decide ((a.Edges.getD k.toNat default).A.X=(b.Edges.getD k.toNat default).A.X)&&(decide ((a.Edges.getD k.toNat default).A.Y=(b.Edges.getD k.toNat default).A.Y)&&(decide ((a.Edges.getD k.toNat default).B.X=(b.Edges.getD k.toNat default).B.X)&&(decide ((a.Edges.getD k.toNat default).B.Y=(b.Edges.getD k.toNat default).B.Y)&&(decide ((a.Edges.getD k.toNat default).C.X=(b.Edges.getD k.toNat default).C.X)&&(decide ((a.Edges.getD k.toNat default).C.Y=(b.Edges.getD k.toNat default).C.Y)&&true))))))) then false else ((Gg a b n0) (k+1))) else true
def LF (a:AQ) (b:AQ):Bool:=bif bif bif !decide ((a.Kind:Int)=b.Kind) then true else !decide ((a.R:Int)=b.R) then true else !decide (((a.Edges.length:Int):Int)=(b.Edges.length:Int)) then false else (Gg a b (((a.Edges.length:Int)-0).toNat+1) 0)
def Su:CT:=(59,[.agg (AQ.c a),.agg (AQ.c b)],.val [] (.av (.one (.b (LF a b)))))
abbrev ZP:=(bif !decide ((a.Kind:Int)=b.Kind) then true else !decide ((a.R:Int)=b.R))
abbrev I9 (t_:List (Nat×Tv)):List (Nat×Tv):=(2,tP 2 0)::(3,tP 3 0)::(5,tI k)::t_
theorem mN (a:AQ) (b:AQ) (h0:(a.Edges.length:Int)<=1000000) (h1:(b.Edges.length:Int)<=1000000):PuP 59 (Su a b).2.1 (tO (.b (LF a b))):=by
 refine pwf Tryz.func59 fun W0 M0 => ?_
 refine AB<|rn ⟨Gr,(JM a b)⟩ ?_
 refine AB<|AB ?_
 refine rc [] (i5 (!decide ((a.Kind:Int)=b.Kind)) (i2 (ZP a b) (i5 (ZP a b) []))) ⟨[(2,tP 2 0),(3,tP 3 0),(26,tB (bif bif !decide ((a.Kind:Int)=b.Kind) then true else !decide ((a.R:Int)=b.R) then true else !decide (((a.Edges.length:Int):Int)=(b.Edges.length:Int))))],(JM a b)⟩ .nil (c5 (c2 (c5 .nil)))<|AF ?_
 refine AW _ rfl (fun h1 => ?_) (fun h1 => ?_)
 ·refine AB<|rn ⟨[(4,tB false)],[]⟩ ?_
  refine Ab<|An ?_
  exact xl (tO (.b false)) (Ae (by simp only [LF,h1,cond_true,cond_false] <;> rfl))
 refine AV<|AF ?_
 refine AB<|AB ?_
 refine rn ⟨[(2,tP 2 0),(3,tP 3 0),(5,tI 0)],(JM a b)⟩<|AO ?_
 refine A0 (ι:=Nat×Int) (fun x=>⟨[(2,tP 2 0),(3,tP 3 0),(5,tI x.2)],(JM a b)⟩) (fun x=>((a.Edges.length:Int)-x.2).toNat<x.1/\(0<=x.2/\(x.2<=(a.Edges.length:Int)\/x.2=0))/\Gg a b x.1 x.2=LF a b) (fun x=>x.1) ?_ (((a.Edges.length:Int)-0).toNat+1,0) ⟨Nat.lt_succ_self _,⟨ax0,ax0⟩,(by simp only [LF,h1,cond_true,cond_false])⟩
 rintro ⟨n0,k⟩ ⟨hm0,hinv0,hF0⟩
 try dsimp only at hm0 hinv0 hF0
 cases n0 with | zero=>exact nz hm0 | succ n0 => ?_
 have hE:=(or3_f h1).2.2
 refine AB<|AB ?_
 refine rn ⟨(I9 k [(31,tB (decide ((k:Int)<(a.Edges.length:Int))))]),(JM a b)⟩ ?_
 refine AW _ rfl (fun h2 => ?_) (fun h2 => ?_)
 ·have g2:=oT h2
  refine AV<|AF ?_
  refine AB<|AO<|AB ?_
  refine dw [] [] [0<=(k:Int)/\(k:Int)<((a.Edges.length:Nat):Int),0<=(k:Int)/\(k:Int)<((b.Edges.length:Nat):Int)] ⟨(I9 k [(44,tB (!(decide ((a.Edges.getD k.toNat default).Kind=(b.Edges.getD k.toNat default).Kind)&&(decide ((a.Edges.getD k.toNat default).A.X=(b.Edges.getD k.toNat default).A.X)&&(decide ((a.Edges.getD k.toNat default).A.Y=(b.Edges.getD k.toNat default).A.Y)&&(decide ((a.Edges.getD k.toNat default).B.X=(b.Edges.getD k.toNat default).B.X)&&(decide ((a.Edges.getD k.toNat default).B.Y=(b.Edges.getD k.toNat default).B.Y)&&(decide ((a.Edges.getD k.toNat default).C.X=(b.Edges.getD k.toNat default).C.X)&&(decide ((a.Edges.getD k.toNat default).C.Y=(b.Edges.getD k.toNat default).C.Y)&&true)))))))))]),(JM a b)⟩ .nil (.cons au0 (.cons au0 .nil))<|AF ?_
  refine AW (!(decide ((a.Edges.getD k.toNat default).Kind=(b.Edges.getD k.toNat default).Kind)&&(decide ((a.Edges.getD k.toNat default).A.X=(b.Edges.getD k.toNat default).A.X)&&(decide ((a.Edges.getD k.toNat default).A.Y=(b.Edges.getD k.toNat default).A.Y)&&(decide ((a.Edges.getD k.toNat default).B.X=(b.Edges.getD k.toNat default).B.X)&&(decide ((a.Edges.getD k.toNat default).B.Y=(b.Edges.getD k.toNat default).B.Y)&&(decide ((a.Edges.getD k.toNat default).C.X=(b.Edges.getD k.toNat default).C.X)&&(decide ((a.Edges.getD k.toNat default).C.Y=(b.Edges.getD k.toNat default).C.Y)&&true)))))))) kr (fun h3 => ?_) (fun h3 => ?_)
  ·refine AB<|rn ⟨[(4,tB false)],[]⟩ ?_
   refine Ab<|BL ?_
   refine An<|An ?_
   refine BL<|An ?_
   exact xl (tO (.b false)) (Ae (by rw [<- hF0];first | (simp only [Gg,h2,h3,cond_true,cond_false] <;> rfl)))
  refine AV<|BA<|AF ?_
  refine rg ⟨[(2,tP 2 0),(3,tP 3 0),(5,tI (W64 (k+1)))],(JM a b)⟩ ?_
  (try rw [(show W64 (k+1)=k+1 from Ah oM au5)])
  refine AF ?_
  refine ⟨(n0,k+1),⟨?_,?_,(by rw [<- hF0];simp only [Gg,h2,h3,cond_true,cond_false])⟩,Nat.lt_succ_self _,Aw kr⟩
  ·show ((a.Edges.length:Int)-(k+1)).toNat<n0;omega
  exact ⟨ax0,ax0⟩
 refine A3<|Ar ?_
 refine Ar<|A4 ?_
 refine AF<|AB ?_
 refine rn ⟨[(4,tB true)],[]⟩<|Ab ?_
 exact xl (tO (.b true)) (Ae (by rw [<- hF0];first | (simp only [Gg,h2,cond_true,cond_false] <;> rfl)))
theorem iT (a:AQ) (b:AQ) (h0:(a.Edges.length:Int)<=1000000) (h1:(b.Edges.length:Int)<=1000000):OKc (Su a b):=cPu<|mN a b h0 h1
end
abbrev BD (b:AG) (t_:List Cl):List Cl:=(.i b.Layers)::(.i b.Outline.Kind)::(lst 7 AH.c b.Outline.Edges)::(.i b.Outline.R)::(lst 7 AE.c b.Parts)::(lst 2 Bi.c b.Nets)::t_
abbrev CZ (b:AG) (t_:List Cl):List Cl:=(lst 6 AM.c b.Tracks)::(lst 8 Ag.c b.Vias)::(lst 8 Bc.c b.Pours)::(lst 5 C4.c b.Keeps)::(lst 4 Au.c b.Slots)::t_
abbrev CB (b:AG):List Cl:=(BD b (CZ b [lst 2 Cr.c b.Classes,.any,lst 3 CY.c b.Waivers,lst 3 Dw.c b.Matches]))
theorem Ma (b:AG):∀ y∈CB b,NM y:=by
 intro y hy
 simp only [CB,List.mem_cons,List.not_mem_nil,or_false] at hy
 rcases hy with rfl | rfl | rfl | rfl | rfl | rfl | rfl | rfl | rfl | rfl | rfl | rfl | rfl | rfl | rfl <;> first | exact .val _ | exact .any | exact CR Hq | exact CR FZ | exact CR SU | exact CR Ye | exact CR jE | exact CR cB | exact CR cC | exact CR bZ | exact CR Yg | exact CR WC | exact CR Yf
def FE (types:List AR) (p:AE):List (AE×BJ):=(Be types p.Type').1.Pads.map fun q=>(p,q)
def Af (b:AG) (types:List AR):List (AE×BJ):=(CJ b.Parts).flatMap (FE types)
def Ho (b:AG) (types:List AR) (k:Nat):Nat:=(((CJ b.Parts).take k).flatMap (FE types)).length
theorem IW (types:List AR) (p:AE):(FE types p).length=(Be types p.Type').1.Pads.length:=List.length_map _
theorem YU (b:AG) (types:List AR):Ho b types (CJ b.Parts).length=(Af b types).length:=by unfold Ho Af;rw [List.take_length]
theorem V1 (b:AG) (types:List AR) {k:Nat} (h:k<(CJ b.Parts).length):Ho b types (k+1)=Ho b types k+(Be types ((CJ b.Parts).getD k default).Type').1.Pads.length:=by
 unfold Ho
 rw [(EI _ k h).1,List.flatMap_append,List.length_append,List.flatMap_singleton,IW]
theorem aX (b:AG) (types:List AR) {k j:Nat} (h:k<(CJ b.Parts).length) (hj:j<(Be types ((CJ b.Parts).getD k default).Type').1.Pads.length) :
  Ho b types k+j<(Af b types).length/\(Af b types).getD (Ho b types k+j) default=((CJ b.Parts).getD k default,(Be types ((CJ b.Parts).getD k default).Type').1.Pads.getD j default):=by
 have e:Af b types=((CJ b.Parts).take k).flatMap (FE types)++(FE types ((CJ b.Parts).getD k default)++((CJ b.Parts).drop (k+1)).flatMap (FE types)):=by
  unfold Af
  rw [<- List.flatMap_cons,<- (EI _ k h).2,<- List.flatMap_append,List.take_append_drop]
 have hl:=IW types ((CJ b.Parts).getD k default)
 rw [e]
 unfold Ho
 constructor
 ·rw [List.length_append,List.length_append,hl];omega
 rw [List.getD_eq_getElem?_getD,List.getElem?_append_right oM,Nat.add_sub_cancel_left,List.getElem?_append_left (by rw [hl];exact hj)]
 unfold FE
 rw [List.getElem?_map,List.getElem?_eq_getElem hj,List.getD_eq_getElem?_getD (l:=(Be types _).1.Pads),List.getElem?_eq_getElem hj]
 rfl
abbrev EH (types:List AR):Nat×Tv:=(2,.av (.one (.eptr 1 1 (gD [lst 3 AR.c types]) 0 0)))
abbrev FT (b:AG):Nat×Tv:=(17,tI ((CJ b.Parts).length:Int))
abbrev FS (b:AG):Nat×Tv:=(16,tO (lst 7 AE.c (CJ b.Parts)))
theorem iF (b:AG) (types:List AR) (hb:b.Parts.length<20) (ht:B4 types):I2 Tryz.prog 147 2 (BK [.eptr 15 1 (gD (CB b)) 0 0,.eptr 1 1 (gD [lst 3 AR.c types]) 0 0]) (Af b types).length (fun x=>[.agg (AE.c ((Af b types).getD x.val default).1),.agg (BJ.c ((Af b types).getD x.val default).2)]):=by
 refine UH Tryz.func147 rfl rfl kr (fun i hi => ?_) ?_
 ·match i,hi with
  | 0,_=>rfl
  | 1,_=>rfl
 intro Ow n0 ly JJ hO hJg hY
 have hd:∀ (x:List (Nat×Tv)),(∀ p∈x,p.2.dv=true)->∀ i u,get x i=some u->u.dv=true:=fun x h=>CA (p:=fun u=>Tv.dv u=true) h
 refine cW hO (CA (p:=fun u=>Tv.dv u=true) (by simp [EN,Co,Tv.dv,Av.dv,Cl.dv,List.range,List.range.loop,BK])) rfl fun W0 X1 M1 hX => ?_
 have hp1:(b.Parts.length:Int)<=1000000:=by omega
 refine rs 13 (Xx b.Parts) ⟨[(0,.av (.one (.val (.func (.yield ly) #[] #[])))),(EH types),(4,tO (.own 13 7 b.Parts.length))],[(13,.row 7 b.Parts.length (AL AE.c b.Parts) 78)]⟩ (bO b.Parts au4)<|AF ?_
 refine rb 15 (149,([.one (.own 1000 7 b.Parts.length),.one (.clo 150 0 dfc)]:List Av).map (Hl 1000 13),wrI 13 (.row 7 b.Parts.length (AL AE.c b.Parts) 78) (.tup []) (.row 7 b.Parts.length (AL AE.c (CJ b.Parts)) 78)) (.row 7 b.Parts.length (AL AE.c b.Parts) 78) ⟨[(0,.av (.one (.val (.func (.yield ly) #[] #[])))),(EH types),(4,tO (.own 13 7 b.Parts.length))],[(13,.row 7 b.Parts.length (AL AE.c (CJ b.Parts)) 78)]⟩ (Fb (fun _ _=>kr) kr (pSrtP b.Parts au4)) ?_
 refine ⟨rfl,⟨[(0,.av (.one (.val (.func (.yield ly) #[] #[])))),(EH types),(4,tO (lst 7 AE.c (CJ b.Parts)))],[]⟩,fun W2 M2=>Cv.trans (A7 (⟨[(0,.av (.one (.val (.func (.yield ly) #[] #[])))),(EH types),(4,tO (.own 13 7 (CJ b.Parts).length))],[(13,.row 7 (CJ b.Parts).length (AL AE.c (CJ b.Parts)) 78)]⟩) (.cons ⟨rfl,.refl _⟩ (.cons ⟨rfl,.refl _⟩ (.cons ⟨rfl,.av (.one (.own _ _ (J1 b.Parts au4).symm))⟩ .nil))) (.cons ⟨rfl,Ad 78 (⟨(J1 b.Parts au4).symm,fun _ _ _ _=>.refl _⟩)⟩ .nil)) (Cv.trans (wf (⟨[(0,.av (.one (.val (.func (.yield ly) #[] #[])))),(EH types),(4,tO (lst 7 AE.c (CJ b.Parts)))],[]⟩) 13 7 (CJ b.Parts).length (AL AE.c (CJ b.Parts)) 78 hk0 (.cons ⟨rfl,rfl⟩ .nil)) (Cv.refl _)),?_⟩
 have hps:=J1 b.Parts hb
 refine DB ?_
 refine DK hO (hd _ (by simp only [List.forall_mem_cons];exact ⟨rfl,rfl,rfl,fun x hx=>by cases hx⟩)) rfl fun W0 X1 M1 => ?_
 refine rg ⟨[(0,.av (.one (.val (.func (.yield ly) #[] #[])))),(EH types),(FS b),(FT b),(18,tI 0)],[]⟩ ?_
 refine C9 ?_
 refine F6 ?_
 refine Nu (ι:=Nat) (fun k=>⟨[(0,.av (.one (.val (.func (.yield ly) #[] #[])))),(EH types),(FS b),(FT b),(18,tI (k:Int))],[]⟩) (fun k=>JJ (Ho b types k)) (fun k=>k<=(CJ b.Parts).length) (fun k=>(CJ b.Parts).length-k) (fun k hk => ?_) 0 (Nat.zero_le _)
 refine DB ?_
 refine DK hO (hd _ (by simp only [List.forall_mem_cons];exact ⟨rfl,rfl,rfl,rfl,rfl,fun x hx=>by cases hx⟩)) rfl fun W0 X1 M1 => ?_
 refine rg ⟨[(0,.av (.one (.val (.func (.yield ly) #[] #[])))),(EH types),(FS b),(FT b),(18,tI (k:Int)),(19,tB (decide (((k:Int):Int)<((CJ b.Parts).length:Int))))],[]⟩ ?_
 refine C9 ?_
 refine DB ?_
 refine Fs (decide (((k:Int):Int)<((CJ b.Parts).length:Int))) kr (fun hc => ?_) (fun hc => ?_)
 ·have hlt:k<(CJ b.Parts).length:=by have:=oT hc;omega
  refine HP ?_
  refine C9 ?_
  refine DB ?_
  refine F6 ?_
  refine DB ?_
  refine PU [0,2,16,17,18] ⟨[(0,.av (.one (.val (.func (.yield ly) #[] #[])))),(EH types),(FS b),(FT b),(18,tI (k:Int))],[]⟩ kr ?_
  refine DK hO (hd _ (by simp only [List.forall_mem_cons];exact ⟨rfl,rfl,rfl,rfl,rfl,fun x hx=>by cases hx⟩)) rfl fun W0 X1 M1 => ?_
  refine rc [] [0<=((k:Int):Int)/\((k:Int):Int)<(((CJ b.Parts).length:Nat):Int)] ⟨[(0,.av (.one (.val (.func (.yield ly) #[] #[])))),(EH types),(6,tP 6 0),(FS b),(FT b),(18,tI (k:Int))],[(6,.cells (AE.c ((CJ b.Parts).getD (k:Int).toNat default)) 78)]⟩ .nil (.cons au0 .nil) ?_
  refine C9 ?_
  refine Xj (S:=⟨[(0,.av (.one (.val (.func (.yield ly) #[] #[])))),(EH types),(6,.av (.one (.eptr 7 1 (gD (AE.c ((CJ b.Parts).getD (k:Int).toNat default))) 0 0))),(FS b),(FT b),(18,tI (k:Int))],[]⟩) hO (fun W0 M1=>Hb _ 6 (AE.c ((CJ b.Parts).getD (k:Int).toNat default)) 78 hk0 kr kr kr kr) ?_
  have hns:=V1 b types hlt
  have hat:=fun j hj=>aX b types (j:=j) hlt hj
  rw [Int.toNat_natCast]
  generalize hp:(CJ b.Parts).getD k default=p at *
  refine DB ?_
  have hgl:=Iw types p.Type'
  have hpl:((Be types p.Type').1.Pads.length:Int)<=1000000:=by rw [hgl];exact IZ ht _
  refine DK hO (hd _ (by simp only [List.forall_mem_cons];exact ⟨rfl,rfl,rfl,rfl,rfl,rfl,fun x hx=>by cases hx⟩)) rfl fun W0 X1 M1 => ?_
  refine rs 26 (jZ types p.Type') ⟨[(0,.av (.one (.val (.func (.yield ly) #[] #[])))),(EH types),(6,.av (.one (.eptr 7 1 (gD (AE.c p)) 0 0))),(7,tP 7 0),(FS b),(FT b),(18,tI (k:Int))],[(7,.cells (AR.c (Be types p.Type').1) 82)]⟩ (lB types p.Type' au4) ?_
  refine C9 ?_
  refine Xj (S:=⟨[(0,.av (.one (.val (.func (.yield ly) #[] #[])))),(EH types),(6,.av (.one (.eptr 7 1 (gD (AE.c p)) 0 0))),(7,.av (.one (.eptr 3 1 (gD (AR.c (Be types p.Type').1)) 0 0))),(FS b),(FT b),(18,tI (k:Int))],[]⟩) hO (fun W0 M1=>Hb _ 7 (AR.c (Be types p.Type').1) 82 hk0 kr kr kr kr) ?_
  refine DB ?_
  refine DK hO (hd _ (by simp only [List.forall_mem_cons];exact ⟨rfl,rfl,rfl,rfl,rfl,rfl,rfl,fun x hx=>by cases hx⟩)) rfl fun W0 X1 M1 => ?_
  refine rg ⟨[(0,.av (.one (.val (.func (.yield ly) #[] #[])))),(EH types),(6,.av (.one (.eptr 7 1 (gD (AE.c p)) 0 0))),(FS b),(FT b),(18,tI (k:Int)),(30,tO (lst 7 BJ.c (Be types p.Type').1.Pads)),(31,tI ((Be types p.Type').1.Pads.length:Int)),(32,tI 0)],[]⟩ ?_
  refine C9 ?_
  refine F6 ?_
  refine Nu (ι:=Nat) (fun j=>⟨[(0,.av (.one (.val (.func (.yield ly) #[] #[])))),(EH types),(6,.av (.one (.eptr 7 1 (gD (AE.c p)) 0 0))),(FS b),(FT b),(18,tI (k:Int)),(30,tO (lst 7 BJ.c (Be types p.Type').1.Pads)),(31,tI ((Be types p.Type').1.Pads.length:Int)),(32,tI (j:Int))],[]⟩) (fun j=>JJ (Ho b types k+j)) (fun j=>j<=(Be types p.Type').1.Pads.length) (fun j=>(Be types p.Type').1.Pads.length-j) (fun j hj => ?_) 0 (Nat.zero_le _)
  refine DB ?_
  refine DK hO (hd _ (by simp only [List.forall_mem_cons];exact ⟨rfl,rfl,rfl,rfl,rfl,rfl,rfl,rfl,rfl,fun x hx=>by cases hx⟩)) rfl fun W0 X1 M1 => ?_
  refine rg ⟨[(0,.av (.one (.val (.func (.yield ly) #[] #[])))),(EH types),(6,.av (.one (.eptr 7 1 (gD (AE.c p)) 0 0))),(FS b),(FT b),(18,tI (k:Int)),(30,tO (lst 7 BJ.c (Be types p.Type').1.Pads)),(31,tI ((Be types p.Type').1.Pads.length:Int)),(32,tI (j:Int)),(33,tB (decide (((j:Int):Int)<((Be types p.Type').1.Pads.length:Int))))],[]⟩ ?_
  refine C9 ?_
  refine DB ?_
  refine Fs (decide (((j:Int):Int)<((Be types p.Type').1.Pads.length:Int))) kr (fun hc2 => ?_) (fun hc2 => ?_)
  ·have hlt2:j<(Be types p.Type').1.Pads.length:=by have:=oT hc2;omega
   obtain ⟨hat1,hat2⟩:=hat j hlt2
   refine HP ?_
   refine C9 ?_
   refine DB ?_
   refine F6 ?_
   refine DB ?_
   refine PU [0,2,6,16,17,18,30,31,32] ⟨[(0,.av (.one (.val (.func (.yield ly) #[] #[])))),(EH types),(6,.av (.one (.eptr 7 1 (gD (AE.c p)) 0 0))),(FS b),(FT b),(18,tI (k:Int)),(30,tO (lst 7 BJ.c (Be types p.Type').1.Pads)),(31,tI ((Be types p.Type').1.Pads.length:Int)),(32,tI (j:Int))],[]⟩ kr ?_
   refine DK hO (hd _ (by simp only [List.forall_mem_cons];exact ⟨rfl,rfl,rfl,rfl,rfl,rfl,rfl,rfl,rfl,fun x hx=>by cases hx⟩)) rfl fun W0 X1 M1 => ?_
   refine rc [] [0<=((j:Int):Int)/\((j:Int):Int)<(((Be types p.Type').1.Pads.length:Nat):Int)] ⟨[(0,.av (.one (.val (.func (.yield ly) #[] #[])))),(EH types),(6,.av (.one (.eptr 7 1 (gD (AE.c p)) 0 0))),(10,tP 10 0),(FS b),(FT b),(18,tI (k:Int)),(30,tO (lst 7 BJ.c (Be types p.Type').1.Pads)),(31,tI ((Be types p.Type').1.Pads.length:Int)),(32,tI (j:Int))],[(10,.cells (BJ.c ((Be types p.Type').1.Pads.getD (j:Int).toNat default)) 102)]⟩ .nil (.cons au0 .nil) ?_
   refine C9 ?_
   refine Xj (S:=⟨[(0,.av (.one (.val (.func (.yield ly) #[] #[])))),(EH types),(6,.av (.one (.eptr 7 1 (gD (AE.c p)) 0 0))),(10,.av (.one (.eptr 7 1 (gD (BJ.c ((Be types p.Type').1.Pads.getD (j:Int).toNat default))) 0 0))),(FS b),(FT b),(18,tI (k:Int)),(30,tO (lst 7 BJ.c (Be types p.Type').1.Pads)),(31,tI ((Be types p.Type').1.Pads.length:Int)),(32,tI (j:Int))],[]⟩) hO (fun W0 M1=>Hb _ 10 (BJ.c ((Be types p.Type').1.Pads.getD (j:Int).toNat default)) 102 hk0 kr kr kr kr) ?_
   rw [Int.toNat_natCast]
   generalize hq:(Be types p.Type').1.Pads.getD j default=q at *
   refine DB ?_
   refine Kr ?_
   refine HO hO DN 3 [0,2,6,10,16,17,18,30,31,32,36,37,38] [] [(0,.av (.one (.val (.func (.yield ly) #[] #[])))),(2,.av (.one (.eptr 1 1 (gD [lst 3 AR.c types]) 0 0))),(6,.av (.one (.eptr 7 1 (gD (AE.c p)) 0 0))),(10,.av (.one (.eptr 7 1 (gD (BJ.c q)) 0 0))),(16,tO (lst 7 AE.c (CJ b.Parts))),(17,tI ((CJ b.Parts).length:Int)),(18,tI (k:Int)),(30,tO (lst 7 BJ.c (Be types p.Type').1.Pads)),(31,tI ((Be types p.Type').1.Pads.length:Int)),(32,tI (j:Int)),(36,.av (.one (.val (.func (.yield ly) #[] #[])))),(37,.av (.agg (AE.c p))),(38,.av (.agg (BJ.c q)))] kr .nil (hd _ (by simp only [List.forall_mem_cons];exact ⟨rfl,rfl,rfl,rfl,rfl,rfl,rfl,rfl,rfl,rfl,fun x hx=>by cases hx⟩)) rfl ?_
   refine WI (ly:=ly) (d:=39) hO rfl [.agg (AE.c p),.agg (BJ.c q)] rfl rfl kr kr kr ?hvm rfl kr ?hT1 (fun A B=>hJg _ A B) (JJ (Ho b types k+j+1)) ?hY rfl ?ht
   case hvm =>
    intro x hx
    simp only [List.mem_cons,List.not_mem_nil,or_false] at hx
    rcases hx with rfl | rfl
    ·exact FZ _
    exact Jj _
   case hT1=>exact CA (p:=fun u=>Tv.dv u=true/\TvM u) (by
    simp only [List.forall_mem_cons]
    exact ⟨⟨rfl,BU (.val _)⟩,⟨rfl,BU (Ez (by simp only [List.forall_mem_cons];exact ⟨(CR PM),fun x hx=>by cases hx⟩))⟩,⟨rfl,BU (Ez (FZ _))⟩,⟨rfl,BU (Ez (Jj _))⟩,⟨rfl,BU (CR FZ)⟩,⟨rfl,BU (.val _)⟩,⟨rfl,BU (.val _)⟩,⟨rfl,BU (CR Jj)⟩,⟨rfl,BU (.val _)⟩,⟨rfl,BU (.val _)⟩,⟨rfl,BU (.val _)⟩,⟨rfl,(FZ _)⟩,⟨rfl,(Jj _)⟩,fun x hx=>by cases hx⟩)
   case hY =>
    intro W v hW hv
    refine hY _ hat1 W v hW ?_
    show kO (fun _=>none) Ow [.agg (AE.c ((Af b types).getD (Ho b types k+j) default).1),.agg (BJ.c ((Af b types).getD (Ho b types k+j) default).2)] v W
    rw [hat2]
    exact hv
   case ht =>
    refine JR [0,2,6,16,17,18,30,31,32,39] ⟨[(0,.av (.one (.val (.func (.yield ly) #[] #[])))),(EH types),(6,.av (.one (.eptr 7 1 (gD (AE.c p)) 0 0))),(FS b),(FT b),(18,tI (k:Int)),(30,tO (lst 7 BJ.c (Be types p.Type').1.Pads)),(31,tI ((Be types p.Type').1.Pads.length:Int)),(32,tI (j:Int)),(39,tB true)],[]⟩ kr ?_
    refine HO hO DN 1 [0,2,6,16,17,18,30,31,32,40] [] [(0,.av (.one (.val (.func (.yield ly) #[] #[])))),(2,.av (.one (.eptr 1 1 (gD [lst 3 AR.c types]) 0 0))),(6,.av (.one (.eptr 7 1 (gD (AE.c p)) 0 0))),(16,tO (lst 7 AE.c (CJ b.Parts))),(17,tI ((CJ b.Parts).length:Int)),(18,tI (k:Int)),(30,tO (lst 7 BJ.c (Be types p.Type').1.Pads)),(31,tI ((Be types p.Type').1.Pads.length:Int)),(32,tI (j:Int)),(40,tB false)] kr .nil (hd _ (by simp only [List.forall_mem_cons];exact ⟨rfl,rfl,rfl,rfl,rfl,rfl,rfl,rfl,rfl,rfl,fun x hx=>by cases hx⟩)) rfl ?_
    refine La ?_
    refine C9 ?_
    refine Fs false kr (fun h=>by cases h) (fun _ => ?_)
    refine HP ?_
    refine UK ?_
    refine C9 ?_
    refine DK hO (hd _ (by simp only [List.forall_mem_cons];exact ⟨rfl,rfl,rfl,rfl,rfl,rfl,rfl,rfl,rfl,rfl,fun x hx=>by cases hx⟩)) rfl fun W0 X1 M1 => ?_
    refine rg ⟨[(0,.av (.one (.val (.func (.yield ly) #[] #[])))),(EH types),(6,.av (.one (.eptr 7 1 (gD (AE.c p)) 0 0))),(FS b),(FT b),(18,tI (k:Int)),(30,tO (lst 7 BJ.c (Be types p.Type').1.Pads)),(31,tI ((Be types p.Type').1.Pads.length:Int)),(32,tI (W64 ((j:Int)+1)))],[]⟩ ?_
    refine C9 ?_
    refine ⟨j+1,by omega,by omega,?_,by rw [Nat.add_assoc],rfl⟩
    rw [Ah oM oM]
    rfl
  have hjl:j=(Be types p.Type').1.Pads.length:=by have:=oF hc2;omega
  refine Nv ?_
  refine NK ?_
  refine NK ?_
  refine Nw ?_
  refine UK ?_
  refine C9 ?_
  refine PU [0,2,16,17,18] ⟨[(0,.av (.one (.val (.func (.yield ly) #[] #[])))),(EH types),(FS b),(FT b),(18,tI (k:Int))],[]⟩ kr ?_
  refine DK hO (hd _ (by simp only [List.forall_mem_cons];exact ⟨rfl,rfl,rfl,rfl,rfl,fun x hx=>by cases hx⟩)) rfl fun W0 X1 M1 => ?_
  refine rg ⟨[(0,.av (.one (.val (.func (.yield ly) #[] #[])))),(EH types),(FS b),(FT b),(18,tI (W64 ((k:Int)+1)))],[]⟩ ?_
  refine C9 ?_
  refine ⟨k+1,by omega,by omega,?_,by rw [hjl,hns],rfl⟩
  rw [Ah oM oM]
  rfl
 have hkl:k=(CJ b.Parts).length:=by have:=oF hc;omega
 refine Nv ?_
 refine NK ?_
 refine NK ?_
 refine Nw ?_
 exact ⟨.inr rfl,by rw [hkl,YU]⟩
section
open Go.RowKit
section
variable (len:Nat) (g:Nat→Nat→Value)
abbrev S0:Cl:=eN false 2 len (fun i j=>.val (g i j))
theorem jD:NM (S0 len g):=Ez fun y hy=>by rw [List.mem_singleton.1 hy];exact .list _ _ _ _ fun i j=>.val _
abbrev ylB (ly:Nat):Tv:=.av (.one (.val (.func (.yield ly) #[] #[])))
abbrev tB1 (c:Cl):Tv:=.av (.one c)
abbrev avB (k:Nat):Av:=.agg [.val (g k 0),.val (g k 1)]
theorem eU (hl:(len:Int)<=1000000) (h1:∀ i j,i<len->j<2->(g i j).oneCell'=true):I2 Tryz.prog 146 1 (BK [S0 len g]) len (fun x=>[.one (.i ((len:Int)-1-(x.val:Int))),avB g (len-1-x.val)]):=by
 refine Qg Tryz.func146 rfl rfl (fun x=>rfl) (fun x e he c hc => ?_) kr (fun i hi => ?_) ?_
 ·simp only [List.mem_cons,List.not_mem_nil,or_false] at he
  rcases he with rfl | rfl
  ·rw [List.mem_singleton.1 hc];rfl
  simp only [Av.cells,List.mem_cons,List.not_mem_nil,or_false] at hc
  have:=x.isLt
  rcases hc with rfl | rfl <;> exact h1 _ _ (by omega) (by decide)
 ·match i,hi with
  | 0,_=>rfl
 intro Ow n0 ly JJ Jx hO hJg hY
 have hd:∀ (x:List (Nat×Tv)),(∀ p∈x,p.2.dv=true)->∀ i u,get x i=some u->u.dv=true:=fun x h=>CA (p:=fun u=>Tv.dv u=true) h
 refine DB ?_
 refine DK hO (CA (p:=fun u=>Tv.dv u=true) (by simp [EN,Co,Tv.dv,Av.dv,Cl.dv,List.range,List.range.loop,BK])) rfl fun W0 X1 M1 => ?_
 refine rg ⟨[(0,ylB ly),(1,tB1 (S0 len g)),(3,tI (W64 ((len:Int)-1)))],[]⟩ ?_
 refine C9 ?_
 refine F6 ?_
 rw [show W64 ((len:Int)-1)=(len:Int)-1-((0:Nat):Int) by rw [Ah (by omega) (by omega)];omega]
 refine Nu (ι:=Nat) (fun k=>⟨[(0,ylB ly),(1,tB1 (S0 len g)),(3,tI ((len:Int)-1-(k:Int)))],[]⟩) (fun k=>JJ k) (fun k=>k<=len) (fun k=>len-k) (fun k hk => ?_) 0 (Nat.zero_le _)
 refine DB ?_
 refine DB ?_
 refine DK hO (hd _ (by simp only [List.forall_mem_cons];exact ⟨rfl,rfl,rfl,fun x hx=>by cases hx⟩)) rfl fun W0 X1 M1 => ?_
 refine rg ⟨[(0,ylB ly),(1,tB1 (S0 len g)),(3,tI ((len:Int)-1-(k:Int))),(8,tB (decide ((0:Int)<=((len:Int)-1-(k:Int)))))],[]⟩ ?_
 refine C9 ?_
 refine Fs (decide ((0:Int)<=((len:Int)-1-(k:Int)))) kr (fun hc => ?_) (fun hc => ?_)
 ·have hlt:k<len:=by have:=oT hc;omega
  obtain ⟨m,hm⟩:∃ m:Nat,(len:Int)-1-(k:Int)=(m:Int):=⟨len-1-k,by omega⟩
  have hm2:m=len-1-k:=by omega
  refine HP ?_
  refine C9 ?_
  refine DB ?_
  refine F6 ?_
  refine DB ?_
  refine Kr ?_
  rw [hm]
  refine HO hO DN 6 [0,1,3,11,12,16] [0<=(m:Int)/\(m:Int)<((len:Nat):Int)] [(0,ylB ly),(1,tB1 (S0 len g)),(3,tI (m:Int)),(11,ylB ly),(12,tI (m:Int)),(16,.av (avB g (m:Int).toNat))] kr (.cons ⟨by omega,by omega⟩ .nil) (hd _ (by simp only [List.forall_mem_cons];exact ⟨rfl,rfl,rfl,rfl,fun x hx=>by cases hx⟩)) rfl ?_
  rw [Int.toNat_natCast]
  refine WJ (ly:=ly) (d:=17) hO rfl [.one (.i (m:Int)),avB g m] rfl rfl kr kr rfl rfl kr ?hT1 (fun A B=>hJg _ A B) (JJ (k+1)) (Jx (k+1)) ?hY [] ?htf rfl ?ht ?hf
  case hT1=>exact CA (p:=fun u=>Tv.dv u=true/\TvM u) (by
   simp only [List.forall_mem_cons]
   exact ⟨⟨rfl,BU (.val _)⟩,⟨rfl,BU (jD len g)⟩,⟨rfl,BU (.val _)⟩,⟨rfl,BU (.val _)⟩,⟨rfl,BU (.val _)⟩,⟨rfl,fun c hc=>by
    simp only [Av.cells,List.mem_cons,List.not_mem_nil,or_false] at hc
    rcases hc with rfl | rfl <;> exact .val _⟩,fun x hx=>by cases hx⟩)
  case hY =>
   intro W hW
   have:=hY k hlt W hW
   simp only [hm,<- hm2] at this
   exact this
  case htf=>exact fun i v hv=>by cases hv
  case ht =>
   refine JR [0,1,3,17] ⟨[(0,ylB ly),(1,tB1 (S0 len g)),(3,tI (m:Int)),(17,tB true)],[]⟩ kr ?_
   refine HO hO DN 1 [0,1,3,18] [] [(0,ylB ly),(1,tB1 (S0 len g)),(3,tI (m:Int)),(18,tB false)] kr .nil (hd _ (by simp only [List.forall_mem_cons];exact ⟨rfl,rfl,rfl,rfl,fun x hx=>by cases hx⟩)) rfl ?_
   refine La ?_
   refine C9 ?_
   refine Fs false kr (fun h=>by cases h) (fun _ => ?_)
   refine HP ?_
   refine UK ?_
   refine C9 ?_
   refine DK hO (hd _ (by simp only [List.forall_mem_cons];exact ⟨rfl,rfl,rfl,rfl,fun x hx=>by cases hx⟩)) rfl fun W0 X1 M1 => ?_
   refine rg ⟨[(0,ylB ly),(1,tB1 (S0 len g)),(3,tI (W64 ((m:Int)-1)))],[]⟩ ?_
   refine C9 ?_
   refine ⟨k+1,by omega,by omega,?_,rfl,rfl⟩
   rw [Ah (by omega) (by omega),show (m:Int)-1=(len:Int)-1-((k+1:Nat):Int) by omega]
  case hf =>
   refine JR [17] ⟨[(17,tB false)],[]⟩ kr ?_
   refine HO hO DN 1 [18] [] [(18,tB true)] kr .nil (hd _ (by simp only [List.forall_mem_cons];exact ⟨rfl,fun x hx=>by cases hx⟩)) rfl ?_
   refine La ?_
   refine C9 ?_
   refine Fs true kr (fun _ => ?_) (fun h=>by cases h)
   refine cV ?_
   exact ⟨.inl rfl,.inr ⟨_,hlt,rfl⟩⟩
 have hkl:k=len:=by have:=oF hc;omega
 refine Nv ?_
 refine NK ?_
 refine NK ?_
 refine Nw ?_
 exact ⟨.inr rfl,.inl (by rw [hkl])⟩
end
theorem kB (l:List Bi) (hl:(l.length:Int)<=1000000):I2 Tryz.prog 146 1 (BK [.eptr 1 1 (fun _ j=>([lst 2 Bi.c l]:List Cl).getD j default) 0 0]) l.length (fun x=>[.one (.i ((l.length:Int)-1-(x.val:Int))),.agg (Bi.c (l.getD (l.length-1-x.val) default))]):=by
 refine WK (t:=false) (sz:=2) (len:=l.length) (f:=fun i j=>(Bi.c (l.getD i default)).getD j default) (fun g x=>[.one (.i ((l.length:Int)-1-(x.val:Int))),avB g (l.length-1-x.val)]) rfl (by decide) (fun g h1 => ?_) (fun g x=>rfl) (fun M g x vs h2 hL => ?_)
 ·refine WL (fun i hi => ?_) (eU l.length g hl h1)
  match i,hi with
  | 0,_=>rfl
 cases hL with
 | cons a1 a2 =>
  cases a2 with
  | cons a3 a4 =>
   refine .cons a1 (.cons (fun σ => ?_) a4)
   obtain ⟨us,hu,hus⟩:=a3 σ
   refine ⟨us,hu,?_⟩
   have hx:l.length-1-x.val<l.length:=by have:=x.isLt;omega
   cases hus with
   | cons b1 b2 =>
    cases b2 with
    | cons b3 b4 =>
     cases b4
     have e1:=b1.1
     have e2:=b3.1
     subst e1 e2
     exact .cons ((J5 rfl).2 (h2 _ 0 hx (by decide))) (.cons ((J5 rfl).2 (h2 _ 1 hx (by decide))) .nil)
end
section
open Go.RowKit
theorem YT  (l:(List Bi)):G8 Tryz.prog 104 [.one (lst 2 Bi.c l)] (.av (.one (.clo 146 1 (BK [.eptr 1 1 (gD [lst 2 Bi.c l]) 0 0])))):=by
 refine pwf Tryz.func104 fun W0 M0 => ?_
 refine AB<|rn ⟨[(1,tP 1 0)],[(1,.cells [lst 2 Bi.c l] 30)]⟩<|AB ?_
 refine rn ⟨[(2,tO (.clo 146 1 (BK [.ptr 1 0])))],[(1,.cells [lst 2 Bi.c l] 30)]⟩<|Ab ?_
 exact yl (Cv.trans (Hb (⟨[(2,.av (.one (.clo 146 1 (BK [.eptr 1 1 (gD [lst 2 Bi.c l]) 0 0]))))],[]⟩) 1 [lst 2 Bi.c l] 30 hk0 kr kr kr kr) (Cv.refl _)) (.av (.one (.clo 146 1 (BK [.eptr 1 1 (gD [lst 2 Bi.c l]) 0 0])))) (Ae rfl)
variable (s:AQ) (b:AG) (s_1:List AH) (v13:Int) (m:AX) (p:AE) (types:List AR) (x0:AE)
def cpads:CT:=(105,[.agg (CB b),.one (Fz types)],.val [] (.av (.one (.clo 147 2 (BK [.eptr 15 1 (fun _ j_=>((CB b):List Cl).getD j_ default) 0 0,.eptr 1 1 (fun _ j_=>([lst 3 AR.c types]:List Cl).getD j_ default) 0 0])))))
abbrev JK:Av:=.one (.clo 147 2 (BK [.eptr 15 1 (gD (CB b)) 0 0,.eptr 1 1 (gD [lst 3 AR.c types]) 0 0]))
abbrev CD:Nat×Blk:=(2,.cells (CB b) 41)
theorem ppads (b:AG) (types:(List AR)):PuP 105 (cpads b types).2.1 (.av (.one (.clo 147 2 (BK [.eptr 15 1 (gD (CB b)) 0 0,.eptr 1 1 (gD [lst 3 AR.c types]) 0 0])))):=by
 refine pwf Tryz.func105 fun W0 M0 => ?_
 refine AB<|rn ⟨Gr,[(CD b),(3,.cells [lst 3 AR.c types] 43)]⟩<|AB ?_
 refine rn ⟨[(4,tO (.clo 147 2 (BK [.ptr 2 0,.ptr 3 0])))],[(CD b),(3,.cells [lst 3 AR.c types] 43)]⟩<|Ab ?_
 exact yl (Cv.trans (Hb (⟨[(4,.av (.one (.clo 147 2 (BK [.eptr 15 1 (gD (CB b)) 0 0,.ptr 3 0]))))],[(3,.cells [lst 3 AR.c types] 43)]⟩) 2 (CB b) 41 hk0 kr kr kr kr) (Cv.trans (Hb (⟨[(4,.av (JK b types))],[]⟩) 3 [lst 3 AR.c types] 43 hk0 kr kr kr kr) (Cv.refl _))) (.av (JK b types)) (Ae rfl)
def Fi (s:AQ) (m:AX):Nat->List AH->Int->AQ
 | 0,_,_=>default
 | n0+1,s_1,v13=>bif decide ((v13:Int)<((s.Edges.length:Nat):Int)) then ((Fi s m n0) (s_1.set v13.toNat (Dq (s_1.getD v13.toNat default) m)) (v13+1)) else (AQ.mk s.Kind s_1 s.R)
def E3 (s:AQ) (m:AX):AQ:=Fi s m ((((s.Edges.length:Nat):Int)-0).toNat+1) s.Edges 0
def Sw:CT:=(106,[.agg (AQ.c s),.agg (AX.c m)],.val [] (.av (.agg (AQ.c (E3 s m)))))
abbrev LI:Nat×Blk:=(4,.cells [.i 0,vN,.i 0] 28)
abbrev FQ:Nat×Blk:=(3,.cells (AX.c m) 74)
abbrev VM:List (Nat×Blk):=[(2,.cells [.i s.Kind,.own 8 7 s.Edges.length,.i s.R] 28),(FQ m),LI,(8,.row 7 s.Edges.length (AL AH.c s.Edges) 68)]
abbrev Zs:List (Nat×Blk):=[(2,.cells [.i s.Kind,.own 8 7 (s_1.set v13.toNat (Dq (s_1.getD v13.toNat default) m)).length,.i s.R] 28),(FQ m),LI,(8,.row 7 (s_1.set v13.toNat (Dq (s_1.getD v13.toNat default) m)).length (AL AH.c (s_1.set v13.toNat (Dq (s_1.getD v13.toNat default) m))) 68)]
abbrev Kb:Nat×Tv:=(12,tI ((s.Edges.length:Nat):Int))
abbrev GJ:Nat×Blk:=(2,.cells (AQ.c s) 28)
abbrev RW:List Cl:=[.i s.Kind,.own 8 7 s_1.length,.i s.R]
theorem mR (s:AQ) (m:AX) (h0:(s.Edges.length:Int)<=1000000):PuP 106 (Sw s m).2.1 (.av (.agg (AQ.c (E3 s m)))):=by
 refine pwf Tryz.func106 fun W0 M0 => ?_
 refine AB<|rn ⟨Kf,[(GJ s),(FQ m),LI]⟩<|AB ?_
 refine rs 8 (N2 s.Edges) ⟨Kf,(VM s m)⟩ (PI s.Edges au4)<|AF ?_
 refine BI (Cv.trans (A7 (⟨Kf,(VM s m)⟩) lr (.cons ⟨rfl,.cells _ (rr (.cons (.own _ _ au2) (rr .nil)))⟩ (.cons ⟨rfl,.refl _⟩ (.cons ⟨rfl,.refl _⟩ (.cons ⟨rfl,Ad 68 (Ay 7 AH.c s.Edges)⟩ .nil))))) (Cv.refl _))<|AB<|AB ?_
 refine rn ⟨(Ca [(Kb s),(13,tI 0)]),(VM s m)⟩<|AO ?_
 refine A0 (ι:=Nat×List AH×Int) (fun x=>⟨(Ca [(Kb s),(13,tI x.2.2)]),[(2,.cells [.i s.Kind,.own 8 7 x.2.1.length,.i s.R] 28),(FQ m),LI,(8,.row 7 x.2.1.length (AL AH.c x.2.1) 68)]⟩) (fun x=>(((s.Edges.length:Nat):Int)-x.2.2).toNat<x.1/\(x.2.1.length=s.Edges.length/\0<=x.2.2/\(x.2.2<=((s.Edges.length:Nat):Int)\/x.2.2=0))/\Fi s m x.1 x.2.1 x.2.2=E3 s m) (fun x=>x.1) ?_ ((((s.Edges.length:Nat):Int)-0).toNat+1,s.Edges,0) ⟨Nat.lt_succ_self _,⟨ax0,ax0,ax0⟩,(by simp only [E3,cond_true,cond_false])⟩
 rintro ⟨n0,s_1,v13⟩ ⟨hm0,hinv0,hF0⟩
 try dsimp only at hm0 hinv0 hF0
 cases n0 with | zero=>exact nz hm0 | succ n0 => ?_
 refine AB<|rn ⟨(Ca [(Kb s),(13,tI v13),(14,tB (decide ((v13:Int)<((s.Edges.length:Nat):Int))))]),[(2,.cells (RW s s_1) 28),(FQ m),LI,(8,.row 7 s_1.length (AL AH.c s_1) 68)]⟩<|AB ?_
 refine AW _ rfl (fun h1 => ?_) (fun h1 => ?_)
 ·have g1:=oT h1
  refine AV<|AF ?_
  refine AB<|AO<|AB ?_
  refine rn ⟨(Ca [(5,tI v13),(Kb s),(13,tI v13)]),[(2,.cells (RW s s_1) 28),(FQ m),LI,(8,.row 7 s_1.length (AL AH.c s_1) 68)]⟩ ?_
  refine dw [] [(25,X3 (s_1.getD v13.toNat default) m)] [0<=(v13:Int)/\(v13:Int)<((s_1.length:Nat):Int),v13.toNat<s_1.length,Aq (X3 (s_1.getD v13.toNat default) m).2.1,0<=(v13:Int)/\(v13:Int)<((s_1.length:Nat):Int),v13.toNat<s_1.length] ⟨(Ca [(Kb s),(13,tI v13)]),[(2,.cells (RW s s_1) 28),(FQ m),LI,(8,.row 7 s_1.length (fun i_ j_=>if i_=v13.toNat/\0<=j_/\j_<0+7 then ((AH.c (Dq (s_1.getD v13.toNat default) m)):List Cl).getD (j_-0) default else (AL AH.c s_1) i_ j_) 68)]⟩ (.cons (nJ (s_1.getD v13.toNat default) m) .nil) (.cons au0 (.cons au0 (.cons rfl (.cons au0 (.cons au0 .nil)))))<|BA<|AF ?_
  refine BI (Cv.trans (A7 (⟨(Ca [(Kb s),(13,tI v13)]),(Zs s s_1 v13 m)⟩) lr (.cons ⟨rfl,.cells _ (rr (.cons (.own _ _ au2) (rr .nil)))⟩ (.cons ⟨rfl,.refl _⟩ (.cons ⟨rfl,.refl _⟩ (.cons ⟨rfl,Ad 68 (Gt (l:=(AH.c (Dq (s_1.getD v13.toNat default) m))) (off:=0) (q:=7) (k:=v13.toNat) (Ay 7 AH.c s_1) au0 (Dq (s_1.getD v13.toNat default) m) (GW kr))⟩ .nil))))) (Cv.refl _)) ?_
  refine rg ⟨(Ca [(Kb s),(13,tI (W64 (v13+1)))]),(Zs s s_1 v13 m)⟩ ?_
  (try rw [(show W64 (v13+1)=v13+1 from Ah oM au5)])
  refine AF ?_
  refine ⟨(n0,s_1.set v13.toNat (Dq (s_1.getD v13.toNat default) m),v13+1),⟨?_,?_,(by rw [<- hF0];simp only [Fi,h1,cond_true,cond_false])⟩,Nat.lt_succ_self _,Aw kr⟩
  ·show (((s.Edges.length:Nat):Int)-(v13+1)).toNat<n0;omega
  exact ⟨ax0,ax0,ax0⟩
 refine A3<|Ar ?_
 refine Ar<|A4 ?_
 refine AF<|AB ?_
 refine rn ⟨[(4,tP 4 0)],[(4,.cells (RW s s_1) 28),(8,.row 7 s_1.length (AL AH.c s_1) 68)]⟩<|Ab ?_
 exact yl (Cv.trans (vf 8 7 s_1.length (AL AH.c s_1) 68 hk0 (.cons ⟨rfl,rfl⟩ .nil)) (Cv.refl _)) (.av (.agg [.i s.Kind,lst 7 AH.c s_1,.i s.R])) (Ae (by rw [<- hF0];first | (simp only [Fi,h1,cond_true,cond_false] <;> rfl)))
theorem iV (s:AQ) (m:AX) (h0:(s.Edges.length:Int)<=1000000):OKc (Sw s m):=cPu<|mR s m h0
def Bh (p:Ak):Value:=.agg #[.string p.Ref,.string p.Pad]
def A2 (a b:Ak):Bool:=eqS a.Ref b.Ref&&eqS a.Pad b.Pad
theorem Qv (a b:Ak):A2 a b=true↔Bh a=Bh b:=by
 unfold A2 Bh
 rw [Bool.and_eq_true,WV,WV]
 simp
theorem UZ (k:Ak):FK Tryz.prog eqE 106 (Bh k):=.inr ⟨_,_,_,rfl,rfl,by kernel_rfl,rfl,rfl⟩
theorem YW {b:AG} {types:List AR} (ht:B4 types) (k:Nat):(((Af b types).getD k default).2.Shape.Edges.length:Int)<=1000000:=by
 refine Ft (p:=fun x:AE×BJ=>(x.2.Shape.Edges.length:Int)<=1000000) (by decide) (fun x hx => ?_) k
 unfold Af at hx
 obtain ⟨p,_,hp⟩:=List.mem_flatMap.1 hx
 unfold FE at hp
 obtain ⟨q,hq,rfl⟩:=List.mem_map.1 hp
 rw [Iw] at hq
 unfold UV at hq
 cases hf:types.find? (fun t=>GU t p.Type') with
 | none=>rw [hf] at hq;cases hq
 | some t=>rw [hf] at hq;exact (ht.2 t (List.mem_of_find?_eq_some hf)).2.2.1 q hq
theorem Hp {b:AG} {types:List AR} (hp:b.Parts.length<20) (ht:B4 types):((Af b types).length:Int)<=20000000:=by
 have key:∀ l:List AE,((l.flatMap (FE types)).length:Int)<=1000000*(l.length:Int):=by
  intro l
  induction l with
  | nil=>simp
  | cons p l ih =>
   rw [List.flatMap_cons,List.length_append,IW,Iw,List.length_cons]
   have:=IZ ht p.Type'
   omega
 have h1:=key (CJ b.Parts)
 have h2:=J1 b.Parts hp
 unfold Af
 omega
def Cf (x0:AE):AX:=AX.mk x0.At x0.Turn x0.Under
def Jy:CT:=(63,[.agg (AE.c x0)],.val [] (.av (.agg (AX.c (Cf x0)))))
abbrev Rk:List Cl:=[.i x0.At.X,.i x0.At.Y,.i x0.Turn,.b x0.Under]
abbrev VA:Nat×Blk:=(2,.cells [.i 0,.i 0,.i 0,.b false] 74)
theorem iI (x0:AE):PuP 63 (Jy x0).2.1 (.av (.agg (AX.c (Cf x0)))):=by
 refine pwf Tryz.func63 fun W0 M0 => ?_
 refine AB<|rn ⟨Gj,[(1,.cells (AE.c x0) 78),VA]⟩<|AB ?_
 refine rn ⟨[(2,tP 2 0)],[(2,.cells (Rk x0) 74)]⟩<|Ab ?_
 exact xl (.av (.agg (Rk x0))) (Ae (by rfl))
theorem Tr (x0:AE):OKc (Jy x0):=cPu<|iI x0
def EA (b:AG) (p:AE):Int:=bif p.Under then b.Layers else 1
def Q0:CT:=(86,[.agg (CB b),.agg (AE.c p)],.val [] (.av (.one (.i (EA b p)))))
theorem pside (b:AG) (p:AE):PuP 86 (Q0 b p).2.1 (tO (.i (EA b p))):=by
 refine pwf Tryz.func86 fun W0 M0 => ?_
 refine AB<|rn ⟨Gr,[(CD b),(3,.cells (AE.c p) 78)]⟩ ?_
 refine AB<|AB ?_
 refine rn ⟨[(2,tP 2 0),(6,tB p.Under)],[(CD b)]⟩ ?_
 refine AW p.Under kr (fun h1 => ?_) (fun h1 => ?_)
 ·refine AB<|rn ⟨[(4,tI b.Layers)],[]⟩ ?_
  refine Ab<|An ?_
  exact xl (tO (.i b.Layers)) (Ae (by simp only [EA,h1,cond_true,cond_false] <;> rfl))
 refine AV<|AF<|AB ?_
 refine rn ⟨[(4,tI 1)],[]⟩<|Ab ?_
 exact xl (tO (.i 1)) (Ae (by simp only [EA,h1,cond_true,cond_false] <;> rfl))
theorem bK (b:AG) (p:AE):OKc (Q0 b p):=cPu<|pside b p
end
section
open Go.RowKit
variable (b:AG) (types:List AR) (x2_:Nat) (AK:List (Ak×ByteArray)) (Am:List AN) (x0_:Nat)
def Z0h:CT:=(104,[.one (lst 2 Bi.c b.Nets)],.val [] (.av (.one (.clo 146 1 (BK [.eptr 1 1 (fun _ j_=>([lst 2 Bi.c b.Nets]:List Cl).getD j_ default) 0 0])))))
def Z0i:CT:=(105,[.agg (CB b),.one (Fz types)],.val [] (.av (.one (.clo 147 2 (BK [.eptr 15 1 (fun _ j_=>((CB b):List Cl).getD j_ default) 0 0,.eptr 1 1 (fun _ j_=>([lst 3 AR.c types]:List Cl).getD j_ default) 0 0])))))
def HC (b:AG) (types:(List AR)) (AK:List (Ak×ByteArray)) (x0:Nat) (K0:List (Ak×ByteArray)->(List AN)):Nat->List (Ak×ByteArray)->Int->(List AN)
 | 0,_,_=>default
 | n1+1,A1,v23=>bif decide ((v23:Int)<((b.Nets.getD (b.Nets.length-1-x0) default).Pins.length:Int)) then ((HC b types AK x0 K0 n1) (GM A2 A1 ((b.Nets.getD (b.Nets.length-1-x0) default).Pins.getD v23.toNat default) (b.Nets.getD (b.Nets.length-1-x0) default).Name) (v23+1)) else (K0 A1)
def DU (b:AG) (types:(List AR)) (AK:List (Ak×ByteArray)) (K0:List (Ak×ByteArray)->(List AN)):Nat->Nat->List AN->(List AN)
 | 0,_,Am=>Am
 | m+1,x,Am=>(DU b types AK K0 m (x+1)) (Am++[AN.mk ((Af b types).getD x default).1.Id ((Af b types).getD x default).2.Name 1 (bif EC A2 AK (Ak.mk ((Af b types).getD x default).1.Ref ((Af b types).getD x default).2.Name) then (AK.getD (C8 A2 AK (Ak.mk ((Af b types).getD x default).1.Ref ((Af b types).getD x default).2.Name)) default).2 else ⟨#[]⟩) (bif decide ((((Af b types).getD x default).2.Drill:Int)=0) then (EA b ((Af b types).getD x default).1) else 1) (bif decide ((((Af b types).getD x default).2.Drill:Int)=0) then (EA b ((Af b types).getD x default).1) else b.Layers) (E3 ((Af b types).getD x default).2.Shape (Cf ((Af b types).getD x default).1))])
def C5 (b:AG) (types:(List AR)):Nat->Nat->List (Ak×ByteArray)->(List AN)
 | 0,_,AK=>DU b types AK (fun _=>default) (Af b types).length 0 ([]:List AN)
 | m+1,x,AK=>HC b types AK x (C5 b types m (x+1)) ((((b.Nets.getD (b.Nets.length-1-x) default).Pins.length:Int)-0).toNat+1) AK 0
def DV (b:AG) (types:(List AR)):(List AN):=C5 b types b.Nets.length 0 ([]:List (Ak×ByteArray))
abbrev R0:=Ak.mk ((Af b types).getD x2_ default).1.Ref ((Af b types).getD x2_ default).2.Name
abbrev YC:=[AN.mk ((Af b types).getD x2_ default).1.Id ((Af b types).getD x2_ default).2.Name 1 (bif EC A2 AK (R0 b types x2_) then (AK.getD (C8 A2 AK (R0 b types x2_)) default).2 else ⟨#[]⟩) (bif decide ((((Af b types).getD x2_ default).2.Drill:Int)=0) then (EA b ((Af b types).getD x2_ default).1) else 1) (bif decide ((((Af b types).getD x2_ default).2.Drill:Int)=0) then (EA b ((Af b types).getD x2_ default).1) else b.Layers) (E3 ((Af b types).getD x2_ default).2.Shape (Cf ((Af b types).getD x2_ default).1))]
abbrev fY (AK:List (Ak×ByteArray)) (b:AG) (types:List AR) (x2_:Nat):=bif EC A2 AK (R0 b types x2_) then (AK.getD (C8 A2 AK (R0 b types x2_)) default).2 else ⟨#[]⟩
abbrev QM:=Ak.mk ((Af b types).getD x2_ default).1.Ref ((Af b types).getD x2_ default).2.Name
abbrev Cn:Nat×Tv:=(1,tO (Fz types))
abbrev Dd:Nat×Blk:=(200005,.cells [.om 200014] 211)
abbrev zzc41:=(bif decide ((((Af b types).getD x2_ default).2.Drill:Int)=0) then (EA b ((Af b types).getD x2_ default).1) else b.Layers)
abbrev N9:Nat×Tv:=(17,.av (.one (.clo 146 1 (BK [.eptr 1 1 (gD [lst 2 Bi.c b.Nets]) 0 0]))))
abbrev ZI:=E3 ((Af b types).getD x2_ default).2.Shape (Cf ((Af b types).getD x2_ default).1)
abbrev zzc49:=(bif decide ((((Af b types).getD x2_ default).2.Drill:Int)=0) then (EA b ((Af b types).getD x2_ default).1) else 1)
abbrev ZG:Nat×Tv:=(7,.av (.one (.eptr 2 1 (gD (Bi.c (b.Nets.getD (b.Nets.length-1-x0_) default))) 0 0)))
abbrev Dc:Nat×Blk:=(200002,.cells (CB b) 41)
abbrev I6:Nat×Blk:=(100000,.row 9 Am.length (AL AN.c Am) 61)
abbrev kS:Nat×Tv:=(22,tI ((b.Nets.getD (b.Nets.length-1-x0_) default).Pins.length:Int))
abbrev kR:Nat×Tv:=(21,tO (lst 2 Ak.c (b.Nets.getD (b.Nets.length-1-x0_) default).Pins))
abbrev Wx:Nat×Tv:=(11,.av (.one (.eptr 7 1 (gD (AE.c ((Af b types).getD x2_ default).1)) 0 0)))
abbrev J6:Nat×Blk:=(200010,.cells [.own 100000 9 Am.length] 50)
abbrev JA (t_:List (Nat×Tv)):List (Nat×Tv):=(2,tP 200002 0)::(5,tP 200005 0)::(10,tP 200010 0)::t_
abbrev R8:List (Nat×Tv):=(JA [(Wx b types x2_),(12,.av (.one (.eptr 7 1 (gD (BJ.c ((Af b types).getD x2_ default).2)) 0 0))),(13,tP 13 0),(34,.av (JK b types))])
abbrev Zy:Nat×Tv:=(12,.av (.one (.eptr 7 1 (gD (BJ.c ((Af b types).getD x2_ default).2)) 0 0)))
abbrev Ou:List (Nat×Tv):=(JA [(34,.av (JK b types))])
abbrev Zl:List Cl:=[.i ((Af b types).getD x2_ default).1.Id,.s ((Af b types).getD x2_ default).2.Name,.i 1,.s (fY AK b types x2_),.i (zzc49 b types x2_),.i (zzc41 b types x2_),.i (ZI b types x2_).Kind,lst 7 AH.c (ZI b types x2_).Edges,.i (ZI b types x2_).R]
abbrev GF (t_:List (Nat×Tv)):List (Nat×Tv):=(Cn types)::(2,tP 200002 0)::(5,tP 200005 0)::t_
abbrev OG (t_:List Cl):List Cl:=(.i ((Af b types).getD x2_ default).1.Id)::(.s ((Af b types).getD x2_ default).2.Name)::(.i 1)::t_
abbrev L8 (t_:List (Nat×Tv)):List (Nat×Tv):=(ZG b x0_)::(N9 b)::(kR b x0_)::(kS b x0_)::t_
abbrev H9 (t_:List (Nat×Tv)):List (Nat×Tv):=(Cn types)::(2,tP 2 0)::(5,tP 5 0)::t_
theorem qPads (b:AG) (types:(List AR)) (hn:(b.Nets.length:Int)<=1000000) (hp:b.Parts.length<20) (ht:B4 types) (hm:((Af b types).length:Int)<=20000000) (hq:∀ n∈b.Nets,(n.Pins.length:Int)<=1000000):Fr Tryz.prog 51 [.agg (CB b),.one (lst 3 AR.c types)] (.row 9 (DV b types).length (AL AN.c (DV b types)) 61) (fun d=>tO (.own d 9 (DV b types).length)):=by
 refine Cu Tryz.func51 rfl kr (DQ _ _) fun W0 M0 => ?_
 refine AB<|rn ⟨[(Cn types),(2,tP 2 0)],[(CD b)]⟩<|AB ?_
 refine rn ⟨(H9 types []),[(CD b),(5,.cells [.om 14] 211),(14,.omap false 1 0 (fun _=>undef) (fun _ _=>default))]⟩ ?_
 refine BI (Cv.trans (A7 (⟨(H9 types []),[(CD b),(5,.cells [.om 14] 211),(14,.omap false 1 ([]:List (Ak×ByteArray)).length (kfG Bh ([]:List (Ak×ByteArray))) (vfG (fun x=>[.s x]) ([]:List (Ak×ByteArray))))]⟩) lr (.cons ⟨rfl,.refl _⟩ (.cons ⟨rfl,.refl _⟩ (.cons ⟨rfl,eQ (ck:=Bh) (cv:=(fun x=>[.s x]))⟩ .nil)))) (Cv.refl _))<|AB<|AB ?_
 refine rs 17 (Z0h b) ⟨(H9 types [(N9 b)]),[(CD b),(5,.cells [.om 14] 211),(14,.omap false 1 ([]:List (Ak×ByteArray)).length (kfG Bh ([]:List (Ak×ByteArray))) (vfG (fun x=>[.s x]) ([]:List (Ak×ByteArray))))]⟩ (cPu<|YT b.Nets)<|AF<|AO ?_
 refine BI (Cv.trans (vr 2 200002 hk0) (Cv.trans (vr 5 200005 hk0) (Cv.trans (wr (⟨(GF types [(N9 b)]),[(Dc b),Dd,(200014,.omap false 1 ([]:List (Ak×ByteArray)).length (kfG Bh ([]:List (Ak×ByteArray))) (vfG (fun x=>[.s x]) ([]:List (Ak×ByteArray))))]⟩) 14 200014 hk0) (Cv.refl _)))) ?_
 refine LB (ι:=List (Ak×ByteArray)) [200002,200005,200014] 299999 200002 9999 299998 (fun x=>[(200002,.cells (CB b) 41),(200005,.cells [.om 200014] 211),(200014,.omap false 1 x.length (kfG Bh x) (vfG (fun x=>[.s x]) x))]) (fun x0=>[(1,tO (lst 3 AR.c types)),(2,tP 200002 0),(5,tP 200005 0),(7,.av (.one (.eptr 2 1 (gD (Bi.c (b.Nets.getD (b.Nets.length-1-x0.val) default))) 0 0))),(17,.av (.one (.clo 146 1 (BK [.eptr 1 1 (gD [lst 2 Bi.c b.Nets]) 0 0]))))]) (fun j x=>True) (fun y x=>C5 b types (b.Nets.length-y) y x=DV b types) ([]:List (Ak×ByteArray)) (fun _=>rfl) kr kr (fun _ _=>kr) (kB b.Nets oM) kr (fun _=>by kernel_rfl) (fun _=>rfl) (fun _=>rfl) (fun x=>(CA (p:=BkN) (by simp only [List.forall_mem_cons];exact ⟨Q5 (Ma _),Q5 (by simp only [List.forall_mem_cons];exact ⟨(.om _),fun x hx=>by cases hx⟩),lS (fun x y hy=>by rw [List.mem_singleton.1 hy];exact (.val _)),fun x hx=>by cases hx⟩))) (fun x0=>(CA (p:=TvM) (by simp only [List.forall_mem_cons];exact ⟨BU (CR PM),BU (.ptr _ _),BU (.ptr _ _),BU (Ez (SU _)),BU (WB (by simp only [List.forall_mem_cons];exact ⟨(Ez (by simp only [List.forall_mem_cons];exact ⟨(CR SU),fun x hx=>by cases hx⟩)),fun x hx=>by cases hx⟩)),fun x hx=>by cases hx⟩))) (fun _=>by kernel_rfl) ax0 (by simp only [DV,Nat.sub_zero,cond_true,cond_false]) (fun l1 W1 M1 X1 x0 j AK hinv hPX => ?_) (fun l2 W2 M2 X2 x0 j AK hPX hj hinv => ?_) (fun AK hinv hF0 => ?_)
 ·have hinv0:True:=hinv;clear hinv
  refine Dl ?_
  refine rg ⟨(GF types [(7,tP 7 0),(N9 b)]),[(7,.cells (Bi.c (b.Nets.getD (b.Nets.length-1-x0.val) default)) 120),(Dc b),Dd,(200014,.omap false 1 AK.length (kfG Bh AK) (vfG (fun x=>[.s x]) AK))]⟩ ?_
  exact ⟨_,Cv.trans (Ph (⟨(GF types [(ZG b x0.val),(N9 b)]),[(Dc b),Dd,(200014,.omap false 1 AK.length (kfG Bh AK) (vfG (fun x=>[.s x]) AK))]⟩) 7 (Bi.c (b.Nets.getD (b.Nets.length-1-x0.val) default)) 120 [200002,200005,200014] 299998 hPX kr (fun h=>by obtain ⟨_,h⟩:=h;cases h) kr kr kr) (Cv.refl _),rfl,rfl⟩
 ·have hinv0:True:=hinv;clear hinv
  obtain ⟨Xb0,hXb0⟩:∃ Xb,C5 b types (b.Nets.length-x0.val) x0.val AK=Xb:=⟨_,rfl⟩
  have hF0:=hXb0
  rw [show b.Nets.length-x0.val=(b.Nets.length-(x0.val+1))+1 by have:=x0.isLt;omega] at hF0
  have hqx:=Ft (p:=fun n:Bi=>(n.Pins.length:Int)<=1000000) (by decide) hq (b.Nets.length-1-x0.val)
  refine Dl<|AO<|AB ?_
  refine rn ⟨(GF types (L8 b x0.val [(23,tI 0)])),[(Dc b),Dd,(200014,.omap false 1 AK.length (kfG Bh AK) (vfG (fun x=>[.s x]) AK))]⟩<|AO ?_
  refine A0 (ι:=Nat×List (Ak×ByteArray)×Int) (fun x=>⟨(GF types (L8 b x0.val [(23,tI x.2.2)])),[(Dc b),Dd,(200014,.omap false 1 x.2.1.length (kfG Bh x.2.1) (vfG (fun x=>[.s x]) x.2.1))]⟩) (fun x=>(((b.Nets.getD (b.Nets.length-1-x0.val) default).Pins.length:Int)-x.2.2).toNat<x.1/\(0<=x.2.2/\(x.2.2<=((b.Nets.getD (b.Nets.length-1-x0.val) default).Pins.length:Int)\/x.2.2=0))/\HC b types AK x0.val (C5 b types (b.Nets.length-(x0.val+1)) (x0.val+1)) x.1 x.2.1 x.2.2=Xb0) (fun x=>x.1) ?_ ((((b.Nets.getD (b.Nets.length-1-x0.val) default).Pins.length:Int)-0).toNat+1,AK,0) ⟨Nat.lt_succ_self _,⟨ax0,ax0⟩,(by rw [<- hF0];simp only [C5,cond_true,cond_false])⟩
  rintro ⟨n1,A1,v23⟩ ⟨hm1,hinv1,hF1⟩
  try dsimp only at hm1 hinv1 hF1
  cases n1 with | zero=>exact nz hm1 | succ n1 => ?_
  refine AB<|rn ⟨(GF types (L8 b x0.val [(23,tI v23),(24,tB (decide ((v23:Int)<((b.Nets.getD (b.Nets.length-1-x0.val) default).Pins.length:Int))))])),[(Dc b),Dd,(200014,.omap false 1 A1.length (kfG Bh A1) (vfG (fun x=>[.s x]) A1))]⟩<|AB ?_
  refine AW _ rfl (fun h1 => ?_) (fun h1 => ?_)
  ·have g1:=oT h1
   refine AV<|AF ?_
   refine AB<|AO<|AB ?_
   refine rc [] [0<=(v23:Int)/\(v23:Int)<(((b.Nets.getD (b.Nets.length-1-x0.val) default).Pins.length:Nat):Int)] ⟨(GF types [(ZG b x0.val),(9,tP 9 0),(N9 b),(kR b x0.val),(kS b x0.val),(23,tI v23)]),[(9,.cells (Ak.c ((b.Nets.getD (b.Nets.length-1-x0.val) default).Pins.getD v23.toNat default)) 106),(Dc b),Dd,(200014,.omap false 1 A1.length (kfG Bh A1) (vfG (fun x=>[.s x]) A1))]⟩ .nil (.cons au0 .nil)<|AF ?_
   refine Dk DN [] [(999999,((EC A2 A1 ((b.Nets.getD (b.Nets.length-1-x0.val) default).Pins.getD v23.toNat default)),(C8 A2 A1 ((b.Nets.getD (b.Nets.length-1-x0.val) default).Pins.getD v23.toNat default))))] [] [1,2,5,7,17,21,22,23] [200002,200005,200014] [Uk Tryz.prog eqE 106 A1.length (kfG Bh A1) (Bh ((b.Nets.getD (b.Nets.length-1-x0.val) default).Pins.getD v23.toNat default)) (EC A2 A1 ((b.Nets.getD (b.Nets.length-1-x0.val) default).Pins.getD v23.toNat default)) (C8 A2 A1 ((b.Nets.getD (b.Nets.length-1-x0.val) default).Pins.getD v23.toNat default))] ⟨(GF types (L8 b x0.val [(23,tI v23)])),[(Dc b),Dd,(200014,.omap false 1 (bif EC A2 A1 ((b.Nets.getD (b.Nets.length-1-x0.val) default).Pins.getD v23.toNat default) then A1.length else A1.length+1) (fun j=>bif Nat.beq j (bif EC A2 A1 ((b.Nets.getD (b.Nets.length-1-x0.val) default).Pins.getD v23.toNat default) then C8 A2 A1 ((b.Nets.getD (b.Nets.length-1-x0.val) default).Pins.getD v23.toNat default) else A1.length) then Bh ((b.Nets.getD (b.Nets.length-1-x0.val) default).Pins.getD v23.toNat default) else kfG Bh A1 j) (fun j c=>bif Nat.beq j (bif EC A2 A1 ((b.Nets.getD (b.Nets.length-1-x0.val) default).Pins.getD v23.toNat default) then C8 A2 A1 ((b.Nets.getD (b.Nets.length-1-x0.val) default).Pins.getD v23.toNat default) else A1.length) then ([.s (b.Nets.getD (b.Nets.length-1-x0.val) default).Name]:List Cl).getD c default else vfG (fun x=>[.s x]) A1 j c))]⟩ .nil kr (.cons (UE Qv UZ _ _) .nil)<|BA<|AF ?_
   refine BI (Cv.trans (A7 (⟨(GF types (L8 b x0.val [(23,tI v23)])),[(Dc b),Dd,(200014,.omap false 1 (GM A2 A1 ((b.Nets.getD (b.Nets.length-1-x0.val) default).Pins.getD v23.toNat default) (b.Nets.getD (b.Nets.length-1-x0.val) default).Name).length (kfG Bh (GM A2 A1 ((b.Nets.getD (b.Nets.length-1-x0.val) default).Pins.getD v23.toNat default) (b.Nets.getD (b.Nets.length-1-x0.val) default).Name)) (vfG (fun x=>[.s x]) (GM A2 A1 ((b.Nets.getD (b.Nets.length-1-x0.val) default).Pins.getD v23.toNat default) (b.Nets.getD (b.Nets.length-1-x0.val) default).Name)))]⟩) lr (.cons ⟨rfl,.refl _⟩ (.cons ⟨rfl,.refl _⟩ (.cons ⟨rfl,eP (ck:=Bh) (cv:=(fun x=>[.s x])) (eq:=A2) A1 ((b.Nets.getD (b.Nets.length-1-x0.val) default).Pins.getD v23.toNat default) (b.Nets.getD (b.Nets.length-1-x0.val) default).Name [.s (b.Nets.getD (b.Nets.length-1-x0.val) default).Name] rfl⟩ .nil)))) (Cv.refl _)) ?_
   refine rg ⟨(GF types (L8 b x0.val [(23,tI (W64 (v23+1)))])),[(Dc b),Dd,(200014,.omap false 1 (GM A2 A1 ((b.Nets.getD (b.Nets.length-1-x0.val) default).Pins.getD v23.toNat default) (b.Nets.getD (b.Nets.length-1-x0.val) default).Name).length (kfG Bh (GM A2 A1 ((b.Nets.getD (b.Nets.length-1-x0.val) default).Pins.getD v23.toNat default) (b.Nets.getD (b.Nets.length-1-x0.val) default).Name)) (vfG (fun x=>[.s x]) (GM A2 A1 ((b.Nets.getD (b.Nets.length-1-x0.val) default).Pins.getD v23.toNat default) (b.Nets.getD (b.Nets.length-1-x0.val) default).Name)))]⟩ ?_
   (try rw [(show W64 (v23+1)=v23+1 from Ah oM au5)])
   refine AF ?_
   refine ⟨(n1,GM A2 A1 ((b.Nets.getD (b.Nets.length-1-x0.val) default).Pins.getD v23.toNat default) (b.Nets.getD (b.Nets.length-1-x0.val) default).Name,v23+1),⟨?_,?_,(by rw [<- hF1];simp only [HC,h1,cond_true,cond_false])⟩,Nat.lt_succ_self _,Aw kr⟩
   ·show (((b.Nets.getD (b.Nets.length-1-x0.val) default).Pins.length:Int)-(v23+1)).toNat<n1;omega
   exact ⟨ax0,ax0⟩
  have g1:=oF h1
  refine A3<|Ar ?_
  refine Ar<|A4<|BA ?_
  refine ⟨_,Cv.trans (ck (⟨(GF types [(N9 b)]),[(Dc b),Dd,(200014,.omap false 1 A1.length (kfG Bh A1) (vfG (fun x=>[.s x]) A1))]⟩)) (Cv.refl _),rfl,A1,ax0,fun hk hF => ?_,fun _ _ h=>h⟩
  have e0:C5 b types (b.Nets.length-(x0.val+1)) (x0.val+1) A1=Xb0:=by
   rw [<- hF1]
   first | (simp only [HC,h1,cond_true,cond_false] <;> rfl)
  subst hk
  change C5 b types (b.Nets.length-x0.val) x0.val AK=DV b types at hF
  show C5 b types (b.Nets.length-(x0.val+1)) (x0.val+1) A1=DV b types
  exact e0.trans (hXb0.symm.trans hF)
 have hinv0:True:=hinv;clear hinv
 change C5 b types (b.Nets.length-b.Nets.length) b.Nets.length AK=DV b types at hF0
 rw [Nat.sub_self] at hF0
 refine BA<|AF<|AB ?_
 refine rn ⟨(GF types [(10,tP 10 0)]),[(10,.cells [vN] 50),(Dc b),Dd,(200014,.omap false 1 AK.length (kfG Bh AK) (vfG (fun x=>[.s x]) AK))]⟩ ?_
 refine AB<|AB ?_
 refine rs 34 (Z0i b types) ⟨[(2,tP 200002 0),(5,tP 200005 0),(10,tP 10 0),(34,.av (JK b types))],[(10,.cells [vN] 50),(Dc b),Dd,(200014,.omap false 1 AK.length (kfG Bh AK) (vfG (fun x=>[.s x]) AK))]⟩ (cPu<|ppads b types)<|AF<|AO ?_
 refine BI (Cv.trans (vr 10 200010 hk0) (Cv.trans (vk [2,5,10,34] [200002,200005,200010,200014]) (Cv.trans (wg (⟨(Ou b types),[(100000,.row 9 0 (fun _ _=>default) 61),(Dc b),Dd,(200010,.cells [.own 100000 9 0] 50),(200014,.omap false 1 AK.length (kfG Bh AK) (vfG (fun x=>[.s x]) AK))]⟩) 100000 9 (fun _ _=>default) 61 [] [(200010,[0])] hk0) (Cv.trans (A7 (⟨(Ou b types),[(100000,.row 9 ([]:List AN).length (AL AN.c ([]:List AN)) 61),(Dc b),Dd,(200010,.cells [.own 100000 9 ([]:List AN).length] 50),(200014,.omap false 1 AK.length (kfG Bh AK) (vfG (fun x=>[.s x]) AK))]⟩) lr (.cons ⟨rfl,Ad 61 (B3 9 (fun _ _=>default) AN.c)⟩ (.cons ⟨rfl,.refl _⟩ (.cons ⟨rfl,.refl _⟩ (.cons ⟨rfl,.cells _ (.cons (.own _ _ au2) .nil)⟩ lr))))) (Cv.refl _))))) ?_
 refine LB (ι:=List AN) [200002,200005,200010,200014] 299999 200010 0 100000 (fun x=>[(100000,.row 9 x.length (AL AN.c x) 61),(200002,.cells (CB b) 41),(200005,.cells [.om 200014] 211),(200010,.cells [.own 100000 9 x.length] 50),(200014,.omap false 1 AK.length (kfG Bh AK) (vfG (fun x=>[.s x]) AK))]) (fun x2=>[(2,tP 200002 0),(5,tP 200005 0),(10,tP 200010 0),(11,.av (.one (.eptr 7 1 (gD (AE.c ((Af b types).getD x2.val default).1)) 0 0))),(12,.av (.one (.eptr 7 1 (gD (BJ.c ((Af b types).getD x2.val default).2)) 0 0))),(34,.av (.one (.clo 147 2 (BK [.eptr 15 1 (gD (CB b)) 0 0,.eptr 1 1 (gD [lst 3 AR.c types]) 0 0]))))]) (fun j x=>x.length<=j) (fun y x=>DU b types AK (fun _=>default) ((Af b types).length-y) y x=DV b types) ([]:List AN) (fun _=>rfl) kr kr (fun _ _=>kr) (iF b types hp ht) kr (fun _=>by kernel_rfl) (fun _=>rfl) (fun _=>rfl) (fun x=>(CA (p:=BkN) (by simp only [List.forall_mem_cons];exact ⟨lR JO,Q5 (Ma _),Q5 (by simp only [List.forall_mem_cons];exact ⟨(.om _),fun x hx=>by cases hx⟩),Q5 (by simp only [List.forall_mem_cons];exact ⟨(.own _ _ _),fun x hx=>by cases hx⟩),lS (fun x y hy=>by rw [List.mem_singleton.1 hy];exact (.val _)),fun x hx=>by cases hx⟩))) (fun x2=>(CA (p:=TvM) (by simp only [List.forall_mem_cons];exact ⟨BU (.ptr _ _),BU (.ptr _ _),BU (.ptr _ _),BU (Ez (FZ _)),BU (Ez (Jj _)),BU (WB (by simp only [List.forall_mem_cons];exact ⟨(Ez (Ma _)),(Ez (by simp only [List.forall_mem_cons];exact ⟨(CR PM),fun x hx=>by cases hx⟩)),fun x hx=>by cases hx⟩)),fun x hx=>by cases hx⟩))) (fun _=>by kernel_rfl) ax0 (by rw [<- hF0];simp only [C5,Nat.sub_zero,cond_true,cond_false]) (fun l1 W1 M1 X1 x2 j Am hinv hPX => ?_) (fun l2 W2 M2 X2 x2 j Am hPX hj hinv => ?_) (fun Am hinv hF2 => ?_)
 ·have hinv2:Am.length<=j:=hinv;clear hinv
  refine Dl<|AB ?_
  refine rn ⟨(JA [(11,tP 11 0),(34,.av (JK b types)),(36,.av (.agg (BJ.c ((Af b types).getD x2.val default).2)))]),[(11,.cells (AE.c ((Af b types).getD x2.val default).1) 78),(I6 Am),(Dc b),Dd,(J6 Am),(200014,.omap false 1 AK.length (kfG Bh AK) (vfG (fun x=>[.s x]) AK))]⟩ ?_
  refine rg ⟨(JA [(11,tP 11 0),(12,tP 12 0),(34,.av (JK b types))]),[(11,.cells (AE.c ((Af b types).getD x2.val default).1) 78),(12,.cells (BJ.c ((Af b types).getD x2.val default).2) 102),(I6 Am),(Dc b),Dd,(J6 Am),(200014,.omap false 1 AK.length (kfG Bh AK) (vfG (fun x=>[.s x]) AK))]⟩ ?_
  exact ⟨_,Cv.trans (Ph (⟨(JA [(Wx b types x2.val),(12,tP 12 0),(34,.av (JK b types))]),[(12,.cells (BJ.c ((Af b types).getD x2.val default).2) 102),(I6 Am),(Dc b),Dd,(J6 Am),(200014,.omap false 1 AK.length (kfG Bh AK) (vfG (fun x=>[.s x]) AK))]⟩) 11 (AE.c ((Af b types).getD x2.val default).1) 78 [200002,200005,200010,200014] 100000 hPX kr (fun _=>⟨_,rfl⟩) kr kr kr) (Cv.trans (Ph (⟨(JA [(Wx b types x2.val),(Zy b types x2.val),(34,.av (JK b types))]),[(I6 Am),(Dc b),Dd,(J6 Am),(200014,.omap false 1 AK.length (kfG Bh AK) (vfG (fun x=>[.s x]) AK))]⟩) 12 (BJ.c ((Af b types).getD x2.val default).2) 102 [200002,200005,200010,200014] 100000 hPX kr (fun _=>⟨_,rfl⟩) kr kr kr) (Cv.refl _)),rfl,rfl⟩
 ·have hinv2:Am.length<=j:=hinv;clear hinv
  obtain ⟨Xb2,hXb2⟩:∃ Xb,DU b types AK (fun _=>default) ((Af b types).length-x2.val) x2.val Am=Xb:=⟨_,rfl⟩
  have hF2:=hXb2
  rw [show (Af b types).length-x2.val=((Af b types).length-(x2.val+1))+1 by have:=x2.isLt;omega] at hF2
  have hpe:=YW (b:=b) ht x2.val
  refine Dl<|AO<|AB ?_
  refine X5 cI DN [] [(47,((EC A2 AK (QM b types x2.val)),(C8 A2 AK (QM b types x2.val))))] [] [2,5,10,11,12,13,34] [13,100000,200002,200005,200010,200014] [Uk Tryz.prog eqE 106 AK.length (kfG Bh AK) (Bh (Ak.mk ((Af b types).getD x2.val default).1.Ref ((Af b types).getD x2.val default).2.Name)) (EC A2 AK (Ak.mk ((Af b types).getD x2.val default).1.Ref ((Af b types).getD x2.val default).2.Name)) (C8 A2 AK (Ak.mk ((Af b types).getD x2.val default).1.Ref ((Af b types).getD x2.val default).2.Name))] ⟨(R8 b types x2.val),[(13,.cells (OG b types x2.val [.s (fY AK b types x2.val),.i 1,.i b.Layers,.i 0,vN,.i 0]) 61),(I6 Am),(Dc b),Dd,(J6 Am),(200014,.omap false 1 AK.length (kfG Bh AK) (vfG (fun x=>[.s x]) AK))]⟩ .nil kr kr (.cons (UE Qv UZ _ _) .nil)<|AF ?_
  refine AB<|AB ?_
  refine rn ⟨(JA [(Wx b types x2.val),(Zy b types x2.val),(13,tP 13 0),(34,.av (JK b types)),(53,tB (decide ((((Af b types).getD x2.val default).2.Drill:Int)=0)))]),[(13,.cells (OG b types x2.val [.s (fY AK b types x2.val),.i 1,.i b.Layers,.i 0,vN,.i 0]) 61),(I6 Am),(Dc b),Dd,(J6 Am),(200014,.omap false 1 AK.length (kfG Bh AK) (vfG (fun x=>[.s x]) AK))]⟩ ?_
  refine Bb (⟨(R8 b types x2.val),[(13,.cells (OG b types x2.val [.s (bif EC A2 AK (QM b types x2.val) then (AK.getD (C8 A2 AK (QM b types x2.val)) default).2 else ⟨#[]⟩),.i (bif decide ((((Af b types).getD x2.val default).2.Drill:Int)=0) then (EA b ((Af b types).getD x2.val default).1) else 1),.i (bif decide ((((Af b types).getD x2.val default).2.Drill:Int)=0) then (EA b ((Af b types).getD x2.val default).1) else b.Layers),.i 0,vN,.i 0]) 61),(I6 Am),(Dc b),Dd,(J6 Am),(200014,.omap false 1 AK.length (kfG Bh AK) (vfG (fun x=>[.s x]) AK))]⟩) ?_ ?_
  ·refine AW _ rfl (fun h1 => ?_) (fun h1 => ?_)
   ·refine dw [] [(56,Q0 b ((Af b types).getD x2.val default).1),(59,Q0 b ((Af b types).getD x2.val default).1)] [Aq (Q0 b ((Af b types).getD x2.val default).1).2.1,Aq (Q0 b ((Af b types).getD x2.val default).1).2.1] ⟨(R8 b types x2.val),[(13,.cells (OG b types x2.val [.s (fY AK b types x2.val),.i (EA b ((Af b types).getD x2.val default).1),.i (EA b ((Af b types).getD x2.val default).1),.i 0,vN,.i 0]) 61),(I6 Am),(Dc b),Dd,(J6 Am),(200014,.omap false 1 AK.length (kfG Bh AK) (vfG (fun x=>[.s x]) AK))]⟩ (.cons (bK b ((Af b types).getD x2.val default).1) (.cons (bK b ((Af b types).getD x2.val default).1) .nil)) (.cons rfl (.cons rfl .nil))<|AF ?_
    refine Aw ?_
    first | rfl | (simp only [h1,cond_true,cond_false] <;> rfl)
   refine AV<|AF ?_
   refine Cv.trans (ck (⟨(R8 b types x2.val),[(13,.cells (OG b types x2.val [.s (bif EC A2 AK (QM b types x2.val) then (AK.getD (C8 A2 AK (QM b types x2.val)) default).2 else ⟨#[]⟩),.i 1,.i b.Layers,.i 0,vN,.i 0]) 61),(I6 Am),(Dc b),Dd,(J6 Am),(200014,.omap false 1 AK.length (kfG Bh AK) (vfG (fun x=>[.s x]) AK))]⟩)) (Aw ?_)
   first | rfl | (simp only [h1,cond_true,cond_false] <;> rfl)
  refine AB<|dw [] [(65,Jy ((Af b types).getD x2.val default).1),(66,Sw ((Af b types).getD x2.val default).2.Shape (Cf ((Af b types).getD x2.val default).1))] [Aq (Jy ((Af b types).getD x2.val default).1).2.1,Aq (Sw ((Af b types).getD x2.val default).2.Shape (Cf ((Af b types).getD x2.val default).1)).2.1] ⟨(JA [(13,tP 13 0),(34,.av (JK b types))]),[(13,.cells (Zl b types x2.val AK) 61),(I6 Am),(Dc b),Dd,(J6 Am),(200014,.omap false 1 AK.length (kfG Bh AK) (vfG (fun x=>[.s x]) AK))]⟩ (.cons (Tr ((Af b types).getD x2.val default).1) (.cons (iV ((Af b types).getD x2.val default).2.Shape (Cf ((Af b types).getD x2.val default).1) au4) .nil)) (.cons rfl (.cons rfl .nil))<|AF ?_
  refine rc [] [Am.length=Am.length,Am.length+1<=maxLen,(Am.length+1)*104<=140737488355328] ⟨(Ou b types),[(71,.row 9 (Am.length+1) (fun i_ j_=>if i_<Am.length then (AL AN.c Am) i_ j_ else (Ap 9 1 (Zl b types x2.val AK)) (i_-Am.length) j_) 61),(Dc b),Dd,(200010,.cells [.own 71 9 (Am.length+1)] 50),(200014,.omap false 1 AK.length (kfG Bh AK) (vfG (fun x=>[.s x]) AK))]⟩ .nil (.cons rfl (.cons au3 (.cons au3 .nil)))<|BA ?_
  refine ⟨_,Cv.trans (A7 (⟨(Ou b types),[(71,.row 9 (Am++(YC b types x2.val AK)).length (AL AN.c (Am++(YC b types x2.val AK))) 61),(Dc b),Dd,(200010,.cells [.own 71 9 (Am++(YC b types x2.val AK)).length] 50),(200014,.omap false 1 AK.length (kfG Bh AK) (vfG (fun x=>[.s x]) AK))]⟩) lr (.cons ⟨rfl,Ad 61 (A8 (Ay 9 AN.c Am) (Al (c:=AN.c) (xs:=([AN.mk ((Af b types).getD x2.val default).1.Id ((Af b types).getD x2.val default).2.Name 1 (bif EC A2 AK (Ak.mk ((Af b types).getD x2.val default).1.Ref ((Af b types).getD x2.val default).2.Name) then (AK.getD (C8 A2 AK (Ak.mk ((Af b types).getD x2.val default).1.Ref ((Af b types).getD x2.val default).2.Name)) default).2 else ⟨#[]⟩) (bif decide ((((Af b types).getD x2.val default).2.Drill:Int)=0) then (EA b ((Af b types).getD x2.val default).1) else 1) (bif decide ((((Af b types).getD x2.val default).2.Drill:Int)=0) then (EA b ((Af b types).getD x2.val default).1) else b.Layers) (E3 ((Af b types).getD x2.val default).2.Shape (Cf ((Af b types).getD x2.val default).1))]:List AN)) rfl kr))⟩ (.cons ⟨rfl,.refl _⟩ (.cons ⟨rfl,.refl _⟩ (.cons ⟨rfl,.cells _ (.cons (.own _ _ au2) .nil)⟩ lr))))) (Cv.trans (wr (⟨(Ou b types),[(100000,.row 9 (Am++(YC b types x2.val AK)).length (AL AN.c (Am++(YC b types x2.val AK))) 61),(Dc b),Dd,(200010,.cells [.own 100000 9 (Am++(YC b types x2.val AK)).length] 50),(200014,.omap false 1 AK.length (kfG Bh AK) (vfG (fun x=>[.s x]) AK))]⟩) 71 100000 (K:=[299999,200002,200005,200010,200014]) (fun k x h=>.inl (hPX k x h))) (Cv.refl _)),rfl,(Am++[AN.mk ((Af b types).getD x2.val default).1.Id ((Af b types).getD x2.val default).2.Name 1 (bif EC A2 AK (Ak.mk ((Af b types).getD x2.val default).1.Ref ((Af b types).getD x2.val default).2.Name) then (AK.getD (C8 A2 AK (Ak.mk ((Af b types).getD x2.val default).1.Ref ((Af b types).getD x2.val default).2.Name)) default).2 else ⟨#[]⟩) (bif decide ((((Af b types).getD x2.val default).2.Drill:Int)=0) then (EA b ((Af b types).getD x2.val default).1) else 1) (bif decide ((((Af b types).getD x2.val default).2.Drill:Int)=0) then (EA b ((Af b types).getD x2.val default).1) else b.Layers) (E3 ((Af b types).getD x2.val default).2.Shape (Cf ((Af b types).getD x2.val default).1))]),ax0,fun hk hF => ?_,fun _ _ h=>h⟩
  have e0:DU b types AK (fun _=>default) ((Af b types).length-(x2.val+1)) (x2.val+1) (Am++[AN.mk ((Af b types).getD x2.val default).1.Id ((Af b types).getD x2.val default).2.Name 1 (bif EC A2 AK (Ak.mk ((Af b types).getD x2.val default).1.Ref ((Af b types).getD x2.val default).2.Name) then (AK.getD (C8 A2 AK (Ak.mk ((Af b types).getD x2.val default).1.Ref ((Af b types).getD x2.val default).2.Name)) default).2 else ⟨#[]⟩) (bif decide ((((Af b types).getD x2.val default).2.Drill:Int)=0) then (EA b ((Af b types).getD x2.val default).1) else 1) (bif decide ((((Af b types).getD x2.val default).2.Drill:Int)=0) then (EA b ((Af b types).getD x2.val default).1) else b.Layers) (E3 ((Af b types).getD x2.val default).2.Shape (Cf ((Af b types).getD x2.val default).1))])=Xb2:=by
   rw [<- hF2]
   first | (simp only [DU,cond_true,cond_false] <;> rfl)
  subst hk
  change DU b types AK (fun _=>default) ((Af b types).length-x2.val) x2.val Am=DV b types at hF
  show DU b types AK (fun _=>default) ((Af b types).length-(x2.val+1)) (x2.val+1) (Am++[AN.mk ((Af b types).getD x2.val default).1.Id ((Af b types).getD x2.val default).2.Name 1 (bif EC A2 AK (Ak.mk ((Af b types).getD x2.val default).1.Ref ((Af b types).getD x2.val default).2.Name) then (AK.getD (C8 A2 AK (Ak.mk ((Af b types).getD x2.val default).1.Ref ((Af b types).getD x2.val default).2.Name)) default).2 else ⟨#[]⟩) (bif decide ((((Af b types).getD x2.val default).2.Drill:Int)=0) then (EA b ((Af b types).getD x2.val default).1) else 1) (bif decide ((((Af b types).getD x2.val default).2.Drill:Int)=0) then (EA b ((Af b types).getD x2.val default).1) else b.Layers) (E3 ((Af b types).getD x2.val default).2.Shape (Cf ((Af b types).getD x2.val default).1))])=DV b types
  exact e0.trans (hXb2.symm.trans hF)
 have hinv2:Am.length<=(Af b types).length:=hinv;clear hinv
 change DU b types AK (fun _=>default) ((Af b types).length-(Af b types).length) (Af b types).length Am=DV b types at hF2
 rw [Nat.sub_self] at hF2
 refine BA<|AF<|AB ?_
 refine rn ⟨[(4,tO (.own 100000 9 Am.length))],[(I6 Am)]⟩<|Ab ?_
 exact xl (tO (.own 100000 9 Am.length)) (frE (c:=AN.c) (xs:=Am) (by rw [<- hF2];first | (simp only [DU,cond_true,cond_false] <;> rfl)) kr)
def lP:CT:=(51,[.agg (CB b),.one (Fz types)],.new [] (.row 9 (DV b types).length (AL AN.c (DV b types)) 61) (fun d=>.av (.one (.own d 9 (DV b types).length))))
theorem nI (b:AG) (types:(List AR)) (hn:(b.Nets.length:Int)<=1000000) (hp:b.Parts.length<20) (ht:B4 types) (hm:((Af b types).length:Int)<=20000000) (hq:∀ n∈b.Nets,(n.Pins.length:Int)<=1000000):OKc (lP b types):=Cx (fun _ _=>kr) (qPads b types hn hp ht hm hq)
end
section
open Go.RowKit
def kK (t:AM):AM:=t
variable (data':List AE) (l:List AM) (b:AG) (j n:Int) (out:List AM) (t:AM)
def oV:CT:=(108,[.agg (AM.c t)],.val [] (.av (.agg (AM.c (kK t)))))
abbrev U6:List Cl:=[.i 0,.s (⟨#[]⟩),.i 0,.i 0,vN,.i 0]
theorem pasT (t:AM):PuP 108 (oV t).2.1 (.av (.agg (AM.c (kK t)))):=by
 refine pwf Tryz.func108 fun W0 M0 => ?_
 refine AB<|rn ⟨Gj,[(1,.cells (AM.c t) 131),(2,.cells U6 150)]⟩<|AB ?_
 refine rn ⟨[(2,tP 2 0)],[(2,.cells (AM.c t) 150)]⟩<|Ab ?_
 exact xl (.av (.agg (AM.c t))) (Ae (by rfl))
theorem okasT (t:AM):OKc (oV t):=cPu<|pasT t
def fO (t:AM):Int:=t.Id
def oQ:CT:=(109,[.agg (AM.c t)],.val [] (.av (.one (.i (fO t)))))
theorem pidT (t:AM):PuP 109 (oQ t).2.1 (tO (.i (fO t))):=by
 refine pwf Tryz.func109 fun W0 M0 => ?_
 refine AB<|rn ⟨[(1,tP 1 0)],[(1,.cells (AM.c t) 150)]⟩<|AB ?_
 refine rn ⟨[(2,tI t.Id)],[]⟩<|Ab ?_
 exact xl (tO (.i t.Id)) (Ae (by rfl))
theorem okidT (t:AM):OKc (oQ t):=cPu<|pidT t
def Ls (a:AM) (b_:AM):Int:=CX (fO a) (fO b_)
theorem jM {p:Prop} (h:p:=by
 refine pwf mp0 fun W0 M0 => ?_
 refine AB<|rn ⟨[(2,.av (.one (.eptr 1 1 (gD [.clo mp1 0 (fun _=>default)]) 0 0))),(3,tP 3 0),(4,tP 4 0)],[(3,.cells (mp2 a) mp3),(4,.cells (mp2 b_) mp3)]⟩<|AB ?_
 refine dw [] [(8,mp4 a),(11,mp4 b_),(12,JZ (mp5 a) (mp5 b_))] [Aq (mp4 a).2.1,Aq (mp4 b_).2.1,Aq (JZ (mp5 a) (mp5 b_)).2.1] ⟨[(5,tI (CX (mp5 a) (mp5 b_)))],[]⟩ (.cons (mp6 a) (.cons (mp6 b_) (.cons (QY (mp5 a) (mp5 b_)) .nil))) (.cons rfl (.cons rfl (.cons rfl .nil)))<|AF<|Ab ?_
 exact xl (tO (.i (CX (mp5 a) (mp5 b_)))) (Ae (by rfl))):p:=h
section
 open Go.Proofs.YtheobjkgllmnmaaGreat renaming XW→mp1,AM.c→mp2,Tx→mp3,oQ→mp4,fO→mp5,okidT→mp6
 open Go.Proofs.Tryz renaming func154→mp0
theorem pcmpT  (a:AM) (b_:AM):G8 Tryz.prog 154 [.agg (AM.c a),.agg (AM.c b_),.one (.eptr 1 1 (gD [.clo 109 0 dfc]) 0 0)] (tO (.i (Ls a b_))):=jM
end
def Z0j (data':List AM) (j:Int):CT:=(154,[.agg (AM.c (data'.getD j.toNat default)),.agg (AM.c (data'.getD (W64 (j-1)).toNat default)),.one (.eptr 1 1 (fun _ j_=>([.clo 109 0 dfc]:List Cl).getD j_ default) 0 0)],.val [] (tI (Ls (data'.getD j.toNat default) (data'.getD (W64 (j-1)).toNat default))))
def Ly (l:(List AM)) (n:Int) (data:List AM) (i:Int) (K0:List AM->Int->(List AM)):Nat->List AM->Int->(List AM)
 | 0,_,_=>default
 | n1+1,data',j=>bif bif decide ((0:Int)<j) then decide (((Ls (data'.getD j.toNat default) (data'.getD (j-1).toNat default)):Int)<0) else false then ((Ly l n data i K0 n1) ((data'.set j.toNat (data'.getD (j-1).toNat default)).set (j-1).toNat (data'.getD j.toNat default)) (j-1)) else (K0 data' (i+1))
def Lz (l:(List AM)) (n:Int):Nat->List AM->Int->(List AM)
 | 0,_,_=>default
 | n0+1,data,i=>bif decide ((i:Int)<n) then (Ly l n data i (Lz l n n0) (i.toNat+1) data i) else data
def NZ (l:(List AM)) (n:Int):(List AM):=Lz l n ((n-1).toNat+1) l 1
theorem jL {p:Prop} (h:p:=by
 refine FX mp0 rfl kr kr kr fun W0 M0 X hX => ?_
 refine AB<|rn ⟨[(0,tO (.own 1000 mp1 l.length)),(1,tI 0),(2,tI n),(3,.av (.one (.clo mp2 1 (BK [.eptr 1 1 (gD [.clo mp3 0 (fun _=>default)]) 0 0])))),(8,tI 1)],[(1000,.row mp1 l.length (AL mp4 l) mp5)]⟩<|AO ?_
 refine A0 (ι:=Nat×List mp6×Int) (fun x=>⟨[(0,tO (.own 1000 mp1 x.2.1.length)),(1,tI 0),(2,tI n),(3,.av (.one (.clo mp2 1 (BK [.eptr 1 1 (gD [.clo mp3 0 (fun _=>default)]) 0 0])))),(8,tI x.2.2)],[(1000,.row mp1 x.2.1.length (AL mp4 x.2.1) mp5)]⟩) (fun x=>(n-x.2.2).toNat<x.1/\(1<=x.2.2/\x.2.1.length=l.length/\1<=x.2.2/\(x.2.2<=n\/x.2.2=1))/\mp7 l n x.1 x.2.1 x.2.2=mp8 l n) (fun x=>x.1) ?_ ((n-1).toNat+1,l,1) ⟨Nat.lt_succ_self _,⟨ax0,ax0,ax0,ax0⟩,(by simp only [mp8,cond_true,cond_false])⟩
 rintro ⟨n0,data,i⟩ ⟨hm0,hinv0,hF0⟩
 try dsimp only at hm0 hinv0 hF0
 cases n0 with | zero=>exact nz hm0 | succ n0 => ?_
 refine AB<|AB ?_
 refine rn ⟨[(0,tO (.own 1000 mp1 data.length)),(1,tI 0),(2,tI n),(3,.av (.one (.clo mp2 1 (BK [.eptr 1 1 (gD [.clo mp3 0 (fun _=>default)]) 0 0])))),(8,tI i),(14,tB (decide ((i:Int)<n)))],[(1000,.row mp1 data.length (AL mp4 data) mp5)]⟩ ?_
 refine AW _ rfl (fun h1 => ?_) (fun h1 => ?_)
 ·have g1:=oT h1
  refine AV<|AF ?_
  refine AB<|AO<|AB ?_
  refine rn ⟨[(0,tO (.own 1000 mp1 data.length)),(1,tI 0),(2,tI n),(3,.av (.one (.clo mp2 1 (BK [.eptr 1 1 (gD [.clo mp3 0 (fun _=>default)]) 0 0])))),(8,tI i),(9,tI i)],[(1000,.row mp1 data.length (AL mp4 data) mp5)]⟩<|AO ?_
  refine A0 (ι:=Nat×List mp6×Int) (fun x=>⟨[(0,tO (.own 1000 mp1 x.2.1.length)),(1,tI 0),(2,tI n),(3,.av (.one (.clo mp2 1 (BK [.eptr 1 1 (gD [.clo mp3 0 (fun _=>default)]) 0 0])))),(8,tI i),(9,tI x.2.2)],[(1000,.row mp1 x.2.1.length (AL mp4 x.2.1) mp5)]⟩) (fun x=>x.2.2.toNat<x.1/\(0<=x.2.2/\x.2.1.length=l.length/\x.2.2<n)/\mp9 l n data i (mp7 l n n0) x.1 x.2.1 x.2.2=mp8 l n) (fun x=>x.1) ?_ (i.toNat+1,data,i) ⟨Nat.lt_succ_self _,⟨ax0,ax0,ax0⟩,(by rw [<- hF0];simp only [mp7,h1,cond_true,cond_false])⟩
  rintro ⟨n1,data',j⟩ ⟨hm1,hinv1,hF1⟩
  try dsimp only at hm1 hinv1 hF1
  cases n1 with | zero=>exact nz hm1 | succ n1 => ?_
  refine AB<|AB ?_
  refine dw [] [(32,(mp10 data' j))] (t2 (decide ((0:Int)<j)) ((gk (decide ((0:Int)<j)) (0<=(j:Int)/\(j:Int)<((data'.length:Nat):Int)))::(gt (decide ((0:Int)<j)))::(gk (decide ((0:Int)<j)) (j.toNat<data'.length))::(t3 (decide ((0:Int)<j)) ((gk (decide ((0:Int)<j)) (0<=(W64 (j-1):Int)/\(W64 (j-1):Int)<((data'.length:Nat):Int)))::(gt (decide ((0:Int)<j)))::(gk (decide ((0:Int)<j)) ((W64 (j-1)).toNat<data'.length))::(t3 (decide ((0:Int)<j)) ((gk (decide ((0:Int)<j)) (Aq (mp10 data' j).2.1))::(t2 (decide ((0:Int)<j)) []))))))) ⟨[(0,tO (.own 1000 mp1 data'.length)),(1,tI 0),(2,tI n),(3,.av (.one (.clo mp2 1 (BK [.eptr 1 1 (gD [.clo mp3 0 (fun _=>default)]) 0 0])))),(8,tI i),(9,tI j),(34,tB (bif decide ((0:Int)<j) then decide (((mp11 (data'.getD j.toNat default) (data'.getD (W64 (j-1)).toNat default)):Int)<0) else false))],[(1000,.row mp1 data'.length (AL mp4 data') mp5)]⟩ (.cons (cPu<|mp12 (data'.getD j.toNat default) (data'.getD (W64 (j-1)).toNat default)) .nil) (c2 (.cons (fun hG=>by first | exact au0 | (simp only [decide_eq_true_eq,decide_eq_false_iff_not,Bool.not_eq_true,Bool.and_eq_true] at hG <;> omega) | (simp at hG <;> omega) | (simp only [decide_eq_true_eq,decide_eq_false_iff_not] at hG;simp only [Bk];omega)) (ci (.cons (fun hG=>by first | exact au0 | (simp only [decide_eq_true_eq,decide_eq_false_iff_not,Bool.not_eq_true,Bool.and_eq_true] at hG <;> omega) | (simp at hG <;> omega) | (simp only [decide_eq_true_eq,decide_eq_false_iff_not] at hG;simp only [Bk];omega)) (c3 (.cons (fun hG=>by first | exact au0 | (simp only [decide_eq_true_eq,decide_eq_false_iff_not,Bool.not_eq_true,Bool.and_eq_true] at hG <;> omega) | (simp at hG <;> omega) | (simp only [decide_eq_true_eq,decide_eq_false_iff_not] at hG;simp only [Bk];omega)) (ci (.cons (fun hG=>by first | exact au0 | (simp only [decide_eq_true_eq,decide_eq_false_iff_not,Bool.not_eq_true,Bool.and_eq_true] at hG <;> omega) | (simp at hG <;> omega) | (simp only [decide_eq_true_eq,decide_eq_false_iff_not] at hG;simp only [Bk];omega)) (c3 (.cons (fun _=>rfl) (c2 .nil))))))))))) ?_
  (try rw [(show W64 (j-1)=j-1 from Ah oM oM)])
  refine AF ?_
  refine AW _ rfl (fun h2 => ?_) (fun h2 => ?_)
  ·have g2:=HT h2
   refine AV<|AF ?_
   refine AB<|AO ?_
   refine dw [] [] [0<=(W64 (j-1):Int)/\(W64 (j-1):Int)<((data'.length:Nat):Int),(W64 (j-1)).toNat<data'.length,0<=(j:Int)/\(j:Int)<((data'.length:Nat):Int),j.toNat<data'.length,0<=(j:Int)/\(j:Int)<((data'.length:Nat):Int),j.toNat<data'.length,0<=(W64 (j-1):Int)/\(W64 (j-1):Int)<((data'.length:Nat):Int),(W64 (j-1)).toNat<data'.length] ⟨[(0,tO (.own 1000 mp1 data'.length)),(1,tI 0),(2,tI n),(3,.av (.one (.clo mp2 1 (BK [.eptr 1 1 (gD [.clo mp3 0 (fun _=>default)]) 0 0])))),(8,tI i),(9,tI j)],[(1000,.row mp1 data'.length (fun i_ j_=>if i_=(W64 (j-1)).toNat/\0<=j_/\j_<0+mp1 then ((mp4 (data'.getD j.toNat default)):List Cl).getD (j_-0) default else (fun i_ j_=>if i_=j.toNat/\0<=j_/\j_<0+mp1 then ((mp4 (data'.getD (W64 (j-1)).toNat default)):List Cl).getD (j_-0) default else (AL mp4 data') i_ j_) i_ j_) mp5)]⟩ .nil (.cons au0 (.cons au0 (.cons au0 (.cons au0 (.cons au0 (.cons au0 (.cons au0 (.cons au0 .nil)))))))) ?_
   (try rw [(show W64 (j-1)=j-1 from Ah oM oM)])
   refine BA<|AF ?_
   refine BI (Cv.trans (A7 (⟨[(0,tO (.own 1000 mp1 ((data'.set j.toNat (data'.getD (j-1).toNat default)).set (j-1).toNat (data'.getD j.toNat default)).length)),(1,tI 0),(2,tI n),(3,.av (.one (.clo mp2 1 (BK [.eptr 1 1 (gD [.clo mp3 0 (fun _=>default)]) 0 0])))),(8,tI i),(9,tI j)],[(1000,.row mp1 ((data'.set j.toNat (data'.getD (j-1).toNat default)).set (j-1).toNat (data'.getD j.toNat default)).length (AL mp4 ((data'.set j.toNat (data'.getD (j-1).toNat default)).set (j-1).toNat (data'.getD j.toNat default))) mp5)]⟩) (.cons ⟨rfl,.av (.one (.own _ _ au2))⟩ lr) (.cons ⟨rfl,Ad mp5 (Gt (l:=(mp4 (data'.getD j.toNat default))) (off:=0) (q:=mp1) (k:=(j-1).toNat) (Gt (l:=(mp4 (data'.getD (j-1).toNat default))) (off:=0) (q:=mp1) (k:=j.toNat) (Ay mp1 mp4 data') au0 (data'.getD (j-1).toNat default) (GW kr)) au0 (data'.getD j.toNat default) (GW kr))⟩ .nil)) (Cv.refl _)) ?_
   refine rg ⟨[(0,tO (.own 1000 mp1 ((data'.set j.toNat (data'.getD (j-1).toNat default)).set (j-1).toNat (data'.getD j.toNat default)).length)),(1,tI 0),(2,tI n),(3,.av (.one (.clo mp2 1 (BK [.eptr 1 1 (gD [.clo mp3 0 (fun _=>default)]) 0 0])))),(8,tI i),(9,tI (W64 (j-1)))],[(1000,.row mp1 ((data'.set j.toNat (data'.getD (j-1).toNat default)).set (j-1).toNat (data'.getD j.toNat default)).length (AL mp4 ((data'.set j.toNat (data'.getD (j-1).toNat default)).set (j-1).toNat (data'.getD j.toNat default))) mp5)]⟩ ?_
   (try rw [(show W64 (j-1)=j-1 from Ah oM oM)])
   refine AF ?_
   refine ⟨(n1,(data'.set j.toNat (data'.getD (j-1).toNat default)).set (j-1).toNat (data'.getD j.toNat default),j-1),⟨?_,?_,(by rw [<- hF1];simp only [mp9,h2,cond_true,cond_false])⟩,Nat.lt_succ_self _,Aw kr⟩
   ·show (j-1).toNat<n1;omega
   exact ⟨ax0,ax0,ax0⟩
  refine A3<|Ar ?_
  refine Ar<|A4 ?_
  refine BA<|AF ?_
  refine rg ⟨[(0,tO (.own 1000 mp1 data'.length)),(1,tI 0),(2,tI n),(3,.av (.one (.clo mp2 1 (BK [.eptr 1 1 (gD [.clo mp3 0 (fun _=>default)]) 0 0])))),(8,tI (W64 (i+1)))],[(1000,.row mp1 data'.length (AL mp4 data') mp5)]⟩ ?_
  (try rw [(show W64 (i+1)=i+1 from Ah oM oM)])
  refine AF ?_
  refine ⟨(n0,data',i+1),⟨?_,?_,(by rw [<- hF1];simp only [mp9,h2,cond_true,cond_false])⟩,Nat.lt_succ_self _,Aw kr⟩
  ·show (n-(i+1)).toNat<n0;omega
  exact ⟨ax0,ax0,ax0,ax0⟩
 have g1:=oF h1
 refine A3<|Ar ?_
 refine Ar<|A4 ?_
 exact xn (.tup []) ⟨Ae rfl,.row mp1 data.length (AL mp4 data) mp5,by kernel_rfl,Fc (c:=mp4) (xs:=data) (by rw [<- hF0];first | (simp only [mp7,h1,cond_true,cond_false] <;> rfl)) au20⟩):p:=h
section
 open Go.Proofs.YtheobjkgllmnmaaGreat renaming nn6→mp1,PL→mp2,XW→mp3,AM.c→mp4,Tx→mp5,AM→mp6,Lz→mp7,NZ→mp8,Ly→mp9,Z0j→mp10,Ls→mp11,pcmpT→mp12
 open Go.Proofs.Tryz renaming func181→mp0
theorem pInsT (l:(List AM)) (n:Int) (hn:n=(l.length:Int)) (hl:l.length<20):WrR Tryz.prog 181 1000 [.one (.own 1000 6 l.length),.one (.i 0),.one (.i n),.one (.clo 154 1 (BK [.eptr 1 1 (gD [.clo 109 0 dfc]) 0 0]))] 6 l.length (AL AM.c l) 150 (.tup []) (AL AM.c (NZ l n)):=jL
end
section
 open Go.Proofs.YtheobjkgllmnmaaGreat renaming NZ→mp0,Ls→mp1,Lz→mp2,Ly→mp3
theorem Uv (l:List AM) (n:Int) (hn:n=(l.length:Int)):NZ l n=B9 (fun x y=>decide (Ls x y<0)) l:=cL
end
theorem RK (l:List AM) (n:Int) (hn:n=(l.length:Int)) (hl:l.length<20):(NZ l n).length=l.length:=by rw [Uv l n hn,Cc]
def Z0k:CT:=(181,([.one (.own 1000 6 l.length),.one (.i 0),.one (.i n),.one (.clo 154 1 (BK [.eptr 1 1 (fun _ j_=>([.clo 109 0 dfc]:List Cl).getD j_ default) 0 0]))]:List Av).map (Hl 1000 1000),wrI 1000 (.row 6 l.length (AL AM.c l) 150) (.tup []) (.row 6 l.length (AL AM.c (NZ l n)) 150))
def RE (l:(List AM)) (n:Int):(List AM):=NZ l n
theorem jK {p:Prop} (h:p:=by
 refine FX mp0 rfl kr kr kr fun W0 M0 X hX => ?_
 refine AB<|rn ⟨[(0,tO (.own 1000 mp1 l.length)),(1,tI n),(2,.av (.one (.clo mp2 1 (BK [.eptr 1 1 (gD [.clo mp3 0 (fun _=>default)]) 0 0])))),(6,tI 20)],[(1000,.row mp1 l.length (AL mp4 l) mp5)]⟩<|AB ?_
 refine rn ⟨[(0,tO (.own 1000 mp1 l.length)),(1,tI n),(2,.av (.one (.clo mp2 1 (BK [.eptr 1 1 (gD [.clo mp3 0 (fun _=>default)]) 0 0])))),(6,tI 20),(7,tI 0),(8,tI 20)],[(1000,.row mp1 l.length (AL mp4 l) mp5)]⟩ ?_
 refine AB<|AO ?_
 refine Ea 1 ?_
 refine Bf<|AB<|AB ?_
 refine rn ⟨[(0,tO (.own 1000 mp1 l.length)),(1,tI n),(2,.av (.one (.clo mp2 1 (BK [.eptr 1 1 (gD [.clo mp3 0 (fun _=>default)]) 0 0])))),(6,tI 20),(7,tI 0),(8,tI 20),(13,tB (decide ((20:Int)<=n)))],[(1000,.row mp1 l.length (AL mp4 l) mp5)]⟩ ?_
 have h1:(decide ((20:Int)<=n))=false:=decide_eq_false oM
 have g1:=oF h1
 refine AW _ rfl (fun h=>absurd (h1.symm.trans h) (by decide)) (fun _ => ?_)
 refine A3<|Ar ?_
 refine Ar<|A4 ?_
 refine AF<|AB ?_
 refine rb 27 (mp6 l n) (.row mp1 l.length (AL mp4 l) mp5) ⟨[(0,tO (.own 1000 mp1 l.length)),(1,tI n),(2,.av (.one (.clo mp2 1 (BK [.eptr 1 1 (gD [.clo mp3 0 (fun _=>default)]) 0 0])))),(6,tI 20)],[(1000,.row mp1 l.length (AL mp4 (mp7 l n)) mp5)]⟩ (Fb (fun _ _=>kr) kr (mp8 l n au4 au4))<|AF ?_
 refine BI (Cv.trans (A7 (⟨[(0,tO (.own 1000 mp1 (mp7 l n).length)),(1,tI n),(2,.av (.one (.clo mp2 1 (BK [.eptr 1 1 (gD [.clo mp3 0 (fun _=>default)]) 0 0])))),(6,tI 20)],[(1000,.row mp1 (mp7 l n).length (AL mp4 (mp7 l n)) mp5)]⟩) (.cons ⟨rfl,.av (.one (.own _ _ (mp9 l n au4 au4).symm))⟩ lr) (.cons ⟨rfl,Ad mp5 (⟨(mp9 l n au4 au4).symm,fun _ _ _ _=>.refl _⟩)⟩ .nil)) (Cv.refl _))<|AO ?_
 refine Ea 1 ?_
 refine Bf<|AB<|AB ?_
 refine rn ⟨[(0,tO (.own 1000 mp1 (mp7 l n).length)),(1,tI n),(2,.av (.one (.clo mp2 1 (BK [.eptr 1 1 (gD [.clo mp3 0 (fun _=>default)]) 0 0])))),(6,tI 20),(30,tB (decide ((20:Int)<n)))],[(1000,.row mp1 (mp7 l n).length (AL mp4 (mp7 l n)) mp5)]⟩ ?_
 have h2:(decide ((20:Int)<n))=false:=decide_eq_false oM
 have g2:=oF h2
 refine AW _ rfl (fun h=>absurd (h2.symm.trans h) (by decide)) (fun _ => ?_)
 refine A3<|Ar ?_
 refine Ar<|A4 ?_
 exact xn (.tup []) ⟨Ae rfl,.row mp1 (mp7 l n).length (AL mp4 (mp7 l n)) mp5,by kernel_rfl,Fc (c:=mp4) (xs:=mp7 l n) (by simp only [mp10,h1,h2,cond_true,cond_false] <;> rfl) (mp9 l n hn hl)⟩):p:=h
section
 open Go.Proofs.YtheobjkgllmnmaaGreat renaming nn6→mp1,PL→mp2,XW→mp3,AM.c→mp4,Tx→mp5,Z0k→mp6,NZ→mp7,pInsT→mp8,RK→mp9,RE→mp10
 open Go.Proofs.Tryz renaming func168→mp0
theorem pStaT (l:(List AM)) (n:Int) (hn:n=(l.length:Int)) (hl:l.length<20):WrR Tryz.prog 168 1000 [.one (.own 1000 6 l.length),.one (.i n),.one (.clo 154 1 (BK [.eptr 1 1 (gD [.clo 109 0 dfc]) 0 0]))] 6 l.length (AL AM.c l) 150 (.tup []) (AL AM.c (RE l n)):=jK
end
theorem RD (l:List AM) (n:Int) (hn:n=(l.length:Int)) (hl:l.length<20):(RE l n).length=l.length:=RK l n hn hl
def Z0l:CT:=(168,([.one (.own 1000 6 l.length),.one (.i ((l.length:Nat):Int)),.one (.clo 154 1 (BK [.eptr 1 1 (fun _ j_=>([.clo 109 0 dfc]:List Cl).getD j_ default) 0 0]))]:List Av).map (Hl 1000 1000),wrI 1000 (.row 6 l.length (AL AM.c l) 150) (.tup []) (.row 6 l.length (AL AM.c (RE l ((l.length:Nat):Int))) 150))
def Pv (l:(List AM)):(List AM):=RE l ((l.length:Nat):Int)
theorem jJ {p:Prop} (h:p:=by
 refine FX mp0 rfl kr kr kr fun W0 M0 X hX => ?_
 refine rb 8 (mp1 l) (.row mp2 l.length (AL mp3 l) mp4) ⟨[],[(1000,.row mp2 l.length (AL mp3 (mp5 l ((l.length:Nat):Int))) mp4)]⟩ (Fb (fun _ _=>kr) kr (mp6 l ((l.length:Nat):Int) au4 au4)) ?_
 exact yn (Cv.trans (A7 (⟨[],[(1000,.row mp2 (mp5 l ((l.length:Nat):Int)).length (AL mp3 (mp5 l ((l.length:Nat):Int))) mp4)]⟩) .nil (.cons ⟨rfl,Ad mp4 (⟨(mp7 l ((l.length:Nat):Int) au4 au4).symm,fun _ _ _ _=>.refl _⟩)⟩ .nil)) (Cv.refl _)) (.tup []) ⟨Ae rfl,.row mp2 (mp5 l ((l.length:Nat):Int)).length (AL mp3 (mp5 l ((l.length:Nat):Int))) mp4,by kernel_rfl,Fc (c:=mp3) (xs:=mp5 l ((l.length:Nat):Int)) (by rfl) (mp7 l _ rfl hl)⟩):p:=h
section
 open Go.Proofs.YtheobjkgllmnmaaGreat renaming Z0l→mp1,nn6→mp2,AM.c→mp3,Tx→mp4,RE→mp5,pStaT→mp6,RD→mp7
 open Go.Proofs.Tryz renaming func153→mp0
theorem pSrtT (l:(List AM)) (hl:l.length<20):WrR Tryz.prog 153 1000 [.one (.own 1000 6 l.length),.one (.clo 154 1 (BK [.eptr 1 1 (gD [.clo 109 0 dfc]) 0 0]))] 6 l.length (AL AM.c l) 150 (.tup []) (AL AM.c (Pv l)):=jJ
end
theorem Y8 (l:List AM) (hl:l.length<20):(Pv l).length=l.length:=RD l _ rfl hl
theorem fS (l:List AM):Pv l=B9 (fun x y=>decide (Ls x y<0)) l:=Uv l _ rfl
def Z0m:CT:=(153,([.one (.own 1000 6 out.length),.one (.clo 154 1 (BK [.eptr 1 1 (fun _ j_=>([.clo 109 0 dfc]:List Cl).getD j_ default) 0 0]))]:List Av).map (Hl 1000 100000),wrI 100000 (.row 6 out.length (AL AM.c out) 150) (.tup []) (.row 6 out.length (AL AM.c (Pv out)) 150))
def GA (l:(List AM)):Nat->List AM->Int->(List AM)
 | 0,_,_=>default
 | n0+1,out,v12=>bif decide ((v12:Int)<(l.length:Int)) then ((GA l n0) (out++[kK (l.getD v12.toNat default)]) (v12+1)) else (Pv out)
def DG (l:(List AM)):(List AM):=GA l (((l.length:Int)-0).toNat+1) ([]:List AM) 0
theorem jI {p:Prop} (h:p:=by
 refine Cu mp0 rfl kr (DQ _ _) fun W0 M0 => ?_
 refine AB<|rn ⟨[(0,tO (lst mp1 mp2 l)),(1,.av (.one (.clo mp3 0 (fun _=>default)))),(5,tP 5 0)],[(5,.cells [.clo mp4 0 (fun _=>default)] mp5)]⟩<|AB ?_
 refine rn ⟨[(0,tO (lst mp1 mp2 l)),(1,.av (.one (.clo mp3 0 (fun _=>default)))),(5,tP 5 0),(7,.av (.one vN))],[(5,.cells [.clo mp4 0 (fun _=>default)] mp5)]⟩ ?_
 refine AB<|AB ?_
 refine rn ⟨[(1,.av (.one (.clo mp3 0 (fun _=>default)))),(5,tP 5 0),(7,.av (.one vN)),(10,tO (lst mp1 mp2 l)),(11,tI (l.length:Int)),(12,tI 0)],[(5,.cells [.clo mp4 0 (fun _=>default)] mp5)]⟩<|AO ?_
 refine BI (Cv.trans (wg (⟨[(1,.av (.one (.clo mp3 0 (fun _=>default)))),(5,tP 5 0),(7,tO (.own 100000 mp1 0)),(10,tO (lst mp1 mp2 l)),(11,tI (l.length:Int)),(12,tI 0)],[(100000,.row mp1 0 (fun _ _=>default) mp6),(5,.cells [.clo mp4 0 (fun _=>default)] mp5)]⟩) 100000 mp1 (fun _ _=>default) mp6 [(7,[0])] [] hk0) (Cv.trans (A7 (⟨[(1,.av (.one (.clo mp3 0 (fun _=>default)))),(5,tP 5 0),(7,tO (.own 100000 mp1 ([]:List mp7).length)),(10,tO (lst mp1 mp2 l)),(11,tI (l.length:Int)),(12,tI 0)],[(100000,.row mp1 ([]:List mp7).length (AL mp2 ([]:List mp7)) mp6),(5,.cells [.clo mp4 0 (fun _=>default)] mp5)]⟩) (.cons ⟨rfl,.refl _⟩ (.cons ⟨rfl,.refl _⟩ (.cons ⟨rfl,.av (.one (.own _ _ au2))⟩ lr))) (.cons ⟨rfl,Ad mp6 (B3 mp1 (fun _ _=>default) mp2)⟩ lr)) (Cv.trans (ck (⟨[(1,.av (.one (.clo mp3 0 (fun _=>default)))),(5,tP 5 0),(7,tO (.own 100000 mp1 ([]:List mp7).length)),(10,tO (lst mp1 mp2 l)),(11,tI (l.length:Int)),(12,tI 0)],[(5,.cells [.clo mp4 0 (fun _=>default)] mp5),(100000,.row mp1 ([]:List mp7).length (AL mp2 ([]:List mp7)) mp6)]⟩)) (Cv.refl _)))) ?_
 refine A0 (ι:=Nat×List mp7×Int) (fun x=>⟨[(1,.av (.one (.clo mp3 0 (fun _=>default)))),(5,tP 5 0),(7,tO (.own 100000 mp1 x.2.1.length)),(10,tO (lst mp1 mp2 l)),(11,tI (l.length:Int)),(12,tI x.2.2)],[(5,.cells [.clo mp4 0 (fun _=>default)] mp5),(100000,.row mp1 x.2.1.length (AL mp2 x.2.1) mp6)]⟩) (fun x=>((l.length:Int)-x.2.2).toNat<x.1/\(0<=x.2.2/\(x.2.2<=(l.length:Int)\/x.2.2=0)/\(x.2.1.length:Int)<=0+1*(x.2.2-0))/\mp8 l x.1 x.2.1 x.2.2=mp9 l) (fun x=>x.1) ?_ (((l.length:Int)-0).toNat+1,([]:List mp7),0) ⟨Nat.lt_succ_self _,⟨ax0,ax0,ax0⟩,(by simp only [mp9,cond_true,cond_false])⟩
 rintro ⟨n0,out,v12⟩ ⟨hm0,hinv0,hF0⟩
 try dsimp only at hm0 hinv0 hF0
 cases n0 with | zero=>exact nz hm0 | succ n0 => ?_
 refine AB<|rn ⟨[(1,.av (.one (.clo mp3 0 (fun _=>default)))),(5,tP 5 0),(7,tO (.own 100000 mp1 out.length)),(10,tO (lst mp1 mp2 l)),(11,tI (l.length:Int)),(12,tI v12),(13,tB (decide ((v12:Int)<(l.length:Int))))],[(5,.cells [.clo mp4 0 (fun _=>default)] mp5),(100000,.row mp1 out.length (AL mp2 out) mp6)]⟩<|AB ?_
 refine AW _ rfl (fun h1 => ?_) (fun h1 => ?_)
 ·have g1:=oT h1
  refine AV<|AF ?_
  refine AB<|AO<|AB ?_
  refine rc [] [0<=(v12:Int)/\(v12:Int)<((l.length:Nat):Int)] ⟨[(1,.av (.one (.clo mp3 0 (fun _=>default)))),(5,tP 5 0),(7,tO (.own 100000 mp1 out.length)),(9,tP 9 0),(10,tO (lst mp1 mp2 l)),(11,tI (l.length:Int)),(12,tI v12)],[(5,.cells [.clo mp4 0 (fun _=>default)] mp5),(9,.cells (mp2 (l.getD v12.toNat default)) mp10),(100000,.row mp1 out.length (AL mp2 out) mp6)]⟩ .nil (.cons au0 .nil)<|AF ?_
  refine rc [(19,mp11 (l.getD v12.toNat default))] [Aq (mp11 (l.getD v12.toNat default)).2.1,out.length=out.length,out.length+1<=maxLen,(out.length+1)*mp12<=140737488355328] ⟨[(1,.av (.one (.clo mp3 0 (fun _=>default)))),(5,tP 5 0),(7,tO (.own 21 mp1 (out.length+1))),(10,tO (lst mp1 mp2 l)),(11,tI (l.length:Int)),(12,tI v12)],[(5,.cells [.clo mp4 0 (fun _=>default)] mp5),(21,.row mp1 (out.length+1) (fun i_ j_=>if i_<out.length then (AL mp2 out) i_ j_ else (Ap mp1 1 (mp2 (mp13 (l.getD v12.toNat default)))) (i_-out.length) j_) mp6)]⟩ (.cons (mp14 (l.getD v12.toNat default)) .nil) (.cons rfl (.cons rfl (.cons au3 (.cons au3 .nil))))<|BA<|AF ?_
  refine BI (Cv.trans (A7 (⟨[(1,.av (.one (.clo mp3 0 (fun _=>default)))),(5,tP 5 0),(7,tO (.own 21 mp1 (out++[mp13 (l.getD v12.toNat default)]).length)),(10,tO (lst mp1 mp2 l)),(11,tI (l.length:Int)),(12,tI v12)],[(5,.cells [.clo mp4 0 (fun _=>default)] mp5),(21,.row mp1 (out++[mp13 (l.getD v12.toNat default)]).length (AL mp2 (out++[mp13 (l.getD v12.toNat default)])) mp6)]⟩) (.cons ⟨rfl,.refl _⟩ (.cons ⟨rfl,.refl _⟩ (.cons ⟨rfl,.av (.one (.own _ _ au2))⟩ lr))) (.cons ⟨rfl,.refl _⟩ (.cons ⟨rfl,Ad mp6 (A8 (Ay mp1 mp2 out) (Al (c:=mp2) (xs:=([mp13 (l.getD v12.toNat default)]:List mp7)) rfl kr))⟩ .nil))) (Cv.refl _)) ?_
  refine rg ⟨[(1,.av (.one (.clo mp3 0 (fun _=>default)))),(5,tP 5 0),(7,tO (.own 21 mp1 (out++[mp13 (l.getD v12.toNat default)]).length)),(10,tO (lst mp1 mp2 l)),(11,tI (l.length:Int)),(12,tI (W64 (v12+1)))],[(5,.cells [.clo mp4 0 (fun _=>default)] mp5),(21,.row mp1 (out++[mp13 (l.getD v12.toNat default)]).length (AL mp2 (out++[mp13 (l.getD v12.toNat default)])) mp6)]⟩ ?_
  (try rw [(show W64 (v12+1)=v12+1 from Ah oM au5)])
  refine AF ?_
  refine ⟨(n0,out++[mp13 (l.getD v12.toNat default)],v12+1),⟨?_,?_,(by rw [<- hF0];simp only [mp8,h1,cond_true,cond_false])⟩,Nat.lt_succ_self _,Cv.trans (vr 21 100000 hk0) (Aw kr)⟩
  ·show ((l.length:Int)-(v12+1)).toNat<n0;omega
  exact ⟨ax0,ax0,ax0⟩
 have g1:=oF h1
 refine A3<|Ar ?_
 refine Ar<|A4 ?_
 refine AF<|AB ?_
 refine BI (Cv.trans (Hb (⟨[(1,.av (.one (.clo mp3 0 (fun _=>default)))),(5,.av (.one (.eptr 1 1 (gD [.clo mp4 0 (fun _=>default)]) 0 0))),(7,tO (.own 100000 mp1 out.length)),(10,tO (lst mp1 mp2 l)),(11,tI (l.length:Int)),(12,tI v12),(13,tB (decide ((v12:Int)<(l.length:Int))))],[(100000,.row mp1 out.length (AL mp2 out) mp6)]⟩) 5 [.clo mp4 0 (fun _=>default)] mp5 hk0 kr kr kr kr) (Cv.refl _)) ?_
 refine rb 25 (mp15 out) (.row mp1 out.length (AL mp2 out) mp6) ⟨[(7,tO (.own 100000 mp1 out.length))],[(100000,.row mp1 out.length (AL mp2 (mp16 out)) mp6)]⟩ (Fb (fun _ _=>kr) kr (mp17 out au4))<|AF ?_
 refine BI (Cv.trans (A7 (⟨[(7,tO (.own 100000 mp1 (mp16 out).length))],[(100000,.row mp1 (mp16 out).length (AL mp2 (mp16 out)) mp6)]⟩) (.cons ⟨rfl,.av (.one (.own _ _ (mp18 out au4).symm))⟩ .nil) (.cons ⟨rfl,Ad mp6 (⟨(mp18 out au4).symm,fun _ _ _ _=>.refl _⟩)⟩ .nil)) (Cv.refl _))<|AB ?_
 refine rn ⟨[(6,tO (.own 100000 mp1 (mp16 out).length))],[(100000,.row mp1 (mp16 out).length (AL mp2 (mp16 out)) mp6)]⟩<|Ab ?_
 exact xl (tO (.own 100000 mp1 (mp16 out).length)) (frE (c:=mp2) (xs:=mp16 out) (by rw [<- hF0];first | (simp only [mp8,h1,cond_true,cond_false] <;> rfl)) kr)):p:=h
section
 open Go.Proofs.YtheobjkgllmnmaaGreat renaming nn6→mp1,AM.c→mp2,nn108→mp3,XW→mp4,nn220→mp5,Tx→mp6,AM→mp7,GA→mp8,DG→mp9,nn131→mp10,oV→mp11,Tu→mp12,kK→mp13,okasT→mp14,Z0m→mp15,Pv→mp16,pSrtT→mp17,Y8→mp18
 open Go.Proofs.Tryz renaming func107→mp0
theorem aJ (l:(List AM)) (hl:l.length<20):Fr Tryz.prog 107 [.one (lst 6 AM.c l),.one (.clo 108 0 dfc),.one (.clo 109 0 dfc)] (.row 6 (DG l).length (AL AM.c (DG l)) 150) (fun d=>tO (.own d 6 (DG l).length)):=jI
end
def Z0n:CT:=(107,[.one (lst 6 AM.c b.Tracks),.one (.clo 108 0 dfc),.one (.clo 109 0 dfc)],.new [] (.row 6 (DG b.Tracks).length (AL AM.c (DG b.Tracks)) 150) (fun d=>.av (.one (.own d 6 (DG b.Tracks).length))))
def BN (b:AG):(List AM):=DG b.Tracks
theorem gQ (b:AG) (hl:b.Tracks.length<20):Fr Tryz.prog 52 [.agg (AG.c b)] (.row 6 (BN b).length (AL AM.c (BN b)) 150) (fun d=>tO (.own d 6 (BN b).length)):=by
 refine Cu Tryz.func52 rfl kr (DQ _ _) fun W0 M0 => ?_
 refine AB<|rn ⟨[(1,tP 1 0)],[(1,.cells (AG.c b) 41)]⟩<|AB ?_
 refine rs 5 (Z0n b) ⟨[(2,tO (.own 5 6 (DG b.Tracks).length))],[(5,.row 6 (DG b.Tracks).length (AL AM.c (DG b.Tracks)) 150)]⟩ (Cx (fun _ _=>kr) (aJ b.Tracks au4))<|AF<|Ab ?_
 exact xl (tO (.own 5 6 (DG b.Tracks).length)) (frE (c:=AM.c) (xs:=DG b.Tracks) (by rfl) kr)
def Xv:CT:=(52,[.agg (AG.c b)],.new [] (.row 6 (BN b).length (AL AM.c (BN b)) 150) (fun d=>.av (.one (.own d 6 (BN b).length))))
theorem bI (b:AG) (hl:b.Tracks.length<20):OKc (Xv b):=Cx (fun _ _=>kr) (gQ b hl)
theorem Uo (l:List AM):DG l=B9 (fun x y=>decide (Ls x y<0)) l:=by
 unfold DG
 have h:=Yu l (GA l) (fun acc _=>Pv acc) (fun m acc v=>by
  rw [GA,Int.toNat_natCast]
  rfl) l.length 0 ((((l.length:Int))-0).toNat+1) [] rfl (Nat.zero_le _) (by omega)
 rw [List.drop_zero,List.nil_append] at h
 exact h.trans (fS l)
theorem Pr (b:AG):BN b=B9 (fun x y=>decide (Ls x y<0)) b.Tracks:=Uo _
theorem Ul {b:AG} {x:AM}:x∈BN b↔x∈b.Tracks:=by rw [Pr];exact Ks _ _ _
theorem Um (b:AG):(BN b).length=b.Tracks.length:=by rw [Pr];exact Cc _ _
def kJ (t:Ag):Ag:=t
def oU (t:Ag):CT:=(111,[.agg (Ag.c t)],.val [] (.av (.agg (Ag.c (kJ t)))))
abbrev RQ (t_:List Cl):List Cl:=(.i 0)::(.s (⟨#[]⟩))::(.i 0)::(.i 0)::(.i 0)::(.i 0)::(.i 0)::t_
theorem pasV (t:Ag):PuP 111 (oU t).2.1 (.av (.agg (Ag.c (kJ t)))):=by
 refine pwf Tryz.func111 fun W0 M0 => ?_
 refine AB<|rn ⟨Gj,[(1,.cells (Ag.c t) 133),(2,.cells (RQ [.i 0]) 154)]⟩<|AB ?_
 refine rn ⟨[(2,tP 2 0)],[(2,.cells (Ag.c t) 154)]⟩<|Ab ?_
 exact xl (.av (.agg (Ag.c t))) (Ae (by rfl))
theorem okasV (t:Ag):OKc (oU t):=cPu<|pasV t
def fN (t:Ag):Int:=t.Id
def oP (t:Ag):CT:=(112,[.agg (Ag.c t)],.val [] (.av (.one (.i (fN t)))))
theorem pidV (t:Ag):PuP 112 (oP t).2.1 (tO (.i (fN t))):=by
 refine pwf Tryz.func112 fun W0 M0 => ?_
 refine AB<|rn ⟨[(1,tP 1 0)],[(1,.cells (Ag.c t) 154)]⟩<|AB ?_
 refine rn ⟨[(2,tI t.Id)],[]⟩<|Ab ?_
 exact xl (tO (.i t.Id)) (Ae (by rfl))
theorem okidV (t:Ag):OKc (oP t):=cPu<|pidV t
def Lr (a:Ag) (b_:Ag):Int:=CX (fN a) (fN b_)
section
 open Go.Proofs.YtheobjkgllmnmaaGreat renaming Tz→mp1,Ag.c→mp2,PL→mp3,oP→mp4,fN→mp5,okidV→mp6
 open Go.Proofs.Tryz renaming func156→mp0
theorem pcmpV  (a:Ag) (b_:Ag):G8 Tryz.prog 156 [.agg (Ag.c a),.agg (Ag.c b_),.one (.eptr 1 1 (gD [.clo 112 0 dfc]) 0 0)] (tO (.i (Lr a b_))):=jM
end
def Z0o (data':List Ag) (j:Int):CT:=(156,[.agg (Ag.c (data'.getD j.toNat default)),.agg (Ag.c (data'.getD (W64 (j-1)).toNat default)),.one (.eptr 1 1 (fun _ j_=>([.clo 112 0 dfc]:List Cl).getD j_ default) 0 0)],.val [] (tI (Lr (data'.getD j.toNat default) (data'.getD (W64 (j-1)).toNat default))))
def Lw (l:(List Ag)) (n:Int) (data:List Ag) (i:Int) (K0:List Ag->Int->(List Ag)):Nat->List Ag->Int->(List Ag)
 | 0,_,_=>default
 | n1+1,data',j=>bif bif decide ((0:Int)<j) then decide (((Lr (data'.getD j.toNat default) (data'.getD (j-1).toNat default)):Int)<0) else false then ((Lw l n data i K0 n1) ((data'.set j.toNat (data'.getD (j-1).toNat default)).set (j-1).toNat (data'.getD j.toNat default)) (j-1)) else (K0 data' (i+1))
def Lx (l:(List Ag)) (n:Int):Nat->List Ag->Int->(List Ag)
 | 0,_,_=>default
 | n0+1,data,i=>bif decide ((i:Int)<n) then (Lw l n data i (Lx l n n0) (i.toNat+1) data i) else data
def NY (l:(List Ag)) (n:Int):(List Ag):=Lx l n ((n-1).toNat+1) l 1
section
 open Go.Proofs.YtheobjkgllmnmaaGreat renaming nn8→mp1,lL→mp2,Tz→mp3,Ag.c→mp4,PL→mp5,Ag→mp6,Lx→mp7,NY→mp8,Lw→mp9,Z0o→mp10,Lr→mp11,pcmpV→mp12
 open Go.Proofs.Tryz renaming func183→mp0
theorem pInsV (l:(List Ag)) (n:Int) (hn:n=(l.length:Int)) (hl:l.length<20):WrR Tryz.prog 183 1000 [.one (.own 1000 8 l.length),.one (.i 0),.one (.i n),.one (.clo 156 1 (BK [.eptr 1 1 (gD [.clo 112 0 dfc]) 0 0]))] 8 l.length (AL Ag.c l) 154 (.tup []) (AL Ag.c (NY l n)):=jL
end
section
 open Go.Proofs.YtheobjkgllmnmaaGreat renaming NY→mp0,Lr→mp1,Lx→mp2,Lw→mp3
theorem Uu (l:List Ag) (n:Int) (hn:n=(l.length:Int)):NY l n=B9 (fun x y=>decide (Lr x y<0)) l:=cL
end
theorem RJ (l:List Ag) (n:Int) (hn:n=(l.length:Int)) (hl:l.length<20):(NY l n).length=l.length:=by rw [Uu l n hn,Cc]
def Z0p (l:(List Ag)) (n:Int):CT:=(183,([.one (.own 1000 8 l.length),.one (.i 0),.one (.i n),.one (.clo 156 1 (BK [.eptr 1 1 (fun _ j_=>([.clo 112 0 dfc]:List Cl).getD j_ default) 0 0]))]:List Av).map (Hl 1000 1000),wrI 1000 (.row 8 l.length (AL Ag.c l) 154) (.tup []) (.row 8 l.length (AL Ag.c (NY l n)) 154))
def RB (l:(List Ag)) (n:Int):(List Ag):=NY l n
section
 open Go.Proofs.YtheobjkgllmnmaaGreat renaming nn8→mp1,lL→mp2,Tz→mp3,Ag.c→mp4,PL→mp5,Z0p→mp6,NY→mp7,pInsV→mp8,RJ→mp9,RB→mp10
 open Go.Proofs.Tryz renaming func169→mp0
theorem pStaV (l:(List Ag)) (n:Int) (hn:n=(l.length:Int)) (hl:l.length<20):WrR Tryz.prog 169 1000 [.one (.own 1000 8 l.length),.one (.i n),.one (.clo 156 1 (BK [.eptr 1 1 (gD [.clo 112 0 dfc]) 0 0]))] 8 l.length (AL Ag.c l) 154 (.tup []) (AL Ag.c (RB l n)):=jK
end
theorem Q9 (l:List Ag) (n:Int) (hn:n=(l.length:Int)) (hl:l.length<20):(RB l n).length=l.length:=RJ l n hn hl
def Z0q (l:(List Ag)):CT:=(169,([.one (.own 1000 8 l.length),.one (.i ((l.length:Nat):Int)),.one (.clo 156 1 (BK [.eptr 1 1 (fun _ j_=>([.clo 112 0 dfc]:List Cl).getD j_ default) 0 0]))]:List Av).map (Hl 1000 1000),wrI 1000 (.row 8 l.length (AL Ag.c l) 154) (.tup []) (.row 8 l.length (AL Ag.c (RB l ((l.length:Nat):Int))) 154))
def Pu (l:(List Ag)):(List Ag):=RB l ((l.length:Nat):Int)
section
 open Go.Proofs.YtheobjkgllmnmaaGreat renaming Z0q→mp1,nn8→mp2,Ag.c→mp3,PL→mp4,RB→mp5,pStaV→mp6,Q9→mp7
 open Go.Proofs.Tryz renaming func155→mp0
theorem pSrtV (l:(List Ag)) (hl:l.length<20):WrR Tryz.prog 155 1000 [.one (.own 1000 8 l.length),.one (.clo 156 1 (BK [.eptr 1 1 (gD [.clo 112 0 dfc]) 0 0]))] 8 l.length (AL Ag.c l) 154 (.tup []) (AL Ag.c (Pu l)):=jJ
end
theorem Y7 (l:List Ag) (hl:l.length<20):(Pu l).length=l.length:=Q9 l _ rfl hl
theorem fR (l:List Ag):Pu l=B9 (fun x y=>decide (Lr x y<0)) l:=Uu l _ rfl
def Z0r (out:List Ag):CT:=(155,([.one (.own 1000 8 out.length),.one (.clo 156 1 (BK [.eptr 1 1 (fun _ j_=>([.clo 112 0 dfc]:List Cl).getD j_ default) 0 0]))]:List Av).map (Hl 1000 100000),wrI 100000 (.row 8 out.length (AL Ag.c out) 154) (.tup []) (.row 8 out.length (AL Ag.c (Pu out)) 154))
def F9 (l:(List Ag)):Nat->List Ag->Int->(List Ag)
 | 0,_,_=>default
 | n0+1,out,v12=>bif decide ((v12:Int)<(l.length:Int)) then ((F9 l n0) (out++[kJ (l.getD v12.toNat default)]) (v12+1)) else (Pu out)
def DF (l:(List Ag)):(List Ag):=F9 l (((l.length:Int)-0).toNat+1) ([]:List Ag) 0
section
 open Go.Proofs.YtheobjkgllmnmaaGreat renaming nn8→mp1,Ag.c→mp2,nn111→mp3,Tz→mp4,nn224→mp5,PL→mp6,Ag→mp7,F9→mp8,DF→mp9,nn133→mp10,oU→mp11,Tu→mp12,kJ→mp13,okasV→mp14,Z0r→mp15,Pu→mp16,pSrtV→mp17,Y7→mp18
 open Go.Proofs.Tryz renaming func110→mp0
theorem aI (l:(List Ag)) (hl:l.length<20):Fr Tryz.prog 110 [.one (lst 8 Ag.c l),.one (.clo 111 0 dfc),.one (.clo 112 0 dfc)] (.row 8 (DF l).length (AL Ag.c (DF l)) 154) (fun d=>tO (.own d 8 (DF l).length)):=jI
end
def Z0s:CT:=(110,[.one (lst 8 Ag.c b.Vias),.one (.clo 111 0 dfc),.one (.clo 112 0 dfc)],.new [] (.row 8 (DF b.Vias).length (AL Ag.c (DF b.Vias)) 154) (fun d=>.av (.one (.own d 8 (DF b.Vias).length))))
def A9 (b:AG):(List Ag):=DF b.Vias
theorem qvias (b:AG) (hl:b.Vias.length<20):Fr Tryz.prog 54 [.agg (AG.c b)] (.row 8 (A9 b).length (AL Ag.c (A9 b)) 154) (fun d=>tO (.own d 8 (A9 b).length)):=by
 refine Cu Tryz.func54 rfl kr (DQ _ _) fun W0 M0 => ?_
 refine AB<|rn ⟨[(1,tP 1 0)],[(1,.cells (AG.c b) 41)]⟩<|AB ?_
 refine rs 5 (Z0s b) ⟨[(2,tO (.own 5 8 (DF b.Vias).length))],[(5,.row 8 (DF b.Vias).length (AL Ag.c (DF b.Vias)) 154)]⟩ (Cx (fun _ _=>kr) (aI b.Vias au4))<|AF<|Ab ?_
 exact xl (tO (.own 5 8 (DF b.Vias).length)) (frE (c:=Ag.c) (xs:=DF b.Vias) (by rfl) kr)
def dY:CT:=(54,[.agg (AG.c b)],.new [] (.row 8 (A9 b).length (AL Ag.c (A9 b)) 154) (fun d=>.av (.one (.own d 8 (A9 b).length))))
theorem bG (b:AG) (hl:b.Vias.length<20):OKc (dY b):=Cx (fun _ _=>kr) (qvias b hl)
theorem Un (l:List Ag):DF l=B9 (fun x y=>decide (Lr x y<0)) l:=by
 unfold DF
 have h:=Yu l (F9 l) (fun acc _=>Pu acc) (fun m acc v=>by
  rw [F9,Int.toNat_natCast]
  rfl) l.length 0 ((((l.length:Int))-0).toNat+1) [] rfl (Nat.zero_le _) (by omega)
 rw [List.drop_zero,List.nil_append] at h
 exact h.trans (fR l)
theorem fM (b:AG):A9 b=B9 (fun x y=>decide (Lr x y<0)) b.Vias:=Un _
theorem Q7 (b:AG):(A9 b).length=b.Vias.length:=by rw [fM];exact Cc _ _
def kM (t:AE):AE:=t
def oX (t:AE):CT:=(116,[.agg (AE.c t)],.val [] (.av (.agg (AE.c (kM t)))))
theorem pasQ (t:AE):PuP 116 (oX t).2.1 (.av (.agg (AE.c (kM t)))):=by
 refine pwf Tryz.func116 fun W0 M0 => ?_
 refine AB<|rn ⟨Gj,[(1,.cells (AE.c t) 78),(2,.cells [.i 0,.s (⟨#[]⟩),.s (⟨#[]⟩),.i 0,.i 0,.i 0,.b false] 160)]⟩<|AB ?_
 refine rn ⟨[(2,tP 2 0)],[(2,.cells (AE.c t) 160)]⟩<|Ab ?_
 exact xl (.av (.agg (AE.c t))) (Ae (by rfl))
theorem okasQ (t:AE):OKc (oX t):=cPu<|pasQ t
def fQ (t:AE):Int:=t.Id
def oS (t:AE):CT:=(117,[.agg (AE.c t)],.val [] (.av (.one (.i (fQ t)))))
theorem pidQ (t:AE):PuP 117 (oS t).2.1 (tO (.i (fQ t))):=by
 refine pwf Tryz.func117 fun W0 M0 => ?_
 refine AB<|rn ⟨[(1,tP 1 0)],[(1,.cells (AE.c t) 160)]⟩<|AB ?_
 refine rn ⟨[(2,tI t.Id)],[]⟩<|Ab ?_
 exact xl (tO (.i t.Id)) (Ae (by rfl))
theorem okidQ (t:AE):OKc (oS t):=cPu<|pidQ t
def Lv (a:AE) (b_:AE):Int:=CX (fQ a) (fQ b_)
section
 open Go.Proofs.YtheobjkgllmnmaaGreat renaming XV→mp1,AE.c→mp2,PK→mp3,oS→mp4,fQ→mp5,okidQ→mp6
 open Go.Proofs.Tryz renaming func160→mp0
theorem pcmpQ  (a:AE) (b_:AE):G8 Tryz.prog 160 [.agg (AE.c a),.agg (AE.c b_),.one (.eptr 1 1 (gD [.clo 117 0 dfc]) 0 0)] (tO (.i (Lv a b_))):=jM
end
abbrev Zg:=data'.getD (W64 (j-1)).toNat default
def Z0t:CT:=(160,[.agg (AE.c (KV data' j)),.agg (AE.c (Zg data' j)),.one (.eptr 1 1 (fun _ j_=>([.clo 117 0 dfc]:List Cl).getD j_ default) 0 0)],.val [] (tI (Lv (KV data' j) (Zg data' j))))
def L3 (l:(List AE)) (n:Int) (data:List AE) (i:Int) (K0:List AE->Int->(List AE)):Nat->List AE->Int->(List AE)
 | 0,_,_=>default
 | n1+1,data',j=>bif bif decide ((0:Int)<j) then decide (((Lv (data'.getD j.toNat default) (data'.getD (j-1).toNat default)):Int)<0) else false then ((L3 l n data i K0 n1) ((data'.set j.toNat (data'.getD (j-1).toNat default)).set (j-1).toNat (data'.getD j.toNat default)) (j-1)) else (K0 data' (i+1))
def L4 (l:(List AE)) (n:Int):Nat->List AE->Int->(List AE)
 | 0,_,_=>default
 | n0+1,data,i=>bif decide ((i:Int)<n) then (L3 l n data i (L4 l n n0) (i.toNat+1) data i) else data
def Nb (l:(List AE)) (n:Int):(List AE):=L4 l n ((n-1).toNat+1) l 1
section
 open Go.Proofs.YtheobjkgllmnmaaGreat renaming nn7→mp1,PK→mp2,XV→mp3,AE.c→mp4,PK→mp5,AE→mp6,L4→mp7,Nb→mp8,L3→mp9,Z0t→mp10,Lv→mp11,pcmpQ→mp12
 open Go.Proofs.Tryz renaming func185→mp0
theorem pInsQ (l:(List AE)) (n:Int) (hn:n=(l.length:Int)) (hl:l.length<20):WrR Tryz.prog 185 1000 [.one (.own 1000 7 l.length),.one (.i 0),.one (.i n),.one (.clo 160 1 (BK [.eptr 1 1 (gD [.clo 117 0 dfc]) 0 0]))] 7 l.length (AL AE.c l) 160 (.tup []) (AL AE.c (Nb l n)):=jL
end
section
 open Go.Proofs.YtheobjkgllmnmaaGreat renaming Nb→mp0,Lv→mp1,L4→mp2,L3→mp3
theorem Ux (l:List AE) (n:Int) (hn:n=(l.length:Int)):Nb l n=B9 (fun x y=>decide (Lv x y<0)) l:=cL
end
theorem RM (l:List AE) (n:Int) (hn:n=(l.length:Int)) (hl:l.length<20):(Nb l n).length=l.length:=by rw [Ux l n hn,Cc]
def Z0u (l:(List AE)) (n:Int):CT:=(185,([.one (IE l),.one (.i 0),.one (.i n),.one (.clo 160 1 (BK [.eptr 1 1 (fun _ j_=>([.clo 117 0 dfc]:List Cl).getD j_ default) 0 0]))]:List Av).map (Hl 1000 1000),wrI 1000 (.row 7 l.length (AL AE.c l) 160) (.tup []) (.row 7 l.length (AL AE.c (Nb l n)) 160))
def RI (l:(List AE)) (n:Int):(List AE):=Nb l n
section
 open Go.Proofs.YtheobjkgllmnmaaGreat renaming nn7→mp1,PK→mp2,XV→mp3,AE.c→mp4,PK→mp5,Z0u→mp6,Nb→mp7,pInsQ→mp8,RM→mp9,RI→mp10
 open Go.Proofs.Tryz renaming func170→mp0
theorem pStaQ (l:(List AE)) (n:Int) (hn:n=(l.length:Int)) (hl:l.length<20):WrR Tryz.prog 170 1000 [.one (.own 1000 7 l.length),.one (.i n),.one (.clo 160 1 (BK [.eptr 1 1 (gD [.clo 117 0 dfc]) 0 0]))] 7 l.length (AL AE.c l) 160 (.tup []) (AL AE.c (RI l n)):=jK
end
theorem RH (l:List AE) (n:Int) (hn:n=(l.length:Int)) (hl:l.length<20):(RI l n).length=l.length:=RM l n hn hl
def Z0v (l:(List AE)):CT:=(170,([.one (IE l),.one (.i ((l.length:Nat):Int)),.one (.clo 160 1 (BK [.eptr 1 1 (fun _ j_=>([.clo 117 0 dfc]:List Cl).getD j_ default) 0 0]))]:List Av).map (Hl 1000 1000),wrI 1000 (.row 7 l.length (AL AE.c l) 160) (.tup []) (.row 7 l.length (AL AE.c (RI l ((l.length:Nat):Int))) 160))
def Px (l:(List AE)):(List AE):=RI l ((l.length:Nat):Int)
section
 open Go.Proofs.YtheobjkgllmnmaaGreat renaming Z0v→mp1,nn7→mp2,AE.c→mp3,PK→mp4,RI→mp5,pStaQ→mp6,RH→mp7
 open Go.Proofs.Tryz renaming func159→mp0
theorem pSrtQ (l:(List AE)) (hl:l.length<20):WrR Tryz.prog 159 1000 [.one (.own 1000 7 l.length),.one (.clo 160 1 (BK [.eptr 1 1 (gD [.clo 117 0 dfc]) 0 0]))] 7 l.length (AL AE.c l) 160 (.tup []) (AL AE.c (Px l)):=jJ
end
theorem ZA (l:List AE) (hl:l.length<20):(Px l).length=l.length:=RH l _ rfl hl
theorem fU (l:List AE):Px l=B9 (fun x y=>decide (Lv x y<0)) l:=Ux l _ rfl
def Z0w (out:List AE):CT:=(159,([.one (.own 1000 7 out.length),.one (.clo 160 1 (BK [.eptr 1 1 (fun _ j_=>([.clo 117 0 dfc]:List Cl).getD j_ default) 0 0]))]:List Av).map (Hl 1000 100000),wrI 100000 (.row 7 out.length (AL AE.c out) 160) (.tup []) (.row 7 out.length (AL AE.c (Px out)) 160))
def GC (l:(List AE)):Nat->List AE->Int->(List AE)
 | 0,_,_=>default
 | n0+1,out,v12=>bif decide ((v12:Int)<(l.length:Int)) then ((GC l n0) (out++[kM (l.getD v12.toNat default)]) (v12+1)) else (Px out)
def DI (l:(List AE)):(List AE):=GC l (((l.length:Int)-0).toNat+1) ([]:List AE) 0
section
 open Go.Proofs.YtheobjkgllmnmaaGreat renaming nn7→mp1,AE.c→mp2,nn116→mp3,XV→mp4,nn228→mp5,PK→mp6,AE→mp7,GC→mp8,DI→mp9,nM→mp10,oX→mp11,Tu→mp12,kM→mp13,okasQ→mp14,Z0w→mp15,Px→mp16,pSrtQ→mp17,ZA→mp18
 open Go.Proofs.Tryz renaming func115→mp0
theorem aL (l:(List AE)) (hl:l.length<20):Fr Tryz.prog 115 [.one (lst 7 AE.c l),.one (.clo 116 0 dfc),.one (.clo 117 0 dfc)] (.row 7 (DI l).length (AL AE.c (DI l)) 160) (fun d=>tO (.own d 7 (DI l).length)):=jI
end
def Z0x:CT:=(115,[.one (lst 7 AE.c b.Parts),.one (.clo 116 0 dfc),.one (.clo 117 0 dfc)],.new [] (.row 7 (DI b.Parts).length (AL AE.c (DI b.Parts)) 160) (fun d=>.av (.one (.own d 7 (DI b.Parts).length))))
def BH (b:AG):(List AE):=DI b.Parts
theorem mG (b:AG) (hl:b.Parts.length<20):Fr Tryz.prog 61 [.agg (AG.c b)] (.row 7 (BH b).length (AL AE.c (BH b)) 160) (fun d=>tO (.own d 7 (BH b).length)):=by
 refine Cu Tryz.func61 rfl kr (DQ _ _) fun W0 M0 => ?_
 refine AB<|rn ⟨[(1,tP 1 0)],[(1,.cells (AG.c b) 41)]⟩<|AB ?_
 refine rs 5 (Z0x b) ⟨[(2,tO (.own 5 7 (DI b.Parts).length))],[(5,.row 7 (DI b.Parts).length (AL AE.c (DI b.Parts)) 160)]⟩ (Cx (fun _ _=>kr) (aL b.Parts au4))<|AF<|Ab ?_
 exact xl (tO (.own 5 7 (DI b.Parts).length)) (frE (c:=AE.c) (xs:=DI b.Parts) (by rfl) kr)
def eF:CT:=(61,[.agg (AG.c b)],.new [] (.row 7 (BH b).length (AL AE.c (BH b)) 160) (fun d=>.av (.one (.own d 7 (BH b).length))))
theorem iR (b:AG) (hl:b.Parts.length<20):OKc (eF b):=Cx (fun _ _=>kr) (mG b hl)
theorem Uq (l:List AE):DI l=B9 (fun x y=>decide (Lv x y<0)) l:=by
 unfold DI
 have h:=Yu l (GC l) (fun acc _=>Px acc) (fun m acc v=>by
  rw [GC,Int.toNat_natCast]
  rfl) l.length 0 ((((l.length:Int))-0).toNat+1) [] rfl (Nat.zero_le _) (by omega)
 rw [List.drop_zero,List.nil_append] at h
 exact h.trans (fU l)
theorem Y6 (b:AG):BH b=B9 (fun x y=>decide (Lv x y<0)) b.Parts:=Uq _
theorem Wq (b:AG):(BH b).length=b.Parts.length:=by rw [Y6];exact Cc _ _
def kL (t:Au):Au:=t
def oW (t:Au):CT:=(121,[.agg (Au.c t)],.val [] (.av (.agg (Au.c (kL t)))))
theorem pasS (t:Au):PuP 121 (oW t).2.1 (.av (.agg (Au.c (kL t)))):=by
 refine pwf Tryz.func121 fun W0 M0 => ?_
 refine AB<|rn ⟨Gj,[(1,.cells (Au.c t) 112),(2,.cells [.i 0,.i 0,vN,.i 0] 165)]⟩<|AB ?_
 refine rn ⟨[(2,tP 2 0)],[(2,.cells (Au.c t) 165)]⟩<|Ab ?_
 exact xl (.av (.agg (Au.c t))) (Ae (by rfl))
theorem okasS (t:Au):OKc (oW t):=cPu<|pasS t
def fP (t:Au):Int:=t.Id
def oR (t:Au):CT:=(122,[.agg (Au.c t)],.val [] (.av (.one (.i (fP t)))))
theorem pidS (t:Au):PuP 122 (oR t).2.1 (tO (.i (fP t))):=by
 refine pwf Tryz.func122 fun W0 M0 => ?_
 refine AB<|rn ⟨[(1,tP 1 0)],[(1,.cells (Au.c t) 165)]⟩<|AB ?_
 refine rn ⟨[(2,tI t.Id)],[]⟩<|Ab ?_
 exact xl (tO (.i t.Id)) (Ae (by rfl))
theorem okidS (t:Au):OKc (oR t):=cPu<|pidS t
def Lu (a:Au) (b_:Au):Int:=CX (fP a) (fP b_)
section
 open Go.Proofs.YtheobjkgllmnmaaGreat renaming XU→mp1,Au.c→mp2,Tw→mp3,oR→mp4,fP→mp5,okidS→mp6
 open Go.Proofs.Tryz renaming func162→mp0
theorem pcmpS  (a:Au) (b_:Au):G8 Tryz.prog 162 [.agg (Au.c a),.agg (Au.c b_),.one (.eptr 1 1 (gD [.clo 122 0 dfc]) 0 0)] (tO (.i (Lu a b_))):=jM
end
def Z0y (data':List Au) (j:Int):CT:=(162,[.agg (Au.c (data'.getD j.toNat default)),.agg (Au.c (data'.getD (W64 (j-1)).toNat default)),.one (.eptr 1 1 (fun _ j_=>([.clo 122 0 dfc]:List Cl).getD j_ default) 0 0)],.val [] (tI (Lu (data'.getD j.toNat default) (data'.getD (W64 (j-1)).toNat default))))
def L0 (l:(List Au)) (n:Int) (data:List Au) (i:Int) (K0:List Au->Int->(List Au)):Nat->List Au->Int->(List Au)
 | 0,_,_=>default
 | n1+1,data',j=>bif bif decide ((0:Int)<j) then decide (((Lu (data'.getD j.toNat default) (data'.getD (j-1).toNat default)):Int)<0) else false then ((L0 l n data i K0 n1) ((data'.set j.toNat (data'.getD (j-1).toNat default)).set (j-1).toNat (data'.getD j.toNat default)) (j-1)) else (K0 data' (i+1))
def L1 (l:(List Au)) (n:Int):Nat->List Au->Int->(List Au)
 | 0,_,_=>default
 | n0+1,data,i=>bif decide ((i:Int)<n) then (L0 l n data i (L1 l n n0) (i.toNat+1) data i) else data
def Na (l:(List Au)) (n:Int):(List Au):=L1 l n ((n-1).toNat+1) l 1
section
 open Go.Proofs.YtheobjkgllmnmaaGreat renaming nn4→mp1,lK→mp2,XU→mp3,Au.c→mp4,Tw→mp5,Au→mp6,L1→mp7,Na→mp8,L0→mp9,Z0y→mp10,Lu→mp11,pcmpS→mp12
 open Go.Proofs.Tryz renaming func187→mp0
theorem pInsS (l:(List Au)) (n:Int) (hn:n=(l.length:Int)) (hl:l.length<20):WrR Tryz.prog 187 1000 [.one (.own 1000 4 l.length),.one (.i 0),.one (.i n),.one (.clo 162 1 (BK [.eptr 1 1 (gD [.clo 122 0 dfc]) 0 0]))] 4 l.length (AL Au.c l) 165 (.tup []) (AL Au.c (Na l n)):=jL
end
section
 open Go.Proofs.YtheobjkgllmnmaaGreat renaming Na→mp0,Lu→mp1,L1→mp2,L0→mp3
theorem Uw (l:List Au) (n:Int) (hn:n=(l.length:Int)):Na l n=B9 (fun x y=>decide (Lu x y<0)) l:=cL
end
theorem RL (l:List Au) (n:Int) (hn:n=(l.length:Int)) (hl:l.length<20):(Na l n).length=l.length:=by rw [Uw l n hn,Cc]
def Z0z (l:(List Au)) (n:Int):CT:=(187,([.one (.own 1000 4 l.length),.one (.i 0),.one (.i n),.one (.clo 162 1 (BK [.eptr 1 1 (fun _ j_=>([.clo 122 0 dfc]:List Cl).getD j_ default) 0 0]))]:List Av).map (Hl 1000 1000),wrI 1000 (.row 4 l.length (AL Au.c l) 165) (.tup []) (.row 4 l.length (AL Au.c (Na l n)) 165))
def RG (l:(List Au)) (n:Int):(List Au):=Na l n
section
 open Go.Proofs.YtheobjkgllmnmaaGreat renaming nn4→mp1,lK→mp2,XU→mp3,Au.c→mp4,Tw→mp5,Z0z→mp6,Na→mp7,pInsS→mp8,RL→mp9,RG→mp10
 open Go.Proofs.Tryz renaming func171→mp0
theorem pStaS (l:(List Au)) (n:Int) (hn:n=(l.length:Int)) (hl:l.length<20):WrR Tryz.prog 171 1000 [.one (.own 1000 4 l.length),.one (.i n),.one (.clo 162 1 (BK [.eptr 1 1 (gD [.clo 122 0 dfc]) 0 0]))] 4 l.length (AL Au.c l) 165 (.tup []) (AL Au.c (RG l n)):=jK
end
theorem RF (l:List Au) (n:Int) (hn:n=(l.length:Int)) (hl:l.length<20):(RG l n).length=l.length:=RL l n hn hl
def Z0A (l:(List Au)):CT:=(171,([.one (.own 1000 4 l.length),.one (.i ((l.length:Nat):Int)),.one (.clo 162 1 (BK [.eptr 1 1 (fun _ j_=>([.clo 122 0 dfc]:List Cl).getD j_ default) 0 0]))]:List Av).map (Hl 1000 1000),wrI 1000 (.row 4 l.length (AL Au.c l) 165) (.tup []) (.row 4 l.length (AL Au.c (RG l ((l.length:Nat):Int))) 165))
def Pw (l:(List Au)):(List Au):=RG l ((l.length:Nat):Int)
section
 open Go.Proofs.YtheobjkgllmnmaaGreat renaming Z0A→mp1,nn4→mp2,Au.c→mp3,Tw→mp4,RG→mp5,pStaS→mp6,RF→mp7
 open Go.Proofs.Tryz renaming func161→mp0
theorem pSrtS (l:(List Au)) (hl:l.length<20):WrR Tryz.prog 161 1000 [.one (.own 1000 4 l.length),.one (.clo 162 1 (BK [.eptr 1 1 (gD [.clo 122 0 dfc]) 0 0]))] 4 l.length (AL Au.c l) 165 (.tup []) (AL Au.c (Pw l)):=jJ
end
theorem Y9 (l:List Au) (hl:l.length<20):(Pw l).length=l.length:=RF l _ rfl hl
theorem fT (l:List Au):Pw l=B9 (fun x y=>decide (Lu x y<0)) l:=Uw l _ rfl
def Z0B (out:List Au):CT:=(161,([.one (.own 1000 4 out.length),.one (.clo 162 1 (BK [.eptr 1 1 (fun _ j_=>([.clo 122 0 dfc]:List Cl).getD j_ default) 0 0]))]:List Av).map (Hl 1000 100000),wrI 100000 (.row 4 out.length (AL Au.c out) 165) (.tup []) (.row 4 out.length (AL Au.c (Pw out)) 165))
def GB (l:(List Au)):Nat->List Au->Int->(List Au)
 | 0,_,_=>default
 | n0+1,out,v12=>bif decide ((v12:Int)<(l.length:Int)) then ((GB l n0) (out++[kL (l.getD v12.toNat default)]) (v12+1)) else (Pw out)
def DH (l:(List Au)):(List Au):=GB l (((l.length:Int)-0).toNat+1) ([]:List Au) 0
section
 open Go.Proofs.YtheobjkgllmnmaaGreat renaming nn4→mp1,Au.c→mp2,nn121→mp3,XU→mp4,nn233→mp5,Tw→mp6,Au→mp7,GB→mp8,DH→mp9,Tz→mp10,oW→mp11,bX→mp12,kL→mp13,okasS→mp14,Z0B→mp15,Pw→mp16,pSrtS→mp17,Y9→mp18
 open Go.Proofs.Tryz renaming func120→mp0
theorem aK (l:(List Au)) (hl:l.length<20):Fr Tryz.prog 120 [.one (lst 4 Au.c l),.one (.clo 121 0 dfc),.one (.clo 122 0 dfc)] (.row 4 (DH l).length (AL Au.c (DH l)) 165) (fun d=>tO (.own d 4 (DH l).length)):=jI
end
def Z0C:CT:=(120,[.one (lst 4 Au.c b.Slots),.one (.clo 121 0 dfc),.one (.clo 122 0 dfc)],.new [] (.row 4 (DH b.Slots).length (AL Au.c (DH b.Slots)) 165) (fun d=>.av (.one (.own d 4 (DH b.Slots).length))))
def CG (b:AG):(List Au):=DH b.Slots
theorem mF (b:AG) (hl:b.Slots.length<20):Fr Tryz.prog 64 [.agg (AG.c b)] (.row 4 (CG b).length (AL Au.c (CG b)) 165) (fun d=>tO (.own d 4 (CG b).length)):=by
 refine Cu Tryz.func64 rfl kr (DQ _ _) fun W0 M0 => ?_
 refine AB<|rn ⟨[(1,tP 1 0)],[(1,.cells (AG.c b) 41)]⟩<|AB ?_
 refine rs 5 (Z0C b) ⟨[(2,tO (.own 5 4 (DH b.Slots).length))],[(5,.row 4 (DH b.Slots).length (AL Au.c (DH b.Slots)) 165)]⟩ (Cx (fun _ _=>kr) (aK b.Slots au4))<|AF<|Ab ?_
 exact xl (tO (.own 5 4 (DH b.Slots).length)) (frE (c:=Au.c) (xs:=DH b.Slots) (by rfl) kr)
def eE:CT:=(64,[.agg (AG.c b)],.new [] (.row 4 (CG b).length (AL Au.c (CG b)) 165) (fun d=>.av (.one (.own d 4 (CG b).length))))
theorem iQ (b:AG) (hl:b.Slots.length<20):OKc (eE b):=Cx (fun _ _=>kr) (mF b hl)
theorem Up (l:List Au):DH l=B9 (fun x y=>decide (Lu x y<0)) l:=by
 unfold DH
 have h:=Yu l (GB l) (fun acc _=>Pw acc) (fun m acc v=>by
  rw [GB,Int.toNat_natCast]
  rfl) l.length 0 ((((l.length:Int))-0).toNat+1) [] rfl (Nat.zero_le _) (by omega)
 rw [List.drop_zero,List.nil_append] at h
 exact h.trans (fT l)
theorem Q8 (b:AG):CG b=B9 (fun x y=>decide (Lu x y<0)) b.Slots:=Up _
theorem Wo {b:AG} {x:Au}:x∈CG b↔x∈b.Slots:=by rw [Q8];exact Ks _ _ _
theorem Wp (b:AG):(CG b).length=b.Slots.length:=by rw [Q8];exact Cc _ _
end
section
open Go.RowKit
def gB (q r:Loc) (b:Nat):Prop:=only q b\/only r b
def WrA (P:Program) (f:FuncId) (vs:List Av) (sz len:Nat) (F:Nat->Nat->Cl) (tyr tyq:TypeId) (len':Nat) (F':Nat->Nat->Cl):Prop :=
 ∀ (M:Nat->Option Obj) (σ:Nat->Loc) (w:World) (args:List Value),(∀ b o,M b=some o->w.heap[b]? = some o)->BV M σ w (σ 1000) (.cells [.own 1001 sz len] tyq)->M (σ 1000).b=none->BV M σ w (σ 1001) (.row sz len F tyr)->((σ 1001).nil=true\/M (σ 1001).b=none)->((σ 1001).nil=true\/(σ 1000).b≠(σ 1001).b)->L2 (RA M σ) (vs++[.one (.ptr 1000 0)]) args ->
  Calls P f args.toArray w fun en w'=>∃ U,en=.returned U/\∃ M' x,Fd w w' M M' (gB (σ 1000) (σ 1001))/\(x.nil=true\/((only (σ 1001) x.b\/w.heap.size<=x.b)/\M' x.b=none/\x.b≠(σ 1000).b)) /\
   (∀ (σ':Nat->Loc) d,σ' d=x->BV M' σ' w' (σ 1000) (.cells [.own d sz len'] tyq))/\∀ σ',BV M' σ' w' x (.row sz len' F' tyr)
section
variable {P:Program}
theorem Nx {q r:Nat} {bq br:Blk} (hqr:q≠r) {n:Nat} {b:Blk} (h:get [(q,bq),(r,br)] n=some b):(n=q/\b=bq)\/(n=r/\b=br):=by
 simp only [get,Cg] at h
 by_cases h1:q=n
 ·simp [h1] at h;exact .inl ⟨h1.symm,h.symm⟩
 by_cases h2:r=n
 ·simp [h1,h2] at h;exact .inr ⟨h2.symm,h.symm⟩
 simp [h1,h2] at h
theorem VZ {f:FuncId} {fn:Func} {c:Code} (hf:P.funcs[f]? = some fn) (hb:fn.body=some c) {vs:List Av} {sz len len':Nat} {F F':Nat->Nat->Cl} {tyr tyq:TypeId} (hN:Nat.ble (vs.length+1) fn.ntmps=true) (hK:Nat.ble fn.ntmps 1000=true)
  (h:∀ (W0:World) (M0:Nat->Option Obj) (X:Nat->Option Loc),Dy X W0 [1000,1001]->AWp P none fn.ntmps W0 X M0 c (P4 P fn.ntmps W0 X M0 fn fun r' s'=>∃ d b,Nat.beq d 1000=false/\get s'.h 1000=some (.cells [.own d sz len'] tyq)/\get s'.h d=some b/\He b (.row sz len' F' tyr)) ⟨EN 0 (vs++[.one (.ptr 1000 0)]),[(1000,.cells [.own 1001 sz len] tyq),(1001,.row sz len F tyr)]⟩):WrA P f vs sz len F tyr tyq len' F':=by
 intro M σ w args himm hbq hMq hbr hMr hne hargs
 have hK':=Nat.le_of_ble_eq_true hK
 have hN':(vs++[Av.one (.ptr 1000 0)]).length<=fn.ntmps:=by have:=Nat.le_of_ble_eq_true hN;simpa using this
 have hqn:(σ 1000).nil=false:=hbq.1
 obtain ⟨X,hX⟩:∃ X:Nat->Option Loc,X=fun k=>bif Nat.beq k 1000 then some (σ 1000) else bif Nat.beq k 1001 && !(σ 1001).nil then some (σ 1001) else none:=⟨_,rfl⟩
 have hX0:X 1000=some (σ 1000):=by rw [hX];rfl
 have pins:∀ n x,X n=some x->(n=1000/\x=σ 1000)\/(n=1001/\(σ 1001).nil=false/\x=σ 1001):=fun n x hx=>by
  rw [hX] at hx
  simp only at hx
  cases h1:Nat.beq n 1000 with
  | true=>rw [h1] at hx;simp at hx;exact .inl ⟨Nat.eq_of_beq_eq_true h1,hx.symm⟩
  | false =>
   rw [h1] at hx
   cases h2:Nat.beq n 1001 with
   | false=>rw [h2] at hx;simp at hx
   | true =>
    rw [h2] at hx
    cases h3:(σ 1001).nil with
    | true=>rw [h3] at hx;simp at hx
    | false=>rw [h3] at hx;simp at hx;exact .inr ⟨Nat.eq_of_beq_eq_true h2,rfl,hx.symm⟩
 have hX1:(σ 1001).nil=false->X 1001=some (σ 1001):=fun h3=>by rw [hX];simp [h3];rfl
 have hXK:∀ k x,X k=some x->BO [1000,1001] k=true:=fun k x hk=>by
  rcases pins k x hk with ⟨rfl,_⟩ | ⟨rfl,_⟩ <;> rfl
 have hin:∀ b,inX X b->gB (σ 1000) (σ 1001) b:=fun b ⟨n,x,h1,h2⟩=>by
  rcases pins n x h1 with ⟨_,rfl⟩ | ⟨_,h3,rfl⟩
  ·exact .inl ⟨hqn,h2.symm⟩
  exact .inr ⟨h3,h2.symm⟩
 refine EO (X:=X) (σ:=σ) (h0:=[(1000,.cells [.own 1001 sz len] tyq),(1001,.row sz len F tyr)]) hf hb hN' himm hargs (fun n b hn => ?_) (fun n b hn => ?_) (fun n x hx => ?_) (fun n m b c hn hm hnm => ?_) (Dl (h w M X fun k x hk=>.inl (hXK k x hk))) ?_
 ·rcases Nx (by decide) hn with ⟨rfl,rfl⟩ | ⟨rfl,rfl⟩
  ·exact hbq
  exact hbr
 ·rcases Nx (by decide) hn with ⟨rfl,rfl⟩ | ⟨rfl,rfl⟩
  ·exact .inr ⟨hMq,1000,_,hX0,rfl⟩
  cases h3:(σ 1001).nil with
  | true=>exact .inl rfl
  | false =>
   rcases hMr with h4 | h4
   ·rw [h3] at h4;cases h4
   exact .inr ⟨h4,1001,_,hX1 h3,rfl⟩
 ·rcases pins n x hx with ⟨rfl,rfl⟩ | ⟨rfl,_,rfl⟩
  ·exact ⟨hK',rfl⟩
  exact ⟨by omega,rfl⟩
 ·rcases Nx (by decide) hn with ⟨rfl,rfl⟩ | ⟨rfl,rfl⟩ <;> rcases Nx (by decide) hm with ⟨rfl,rfl⟩ | ⟨rfl,rfl⟩
  ·exact absurd rfl hnm
  ·rcases hne with h4 | h4
   ·exact .inr (.inl h4)
   exact .inr (.inr h4)
  ·rcases hne with h4 | h4
   ·exact .inl h4
   exact .inr (.inr (Ne.symm h4))
  exact absurd rfl hnm
 rintro r' s' M' σ' a' w' U ⟨d,b,hd,h1,h2,h3⟩ hs hR
 have hdn:d≠1000:=fun e=>by subst e;rw [Nat.beq_refl] at hd;cases hd
 have hp:=(hs.pin 1000 _ hX0).2
 refine ⟨U,rfl,M',σ' d,⟨hs.os,hs.tape,hs.output,hs.size,fun b hb hx=>hs.old b hb fun h4=>hx (hin b h4),hs.sub,hs.new,hs.imm⟩,?_,fun σ2 d2 e2 => ?_,fun σ2=>(Iz h3 (hs.blk d b h2):BV M' σ' w' (σ' d) (.row sz len' F' tyr))⟩
 ·cases hnil:(σ' d).nil with
  | true=>exact .inl rfl
  | false =>
   have hq:(σ' d).b≠(σ 1000).b:=by
    rcases hs.inj d 1000 b _ h2 h1 hdn with h4 | h4 | h4
    ·rw [hnil] at h4;cases h4
    ·rw [hp,hqn] at h4;cases h4
    rw [hp] at h4;exact h4
   rcases hs.loc d b h2 with h4 | ⟨h4,h5⟩
   ·rw [hnil] at h4;cases h4
   refine .inr ⟨?_,h4,hq⟩
   rcases h5 with h5 | h5
   ·exact .inr h5
   rcases hin _ h5 with h6 | h6
   ·exact absurd h6.2 hq
   exact .inl h6
 have hb1:=hs.blk 1000 _ h1
 rw [hp] at hb1
 obtain ⟨g0,cc,g1,g2⟩:=hb1
 refine ⟨g0,cc,g1,?_⟩
 cases g2 with
 | cons g3 g4 =>
  cases g4
  refine .cons ?_ .nil
  unfold R at g3 ⊢
  rw [e2];exact g3
section
variable {V:Env P} {rd:Option Nat} {N:Nat} {W0:World} {X:Nat→Option Loc} {M0 M:Nat→Option Obj} {σ:Nat→Loc} {w:World} {a:Act} {Q:Exit→AS→Prop} {s:AS}
def N3 (q r:Nat) (dst:Option Nat) (s:AS):Bool := !Nat.beq q r&&s.t.all (fun p=>p.2.no r&&(match dst with | some d => !Nat.beq p.1 d | none=>true))&&s.h.all fun p=>Nat.beq p.1 q||p.2.no r
def TP (q r:Nat) (bq br:Blk) (s:AS):AS:=⟨s.t,put (put s.h q bq) r br⟩
theorem YI {K:List Nat} {q r:Nat} {dst:Option Nat} {sz len len':Nat} {F F':Nat->Nat->Cl} {tyr tyq:TypeId} {x:Loc} {M':Nat->Option Obj} {w':World} {U:Value} (hX:∀ k x,X k=some x->BO K k=true) (hK:J3 K r=true) (hok:N3 q r dst s=true) (hq:get s.h q=some (.cells [.own r sz len] tyq)) (hr:get s.h r=some (.row sz len F tyr))
  (hs:Sim N W0 X M0 M σ (get s.t) (get s.h) a w) (hk:Fd w w' M M' (gB (σ q) (σ r))) (hx:x.nil=true\/((only (σ r) x.b\/w.heap.size<=x.b)/\M' x.b=none/\x.b≠(σ q).b)) (hbq:∀ (σ':Nat->Loc) d,σ' d=x->BV M' σ' w' (σ q) (.cells [.own d sz len'] tyq)) (hbr:∀ σ',BV M' σ' w' x (.row sz len' F' tyr)) :
  Sim N W0 X M0 M' (upd σ r x) (get (TP q r (.cells [.own r sz len'] tyq) (.row sz len' F' tyr) s).t) (get (TP q r (.cells [.own r sz len'] tyq) (.row sz len' F' tyr) s).h) (a.put dst U) w':=by
 unfold N3 at hok
 simp only [Bool.and_eq_true,Bool.not_eq_true'] at hok
 obtain ⟨⟨hqr',ht⟩,hh⟩:=hok
 have hqr:q≠r:=fun e=>by subst e;rw [Nat.beq_refl] at hqr';cases hqr'
 have hqn:(σ q).nil=false:=(hs.blk q _ hq).1
 have ht':∀ i v,get s.t i=some v->v.no r=true/\(∀ d,dst=some d->i≠d):=fun i v hv=>by
  have h1:=List.all_eq_true.1 ht (i,v) (DR hv)
  simp only [Bool.and_eq_true] at h1
  refine ⟨h1.1,fun d hd e => ?_⟩
  subst hd e
  have:=h1.2
  simp [Nat.beq_refl] at this
 have hh':∀ n b,get s.h n=some b->n≠q->b.no r=true:=fun n b hb hn=>by
  have h1:=List.all_eq_true.1 hh (n,b) (DR hb)
  simp only [Bool.or_eq_true] at h1
  rcases h1 with h1 | h1
  ·exact absurd (Nat.eq_of_beq_eq_true h1) hn
  exact h1
 have hXr:∀ k u,X k=some u->k≠r:=fun k u hk' e=>by
  subst e
  unfold J3 at hK
  simp only [Bool.and_eq_true] at hK
  have h1:=List.all_eq_true.1 hK.1 k (EM (hX k u hk'))
  simp [Nat.beq_refl] at h1
 have hg:∀ n,get (TP q r (.cells [.own r sz len'] tyq) (.row sz len' F' tyr) s).h n=if r=n then some (.row sz len' F' tyr) else if q=n then some (.cells [.own r sz len'] tyq) else get s.h n:=fun n=>by
  show get (put (put s.h q _) r _) n=_
  rw [IY,IY]
 have hlt:∀ n b,get s.h n=some b->(σ n).nil=false->(σ n).b<w.heap.size:=fun n b hb hn=>(hs.blk n b hb).lt hn
 have hup:∀ n,n≠r->upd σ r x n=σ n:=fun n hn=>CL _ _ hn
 have hMn:∀ b,b<w.heap.size->M b=none->M' b=none:=fun b hb h0=>by
  cases h1:M' b with
  | none=>rfl
  | some o=>have:=hk.new b o h1 h0;omega
 have hsame:∀ n b,get s.h n=some b->n≠q->n≠r->(σ n).nil=false->w'.heap[(σ n).b]? = w.heap[(σ n).b]? := fun n b hb h1 h2 hn=>hk.old _ (hlt n b hb hn) fun h3=>by
  rcases h3 with h3 | h3
  ·rcases hs.inj n q b _ hb hq h1 with h4 | h4 | h4
   ·rw [hn] at h4;cases h4
   ·rw [hqn] at h4;cases h4
   exact h4 h3.2
  rcases hs.inj n r b _ hb hr h2 with h4 | h4 | h4
  ·rw [hn] at h4;cases h4
  ·rw [h3.1] at h4;cases h4
  exact h4 h3.2
 refine ⟨hk.os.trans hs.os,hk.tape.trans hs.tape,hk.output.trans hs.output,Nat.le_trans hs.size hk.size,fun b hb hnx => ?_,fun b o h=>hk.sub b o (hs.sub b o h),fun b o h h0 => ?_,fun n u hu=>⟨(hs.pin n u hu).1,by rw [hup n (hXr n u hu)];exact (hs.pin n u hu).2⟩,?_,?_,fun i v hv => ?_,hk.imm,fun n b hb => ?_,fun n b hb => ?_,fun n m b c hb hc hnm => ?_⟩
 ·refine (hk.old b (Nat.lt_of_lt_of_le hb hs.size) fun h3 => ?_).trans (hs.old b hb hnx)
  rcases h3 with h3 | h3
  ·rcases hs.loc q _ hq with h4 | ⟨_,h4 | h4⟩
   ·rw [hqn] at h4;cases h4
   ·rw [<- h3.2] at h4;omega
   rw [<- h3.2] at h4;exact hnx h4
  rcases hs.loc r _ hr with h4 | ⟨_,h4 | h4⟩
  ·rw [h3.1] at h4;cases h4
  ·rw [<- h3.2] at h4;omega
  rw [<- h3.2] at h4;exact hnx h4
 ·cases h1:M b with
  | some o'=>exact hs.new b o' h1 h0
  | none=>exact Nat.le_trans hs.size (hk.new b o h h1)
 ·have:=hs.defers.mono hk.sub
  cases dst <;> exact this
 ·cases dst with
  | none=>exact hs.room
  | some d=>simpa [Act.put] using hs.room
 ·have h1:=ht' i v hv
  have h2:(a.put dst U).tmps.getD i undef=a.tmps.getD i undef:=by
   cases dst with
   | none=>rfl
   | some d=>simp [Act.put,Array.getD_eq_getD_getElem?,Array.getElem?_setIfInBounds,Ne.symm (h1.2 d rfl)]
  rw [h2]
  exact Dx hk.sub (fun d hd=>hup d fun e=>by subst e;rw [h1.1] at hd;cases hd) (hs.tmps i v hv)
 ·rw [hg] at hb
  by_cases h1:r=n
  ·subst h1
   simp only [if_true,Option.some.injEq] at hb
   subst hb
   rw [BE]
   exact hbr _
  simp only [if_neg h1] at hb
  rw [hup n (Ne.symm h1)]
  by_cases h2:q=n
  ·subst h2
   simp only [if_true,Option.some.injEq] at hb
   subst hb
   exact hbq _ r (BE _ _ _)
  simp only [if_neg h2] at hb
  exact (hs.blk n b hb).mono hk.sub (fun d hd=>hup d fun e=>by subst e;rw [hh' n b hb (Ne.symm h2)] at hd;cases hd) (hsame n b hb (Ne.symm h2) (Ne.symm h1))
 ·rw [hg] at hb
  by_cases h1:r=n
  ·subst h1
   rw [BE]
   rcases hx with h3 | ⟨h3,h4,h5⟩
   ·exact .inl h3
   refine .inr ⟨h4,?_⟩
   rcases h3 with h3 | h3
   ·rcases hs.loc r _ hr with h6 | ⟨_,h6⟩
    ·rw [h3.1] at h6;cases h6
    rw [h3.2];exact h6
   exact .inl (Nat.le_trans hs.size h3)
  rw [hup n (Ne.symm h1)]
  obtain ⟨b0,hb0⟩:∃ b0,get s.h n=some b0:=by
   simp only [if_neg h1] at hb
   by_cases h2:q=n
   ·subst h2;exact ⟨_,hq⟩
   simp only [if_neg h2] at hb;exact ⟨_,hb⟩
  cases hn:(σ n).nil with
  | true=>exact .inl rfl
  | false =>
   rcases hs.loc n b0 hb0 with h6 | ⟨h6,h7⟩
   ·rw [hn] at h6;cases h6
   exact .inr ⟨hMn _ (hlt n b0 hb0 hn) h6,h7⟩
 have hold:∀ n b,get (TP q r (.cells [.own r sz len'] tyq) (.row sz len' F' tyr) s).h n=some b->n≠r->∃ b0,get s.h n=some b0:=fun n b hb h1=>by
  rw [hg] at hb
  simp only [if_neg (Ne.symm h1)] at hb
  by_cases h2:q=n
  ·subst h2;exact ⟨_,hq⟩
  simp only [if_neg h2] at hb;exact ⟨_,hb⟩
 have hrm:∀ m b0,get s.h m=some b0->m≠r->x.nil=true\/(σ m).nil=true\/x.b≠(σ m).b:=fun m b0 hb0 hm=>by
  rcases hx with h3 | ⟨h3,h4,h5⟩
  ·exact .inl h3
  cases hn:(σ m).nil with
  | true=>exact .inr (.inl rfl)
  | false =>
   refine .inr (.inr ?_)
   rcases h3 with h3 | h3
   ·rcases hs.inj m r b0 _ hb0 hr hm with h6 | h6 | h6
    ·rw [hn] at h6;cases h6
    ·rw [h3.1] at h6;cases h6
    rw [h3.2];exact Ne.symm h6
   have:=hlt m b0 hb0 hn
   omega
 by_cases h1:n=r
 ·subst h1
  obtain ⟨c0,hc0⟩:=hold m c hc (Ne.symm hnm)
  rw [BE,hup m (Ne.symm hnm)]
  exact hrm m c0 hc0 (Ne.symm hnm)
 obtain ⟨b0,hb0⟩:=hold n b hb h1
 rw [hup n h1]
 by_cases h2:m=r
 ·subst h2
  rw [BE]
  rcases hrm n b0 hb0 h1 with h3 | h3 | h3
  ·exact .inr (.inl h3)
  ·exact .inl h3
  exact .inr (.inr (Ne.symm h3))
 obtain ⟨c0,hc0⟩:=hold m c hc h2
 rw [hup m h2]
 exact hs.inj n m b0 c0 hb0 hc0 hnm
end
end
end
section
open Go.RowKit Go.MapKept
section
variable {P:Program} {V:Env P} {rd:Option Nat} {N:Nat} {W0:World} {X:Nat→Option Loc} {M0 M:Nat→Option Obj} {σ:Nat→Loc} {w:World} {a:Act} {Q:Exit→AS→Prop} {s:AS}
structure fX (P:Program) (o:Oper) (s:AS) (q r sz len:Nat) (F:Nat->Nat->Cl) (tyr tyq:TypeId) (len':Nat) (F':Nat->Nat->Cl):Prop where
 op:∃ c f g k caps vs,o.op=.call c/\c.callee=.value f/\evT (get s.t) f=some (.av (.one (.clo g k caps)))/\Co k caps=[.one (.ptr q 0)]/\EQ (evT (get s.t)) c.args.toList=some vs/\vs.all Av.dv=true/\(∀ args w,(callFunc g args).run P w=.ok (.enter g args) w)/\WrA P g vs sz len F tyr tyq len' F'
 gd:o.guard=none
 ok:N3 q r o.dst s=true
 hq:get s.h q=some (.cells [.own r sz len] tyq)
 hr:get s.h r=some (.row sz len F tyr)
theorem Uf {K:List Nat} {o:Oper} {q r sz len len':Nat} {F F':Nat->Nat->Cl} {tyr tyq:TypeId} (hX:∀ k x,X k=some x->BO K k=true) (hK:J3 K r=true) (hc:fX P o s q r sz len F tyr tyq len' F') (hs:Sim N W0 X M0 M σ (get s.t) (get s.h) a w) {Kk:Act->World->Prop} {Q':Exit->Act->World->Prop}
  (h:∀ M' σ' a' w',Sim N W0 X M0 M' σ' (get (TP q r (.cells [.own r sz len'] tyq) (.row sz len' F' tyr) s).t) (get (TP q r (.cells [.own r sz len'] tyq) (.row sz len' F' tyr) s).h) a' w'->Kk a' w'):o.wpIn (FW rd) 0 P a w Kk Q':=by
 obtain ⟨⟨c,f,g,k,caps,vs,ho,hcf,hf,hcl,hxs,hdv,heg,hW⟩,hgd,hok,hq,hr⟩:=hc
 have hqn:(σ q).nil=false:=(hs.blk q _ hq).1
 have hqr:q≠r:=fun e=>by
  unfold N3 at hok
  subst e
  simp [Nat.beq_refl] at hok
 have hev:∀ x v,evT (get s.t) x=some v->RT M σ v (a.eval x):=fun x v hv=>GO hs.tmps hv
 obtain ⟨caps',hfv,hsz,hcaps⟩:=hev f _ hf
 have hargs:=Io hev _ _ hxs
 have hcl2:L2 (RA M σ) (Co k caps) caps'.toList:=by
  refine L2.of (by simp [Co,hsz]) fun i x y hx hy => ?_
  have hi:i<k:=by have:=(List.getElem?_eq_some_iff.1 hx).1;simpa [Co] using this
  have:=hcaps i hi
  simp only [Co,List.getElem?_map,List.getElem?_range hi,Option.map_some,Option.some.injEq] at hx
  subst hx
  have hy':caps'.getD i undef=y:=by
   simp only [Array.getD_eq_getD_getElem?]
   rw [<- Array.getElem?_toList,hy];rfl
  rw [hy'] at this
  exact this
 rw [hcl] at hcl2
 have hmap:c.args.map a.eval=(c.args.toList.map a.eval).toArray:=by apply Array.ext';simp
 have happ:(c.args.toList.map a.eval).toArray++caps'=(c.args.toList.map a.eval++caps'.toList).toArray:=by apply Array.ext';simp
 have hres:(resolve a.eval c o.type).run P w=.ok { target:=.fn (.func g) caps',args:=(c.args.toList.map a.eval).toArray } w:=by
  simp only [resolve,hcf,hfv,Deferred.ofValue,hmap]
  simp
 let σ2:Nat->Loc:=upd (upd σ 1000 (σ q)) 1001 (σ r)
 have e0:σ2 1000=σ q:=by show upd (upd σ 1000 (σ q)) 1001 (σ r) 1000=_;rw [CL _ _ (by decide),BE]
 have e1:σ2 1001=σ r:=BE _ _ _
 have hbq:=hs.blk q _ hq
 have hbq2:BV M σ2 w (σ2 1000) (.cells [.own 1001 sz len] tyq):=by
  rw [e0]
  obtain ⟨g0,cc,g1,g2⟩:=hbq
  refine ⟨g0,cc,g1,?_⟩
  cases g2 with
  | cons g3 g4 =>
   cases g4
   refine .cons ?_ .nil
   unfold R at g3 ⊢
   rw [e1];exact g3
 have hMq:M (σ2 1000).b=none:=by
  rw [e0]
  rcases hs.loc q _ hq with h1 | h1
  ·rw [hqn] at h1;cases h1
  exact h1.1
 have hMr:(σ2 1001).nil=true\/M (σ2 1001).b=none:=by
  rw [e1]
  exact (hs.loc r _ hr).imp id And.left
 have hne:(σ2 1001).nil=true\/(σ2 1000).b≠(σ2 1001).b:=by
  rw [e0,e1]
  rcases hs.inj q r _ _ hq hr hqr with h1 | h1 | h1
  ·rw [hqn] at h1;cases h1
  ·exact .inl h1
  exact .inr h1
 have hL:L2 (RA M σ2) (vs++[.one (.ptr 1000 0)]) (c.args.toList.map a.eval++caps'.toList):=by
  refine L2.append (hargs.mono fun x hx u hu=>G7 (r:=.av x) (List.all_eq_true.1 hdv x hx) hu) ?_
  generalize caps'.toList=cl at hcl2
  cases hcl2 with
  | cons h1 h2 =>
   cases h2
   refine .cons ?_ .nil
   have h1:_=Value.pointer (some ⟨(σ q).b,0,none⟩):=h1
   subst h1
   show Value.pointer (some ⟨(σ q).b,0,none⟩)=Value.pointer (some ⟨(σ2 1000).b,0,none⟩)
   rw [e0]
 have hd:Wt P o a w fun U w'=>∃ M' x,Fd w w' M M' (gB (σ q) (σ r))/\(x.nil=true\/((only (σ r) x.b\/w.heap.size<=x.b)/\M' x.b=none/\x.b≠(σ q).b))/\(∀ (σ':Nat->Loc) d,σ' d=x->BV M' σ' w' (σ q) (.cells [.own d sz len'] tyq))/\∀ σ',BV M' σ' w' x (.row sz len' F' tyr):=by
  refine .inr (.inr ⟨g,(c.args.toList.map a.eval++caps'.toList).toArray,?_,?_⟩)
  ·simp only [execOp,ho,Sem.run_bind,hres,Result.andThen_ok,invoke,happ]
   exact heg _ _
  refine (hW M σ2 w _ hs.imm hbq2 hMq (by rw [e1];exact hs.blk r _ hr) hMr hne hL).mono ?_
  rintro en w' ⟨U,rfl,M',x,h1,h2,h3,h4⟩
  rw [e0,e1] at h1 h2
  rw [e0] at h3
  exact ⟨U,rfl,M',x,h1,h2,h3,h4⟩
 refine hd.wp (fun U w' ⟨M',x,h1,h2,h3,h4⟩=>h M' _ _ w' (YI hX hK hok hq hr hs h1 h2 h3 h4)) (fun c' hc'=>by rw [ho] at hc';cases hc')
theorem Yz {K:List Nat} {ops:Array Oper} {o:Oper} {l:List Oper} {Kk:AS->Prop} {q r sz len len':Nat} {F F':Nat->Nat->Cl} {tyr tyq:TypeId} (S:AS) (hX:∀ k x,X k=some x->BO K k=true) (hK:J3 K r=true) (hc:fX P o s q r sz len F tyr tyq len' F') (hS:TP q r (.cells [.own r sz len'] tyq) (.row sz len' F' tyr) s=S)
  (h:AWL P rd N W0 X M0 ops l Kk S):AWL P rd N W0 X M0 ops (o::l) Kk s:=by
 subst hS
 intro M σ a w hs Q' hQ'
 refine wpListIn_step fun K0 hK' => ?_
 rw [if_pos (by simp [Region.wanted,hc.gd])]
 exact Uf hX hK hc hs fun M' σ' a' w' h1=>hK' _ _ (h M' σ' a' w' h1 Q' hQ')
theorem S3 {K:List Nat} (hm:P.follows .mixedOrders=true) {E:TypeId->Option (List Kd)} (hE:I4 P ⟨fun _=>none,E,fun _=>false,fun _=>none⟩) {id:Nat} {l:List Oper} (k:Nat) {o:Oper} (ho1:l[k]? = some o) (hk1:Nat.beq (k+1) l.length=true) (ow:List Nat) (qs:List (Nat×(Bool×Nat))) (tbl:List (Nat×FuncId×List Av×Ef)) (ts ns:List Nat) (cs:List Prop) (S1 S:AS) (htbl:G6 P tbl)
  (hr1:Nh P ⟨GZ tbl,E,BO ow,get qs⟩ N (l.take k) ts ns s=some (cs,S1)) (hd:Ua P ⟨GZ tbl,E,BO ow,get qs⟩ N (l.take k) s=true) (hc:Bs cs) (hms:lO (l.take k) o []=true) {q r sz len len':Nat} {F F':Nat->Nat->Cl} {tyr tyq:TypeId} (hX:∀ k x,X k=some x->BO K k=true) (hK:J3 K r=true) (hca:fX P o S1 q r sz len F tyr tyq len' F')
  (hS:TP q r (.cells [.own r sz len'] tyq) (.row sz len' F' tyr) S1=S) (h:Q .normal S):AWp P rd N W0 X M0 (.region id l.toArray true) Q s:=by
 have hl:l=l.take k++[o]:=by
  obtain ⟨hk,ho2⟩:=List.getElem?_eq_some_iff.1 ho1
  have hk2:=Nat.eq_of_beq_eq_true hk1
  have h3:l.drop (k+1)=[]:=List.drop_eq_nil_of_le (by omega)
  have h4:=List.take_append_drop k l
  rw [List.drop_eq_getElem_cons hk,h3,ho2] at h4
  exact h4.symm
 clear ho1 hk1
 generalize hl1:l.take k=l1 at *
 subst hl hS
 have hV:=htbl.env (O:=BO ow) (q:=get qs) hE
 simp only [lO,Bool.and_eq_true] at hms
 obtain ⟨⟨⟨hback,hk⟩,hlt⟩,hgs⟩:=hms
 have hguard:∀ x∈l1++[o],x.guard=none:=fun x hx=>by
  have:=List.all_eq_true.1 hgs x hx
  cases hg:x.guard with
  | none=>rfl
  | some _=>rw [hg] at this;cases this
 intro M σ a w hs
 unfold Nh at hr1
 split at hr1
 ·rename_i cs1 s1 h1
  simp only [Option.some.injEq,Prod.mk.injEq] at hr1
  obtain ⟨rfl,rfl⟩:=hr1
  obtain ⟨e1,hruns⟩:=Kn (s0:=s) l1 0 s s1 cs1 (fun j=>by rw [Nat.zero_add]) rfl h1 hc
  simp only [Nat.zero_add] at e1 hruns
  obtain ⟨hback1,hord⟩:=PG hd
  have hrep:∀ (n j:Nat),(Array.replicate n false).getD j false=false:=fun n j=>by
   by_cases hj':j<n
   ·simp [hj']
   simp [hj']
  have hs0:Sim N W0 X M0 M σ (get s.t) (get s.h) a { w with drawn:=w.drawn+1 }:=⟨hs.os,hs.tape,hs.output,hs.size,hs.old,hs.sub,hs.new,hs.pin,hs.defers,hs.room,hs.tmps,hs.imm,fun n b hb=>(hs.blk n b hb).mono (fun _ _ h=>h) (fun _ _=>rfl) (fun _=>rfl),hs.loc,hs.inj⟩
  have hinv:Wn P ⟨GZ tbl,E,BO ow,get qs⟩ N W0 X M0 l1 s (Array.replicate (l1++[o]).toArray.size false) a { w with drawn:=w.drawn+1 } :=
   ⟨M,σ,get s.t,get s.h,hs0,fun x=>⟨0,Nat.zero_le _,fun j o hj hd=>⟨fun hh=>(by rw [hrep] at hh;cases hh),fun hh=>absurd hh (by omega)⟩,rfl⟩,fun m=>⟨0,Nat.zero_le _,fun j o hj hd=>⟨fun hh=>(by rw [hrep] at hh;cases hh),fun hh=>absurd hh (by omega)⟩,rfl⟩⟩
  refine wpIn_region_any hm (dG (l2:=[]) hV hruns hback1 hord hback (fun j hj=>List.all_eq_true.1 hk j (List.mem_range.2 hj)) (fun i h3 h4=>by simp at h4;omega) (fun x hx=>hguard x (List.mem_append_left _ hx)) (fun f L a1 w1 hsz hall hcnt hsim => ?_) _ _ a _ (by simp) (fun j oj _ hd=>by rw [hrep] at hd;cases hd) (fun j _=>hrep _ j) (Nat.le_trans List.countP_le_length (by simp)) hinv)
  obtain ⟨M1,σ1,hs2⟩:=hsim
  rw [<- e1] at hs2
  have hs2:=FD hs2 ts ns
  have hok:(l1++[o]).toArray[l1.length]? = some o:=by simp
  unfold wpOpIn
  rw [hok]
  have hw:∀ ys,Region.wanted o ys=true:=fun ys=>by simp [Region.wanted,hguard o (by simp)]
  simp only [hw,if_true]
  refine Uf hX hK hca hs2 fun M' σ' a' w' h5 => ?_
  exact Z7 hback (by simp) hsz hall hcnt (fun x hx=>by cases hx) (fun _=>⟨_,M',σ',h,h5⟩) (fun u hu=>by cases hu)
 cases hr1
end
end
section
open Go.RowKit
structure Nc (b:AG):Prop where
 parts:b.Parts.length<20
 tracks:b.Tracks.length<20
 vias:b.Vias.length<20
 slots:b.Slots.length<20
 nets:(b.Nets.length:Int)<=1000000
 pins:∀ n∈b.Nets,(n.Pins.length:Int)<=1000000
 ted:∀ t∈b.Tracks,(t.Shape.Edges.length:Int)<=1000000
 sed:∀ s∈b.Slots,(s.Shape.Edges.length:Int)<=1000000
theorem Vc {b:AG} (h:Nc b) (k:Nat):(((BN b).getD k default).Shape.Edges.length:Int)<=1000000:=Ft (p:=fun t:AM=>(t.Shape.Edges.length:Int)<=1000000) (by decide) (fun x hx=>h.ted x (Ul.1 hx)) k
theorem Vk {b:AG} (h:Nc b) (k:Nat):(((CG b).getD k default).Shape.Edges.length:Int)<=1000000:=Ft (p:=fun t:Au=>(t.Shape.Edges.length:Int)<=1000000) (by decide) (fun x hx=>h.sed x (Wo.1 hx)) k
theorem KG {types:List AR} (h:B4 types) (name:ByteArray):((Be types name).1.Pads.length:Int)<=1000000:=by rw [Iw];exact IZ h name
def Gz (b:AG) (v:List (Ak×ByteArray)) (x:AE×BJ):AN:=AN.mk x.1.Id x.2.Name 1 (bif EC A2 v (Ak.mk x.1.Ref x.2.Name) then (v.getD (C8 A2 v (Ak.mk x.1.Ref x.2.Name)) default).2 else ⟨#[]⟩) (bif decide (x.2.Drill=0) then EA b x.1 else 1) (bif decide (x.2.Drill=0) then EA b x.1 else b.Layers) (E3 x.2.Shape (Cf x.1))
def cE (v:List (Ak×ByteArray)) (n:Bi):List (Ak×ByteArray):=n.Pins.foldl (fun v p=>GM A2 v p n.Name) v
def KC (b:AG):List (Ak×ByteArray):=b.Nets.reverse.foldl cE []
theorem Us (b:AG) (types:List AR):DV b types=(Af b types).map (Gz b (KC b)):=by
 have h2:∀ v K0,DU b types v K0 (Af b types).length 0 []=(Af b types).map (Gz b v):=fun v K0=>by
  have:=dN (Af b types) (fun acc x=>acc++[Gz b v x]) (DU b types v K0) id (fun x acc=>by rw [DU];rfl) (fun m x acc hx=>by rw [DU];rfl) (Af b types).length 0 [] (by omega)
  rw [this,List.drop_zero,Hy,List.nil_append];rfl
 have hrev:∀ x,x<b.Nets.reverse.length->b.Nets.getD (b.Nets.length-1-x) default=b.Nets.reverse.getD x default:=fun x hx=>by
  rw [List.length_reverse] at hx
  rw [List.getD_eq_getElem?_getD,List.getD_eq_getElem?_getD,List.getElem?_reverse hx]
 unfold DV
 have:=dN b.Nets.reverse cE (C5 b types) (fun v=>(Af b types).map (Gz b v)) (fun x acc=>by rw [C5];exact h2 _ _) (fun m x acc hx=>by
  rw [C5,hrev x hx]
  have h1:=Mi (b.Nets.reverse.getD x default).Pins (fun v p=>GM A2 v p (b.Nets.reverse.getD x default).Name) (HC b types acc x (C5 b types m (x+1))) (fun v _=>C5 b types m (x+1) v) (fun m v k=>by rw [HC,hrev x hx,Int.toNat_natCast]) (b.Nets.reverse.getD x default).Pins.length 0 ((((b.Nets.reverse.getD x default).Pins.length:Int)-0).toNat+1) acc rfl (Nat.zero_le _) (by omega)
  rw [List.drop_zero] at h1
  exact h1) b.Nets.length 0 [] (by rw [List.length_reverse];omega)
 rw [this,List.drop_zero];rfl
theorem M8 (b:AG) (types:List AR):(DV b types).length=(Af b types).length:=by rw [Us,List.length_map]
def Dz (s:AQ):AQ:=s
variable (b:AG) (v5_0':List Ao) (p at_:AC) (drill r:Int) (s:AQ) (v16 v21 v39 v58:Int) (v5_0:List Ao) (v76:Int)
def Js:CT:=(53,[.agg (AQ.c s)],.val [] (.av (.agg (AQ.c (Dz s)))))
abbrev Zh:List (Nat×Blk):=[(1,.cells [.i s.Kind,.own 5 7 s.Edges.length,.i s.R] 28),C7,(5,.row 7 s.Edges.length (AL AH.c s.Edges) 68)]
theorem iE (s:AQ) (h0:(s.Edges.length:Int)<=1000000):PuP 53 (Js s).2.1 (.av (.agg (AQ.c (Dz s)))):=by
 refine pwf Tryz.func53 fun W0 M0 => ?_
 refine AB<|rn ⟨Gj,[(1,.cells (AQ.c s) 28),C7]⟩<|AB ?_
 refine rs 5 (N2 s.Edges) ⟨Gj,(Zh s)⟩ (PI s.Edges au4)<|AF ?_
 refine BI (Cv.trans (A7 (⟨Gj,(Zh s)⟩) lr (.cons ⟨rfl,.cells _ (rr (.cons (.own _ _ au2) (rr .nil)))⟩ (.cons ⟨rfl,.refl _⟩ (.cons ⟨rfl,Ad 68 (Ay 7 AH.c s.Edges)⟩ .nil)))) (Cv.refl _))<|AB ?_
 refine rn ⟨[(2,tP 2 0)],[(2,.cells [.i s.Kind,.own 5 7 s.Edges.length,.i s.R] 28),(5,.row 7 s.Edges.length (AL AH.c s.Edges) 68)]⟩<|Ab ?_
 exact yl (Cv.trans (vf 5 7 s.Edges.length (AL AH.c s.Edges) 68 hk0 (.cons ⟨rfl,rfl⟩ .nil)) (Cv.refl _)) (.av (.agg (AQ.c s))) (Ae (by rfl))
theorem Tp (s:AQ) (h0:(s.Edges.length:Int)<=1000000):OKc (Js s):=cPu<|iE s h0
def B5 (p:AC) (r:Int):AQ:=AQ.mk 1 [AH.mk 1 p p (AC.mk 0 0)] r
def GR:CT:=(38,[.agg (AC.c p),.one (.i r)],.val [] (.av (.agg (AQ.c (B5 p r)))))
abbrev ZL:List Cl:=[.i 1,.list true 7 1 (Ap 7 1 [.i 1,.i p.X,.i p.Y,.i p.X,.i p.Y,.i 0,.i 0]),.i r]
theorem mY (p:AC) (r:Int):PuP 38 (GR p r).2.1 (.av (.agg (AQ.c (B5 p r)))):=by
 refine pwf Tryz.func38 fun W0 M0 => ?_
 refine AB<|rn ⟨[(1,tI r),(2,tP 2 0),(4,tP 4 0)],[(2,.cells (AC.c p) 66),LI]⟩<|AB ?_
 refine rn ⟨[(4,tP 4 0)],[(4,.cells (ZL p r) 28)]⟩<|Ab ?_
 exact xl (.av (.agg (ZL p r))) (Du (y:=.av (.agg [.i 1,lst 7 AH.c [AH.mk 1 p p (AC.mk 0 0)],.i r])) (.av (.agg (rr (.cons (BZ true (Al (c:=AH.c) (xs:=([AH.mk 1 p p (AC.mk 0 0)]:List AH)) rfl kr)) (rr .nil))))) (by rfl))
theorem Ji (p:AC) (r:Int):OKc (GR p r):=cPu<|mY p r
def Z0D:AQ:=B5 ((A9 b).getD v39.toNat default).At ((A9 b).getD v39.toNat default).R
def Z0E:AQ:=((BN b).getD v16.toNat default).Shape
def L5 (b:AG) (types:(List AR)) (out:List AN) (v16:Int) (K0:List AN->Int->(List AN)):Nat->List AN->Int->(List AN)
 | 0,_,_=>default
 | n1+1,out',v39=>bif decide ((v39:Int)<(((A9 b).length:Nat):Int)) then ((L5 b types out v16 K0 n1) (out'++[AN.mk ((A9 b).getD v39.toNat default).Id (⟨#[]⟩) 3 ((A9 b).getD v39.toNat default).Net ((A9 b).getD v39.toNat default).From ((A9 b).getD v39.toNat default).To (Z0D b v39)]) (v39+1)) else out'
def Iy (b:AG) (types:(List AR)):Nat->List AN->Int->(List AN)
 | 0,_,_=>default
 | n0+1,out,v16=>bif decide ((v16:Int)<(((BN b).length:Nat):Int)) then ((Iy b types n0) (out++[AN.mk ((BN b).getD v16.toNat default).Id (⟨#[]⟩) 2 ((BN b).getD v16.toNat default).Net ((BN b).getD v16.toNat default).Layer ((BN b).getD v16.toNat default).Layer (Dz (Z0E b v16))]) (v16+1)) else (L5 b types out v16 (Iy b types n0) (((((A9 b).length:Nat):Int)-0).toNat+1) out 0)
def D4 (b:AG) (types:(List AR)):(List AN):=Iy b types (((((BN b).length:Nat):Int)-0).toNat+1) (DV b types) 0
abbrev QK (out:List AN) (b:AG) (v16:Int):=out++[AN.mk ((BN b).getD v16.toNat default).Id (⟨#[]⟩) 2 ((BN b).getD v16.toNat default).Net ((BN b).getD v16.toNat default).Layer ((BN b).getD v16.toNat default).Layer (Dz (Z0E b v16))]
abbrev QJ (out':List AN) (b:AG) (v39:Int):=out'++[AN.mk ((A9 b).getD v39.toNat default).Id (⟨#[]⟩) 3 ((A9 b).getD v39.toNat default).Net ((A9 b).getD v39.toNat default).From ((A9 b).getD v39.toNat default).To (Z0D b v39)]
abbrev CM:Nat×Blk:=(2,.cells (AG.c b) 41)
abbrev Ki:Nat×Blk:=(14,.row 6 (BN b).length (AL AM.c (BN b)) 150)
abbrev Kh:Nat×Blk:=(37,.row 8 (A9 b).length (AL Ag.c (A9 b)) 154)
abbrev Ka:Nat×Tv:=(15,tI (((BN b).length:Nat):Int))
abbrev KZ:Nat×Tv:=(38,tI (((A9 b).length:Nat):Int))
abbrev KY:Nat×Tv:=(14,tO (.own 14 6 (BN b).length))
abbrev KX:Nat×Tv:=(37,tO (.own 37 8 (A9 b).length))
theorem qAll (b:AG) (types:(List AR)) (hb:Nc b) (ht:B4 types):Fr Tryz.prog 14 [.agg (AG.c b),.one (lst 3 AR.c types)] (.row 9 (D4 b types).length (AL AN.c (D4 b types)) 61) (fun d=>tO (.own d 9 (D4 b types).length)):=by
 refine Cu Tryz.func14 rfl kr (DQ _ _) fun W0 M0 => ?_
 have hpl:=Hp hb.parts ht
 have hp1:=M8 b types
 have ht1:=Um b
 have hv1:=Q7 b
 have hb1:=hb.tracks
 have hb2:=hb.vias
 refine AB<|rn ⟨[(Cn types),(2,tP 2 0)],[(CM b)]⟩<|AB ?_
 refine rs 12 (ceI [.agg (AG.c b),.one (lst 3 AR.c types)] (lP b types)) ⟨[(2,tP 2 0),(5,tO (.own 12 9 (DV b types).length))],[(CM b),(12,.row 9 (DV b types).length (AL AN.c (DV b types)) 61)]⟩ (Cy (nI b types au15 au15 au15 au15 au15) (.cons (.agg (rr9 (rr3 (.cons (.any _) (rr (rr .nil)))))) (.cons (AvE.refl _) .nil)))<|AF ?_
 refine AB<|AB ?_
 refine rs 14 (Xv b) ⟨[(2,tP 2 0),(5,tO (.own 12 9 (DV b types).length)),(KY b),(Ka b),(16,tI 0)],[(CM b),(12,.row 9 (DV b types).length (AL AN.c (DV b types)) 61),(Ki b)]⟩ (bI b au15)<|AF<|AO ?_
 refine A0 (ι:=Nat×List AN×Int) (fun x=>⟨[(2,tP 2 0),(5,tO (.own 12 9 x.2.1.length)),(KY b),(Ka b),(16,tI x.2.2)],[(CM b),(12,.row 9 x.2.1.length (AL AN.c x.2.1) 61),(Ki b)]⟩) (fun x=>((((BN b).length:Nat):Int)-x.2.2).toNat<x.1/\(0<=x.2.2/\(x.2.2<=(((BN b).length:Nat):Int)\/x.2.2=0)/\(x.2.1.length:Int)<=((DV b types).length:Int)+1*(x.2.2-0))/\Iy b types x.1 x.2.1 x.2.2=D4 b types) (fun x=>x.1) ?_ (((((BN b).length:Nat):Int)-0).toNat+1,DV b types,0) ⟨Nat.lt_succ_self _,⟨ax0,ax0,ax0⟩,(by simp only [D4,cond_true,cond_false])⟩
 rintro ⟨n0,out,v16⟩ ⟨hm0,hinv0,hF0⟩
 try dsimp only at hm0 hinv0 hF0
 cases n0 with | zero=>exact nz hm0 | succ n0 => ?_
 refine AB<|rn ⟨[(2,tP 2 0),(5,tO (.own 12 9 out.length)),(KY b),(Ka b),(16,tI v16),(17,tB (decide ((v16:Int)<(((BN b).length:Nat):Int))))],[(CM b),(12,.row 9 out.length (AL AN.c out) 61),(Ki b)]⟩<|AB ?_
 refine AW _ rfl (fun h1 => ?_) (fun h1 => ?_)
 ·have g1:=oT h1
  refine AV<|AF ?_
  refine AB<|AO<|AB ?_
  refine rc [] [0<=(v16:Int)/\(v16:Int)<(((BN b).length:Nat):Int),v16.toNat<(BN b).length] ⟨[(2,tP 2 0),(5,tO (.own 12 9 out.length)),(7,tP 7 0),(KY b),(Ka b),(16,tI v16)],[(CM b),(7,.cells (AM.c ((BN b).getD v16.toNat default)) 150),(12,.row 9 out.length (AL AN.c out) 61),(Ki b)]⟩ .nil (.cons au0 (.cons au0 .nil))<|AF ?_
  refine dw [] [(31,Js (Z0E b v16))] [Aq (Js (Z0E b v16)).2.1,out.length=out.length,out.length+1<=maxLen,(out.length+1)*104<=140737488355328] ⟨[(2,tP 2 0),(5,tO (.own 34 9 (out.length+1))),(KY b),(Ka b),(16,tI v16)],[(CM b),(Ki b),(34,.row 9 (out.length+1) (fun i_ j_=>if i_<out.length then (AL AN.c out) i_ j_ else (Ap 9 1 [.i ((BN b).getD v16.toNat default).Id,.s (⟨#[]⟩),.i 2,.s ((BN b).getD v16.toNat default).Net,.i ((BN b).getD v16.toNat default).Layer,.i ((BN b).getD v16.toNat default).Layer,.i (Dz (Z0E b v16)).Kind,lst 7 AH.c (Dz (Z0E b v16)).Edges,.i (Dz (Z0E b v16)).R]) (i_-out.length) j_) 61)]⟩ (.cons (Tp (Z0E b v16) au15) .nil) (.cons rfl (.cons rfl (.cons au3 (.cons au3 .nil))))<|BA<|AF ?_
  refine BI (Cv.trans (A7 (⟨[(2,tP 2 0),(5,tO (.own 34 9 (QK out b v16).length)),(KY b),(Ka b),(16,tI v16)],[(CM b),(Ki b),(34,.row 9 (QK out b v16).length (AL AN.c (QK out b v16)) 61)]⟩) (.cons ⟨rfl,.refl _⟩ (.cons ⟨rfl,.av (.one (.own _ _ au2))⟩ lr)) (.cons ⟨rfl,.refl _⟩ (.cons ⟨rfl,.refl _⟩ (.cons ⟨rfl,Ad 61 (A8 (Ay 9 AN.c out) (Al (c:=AN.c) (xs:=([AN.mk ((BN b).getD v16.toNat default).Id (⟨#[]⟩) 2 ((BN b).getD v16.toNat default).Net ((BN b).getD v16.toNat default).Layer ((BN b).getD v16.toNat default).Layer (Dz (Z0E b v16))]:List AN)) rfl kr))⟩ .nil)))) (Cv.refl _)) ?_
  refine rg ⟨[(2,tP 2 0),(5,tO (.own 34 9 (QK out b v16).length)),(KY b),(Ka b),(16,tI (W64 (v16+1)))],[(CM b),(Ki b),(34,.row 9 (QK out b v16).length (AL AN.c (QK out b v16)) 61)]⟩ ?_
  (try rw [(show W64 (v16+1)=v16+1 from Ah oM au5)])
  refine AF ?_
  refine ⟨(n0,out++[AN.mk ((BN b).getD v16.toNat default).Id (⟨#[]⟩) 2 ((BN b).getD v16.toNat default).Net ((BN b).getD v16.toNat default).Layer ((BN b).getD v16.toNat default).Layer (Dz (Z0E b v16))],v16+1),⟨?_,?_,(by rw [<- hF0];simp only [Iy,h1,cond_true,cond_false])⟩,Nat.lt_succ_self _,Cv.trans (vr 34 12 hk0) (Cv.trans (vk [2,5,14,15,16] [2,12,14]) (Aw kr))⟩
  ·show ((((BN b).length:Nat):Int)-(v16+1)).toNat<n0;omega
  exact ⟨ax0,ax0,ax0⟩
 have g1:=oF h1
 refine A3<|Ar ?_
 refine Ar<|A4 ?_
 refine AF<|AB<|AB ?_
 refine rs 37 (dY b) ⟨[(5,tO (.own 12 9 out.length)),(KX b),(KZ b),(39,tI 0)],[(12,.row 9 out.length (AL AN.c out) 61),(Kh b)]⟩ (bG b au15)<|AF<|AO ?_
 refine A0 (ι:=Nat×List AN×Int) (fun x=>⟨[(5,tO (.own 12 9 x.2.1.length)),(KX b),(KZ b),(39,tI x.2.2)],[(12,.row 9 x.2.1.length (AL AN.c x.2.1) 61),(Kh b)]⟩) (fun x=>((((A9 b).length:Nat):Int)-x.2.2).toNat<x.1/\(0<=x.2.2/\(x.2.2<=(((A9 b).length:Nat):Int)\/x.2.2=0)/\(x.2.1.length:Int)<=(out.length:Int)+1*(x.2.2-0))/\L5 b types out v16 (Iy b types n0) x.1 x.2.1 x.2.2=D4 b types) (fun x=>x.1) ?_ (((((A9 b).length:Nat):Int)-0).toNat+1,out,0) ⟨Nat.lt_succ_self _,⟨ax0,ax0,ax0⟩,(by rw [<- hF0];simp only [Iy,h1,cond_true,cond_false])⟩
 rintro ⟨n1,out',v39⟩ ⟨hm1,hinv1,hF1⟩
 try dsimp only at hm1 hinv1 hF1
 cases n1 with | zero=>exact nz hm1 | succ n1 => ?_
 refine AB<|rn ⟨[(5,tO (.own 12 9 out'.length)),(KX b),(KZ b),(39,tI v39),(40,tB (decide ((v39:Int)<(((A9 b).length:Nat):Int))))],[(12,.row 9 out'.length (AL AN.c out') 61),(Kh b)]⟩<|AB ?_
 refine AW _ rfl (fun h2 => ?_) (fun h2 => ?_)
 ·have g2:=oT h2
  refine AV<|AF ?_
  refine AB<|AO<|AB ?_
  refine rc [] [0<=(v39:Int)/\(v39:Int)<(((A9 b).length:Nat):Int),v39.toNat<(A9 b).length] ⟨[(5,tO (.own 12 9 out'.length)),(9,tP 9 0),(KX b),(KZ b),(39,tI v39)],[(9,.cells (Ag.c ((A9 b).getD v39.toNat default)) 154),(12,.row 9 out'.length (AL AN.c out') 61),(Kh b)]⟩ .nil (.cons au0 (.cons au0 .nil))<|AF ?_
  refine dw [] [(56,GR ((A9 b).getD v39.toNat default).At ((A9 b).getD v39.toNat default).R)] [Aq (GR ((A9 b).getD v39.toNat default).At ((A9 b).getD v39.toNat default).R).2.1,out'.length=out'.length,out'.length+1<=maxLen,(out'.length+1)*104<=140737488355328] ⟨[(5,tO (.own 59 9 (out'.length+1))),(KX b),(KZ b),(39,tI v39)],[(Kh b),(59,.row 9 (out'.length+1) (fun i_ j_=>if i_<out'.length then (AL AN.c out') i_ j_ else (Ap 9 1 [.i ((A9 b).getD v39.toNat default).Id,.s (⟨#[]⟩),.i 3,.s ((A9 b).getD v39.toNat default).Net,.i ((A9 b).getD v39.toNat default).From,.i ((A9 b).getD v39.toNat default).To,.i (Z0D b v39).Kind,lst 7 AH.c (Z0D b v39).Edges,.i (Z0D b v39).R]) (i_-out'.length) j_) 61)]⟩ (.cons (Ji ((A9 b).getD v39.toNat default).At ((A9 b).getD v39.toNat default).R) .nil) (.cons rfl (.cons rfl (.cons au3 (.cons au3 .nil))))<|BA<|AF ?_
  refine BI (Cv.trans (A7 (⟨[(5,tO (.own 59 9 (QJ out' b v39).length)),(KX b),(KZ b),(39,tI v39)],[(Kh b),(59,.row 9 (QJ out' b v39).length (AL AN.c (QJ out' b v39)) 61)]⟩) (.cons ⟨rfl,.av (.one (.own _ _ au2))⟩ lr) (.cons ⟨rfl,.refl _⟩ (.cons ⟨rfl,Ad 61 (A8 (Ay 9 AN.c out') (Al (c:=AN.c) (xs:=([AN.mk ((A9 b).getD v39.toNat default).Id (⟨#[]⟩) 3 ((A9 b).getD v39.toNat default).Net ((A9 b).getD v39.toNat default).From ((A9 b).getD v39.toNat default).To (Z0D b v39)]:List AN)) rfl kr))⟩ .nil))) (Cv.refl _)) ?_
  refine rg ⟨[(5,tO (.own 59 9 (QJ out' b v39).length)),(KX b),(KZ b),(39,tI (W64 (v39+1)))],[(Kh b),(59,.row 9 (QJ out' b v39).length (AL AN.c (QJ out' b v39)) 61)]⟩ ?_
  (try rw [(show W64 (v39+1)=v39+1 from Ah oM au5)])
  refine AF ?_
  refine ⟨(n1,out'++[AN.mk ((A9 b).getD v39.toNat default).Id (⟨#[]⟩) 3 ((A9 b).getD v39.toNat default).Net ((A9 b).getD v39.toNat default).From ((A9 b).getD v39.toNat default).To (Z0D b v39)],v39+1),⟨?_,?_,(by rw [<- hF1];simp only [L5,h2,cond_true,cond_false])⟩,Nat.lt_succ_self _,Cv.trans (vr 59 12 hk0) (Cv.trans (vk [5,37,38,39] [12,37]) (Aw kr))⟩
  ·show ((((A9 b).length:Nat):Int)-(v39+1)).toNat<n1;omega
  exact ⟨ax0,ax0,ax0⟩
 refine A3<|Ar ?_
 refine Ar<|A4 ?_
 refine AF<|AB ?_
 refine rn ⟨[(4,tO (.own 12 9 out'.length))],[(12,.row 9 out'.length (AL AN.c out') 61)]⟩<|Ab ?_
 exact xl (tO (.own 12 9 out'.length)) (frE (c:=AN.c) (xs:=out') (by rw [<- hF1];first | (simp only [L5,h2,cond_true,cond_false] <;> rfl)) kr)
def EB (l:(List Ao)) (at_:AC) (drill:Int) (from_:Int) (to_:Int):(List Ao):=l++[Ao.mk (B5 at_ (W64 (Int.tdiv drill 2))) from_ to_ true]
abbrev MD:=B5 at_ (W64 (Int.tdiv drill 2))
theorem XH (l:(List Ao)) (at_:AC) (drill:Int) (from_:Int) (to_:Int) (hl:l.length<30000000):WrA Tryz.prog 60 [.agg (AC.c at_),.one (.i drill),.one (.i from_),.one (.i to_)] 6 l.length (AL Ao.c l) 70 53 (EB l at_ drill from_ to_).length (AL Ao.c (EB l at_ drill from_ to_)):=by
 refine VZ Tryz.func60 rfl kr kr fun W0 M0 X hX => ?_
 refine AB<|rn ⟨[(1,tI drill),(2,tI from_),(3,tI to_),(4,tP 1000 0),(5,tP 5 0)],[(5,.cells (AC.c at_) 66),(1000,.cells [.own 1001 6 l.length] 53),(1001,.row 6 l.length (AL Ao.c l) 70)]⟩ ?_
 refine dw [] [(13,GR at_ (W64 (Int.tdiv drill 2)))] [(2:Int)≠0,Aq (GR at_ (W64 (Int.tdiv drill 2))).2.1,l.length=l.length,l.length+1<=maxLen,(l.length+1)*64<=140737488355328] ⟨[],[(18,.row 6 (l.length+1) (fun i_ j_=>if i_<l.length then (AL Ao.c l) i_ j_ else (Ap 6 1 [.i (MD at_ drill).Kind,lst 7 AH.c (MD at_ drill).Edges,.i (MD at_ drill).R,.i from_,.i to_,.b true]) (i_-l.length) j_) 70),(1000,.cells [.own 18 6 (l.length+1)] 53)]⟩ (.cons (Ji at_ (W64 (Int.tdiv drill 2))) .nil) (.cons au17 (.cons rfl (.cons rfl (.cons au3 (.cons au3 .nil))))) ?_
 exact yn (Cv.trans (A7 (⟨[],[(18,.row 6 (l++[Ao.mk (MD at_ drill) from_ to_ true]).length (AL Ao.c (l++[Ao.mk (MD at_ drill) from_ to_ true])) 70),(1000,.cells [.own 18 6 (l++[Ao.mk (MD at_ drill) from_ to_ true]).length] 53)]⟩) .nil (.cons ⟨rfl,Ad 70 (A8 (Ay 6 Ao.c l) (Al (c:=Ao.c) (xs:=([Ao.mk (B5 at_ (W64 (Int.tdiv drill 2))) from_ to_ true]:List Ao)) rfl kr))⟩ (.cons ⟨rfl,.cells _ (.cons (.own _ _ au2) .nil)⟩ .nil))) (Cv.refl _)) (.tup []) ⟨18,.row 6 (l++[Ao.mk (B5 at_ (W64 (Int.tdiv drill 2))) from_ to_ true]).length (AL Ao.c (l++[Ao.mk (B5 at_ (W64 (Int.tdiv drill 2))) from_ to_ true])) 70,by kernel_rfl,by kernel_rfl,by kernel_rfl,Da (by rfl)⟩
theorem NU (l:List Ao) (a:AC) (x f t:Int):(EB l a x f t).length=l.length+1:=by unfold EB;rw [List.length_append];rfl
theorem IR (c:Bool) (l:List Ao) (a:AC) (x f t:Int):((bif c then EB l a x f t else l).length:Int)<=(l.length:Int)+1:=by
 cases c with
 | true=>rw [cond_true,NU];omega
 | false=>rw [cond_false];omega
theorem Jh (l:List Ao) (a:AC) (x f t:Int):((EB l a x f t).length:Int)<=(l.length:Int)+1:=by rw [NU];omega
def H6 (b:AG) (types:(List AR)) (v5_0:List Ao) (v21:Int) (K0:List Ao->Int->(List Ao)):Nat->List Ao->Int->(List Ao)
 | 0,_,_=>default
 | n1+1,v5_0',v35=>bif decide ((v35:Int)<((Be types ((BH b).getD v21.toNat default).Type').1.Pads.length:Int)) then ((H6 b types v5_0 v21 K0 n1) (bif !decide ((((Be types ((BH b).getD v21.toNat default).Type').1.Pads.getD v35.toNat default).Drill:Int)=0) then (EB v5_0' (Ac (Cf ((BH b).getD v21.toNat default)) ((Be types ((BH b).getD v21.toNat default).Type').1.Pads.getD v35.toNat default).At) ((Be types ((BH b).getD v21.toNat default).Type').1.Pads.getD v35.toNat default).Drill 1 b.Layers) else v5_0') (v35+1)) else (K0 v5_0' (v21+1))
def H5 (b:AG) (types:(List AR)) (v5_0:List Ao) (v21:Int) (v5_0':List Ao) (v58:Int) (K0:List Ao->Int->(List Ao)) (K1:List Ao->Int->(List Ao)):Nat->List Ao->Int->(List Ao)
 | 0,_,_=>default
 | n3+1,v5_0'',v76=>bif decide ((v76:Int)<(((CG b).length:Nat):Int)) then ((H5 b types v5_0 v21 v5_0' v58 K0 K1 n3) (v5_0''++[Ao.mk (Dz ((CG b).getD v76.toNat default).Shape) 1 b.Layers false]) (v76+1)) else v5_0''
def Fk (b:AG) (types:(List AR)) (v5_0:List Ao) (v21:Int) (K0:List Ao->Int->(List Ao)):Nat->List Ao->Int->(List Ao)
 | 0,_,_=>default
 | n2+1,v5_0',v58=>bif decide ((v58:Int)<(((A9 b).length:Nat):Int)) then ((Fk b types v5_0 v21 K0 n2) (EB v5_0' ((A9 b).getD v58.toNat default).At ((A9 b).getD v58.toNat default).Drill ((A9 b).getD v58.toNat default).From ((A9 b).getD v58.toNat default).To) (v58+1)) else (H5 b types v5_0 v21 v5_0' v58 K0 (Fk b types v5_0 v21 K0 n2) (((((CG b).length:Nat):Int)-0).toNat+1) v5_0' 0)
def D7 (b:AG) (types:(List AR)):Nat->List Ao->Int->(List Ao)
 | 0,_,_=>default
 | n0+1,v5_0,v21=>bif decide ((v21:Int)<(((BH b).length:Nat):Int)) then (H6 b types v5_0 v21 (D7 b types n0) ((((Be types ((BH b).getD v21.toNat default).Type').1.Pads.length:Int)-0).toNat+1) v5_0 0) else (Fk b types v5_0 v21 (D7 b types n0) (((((A9 b).length:Nat):Int)-0).toNat+1) v5_0 0)
def FN (b:AG) (types:(List AR)):(List Ao):=D7 b types (((((BH b).length:Nat):Int)-0).toNat+1) ([]:List Ao) 0
abbrev HM (types:List AR) (b:AG) (v21:Int):=Be types ((BH b).getD v21.toNat default).Type'
abbrev Nd (v5_0':List Ao) (b:AG) (v21:Int) (types:List AR) (v35:Int):=EB v5_0' (Ac (Cf ((BH b).getD v21.toNat default)) ((HM types b v21).1.Pads.getD v35.toNat default).At) ((HM types b v21).1.Pads.getD v35.toNat default).Drill 1 b.Layers
abbrev VR (v5_0':List Ao) (b:AG) (v58:Int):=EB v5_0' ((A9 b).getD v58.toNat default).At ((A9 b).getD v58.toNat default).Drill ((A9 b).getD v58.toNat default).From ((A9 b).getD v58.toNat default).To
abbrev MS:Nat×Blk:=(56,.row 8 (A9 b).length (AL Ag.c (A9 b)) 154)
abbrev Zk:List (Nat×Blk):=[(CM b),(5,.cells [.own 100000 6 (VR v5_0' b v58).length] 53),(MS b),(100000,.row 6 (VR v5_0' b v58).length (AL Ao.c (VR v5_0' b v58)) 70)]
abbrev kW:Cl:=.clo 60 1 (BK [.ptr 5 0])
abbrev J9:Nat×Tv:=(6,tO kW)
abbrev E6:Nat×Blk:=(19,.row 7 (BH b).length (AL AE.c (BH b)) 160)
abbrev QH:Nat×Tv:=(20,tI (((BH b).length:Nat):Int))
abbrev QG:Nat×Tv:=(19,tO (.own 19 7 (BH b).length))
abbrev Hh:Nat×Blk:=(8,.cells (AE.c ((BH b).getD v21.toNat default)) 160)
abbrev J7:Nat×Blk:=(100000,.row 6 v5_0'.length (AL Ao.c v5_0') 70)
abbrev Zr:Nat×Tv:=(56,tO (.own 56 8 (A9 b).length))
abbrev Zv:Nat×Tv:=(57,tI (((A9 b).length:Nat):Int))
abbrev OD (t_:List (Nat×Tv)):List (Nat×Tv):=(2,tP 2 0)::(5,tP 5 0)::J9::(Zr b)::(Zv b)::t_
abbrev Z2:List (Nat×Tv):=(OD b [(58,tI v58),(62,tO kW),(64,.av (.agg (AC.c ((A9 b).getD v58.toNat default).At))),(66,tI ((A9 b).getD v58.toNat default).Drill),(68,tI ((A9 b).getD v58.toNat default).From),(70,tI ((A9 b).getD v58.toNat default).To)])
abbrev Ra:=Dz ((CG b).getD v76.toNat default).Shape
abbrev MT:=[Ao.mk (Ra b v76) 1 b.Layers false]
abbrev HY:Nat×Blk:=(5,.cells [.own 100000 6 v5_0'.length] 53)
abbrev VT (types:List AR) (b:AG) (v21:Int):Nat×Tv:=(34,tI ((HM types b v21).1.Pads.length:Int))
abbrev VQ (types:List AR) (b:AG) (v21:Int):Nat×Tv:=(33,tO (lst 7 BJ.c (HM types b v21).1.Pads))
abbrev Kg:Nat×Blk:=(74,.row 4 (CG b).length (AL Au.c (CG b)) 165)
abbrev Zq:Nat×Tv:=(75,tI (((CG b).length:Nat):Int))
abbrev Zn:Nat×Tv:=(74,tO (.own 74 4 (CG b).length))
abbrev Ok:Nat×Blk:=(100000,.row 6 v5_0.length (AL Ao.c v5_0) 70)
abbrev Of:Nat×Blk:=(5,.cells [.own 100000 6 v5_0.length] 53)
abbrev ZS:Nat×Blk:=(100000,.row 6 ([]:List Ao).length (AL Ao.c ([]:List Ao)) 70)
abbrev IA (types:List AR) (b:AG) (v21:Int) (t_:List (Nat×Tv)):List (Nat×Tv):=(Cn types)::(2,tP 2 0)::(5,tP 5 0)::J9::(8,tP 8 0)::(QG b)::(QH b)::(21,tI v21)::(VQ types b v21)::(VT types b v21)::t_
abbrev KJ (types:List AR) (b:AG) (t_:List (Nat×Tv)):List (Nat×Tv):=(Cn types)::(2,tP 2 0)::(5,tP 5 0)::J9::(QG b)::(QH b)::t_
abbrev MB (t_:List (Nat×Tv)):List (Nat×Tv):=(2,tP 2 0)::(5,tP 5 0)::(Zn b)::(Zq b)::t_
abbrev ZJ (v35:Int) (b:AG) (v21:Int) (types:List AR) (t_:List (Nat×Tv)):List (Nat×Tv):=(35,tI v35)::(42,tO kW)::(47,.av (.agg (AC.c (Ac (Cf ((BH b).getD v21.toNat default)) ((HM types b v21).1.Pads.getD v35.toNat default).At))))::(49,tI ((HM types b v21).1.Pads.getD v35.toNat default).Drill)::t_
theorem mH (b:AG) (types:(List AR)) (hb:Nc b) (ht:B4 types):Fr Tryz.prog 17 [.agg (AG.c b),.one (lst 3 AR.c types)] (.row 6 (FN b types).length (AL Ao.c (FN b types)) 70) (fun d=>tO (.own d 6 (FN b types).length)):=by
 refine Cu Tryz.func17 rfl kr (DQ _ _) fun W0 M0 => ?_
 have ht1:=Wq b
 have hv1:=Q7 b
 have hs1:=Wp b
 have hb1:=hb.parts
 have hb2:=hb.vias
 have hb3:=hb.slots
 refine AB<|rn ⟨[(Cn types),(2,tP 2 0)],[(CM b)]⟩<|AB ?_
 refine rn ⟨(H9 types []),[(CM b),(5,.cells [vN] 53)]⟩<|AB ?_
 refine rn ⟨(H9 types [J9]),[(CM b),(5,.cells [vN] 53)]⟩ ?_
 refine AB<|AB ?_
 refine rs 19 (eF b) ⟨(KJ types b [(21,tI 0)]),[(CM b),(5,.cells [vN] 53),(E6 b)]⟩ (iR b au15)<|AF<|AO ?_
 refine BI (Cv.trans (wg (⟨(KJ types b [(21,tI 0)]),[(100000,.row 6 0 (fun _ _=>default) 70),(CM b),(5,.cells [.own 100000 6 0] 53),(E6 b)]⟩) 100000 6 (fun _ _=>default) 70 [] [(5,[0])] (K:=[]) (fun k x h=>by cases h)) (Cv.trans (A7 (⟨(KJ types b [(21,tI 0)]),[ZS,(CM b),(5,.cells [.own 100000 6 ([]:List Ao).length] 53),(E6 b)]⟩) lr (.cons ⟨rfl,Ad 70 (B3 6 (fun _ _=>default) Ao.c)⟩ (.cons ⟨rfl,.refl _⟩ (.cons ⟨rfl,.cells _ (.cons (.own _ _ au2) .nil)⟩ lr)))) (Cv.trans (ck (⟨(KJ types b [(21,tI 0)]),[(CM b),(5,.cells [.own 100000 6 ([]:List Ao).length] 53),(E6 b),ZS]⟩)) (Cv.refl _)))) ?_
 refine A0 (ι:=Nat×List Ao×Int) (fun x=>⟨(KJ types b [(21,tI x.2.2)]),[(CM b),(5,.cells [.own 100000 6 x.2.1.length] 53),(E6 b),(100000,.row 6 x.2.1.length (AL Ao.c x.2.1) 70)]⟩) (fun x=>((((BH b).length:Nat):Int)-x.2.2).toNat<x.1/\((x.2.1.length:Int)<=1000000*x.2.2/\0<=x.2.2/\(x.2.2<=(((BH b).length:Nat):Int)\/x.2.2=0))/\D7 b types x.1 x.2.1 x.2.2=FN b types) (fun x=>x.1) ?_ (((((BH b).length:Nat):Int)-0).toNat+1,([]:List Ao),0) ⟨Nat.lt_succ_self _,⟨ax0,ax0,ax0⟩,(by simp only [FN,cond_true,cond_false])⟩
 rintro ⟨n0,v5_0,v21⟩ ⟨hn,hinv,hF⟩
 have hm0:=hn;have hinv0:=hinv;have hF0:=hF;try dsimp only at hm0 hinv0 hF0
 clear hn hinv hF
 cases n0 with
 | zero=>exact absurd hm0 (Nat.not_lt_zero _)
 | succ n0 =>
  refine AB<|rn ⟨(KJ types b [(21,tI v21),(22,tB (decide ((v21:Int)<(((BH b).length:Nat):Int))))]),[(CM b),(Of v5_0),(E6 b),(Ok v5_0)]⟩<|AB ?_
  refine AW _ rfl (fun h1 => ?_) (fun h1 => ?_)
  ·have g1:=oT h1
   refine AV<|AF ?_
   refine AB<|AO<|AB ?_
   refine rc [] [0<=(v21:Int)/\(v21:Int)<(((BH b).length:Nat):Int),v21.toNat<(BH b).length] ⟨(H9 types [J9,(8,tP 8 0),(QG b),(QH b),(21,tI v21)]),[(CM b),(Of v5_0),(Hh b v21),(E6 b),(Ok v5_0)]⟩ .nil (.cons au0 (.cons au0 .nil))<|AF<|AB ?_
   refine rs 29 (jZ types ((BH b).getD v21.toNat default).Type') ⟨(H9 types [J9,(8,tP 8 0),(9,tP 9 0),(QG b),(QH b),(21,tI v21)]),[(CM b),(Of v5_0),(Hh b v21),(9,.cells (AR.c (HM types b v21).1) 82),(E6 b),(Ok v5_0)]⟩ (lB types ((BH b).getD v21.toNat default).Type' au15)<|AF<|AB ?_
   refine rn ⟨(IA types b v21 [(35,tI 0)]),[(CM b),(Of v5_0),(Hh b v21),(E6 b),(Ok v5_0)]⟩<|AO ?_
   refine A0 (ι:=Nat×List Ao×Int) (fun x=>⟨(IA types b v21 [(35,tI x.2.2)]),[(CM b),(5,.cells [.own 100000 6 x.2.1.length] 53),(Hh b v21),(E6 b),(100000,.row 6 x.2.1.length (AL Ao.c x.2.1) 70)]⟩) (fun x=>(((Be types ((BH b).getD v21.toNat default).Type').1.Pads.length:Int)-x.2.2).toNat<x.1/\((x.2.1.length:Int)<=1000000*v21+x.2.2/\0<=x.2.2/\(x.2.2<=((Be types ((BH b).getD v21.toNat default).Type').1.Pads.length:Int)\/x.2.2=0))/\H6 b types v5_0 v21 (D7 b types n0) x.1 x.2.1 x.2.2=FN b types) (fun x=>x.1) ?_ ((((Be types ((BH b).getD v21.toNat default).Type').1.Pads.length:Int)-0).toNat+1,v5_0,0) ⟨Nat.lt_succ_self _,⟨ax0,ax0,ax0⟩,(by rw [<- hF0];simp only [D7,h1,cond_true,cond_false])⟩
   rintro ⟨n1,v5_0',v35⟩ ⟨hn,hinv,hF⟩
   have hm1:=hn;have hinv1:=hinv;have hF1:=hF;try dsimp only at hm1 hinv1 hF1
   clear hn hinv hF
   cases n1 with
   | zero=>exact absurd hm1 (Nat.not_lt_zero _)
   | succ n1 =>
    have hpp:=KG ht ((BH b).getD v21.toNat default).Type'
    refine AB<|rn ⟨(IA types b v21 [(35,tI v35),(36,tB (decide ((v35:Int)<((Be types ((BH b).getD v21.toNat default).Type').1.Pads.length:Int))))]),[(CM b),(HY v5_0'),(Hh b v21),(E6 b),(J7 v5_0')]⟩<|AB ?_
    refine AW _ rfl (fun h2 => ?_) (fun h2 => ?_)
    ·have g2:=oT h2
     refine AV<|AF<|AB ?_
     refine Bb (⟨(IA types b v21 [(35,tI v35)]),[(CM b),(5,.cells [.own 100000 6 (bif !decide ((((HM types b v21).1.Pads.getD v35.toNat default).Drill:Int)=0) then (Nd v5_0' b v21 types v35) else v5_0').length] 53),(Hh b v21),(E6 b),(100000,.row 6 (bif !decide ((((HM types b v21).1.Pads.getD v35.toNat default).Drill:Int)=0) then (Nd v5_0' b v21 types v35) else v5_0').length (AL Ao.c (bif !decide ((((HM types b v21).1.Pads.getD v35.toNat default).Drill:Int)=0) then (Nd v5_0' b v21 types v35) else v5_0')) 70)]⟩) ?_ ?_
     ·refine AO<|AB ?_
      refine rc [] [0<=(v35:Int)/\(v35:Int)<(((Be types ((BH b).getD v21.toNat default).Type').1.Pads.length:Nat):Int)] ⟨(H9 types [J9,(8,tP 8 0),(12,tP 12 0),(QG b),(QH b),(21,tI v21),(VQ types b v21),(VT types b v21),(35,tI v35)]),[(CM b),(HY v5_0'),(Hh b v21),(12,.cells (BJ.c ((HM types b v21).1.Pads.getD v35.toNat default)) 102),(E6 b),(J7 v5_0')]⟩ .nil (.cons au0 .nil)<|AF<|AB ?_
      refine rn ⟨(H9 types [J9,(8,tP 8 0),(12,tP 12 0),(QG b),(QH b),(21,tI v21),(VQ types b v21),(VT types b v21),(35,tI v35),(41,tB (!decide ((((Be types ((BH b).getD v21.toNat default).Type').1.Pads.getD v35.toNat default).Drill:Int)=0)))]),[(CM b),(HY v5_0'),(Hh b v21),(12,.cells (BJ.c ((HM types b v21).1.Pads.getD v35.toNat default)) 102),(E6 b),(J7 v5_0')]⟩ ?_
      refine AW (!decide ((((Be types ((BH b).getD v21.toNat default).Type').1.Pads.getD v35.toNat default).Drill:Int)=0)) kr (fun h3 => ?_) (fun h3 => ?_)
      ·have g3:=B8 h3
       refine S3 (q:=5) (r:=100000) cI DN 10 rfl kr [] [] [(44,Jy ((BH b).getD v21.toNat default)),(47,B6 (Cf ((BH b).getD v21.toNat default)) ((HM types b v21).1.Pads.getD v35.toNat default).At)] [1,2,5,6,8,19,20,21,33,34,35,42,47,49,51] [2,5,8,19,100000] [Aq (Jy ((BH b).getD v21.toNat default)).2.1,Aq (B6 (Cf ((BH b).getD v21.toNat default)) ((Be types ((BH b).getD v21.toNat default).Type').1.Pads.getD v35.toNat default).At).2.1] ⟨(IA types b v21 (ZJ v35 b v21 types [(51,tI b.Layers)])),[(CM b),(HY v5_0'),(Hh b v21),(E6 b),(J7 v5_0')]⟩ ⟨(IA types b v21 (ZJ v35 b v21 types [(51,tI b.Layers)])),[(CM b),(5,.cells [.own 100000 6 (Nd v5_0' b v21 types v35).length] 53),(Hh b v21),(E6 b),(100000,.row 6 (Nd v5_0' b v21 types v35).length (AL Ao.c (Nd v5_0' b v21 types v35)) 70)]⟩ (.cons (Tr ((BH b).getD v21.toNat default)) (.cons (DY (Cf ((BH b).getD v21.toNat default)) ((Be types ((BH b).getD v21.toNat default).Type').1.Pads.getD v35.toNat default).At) .nil)) kr kr (.cons rfl (.cons rfl .nil)) kr (K:=[]) (fun k x h=>by cases h) kr ⟨⟨_,_,60,1,BK [.ptr 5 0],[.agg (AC.c (Ac (Cf ((BH b).getD v21.toNat default)) ((Be types ((BH b).getD v21.toNat default).Type').1.Pads.getD v35.toNat default).At)),.one (.i ((Be types ((BH b).getD v21.toNat default).Type').1.Pads.getD v35.toNat default).Drill),.one (.i 1),.one (.i b.Layers)],rfl,rfl,by kernel_rfl,rfl,by kernel_rfl,by kernel_rfl,fun _ _=>by kernel_rfl,XH v5_0' (Ac (Cf ((BH b).getD v21.toNat default)) ((Be types ((BH b).getD v21.toNat default).Type').1.Pads.getD v35.toNat default).At) ((Be types ((BH b).getD v21.toNat default).Type').1.Pads.getD v35.toNat default).Drill 1 b.Layers au15⟩,rfl,by kernel_rfl,by kernel_rfl,by kernel_rfl⟩ kr<|BA<|AF ?_
       refine Cv.trans (ck (⟨(IA types b v21 [(35,tI v35)]),[(CM b),(5,.cells [.own 100000 6 (Nd v5_0' b v21 types v35).length] 53),(Hh b v21),(E6 b),(100000,.row 6 (Nd v5_0' b v21 types v35).length (AL Ao.c (Nd v5_0' b v21 types v35)) 70)]⟩)) (Aw ?_)
       first | rfl | (simp only [h3,cond_true,cond_false] <;> rfl)
      ·have g3:=B1 h3
       refine AV<|BA<|AF ?_
       refine Cv.trans (ck (⟨(IA types b v21 [(35,tI v35)]),[(CM b),(HY v5_0'),(Hh b v21),(E6 b),(J7 v5_0')]⟩)) (Aw ?_)
       first | rfl | (simp only [h3,cond_true,cond_false] <;> rfl)
     refine rg ⟨(IA types b v21 [(35,tI (W64 (v35+1)))]),[(CM b),(5,.cells [.own 100000 6 (bif !decide ((((HM types b v21).1.Pads.getD v35.toNat default).Drill:Int)=0) then (Nd v5_0' b v21 types v35) else v5_0').length] 53),(Hh b v21),(E6 b),(100000,.row 6 (bif !decide ((((HM types b v21).1.Pads.getD v35.toNat default).Drill:Int)=0) then (Nd v5_0' b v21 types v35) else v5_0').length (AL Ao.c (bif !decide ((((HM types b v21).1.Pads.getD v35.toNat default).Drill:Int)=0) then (Nd v5_0' b v21 types v35) else v5_0')) 70)]⟩ ?_
     (try rw [(show W64 (v35+1)=v35+1 from Ah (by omega) au5)])
     refine AF ?_
     refine ⟨(n1,bif !decide ((((Be types ((BH b).getD v21.toNat default).Type').1.Pads.getD v35.toNat default).Drill:Int)=0) then (EB v5_0' (Ac (Cf ((BH b).getD v21.toNat default)) ((Be types ((BH b).getD v21.toNat default).Type').1.Pads.getD v35.toNat default).At) ((Be types ((BH b).getD v21.toNat default).Type').1.Pads.getD v35.toNat default).Drill 1 b.Layers) else v5_0',v35+1),⟨?_,?_,(by rw [<- hF1];simp only [H6,h2,cond_true,cond_false])⟩,Nat.lt_succ_self _,Aw kr⟩
     ·show (((Be types ((BH b).getD v21.toNat default).Type').1.Pads.length:Int)-(v35+1)).toNat<n1;omega
     ·exact (by show ((bif !decide ((((Be types ((BH b).getD v21.toNat default).Type').1.Pads.getD v35.toNat default).Drill:Int)=0) then (EB v5_0' (Ac (Cf ((BH b).getD v21.toNat default)) ((Be types ((BH b).getD v21.toNat default).Type').1.Pads.getD v35.toNat default).At) ((Be types ((BH b).getD v21.toNat default).Type').1.Pads.getD v35.toNat default).Drill 1 b.Layers) else v5_0').length:Int)<=1000000*v21+(v35+1)/\0<=(v35+1)/\((v35+1)<=((Be types ((BH b).getD v21.toNat default).Type').1.Pads.length:Int)\/(v35+1)=0);(first | (refine ⟨?_,by omega,by omega⟩) | skip);first | omega | (refine Int.le_trans (IR _ _ _ _ _ _) ?_;omega) | (refine Int.le_trans (Jh _ _ _ _ _) ?_;omega) | exact at0)
    ·have g2:=oF h2
     refine A3<|Ar ?_
     refine Ar<|A4 ?_
     refine BA<|AF ?_
     refine rg ⟨(KJ types b [(21,tI (W64 (v21+1)))]),[(CM b),(HY v5_0'),(E6 b),(J7 v5_0')]⟩ ?_
     (try rw [(show W64 (v21+1)=v21+1 from Ah (by omega) au5)])
     refine AF ?_
     refine ⟨(n0,v5_0',v21+1),⟨?_,?_,(by rw [<- hF1];simp only [H6,h2,cond_true,cond_false])⟩,Nat.lt_succ_self _,Aw kr⟩
     ·show ((((BH b).length:Nat):Int)-(v21+1)).toNat<n0;omega
     ·exact (by show (v5_0'.length:Int)<=1000000*(v21+1)/\0<=(v21+1)/\((v21+1)<=(((BH b).length:Nat):Int)\/(v21+1)=0);(first | (refine ⟨?_,by omega,by omega⟩) | skip);first | omega | (refine Int.le_trans (IR _ _ _ _ _ _) ?_;omega) | (refine Int.le_trans (Jh _ _ _ _ _) ?_;omega) | exact at0)
  ·have g1:=oF h1
   refine A3<|Ar ?_
   refine Ar<|A4 ?_
   refine AF<|AB<|AB ?_
   refine rs 56 (dY b) ⟨(OD b [(58,tI 0)]),[(CM b),(Of v5_0),(MS b),(Ok v5_0)]⟩ (bG b au15)<|AF<|AO ?_
   refine A0 (ι:=Nat×List Ao×Int) (fun x=>⟨(OD b [(58,tI x.2.2)]),[(CM b),(5,.cells [.own 100000 6 x.2.1.length] 53),(MS b),(100000,.row 6 x.2.1.length (AL Ao.c x.2.1) 70)]⟩) (fun x=>((((A9 b).length:Nat):Int)-x.2.2).toNat<x.1/\((x.2.1.length:Int)<=20000000+x.2.2/\0<=x.2.2/\(x.2.2<=(((A9 b).length:Nat):Int)\/x.2.2=0))/\Fk b types v5_0 v21 (D7 b types n0) x.1 x.2.1 x.2.2=FN b types) (fun x=>x.1) ?_ (((((A9 b).length:Nat):Int)-0).toNat+1,v5_0,0) ⟨Nat.lt_succ_self _,⟨ax0,ax0,ax0⟩,(by rw [<- hF0];simp only [D7,h1,cond_true,cond_false])⟩
   rintro ⟨n2,v5_0',v58⟩ ⟨hn,hinv,hF⟩
   have hm2:=hn;have hinv2:=hinv;have hF2:=hF;try dsimp only at hm2 hinv2 hF2
   clear hn hinv hF
   cases n2 with
   | zero=>exact absurd hm2 (Nat.not_lt_zero _)
   | succ n2 =>
    refine AB<|rn ⟨(OD b [(58,tI v58),(59,tB (decide ((v58:Int)<(((A9 b).length:Nat):Int))))]),[(CM b),(HY v5_0'),(MS b),(J7 v5_0')]⟩<|AB ?_
    refine AW _ rfl (fun h2 => ?_) (fun h2 => ?_)
    ·have g2:=oT h2
     refine AV<|AF ?_
     refine AB<|AO<|AB ?_
     refine rc [] [0<=(v58:Int)/\(v58:Int)<(((A9 b).length:Nat):Int),v58.toNat<(A9 b).length] ⟨[(2,tP 2 0),(5,tP 5 0),J9,(14,tP 14 0),(Zr b),(Zv b),(58,tI v58)],[(CM b),(HY v5_0'),(14,.cells (Ag.c ((A9 b).getD v58.toNat default)) 154),(MS b),(J7 v5_0')]⟩ .nil (.cons au0 (.cons au0 .nil))<|AF ?_
     refine EP ?_
     refine HS DN 9 [] [] [] [2,5,6,56,57,58,62,64,66,68,70] [2,5,56,100000] [] ⟨(Z2 b v58),[(CM b),(HY v5_0'),(MS b),(J7 v5_0')]⟩ .nil kr .nil ?_
     refine Yz (q:=5) (r:=100000) (⟨(Z2 b v58),(Zk b v5_0' v58)⟩) (K:=[]) (fun k x h=>by cases h) kr ⟨⟨_,_,60,1,BK [.ptr 5 0],[.agg (AC.c ((A9 b).getD v58.toNat default).At),.one (.i ((A9 b).getD v58.toNat default).Drill),.one (.i ((A9 b).getD v58.toNat default).From),.one (.i ((A9 b).getD v58.toNat default).To)],rfl,rfl,by kernel_rfl,rfl,by kernel_rfl,by kernel_rfl,fun _ _=>by kernel_rfl,XH v5_0' ((A9 b).getD v58.toNat default).At ((A9 b).getD v58.toNat default).Drill ((A9 b).getD v58.toNat default).From ((A9 b).getD v58.toNat default).To au15⟩,rfl,by kernel_rfl,by kernel_rfl,by kernel_rfl⟩ kr ?_
     refine F8 DN [] [] [] [2,5,6,56,57,58] [2,5,56,100000] [] ⟨(OD b [(58,tI v58)]),(Zk b v5_0' v58)⟩ .nil kr .nil<|BA<|AF ?_
     refine rg ⟨(OD b [(58,tI (W64 (v58+1)))]),(Zk b v5_0' v58)⟩ ?_
     (try rw [(show W64 (v58+1)=v58+1 from Ah (by omega) au5)])
     refine AF ?_
     refine ⟨(n2,EB v5_0' ((A9 b).getD v58.toNat default).At ((A9 b).getD v58.toNat default).Drill ((A9 b).getD v58.toNat default).From ((A9 b).getD v58.toNat default).To,v58+1),⟨?_,?_,(by rw [<- hF2];simp only [Fk,h2,cond_true,cond_false])⟩,Nat.lt_succ_self _,Aw kr⟩
     ·show ((((A9 b).length:Nat):Int)-(v58+1)).toNat<n2;omega
     ·exact (by show ((EB v5_0' ((A9 b).getD v58.toNat default).At ((A9 b).getD v58.toNat default).Drill ((A9 b).getD v58.toNat default).From ((A9 b).getD v58.toNat default).To).length:Int)<=20000000+(v58+1)/\0<=(v58+1)/\((v58+1)<=(((A9 b).length:Nat):Int)\/(v58+1)=0);(first | (refine ⟨?_,by omega,by omega⟩) | skip);first | omega | (refine Int.le_trans (IR _ _ _ _ _ _) ?_;omega) | (refine Int.le_trans (Jh _ _ _ _ _) ?_;omega) | exact at0)
    ·have g2:=oF h2
     refine A3<|Ar ?_
     refine Ar<|A4 ?_
     refine AF<|AB<|AB ?_
     refine rs 74 (eE b) ⟨(MB b [(76,tI 0)]),[(CM b),(HY v5_0'),(Kg b),(J7 v5_0')]⟩ (iQ b au15)<|AF<|AO ?_
     refine A0 (ι:=Nat×List Ao×Int) (fun x=>⟨(MB b [(76,tI x.2.2)]),[(CM b),(5,.cells [.own 100000 6 x.2.1.length] 53),(Kg b),(100000,.row 6 x.2.1.length (AL Ao.c x.2.1) 70)]⟩) (fun x=>((((CG b).length:Nat):Int)-x.2.2).toNat<x.1/\((x.2.1.length:Int)<=20000020+x.2.2/\0<=x.2.2/\(x.2.2<=(((CG b).length:Nat):Int)\/x.2.2=0)/\(x.2.1.length:Int)<=(v5_0'.length:Int)+1*(x.2.2-0))/\H5 b types v5_0 v21 v5_0' v58 (D7 b types n0) (Fk b types v5_0 v21 (D7 b types n0) n2) x.1 x.2.1 x.2.2=FN b types) (fun x=>x.1) ?_ (((((CG b).length:Nat):Int)-0).toNat+1,v5_0',0) ⟨Nat.lt_succ_self _,⟨ax0,ax0,ax0,ax0⟩,(by rw [<- hF2];simp only [Fk,h2,cond_true,cond_false])⟩
     rintro ⟨n3,v5_0'',v76⟩ ⟨hn,hinv,hF⟩
     have hm3:=hn;have hinv3:=hinv;have hF3:=hF;try dsimp only at hm3 hinv3 hF3
     clear hn hinv hF
     cases n3 with
     | zero=>exact absurd hm3 (Nat.not_lt_zero _)
     | succ n3 =>
      refine AB<|rn ⟨(MB b [(76,tI v76),(77,tB (decide ((v76:Int)<(((CG b).length:Nat):Int))))]),[(CM b),(5,.cells [.own 100000 6 v5_0''.length] 53),(Kg b),(100000,.row 6 v5_0''.length (AL Ao.c v5_0'') 70)]⟩<|AB ?_
      refine AW _ rfl (fun h3 => ?_) (fun h3 => ?_)
      ·have g3:=oT h3
       refine AV<|AF ?_
       refine AB<|AO<|AB ?_
       refine rc [] [0<=(v76:Int)/\(v76:Int)<(((CG b).length:Nat):Int),v76.toNat<(CG b).length] ⟨[(2,tP 2 0),(5,tP 5 0),(16,tP 16 0),(Zn b),(Zq b),(76,tI v76)],[(CM b),(5,.cells [.own 100000 6 v5_0''.length] 53),(16,.cells (Au.c ((CG b).getD v76.toNat default)) 165),(Kg b),(100000,.row 6 v5_0''.length (AL Ao.c v5_0'') 70)]⟩ .nil (.cons au0 (.cons au0 .nil))<|AF ?_
       refine dw [] [(83,Js ((CG b).getD v76.toNat default).Shape)] [Aq (Js ((CG b).getD v76.toNat default).Shape).2.1,v5_0''.length=v5_0''.length,v5_0''.length+1<=maxLen,(v5_0''.length+1)*64<=140737488355328] ⟨(MB b [(76,tI v76)]),[(CM b),(5,.cells [.own 88 6 (v5_0''.length+1)] 53),(Kg b),(88,.row 6 (v5_0''.length+1) (fun i_ j_=>if i_<v5_0''.length then (AL Ao.c v5_0'') i_ j_ else (Ap 6 1 [.i (Ra b v76).Kind,lst 7 AH.c (Ra b v76).Edges,.i (Ra b v76).R,.i 1,.i b.Layers,.b false]) (i_-v5_0''.length) j_) 70)]⟩ (.cons (Tp ((CG b).getD v76.toNat default).Shape au15) .nil) (.cons rfl (.cons rfl (.cons au3 (.cons au3 .nil))))<|BA<|AF ?_
       refine BI (Cv.trans (A7 (⟨(MB b [(76,tI v76)]),[(CM b),(5,.cells [.own 88 6 (v5_0''++(MT b v76)).length] 53),(Kg b),(88,.row 6 (v5_0''++(MT b v76)).length (AL Ao.c (v5_0''++(MT b v76))) 70)]⟩) lr (.cons ⟨rfl,.refl _⟩ (.cons ⟨rfl,.cells _ (.cons (.own _ _ au2) .nil)⟩ (.cons ⟨rfl,.refl _⟩ (.cons ⟨rfl,Ad 70 (A8 (Ay 6 Ao.c v5_0'') (Al (c:=Ao.c) (xs:=([Ao.mk (Dz ((CG b).getD v76.toNat default).Shape) 1 b.Layers false]:List Ao)) rfl kr))⟩ .nil))))) (Cv.refl _)) ?_
       refine rg ⟨(MB b [(76,tI (W64 (v76+1)))]),[(CM b),(5,.cells [.own 88 6 (v5_0''++(MT b v76)).length] 53),(Kg b),(88,.row 6 (v5_0''++(MT b v76)).length (AL Ao.c (v5_0''++(MT b v76))) 70)]⟩ ?_
       (try rw [(show W64 (v76+1)=v76+1 from Ah (by omega) au5)])
       refine AF ?_
       refine ⟨(n3,v5_0''++[Ao.mk (Dz ((CG b).getD v76.toNat default).Shape) 1 b.Layers false],v76+1),⟨?_,?_,(by rw [<- hF3];simp only [H5,h3,cond_true,cond_false])⟩,Nat.lt_succ_self _,Cv.trans (vr 88 100000 (K:=[]) (fun k x h=>by cases h)) (Aw kr)⟩
       ·show ((((CG b).length:Nat):Int)-(v76+1)).toNat<n3;omega
       ·exact (by show ((v5_0''++[Ao.mk (Dz ((CG b).getD v76.toNat default).Shape) 1 b.Layers false]).length:Int)<=20000020+(v76+1)/\0<=(v76+1)/\((v76+1)<=(((CG b).length:Nat):Int)\/(v76+1)=0)/\((v5_0''++[Ao.mk (Dz ((CG b).getD v76.toNat default).Shape) 1 b.Layers false]).length:Int)<=(v5_0'.length:Int)+1*((v76+1)-0);(first | (refine ⟨?_,by omega,by omega⟩) | skip);first | omega | (refine Int.le_trans (IR _ _ _ _ _ _) ?_;omega) | (refine Int.le_trans (Jh _ _ _ _ _) ?_;omega) | exact at0)
      ·have g3:=oF h3
       refine A3<|Ar ?_
       refine Ar<|A4 ?_
       refine AF<|AB ?_
       refine rn ⟨[(4,tO (.own 100000 6 v5_0''.length))],[(100000,.row 6 v5_0''.length (AL Ao.c v5_0'') 70)]⟩<|Ab ?_
       exact xl (tO (.own 100000 6 v5_0''.length)) (frE (c:=Ao.c) (xs:=v5_0'') (by rw [<- hF3];first | (simp only [H5,h3,cond_true,cond_false] <;> rfl)) kr)
end
end Go.Proofs.YtheobjkgllmnmaaGreat
