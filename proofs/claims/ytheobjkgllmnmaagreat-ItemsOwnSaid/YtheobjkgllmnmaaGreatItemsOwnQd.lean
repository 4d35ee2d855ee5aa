/-
  No statement is proved in this text. It holds a part of what the proof of ItemsOwn needs.
-/
import Derived.Test.YtheobjkgllmnmaaGreatItemsOwnQc
namespace Go.Proofs.YtheobjkgllmnmaaGreat
set_option maxRecDepth 100000
set_option linter.unusedVariables false
set_option linter.unusedSimpArgs false
open Go.RowKit
section
open Go.RowKit
def Us (p:BH):Prop:=(p.Shape.Edges.length:Int)<=1000000
def LC (g:A7):Prop:=(g.Legs.length:Int)<=1000000
def LB (t:AN):Prop:=(t.Pads.length:Int)<=1000000/\(t.Gates.length:Int)<=1000000/\(∀ p∈t.Pads,Us p)/\∀ g∈t.Gates,LC g
def Bt (l:List AN):Prop:=(l.length:Int)<=1000000/\∀ t∈l,LB t
theorem Eb {α:Type} [Inhabited α] {p:α->Prop} {l:List α} (hd:p default) (h:∀ x∈l,p x) (k:Nat):p (l.getD k default):=by
 rw [List.getD_eq_getElem?_getD]
 cases hk:l[k]? with
 | none=>exact hd
 | some x=>exact h x (List.mem_of_getElem? hk)
theorem VZ {l:List AN} (h:Bt l) (k:Nat):LB (l.getD k default):=Eb (p:=LB) ⟨by decide,by decide,(fun p hp=>by cases hp),fun p hp=>by cases hp⟩ h.2 k
theorem Tg {t:AN} (h:LB t) (k:Nat):((t.Pads.getD k default).Shape.Edges.length:Int)<=1000000:=Eb (p:=Us) (by unfold Us;decide) h.2.2.1 k
theorem Qo {t:AN} (h:LB t) (k:Nat):((t.Gates.getD k default).Legs.length:Int)<=1000000:=Eb (p:=LC) (by unfold LC;decide) h.2.2.2 k
theorem au2 {p:Prop} (h:p:=by first | (unfold maxLen;omega) | (unfold maxLen;simp only [List.length_append,List.length_cons,List.length_nil];omega) | first | omega | (simp only [List.length_append,List.length_cons,List.length_nil];omega) | (simp only [lR,lQ,lP,WI];omega)):p:=h
theorem rK {p:Prop} (h:p:=by
 refine CN mp0 rfl kr (C2 _ _) fun W0 M0 => ?_
 exact AB<|on<|AB<|AB<|on<|DS kr<|AQ<|AE<|AB<|DR Cq [5] [] [] [2] [7] [0=0,0+l.length<=maxLen,(0+l.length)*mp1<=140737488355328] ⟨[(2,tO (.own 7 mp2 (0+l.length)))],[(7,.row mp2 (0+l.length) (fun i_ j_=>if i_<0 then (BG mp2 0 []) i_ j_ else (AP mp3 l) (i_-0) j_) mp4)]⟩ .nil kr (.cons rfl (.cons au2 (.cons au2 .nil)))<|AE<|BE (A5 7 (BF (BC mp2 mp3 (([]:List mp5):List mp5)) (A1 mp2 mp3 l)))<|AW<|xl (tO (.own 7 mp2 l.length)) (frE (c:=mp3) (xs:=l) (by rfl) kr)):p:=h
section
 open Go.Proofs.YtheobjkgllmnmaaGreat renaming lP→mp1,nn7→mp2,AK.c→mp3,nn68→mp4,AK→mp5
 open Go.Proofs.Tryz renaming func77→mp0
theorem cX (l:(List AK)) (h0:(l.length:Int)<=1000000):Fr Tryz.prog 77 [.one (.list true 7 l.length (AP AK.c l))] (.row 7 l.length (AP AK.c l) 68) (fun d=>tO (.own d 7 l.length)):=rK
end
abbrev vN:Cl:=.val (.slice none 0 0)
theorem rJ {p:Prop} (h:p:=by
 refine CN mp0 rfl kr (C2 _ _) fun W0 M0 => ?_
 cases l with
 | cons a l=>cases h0
 | nil =>
 exact AB<|on<|AB<|AB<|on<|Cg kr<|AB<|rn ⟨[(2,.av (.one vN))],[]⟩<|AW<|Be<|yl (Cv.trans (vg 2000 mp1 (fun _ _=>default) mp2 [(2,[0])] [] hk0) (A5 2000 (B9 mp1 (fun _ _=>default) mp3))) (tO (.own 2000 mp1 ([]:List mp4).length)) (frE (c:=mp3) (xs:=([]:List mp4)) (by rfl) kr)):p:=h
section
 open Go.Proofs.YtheobjkgllmnmaaGreat renaming nn7→mp1,nn68→mp2,AK.c→mp3,AK→mp4
 open Go.Proofs.Tryz renaming func77→mp0
theorem cY (l:(List AK)) (h0:l.length=0):Fr Tryz.prog 77 [.one vN] (.row 7 l.length (AP AK.c l) 68) (fun d=>tO (.own d 7 l.length)):=rJ
end
variable (types:List AN) (name:ByteArray) (l:List AK) (v26 v49:Int) (v7_1:List BH)
def mU:CT:=(77,[.one (lst 7 AK.c l)],.new [] (.row 7 l.length (AP AK.c l) 68) (fun d=>.av (.one (.own d 7 l.length))))
theorem JZ (l:(List AK)) (h0:(l.length:Int)<=1000000):OKc (mU l):=Bx (fun _ _=>kr) (WX (fun hz=>cY l hz) (cX l h0))
section
 open Go.Proofs.YtheobjkgllmnmaaGreat renaming lR→mp1,nn2→mp2,Bk.c→mp3,oI→mp4,Bk→mp5
 open Go.Proofs.Tryz renaming func78→mp0
theorem cV (l:(List Bk)) (h0:(l.length:Int)<=1000000):Fr Tryz.prog 78 [.one (.list true 2 l.length (AP Bk.c l))] (.row 2 l.length (AP Bk.c l) 183) (fun d=>tO (.own d 2 l.length)):=rK
end
section
 open Go.Proofs.YtheobjkgllmnmaaGreat renaming nn2→mp1,oI→mp2,Bk.c→mp3,Bk→mp4
 open Go.Proofs.Tryz renaming func78→mp0
theorem cW (l:(List Bk)) (h0:l.length=0):Fr Tryz.prog 78 [.one vN] (.row 2 l.length (AP Bk.c l) 183) (fun d=>tO (.own d 2 l.length)):=rJ
end
section
 open Go.Proofs.YtheobjkgllmnmaaGreat renaming WI→mp1,nn7→mp2,AF.c→mp3,nn78→mp4,AF→mp5
 open Go.Proofs.Tryz renaming func148→mp0
theorem cT (l:(List AF)) (h0:(l.length:Int)<=1000000):Fr Tryz.prog 148 [.one (.list true 7 l.length (AP AF.c l))] (.row 7 l.length (AP AF.c l) 78) (fun d=>tO (.own d 7 l.length)):=rK
end
section
 open Go.Proofs.YtheobjkgllmnmaaGreat renaming nn7→mp1,nn78→mp2,AF.c→mp3,AF→mp4
 open Go.Proofs.Tryz renaming func148→mp0
theorem cU (l:(List AF)) (h0:l.length=0):Fr Tryz.prog 148 [.one vN] (.row 7 l.length (AP AF.c l) 78) (fun d=>tO (.own d 7 l.length)):=rJ
end
def mT (l:(List AF)):CT:=(148,[.one (lst 7 AF.c l)],.new [] (OD l) (fun d=>.av (.one (.own d 7 l.length))))
theorem dZ (l:(List AF)) (h0:(l.length:Int)<=1000000):OKc (mT l):=Bx (fun _ _=>kr) (WX (fun hz=>cU l hz) (cT l h0))
def GV (l:List Bk):List Bk:=l
def iD (l:List Bk):CT:=(78,[.one (lst 2 Bk.c l)],.val [] (.av (.one (lst 2 Bk.c (GV l)))))
theorem ZO (l:List Bk) (h0:(l.length:Int)<=1000000):OKc (iD l):=cPu<|Kt (WX (fun hz=>cW l hz) (cV l h0))
def Hf (t:AN) (name:ByteArray):Bool:=(t.Name.toList==name.toList)
theorem pisTy  (t:AN) (name:ByteArray):FV Tryz.prog 76 [.agg (AN.c t),.one (.eptr 1 1 (gD [.s name]) 0 0)] (tO (.b (Hf t name))):=by
 refine pwf Tryz.func76 fun W0 M0 => ?_
 exact AB<|on<|AB<|on<|AW<|zl
def Z0e (xs:(List AN)) (v8:Int) (name:ByteArray):CT:=(76,[.agg (AN.c (xs.getD v8.toNat default)),.one (.eptr 1 1 (fun _ j_=>([.s name]:List Cl).getD j_ default) 0 0)],.val [] (tB (Hf (xs.getD v8.toNat default) name)))
def GT (xs:(List AN)) (name:ByteArray):Nat->Int->Int
 | 0,_=>default
 | n0+1,v8=>bif decide ((v8:Int)<(xs.length:Int)) then (bif Hf (xs.getD v8.toNat default) name then v8 else ((GT xs name n0) (v8+1))) else (-1)
def Cb (xs:(List AN)) (name:ByteArray):Int:=GT xs name (((xs.length:Int)-0).toNat+1) 0
abbrev VI:Nat×Tv:=(1,.av (.one (.clo 76 1 (Am [.eptr 1 1 (gD [.s name]) 0 0]))))
theorem au3 {p:Prop} (h:p:=by first | omega | (simp only [List.length_drop,List.length_take] at *;omega)):p:=h
theorem pixTy  (xs:(List AN)) (name:ByteArray) (hx:(xs.length:Int)<=9223372036854775807):FV Tryz.prog 75 [.one (lst 3 AN.c xs),.one (.clo 76 1 (Am [.eptr 1 1 (gD [.s name]) 0 0]))] (tO (.i (Cb xs name))):=by
 refine pwf Tryz.func75 fun W0 M0 => ?_
 refine AB<|on<|AB<|AB<|rn ⟨[(0,tO (lst 3 AN.c xs)),(VI name),(7,tI (xs.length:Int)),(8,tI 0)],[]⟩<|AM<|lpC (κ:=Int) (fun x=>⟨[(0,tO (lst 3 AN.c xs)),(VI name),(7,tI (xs.length:Int)),(8,tI x.2)],[]⟩) (fun x=>((xs.length:Int)-x.2).toNat) (fun x=>(0<=x.2/\(x.2<=(xs.length:Int)\/x.2=0))/\GT xs name x.1 x.2=Cb xs name) ?_ (((xs.length:Int)-0).toNat+1,0) ⟨Nat.lt_succ_self _,⟨ax0,ax0⟩,(by simp only [Cb,cond_true,cond_false])⟩
 rintro n0 v8 hm0 ⟨hinv0,hF0⟩
 try dsimp only at hm0 hinv0 hF0
 refine AB<|on<|AB<|kb (decide ((v8:Int)<(xs.length:Int))) (fun h1 => ?_) (fun h1 => ?_)
 ·have g1:=oT h1
  refine AQ<|AE<|AB<|AM<|AB<|on<|AB<|oo [(16,(Z0e xs v8 name))] [0<=(v8:Int)/\(v8:Int)<((xs.length:Nat):Int),none] (.cons (cPu<|pisTy (xs.getD v8.toNat default) name) .nil) (H1 au0)<|AE<|kb (Hf (xs.getD v8.toNat default) name) (fun h2 => ?_) (fun h2 => ?_)
  ·exact AB<|on<|AW<|DB<|Be<|Be<|DB<|Be<|zl (by rw [<- hF0];simp only [GT,h1,h2,cond_true,cond_false] <;> kernel_rfl)
  refine AQ<|A3<|AE<|rg ⟨[(0,tO (lst 3 AN.c xs)),(VI name),(7,tI (xs.length:Int)),(8,tI (W64 (v8+1)))],[]⟩ ?_
  (try rw [(show W64 (v8+1)=v8+1 from Ae oM au3)])
  refine AE ?_
  refine ⟨(n0,v8+1),⟨?_,?_,(by rw [<- hF0];simp only [GT,h1,h2,cond_true,cond_false])⟩,Nat.lt_succ_self _,Al kr⟩
  ·dsimp only;omega
  exact ⟨ax0,ax0⟩
 exact An<|Ai<|Ai<|Ao<|AE<|AB<|on<|AW<|zl (by rw [<- hF0];simp only [GT,h1,cond_true,cond_false] <;> kernel_rfl)
theorem Pj (xs:List AN) (c:ByteArray):Cb xs c=ixI (fun x=>Hf x c) xs:=by
 unfold Cb
 have h:=ix_l0 (fun x=>Hf x c) xs (GT xs c) (fun m v=>by rw [GT,Int.toNat_natCast]) xs.length 0 (((xs.length:Int)-0).toNat+1) rfl (Nat.zero_le _) (by omega)
 rw [List.drop_zero] at h
 refine h.trans ?_
 unfold ixI
 cases xs.findIdx? (fun x=>Hf x c) with
 | none=>rfl
 | some i=>simp
theorem rN {xs:List AN} {c:ByteArray} (h:¬ Cb xs c<0):0<=Cb xs c/\Cb xs c<(xs.length:Int):=by
 rw [Pj] at *
 exact ixI_b h
def Z0f:A7:=(types.getD (Cb types name).toNat default).Gates.getD v49.toNat default
def Z0g:BH:=(types.getD (Cb types name).toNat default).Pads.getD v26.toNat default
def I5 (types:(List AN)) (name:ByteArray) (v7_1:List BH) (v26:Int) (K0:List BH->Int->(AN×Bool)):Nat->List A7->Int->(AN×Bool)
 | 0,_,_=>default
 | n1+1,v7_2,v49=>bif decide ((v49:Int)<((types.getD (Cb types name).toNat default).Gates.length:Int)) then ((I5 types name v7_1 v26 K0 n1) (v7_2++[A7.mk (Z0f types name v49).Kind (GV (Z0f types name v49).Legs)]) (v49+1)) else (AN.mk name v7_1 v7_2,true)
def GI (types:(List AN)) (name:ByteArray):Nat->List BH->Int->(AN×Bool)
 | 0,_,_=>default
 | n0+1,v7_1,v26=>bif decide ((v26:Int)<((types.getD (Cb types name).toNat default).Pads.length:Int)) then ((GI types name n0) (v7_1++[BH.mk (Z0g types name v26).Name (AO.mk (Z0g types name v26).Shape.Kind (Z0g types name v26).Shape.Edges (Z0g types name v26).Shape.R) (Z0g types name v26).At (Z0g types name v26).Drill]) (v26+1)) else (I5 types name v7_1 v26 (GI types name n0) ((((types.getD (Cb types name).toNat default).Gates.length:Int)-0).toNat+1) ([]:List A7) 0)
def BA (types:(List AN)) (name:ByteArray):(AN×Bool):=bif decide (((Cb types name):Int)<0) then (AN.mk (⟨#[]⟩) [] [],false) else (GI types name ((((types.getD (Cb types name).toNat default).Pads.length:Int)-0).toNat+1) ([]:List BH) 0)
abbrev HX:=lst 3 AN.c types
def cGet:CT:=(27,[.one (HX types),.one (.s name)],.val [] (.tup [.agg (AN.c (BA types name).1),.one (.b (BA types name).2)]))
abbrev N8:List Cl:=[.s (⟨#[]⟩),vN,vN]
abbrev GK:Nat×Blk:=(4,.cells N8 82)
abbrev P5:=types.getD (Cb types name).toNat default
abbrev VX:=[BH.mk (Z0g types name v26).Name (AO.mk (Z0g types name v26).Shape.Kind (Z0g types name v26).Shape.Edges (Z0g types name v26).Shape.R) (Z0g types name v26).At (Z0g types name v26).Drill]
abbrev MI:Nat×Blk:=(2000,.row 7 v7_1.length (AP BH.c v7_1) 102)
abbrev Rc (t_:List (Nat×Tv)):List (Nat×Tv):=(0,tO (HX types))::(4,tP 4 0)::(6,tI (Cb types name))::(7,tP 7 0)::(24,tO (lst 7 BH.c (P5 types name).Pads))::(25,tI ((P5 types name).Pads.length:Int))::t_
abbrev bA:List (Nat×Tv):=[(0,tO (HX types)),(4,tP 4 0),(6,tI (Cb types name)),(7,tP 7 0),(9,tP 9 0),(24,tO (lst 7 BH.c (P5 types name).Pads)),(25,tI ((P5 types name).Pads.length:Int)),(26,tI v26)]
abbrev aW:List Av:=[.agg [.s (⟨#[]⟩),lst 7 BH.c [],lst 2 A7.c []],.one (.b false)]
abbrev Ra (t_:List (Nat×Tv)):List (Nat×Tv):=(4,tP 4 0)::(7,tP 7 0)::(47,tO (lst 2 A7.c (P5 types name).Gates))::(48,tI ((P5 types name).Gates.length:Int))::t_
theorem au4 {p:Prop} (h:p:=by first | (exact Tg (hta _) _) | (exact Qo (hta _) _) | with_reducible assumption | omega | decide | (simp only [List.length_cons,List.length_nil,List.length_append];omega) | assumption):p:=h
theorem au22 {p:Prop} (h:p:=by first | exact rN (by assumption) | omega):p:=h
theorem pGet (types:(List AN)) (name:ByteArray) (ht:Bt types):PuP 27 (cGet types name).2.1 (.tup [.agg (AN.c (BA types name).1),.one (.b (BA types name).2)]):=by
 refine pwf Tryz.func27 fun W0 M0 => ?_
 have ht1:=ht.1
 have hta:=VZ ht
 have htp:=(hta (Cb types name).toNat).1
 have htg:=(hta (Cb types name).toNat).2.1
 refine AB<|on<|AB<|oc [(14,(75,[.one (HX types),.one (.clo 76 1 (Am [.ptr 3 0]))],rdI [3] [.cells [.s name] 9] (tI (Cb types name))))] [CD [.one (lst 3 AN.c types),.one (.clo 76 1 (Am [.ptr 3 0]))],jA [.cells [.s name] 9]] (.cons (Zs (fun _ _=>kr) kr kr (kI (pixTy types name au4) (.cons (AvE.refl _) (.cons (.one (.clo 76 1 _ _ (HY kr))) .nil)))) .nil) (H2 rfl rfl)<|AE<|AB<|AB<|on<|kb (decide (((Cb types name):Int)<0)) (fun h1 => ?_) (fun h1 => ?_)
 ·exact AB<|on<|AW<|Be<|xl (.tup [.agg N8,.one (.b false)]) (D3 (y:=.tup aW) (.tup (.cons (.agg (rr (.cons (Cm 7 BH.c) (.cons (Cm 2 A7.c) .nil)))) (.cons (AvE.refl _) .nil))) (by simp only [BA,h1,cond_true,cond_false] <;> rfl))
 have g1:=oF h1
 refine AQ<|AE<|AB<|on<|AB<|AB<|rc [] [0<=(Cb types name:Int)/\(Cb types name:Int)<((types.length:Nat):Int)] ⟨((Rc types name [(26,tI 0)])),[GK,(7,.cells [.s name,vN,vN] 82)]⟩ .nil (H1 au22)<|AE<|AM<|BE (Cv.trans (vg 2000 7 (fun _ _=>default) 102 [] [(7,[1])] hk0) (Cv.trans (A5 2000 (B9 7 (fun _ _=>default) BH.c)) (ck (⟨((Rc types name [(26,tI 0)])),[GK,(7,.cells [.s name,.own 2000 7 ([]:List BH).length,vN] 82),(2000,.row 7 ([]:List BH).length (AP BH.c ([]:List BH)) 102)]⟩))))<|lpC (κ:=List BH×Int) (fun x=>⟨(Rc types name [(26,tI x.2.2)]),[GK,(7,.cells [.s name,.own 2000 7 x.2.1.length,vN] 82),(2000,.row 7 x.2.1.length (AP BH.c x.2.1) 102)]⟩) (fun x=>(((types.getD (Cb types name).toNat default).Pads.length:Int)-x.2.2).toNat) (fun x=>(0<=x.2.2/\(x.2.2<=((types.getD (Cb types name).toNat default).Pads.length:Int)\/x.2.2=0)/\(x.2.1.length:Int)<=0+1*(x.2.2-0))/\GI types name x.1 x.2.1 x.2.2=BA types name) ?_ ((((types.getD (Cb types name).toNat default).Pads.length:Int)-0).toNat+1,([]:List BH),0) ⟨Nat.lt_succ_self _,⟨ax0,ax0,ax0⟩,(by simp only [BA,h1,cond_true,cond_false])⟩
 rintro n0 ⟨v7_1,v26⟩ hm0 ⟨hinv0,hF0⟩
 try dsimp only at hm0 hinv0 hF0
 refine AB<|on<|AB<|kb (decide ((v26:Int)<((types.getD (Cb types name).toNat default).Pads.length:Int))) (fun h2 => ?_) (fun h2 => ?_)
 ·have g2:=oT h2
  refine AQ<|AE<|AB<|AM<|AB<|oc [] [0<=(v26:Int)/\(v26:Int)<(((types.getD (Cb types name).toNat default).Pads.length:Nat):Int)] .nil (H1 au22)<|AE<|AB<|rs 33 _ ⟨(bA types name v26),[GK,(7,.cells [.s name,.own 2000 7 v7_1.length,vN] 82),(9,.cells [.s (Z0g types name v26).Name,.i (Z0g types name v26).Shape.Kind,.own 33 7 (Z0g types name v26).Shape.Edges.length,.i (Z0g types name v26).Shape.R,.i (Z0g types name v26).At.X,.i (Z0g types name v26).At.Y,.i (Z0g types name v26).Drill] 102),(33,.row 7 (Z0g types name v26).Shape.Edges.length (AP AK.c (Z0g types name v26).Shape.Edges) 68),(MI v7_1)]⟩ (JZ (Z0g types name v26).Shape.Edges au4)<|AE<|BE (Q0 (⟨(bA types name v26),[GK,(7,.cells [.s name,.own 2000 7 v7_1.length,vN] 82),(9,.cells (BH.c (Z0g types name v26)) 102),(MI v7_1)]⟩) 33 hk0)<|oc [] [v7_1.length=v7_1.length,v7_1.length+1<=maxLen,(v7_1.length+1)*80<=140737488355328] .nil (H3 rfl au2 au2)<|A3<|AE<|BE (A5 40 (BF (A1 7 BH.c v7_1) (BC 7 BH.c ([BH.mk (Z0g types name v26).Name (AO.mk (Z0g types name v26).Shape.Kind (Z0g types name v26).Shape.Edges (Z0g types name v26).Shape.R) (Z0g types name v26).At (Z0g types name v26).Drill]:List BH)))) ?_
  refine rg ⟨(Rc types name [(26,tI (W64 (v26+1)))]),[GK,(7,.cells [.s name,.own 40 7 (v7_1++(VX types name v26)).length,vN] 82),(40,.row 7 (v7_1++(VX types name v26)).length (AP BH.c (v7_1++(VX types name v26))) 102)]⟩ ?_
  (try rw [(show W64 (v26+1)=v26+1 from Ae oM au3)])
  refine AE ?_
  refine ⟨(n0,v7_1++[BH.mk (Z0g types name v26).Name (AO.mk (Z0g types name v26).Shape.Kind (Z0g types name v26).Shape.Edges (Z0g types name v26).Shape.R) (Z0g types name v26).At (Z0g types name v26).Drill],v26+1),⟨?_,?_,(by rw [<- hF0];simp only [GI,h2,cond_true,cond_false])⟩,Nat.lt_succ_self _,Cv.trans (vr 40 2000 hk0) (Al kr)⟩
  ·dsimp only;omega
  exact ⟨ax0,ax0,ax0⟩
 have g2:=oF h2
 refine An<|Ai<|Ai<|Ao<|AE<|AB<|AB<|rc [] [0<=(Cb types name:Int)/\(Cb types name:Int)<((types.length:Nat):Int)] ⟨((Ra types name [(49,tI 0)])),[GK,(7,.cells [.s name,.own 2000 7 v7_1.length,vN] 82),(MI v7_1)]⟩ .nil (H1 au22)<|AE<|AM<|BE (Cv.trans (vg 2001 2 (fun _ _=>default) 180 [] [(7,[2])] hk0) (Cv.trans (A5 2001 (B9 2 (fun _ _=>default) A7.c)) (ck (⟨((Ra types name [(49,tI 0)])),[GK,(7,.cells [.s name,.own 2000 7 v7_1.length,.own 2001 2 ([]:List A7).length] 82),(MI v7_1),(2001,.row 2 ([]:List A7).length (AP A7.c ([]:List A7)) 180)]⟩)))) ?_
 refine lpC (κ:=List A7×Int) (fun x=>⟨(Ra types name [(49,tI x.2.2)]),[GK,(7,.cells [.s name,.own 2000 7 v7_1.length,.own 2001 2 x.2.1.length] 82),(MI v7_1),(2001,.row 2 x.2.1.length (AP A7.c x.2.1) 180)]⟩) (fun x=>(((types.getD (Cb types name).toNat default).Gates.length:Int)-x.2.2).toNat) (fun x=>(0<=x.2.2/\(x.2.2<=((types.getD (Cb types name).toNat default).Gates.length:Int)\/x.2.2=0)/\(x.2.1.length:Int)<=0+1*(x.2.2-0))/\I5 types name v7_1 v26 (GI types name n0) x.1 x.2.1 x.2.2=BA types name) ?_ ((((types.getD (Cb types name).toNat default).Gates.length:Int)-0).toNat+1,([]:List A7),0) ⟨Nat.lt_succ_self _,⟨ax0,ax0,ax0⟩,(by rw [<- hF0];simp only [GI,h2,cond_true,cond_false])⟩
 rintro n1 ⟨v7_2,v49⟩ hm1 ⟨hinv1,hF1⟩
 try dsimp only at hm1 hinv1 hF1
 refine AB<|on<|AB<|kb (decide ((v49:Int)<((types.getD (Cb types name).toNat default).Gates.length:Int))) (fun h3 => ?_) (fun h3 => ?_)
 ·have g3:=oT h3
  refine AQ<|AE<|AB<|AM<|AB<|oc [] [0<=(v49:Int)/\(v49:Int)<(((types.getD (Cb types name).toNat default).Gates.length:Nat):Int)] .nil (H1 au22)<|AE<|oe [] _ [none,v7_2.length=v7_2.length,v7_2.length+1<=maxLen,(v7_2.length+1)*32<=140737488355328] (J1 59 (ZO (Z0f types name v49).Legs (by first | assumption | exact Qo (hta _) _ | exact Tg (hta _) _ | omega))) (H3 rfl au2 au2)<|A3<|AE<|BE (A5 62 (BF (A1 2 A7.c v7_2) (BC 2 A7.c ([A7.mk (Z0f types name v49).Kind (GV (Z0f types name v49).Legs)]:List A7))))<|rg ⟨(Ra types name [(49,tI (W64 (v49+1)))]),[GK,(7,.cells [.s name,.own 2000 7 v7_1.length,.own 62 2 (v7_2++[A7.mk (Z0f types name v49).Kind (GV (Z0f types name v49).Legs)]).length] 82),(62,.row 2 (v7_2++[A7.mk (Z0f types name v49).Kind (GV (Z0f types name v49).Legs)]).length (AP A7.c (v7_2++[A7.mk (Z0f types name v49).Kind (GV (Z0f types name v49).Legs)])) 180),(MI v7_1)]⟩ ?_
  (try rw [(show W64 (v49+1)=v49+1 from Ae oM au3)])
  refine AE ?_
  refine ⟨(n1,v7_2++[A7.mk (Z0f types name v49).Kind (GV (Z0f types name v49).Legs)],v49+1),⟨?_,?_,(by rw [<- hF1];simp only [I5,h3,cond_true,cond_false])⟩,Nat.lt_succ_self _,Cv.trans (vr 62 2001 hk0) (Cv.trans (vk [4,7,47,48,49] [4,7,2000,2001]) (Al kr))⟩
  ·dsimp only;omega
  exact ⟨ax0,ax0,ax0⟩
 exact An<|Ai<|Ai<|Ao<|AE<|AB<|on<|AW<|zy (Cv.trans (vf 2000 hk0) (vf 2001 hk0)) (by rw [<- hF1];simp only [I5,h3,cond_true,cond_false] <;> kernel_rfl)
theorem oD (types:(List AN)) (name:ByteArray) (ht:Bt types):OKc (cGet types name):=cPu<|pGet types name ht
def Zh (types:List AN) (name:ByteArray):AN×Bool:=match types.find? (fun t=>Hf t name) with
 | some t=>(⟨name,t.Pads,t.Gates⟩,true)
 | none=>(⟨⟨#[]⟩,[],[]⟩,false)
theorem L8 (types:List AN) (name:ByteArray):BA types name=Zh types name:=by
 unfold BA Zh
 rw [Pj]
 cases hc:decide ((ixI (fun x=>Hf x name) types:Int)<0) with
 | true =>
  rw [fJ (oT hc)]
  rfl
 | false =>
  obtain ⟨_,h2⟩:=fI (oF hc)
  rw [h2,cond_false]
  have e:=Pj types name
  rw [<- e]
  generalize ht:types.getD (Cb types name).toNat default=t
  have h1:=fun (acc0:List BH) (v0:Int) K0=>Zp t.Gates (I5 types name acc0 v0 K0) (fun acc _=>(AN.mk name acc0 acc,true)) (fun m acc v=>by
   rw [I5]
   unfold Z0f GV
   rw [ht,Int.toNat_natCast]) t.Gates.length 0 ((((t.Gates.length:Int))-0).toNat+1) [] rfl (Nat.zero_le _) (by omega)
  have h0:=Zp t.Pads (GI types name) (fun acc v=>(AN.mk name acc t.Gates,true)) (fun m acc v=>by
   rw [GI]
   unfold Z0g
   rw [ht,Int.toNat_natCast]
   have:=h1 acc v (GI types name m)
   rw [List.drop_zero,List.nil_append] at this
   cases decide ((v:Int)<(t.Pads.length:Int)) with
   | true=>rfl
   | false=>exact this) t.Pads.length 0 ((((t.Pads.length:Int))-0).toNat+1) [] rfl (Nat.zero_le _) (by omega)
  rw [List.drop_zero,List.nil_append] at h0
  exact h0
theorem Ij {types:List AN} (h:Bt types) (name:ByteArray):((Zh types name).1.Pads.length:Int)<=1000000:=by
 unfold Zh
 cases hf:types.find? (fun t=>Hf t name) with
 | none=>exact (by decide:((0:Nat):Int)<=1000000)
 | some t=>exact (h.2 t (List.mem_of_find?_eq_some hf)).1
end
theorem IA:∀ x:AK,∀ y∈AK.c x,NM y:=by
 intro x y hy
 simp only [AK.c,List.mem_cons,List.not_mem_nil,or_false] at hy
 rcases hy with rfl | rfl | rfl | rfl | rfl | rfl | rfl <;> first | exact .val _
theorem E3:∀ x:AF,∀ y∈AF.c x,NM y:=by
 intro x y hy
 simp only [AF.c,List.mem_cons,List.not_mem_nil,or_false] at hy
 rcases hy with rfl | rfl | rfl | rfl | rfl | rfl | rfl <;> first | exact .val _
theorem lW:∀ x:Ab,∀ y∈Ab.c x,NM y:=by
 intro x y hy
 simp only [Ab.c,List.mem_cons,List.not_mem_nil,or_false] at hy
 rcases hy with rfl | rfl <;> first | exact .val _
theorem Ig:∀ x:Bz,∀ y∈Bz.c x,NM y:=by
 intro x y hy
 simp only [Bz.c,List.mem_cons,List.not_mem_nil,or_false] at hy
 rcases hy with rfl | rfl <;> first | exact .val _ | exact Bc lW
theorem ZQ:∀ x:AV,∀ y∈AV.c x,NM y:=by
 intro x y hy
 simp only [AV.c,List.mem_cons,List.not_mem_nil,or_false] at hy
 rcases hy with rfl | rfl | rfl | rfl | rfl | rfl <;> first | exact .val _ | exact Bc IA
theorem lV:∀ x:Aw,∀ y∈Aw.c x,NM y:=by
 intro x y hy
 simp only [Aw.c,List.mem_cons,List.not_mem_nil,or_false] at hy
 rcases hy with rfl | rfl | rfl | rfl | rfl | rfl | rfl | rfl <;> first | exact .val _
theorem eP:∀ x:Ad,∀ y∈Ad.c x,NM y:=by
 intro x y hy
 simp only [Ad.c,List.mem_cons,List.not_mem_nil,or_false] at hy
 rcases hy with rfl | rfl | rfl | rfl <;> first | exact .val _
theorem eQ:∀ x:BZ,∀ y∈BZ.c x,NM y:=by
 intro x y hy
 simp only [BZ.c,List.mem_cons,List.not_mem_nil,or_false] at hy
 rcases hy with rfl | rfl | rfl | rfl | rfl | rfl | rfl | rfl <;> first | exact .val _ | exact Bc eP
theorem eR:∀ x:C4,∀ y∈C4.c x,NM y:=by
 intro x y hy
 simp only [C4.c,List.mem_cons,List.not_mem_nil,or_false] at hy
 rcases hy with rfl | rfl | rfl | rfl | rfl <;> first | exact .val _ | exact Bc IA
theorem eO:∀ x:Aj,∀ y∈Aj.c x,NM y:=by
 intro x y hy
 simp only [Aj.c,List.mem_cons,List.not_mem_nil,or_false] at hy
 rcases hy with rfl | rfl | rfl | rfl <;> first | exact .val _ | exact Bc IA
theorem ZS:∀ x:Ch,∀ y∈Ch.c x,NM y:=by
 intro x y hy
 simp only [Ch.c,List.mem_cons,List.not_mem_nil,or_false] at hy
 rcases hy with rfl | rfl <;> first | exact .val _ | exact Bc (fun x y hy=>by rw [List.mem_singleton.1 hy];exact .val _)
theorem WJ:∀ x:CG,∀ y∈CG.c x,NM y:=by
 intro x y hy
 simp only [CG.c,List.mem_cons,List.not_mem_nil,or_false] at hy
 rcases hy with rfl | rfl | rfl <;> first | exact .val _
theorem ZR:∀ x:Ds,∀ y∈Ds.c x,NM y:=by
 intro x y hy
 simp only [Ds.c,List.mem_cons,List.not_mem_nil,or_false] at hy
 rcases hy with rfl | rfl | rfl <;> first | exact .val _ | exact Bc (fun x y hy=>by rw [List.mem_singleton.1 hy];exact .val _)
theorem HD:∀ x:AL,∀ y∈AL.c x,NM y:=by
 intro x y hy
 simp only [AL.c,List.mem_cons,List.not_mem_nil,or_false] at hy
 rcases hy with rfl | rfl | rfl | rfl | rfl | rfl | rfl | rfl | rfl <;> first | exact .val _ | exact Bc IA
theorem Ie:∀ x:BH,∀ y∈BH.c x,NM y:=by
 intro x y hy
 simp only [BH.c,List.mem_cons,List.not_mem_nil,or_false] at hy
 rcases hy with rfl | rfl | rfl | rfl | rfl | rfl | rfl <;> first | exact .val _ | exact Bc IA
theorem lX:∀ x:Bk,∀ y∈Bk.c x,NM y:=by
 intro x y hy
 simp only [Bk.c,List.mem_cons,List.not_mem_nil,or_false] at hy
 rcases hy with rfl | rfl <;> first | exact .val _
theorem eS:∀ x:A7,∀ y∈A7.c x,NM y:=by
 intro x y hy
 simp only [A7.c,List.mem_cons,List.not_mem_nil,or_false] at hy
 rcases hy with rfl | rfl <;> first | exact .val _ | exact Bc lX
theorem FR:∀ x:AN,∀ y∈AN.c x,NM y:=by
 intro x y hy
 simp only [AN.c,List.mem_cons,List.not_mem_nil,or_false] at hy
 rcases hy with rfl | rfl | rfl <;> first | exact .val _ | exact Bc eS | exact Bc Ie
abbrev BM (b:AG) (t_:List Cl):List Cl:=(.i b.Layers)::(.i b.Outline.Kind)::(lst 7 AK.c b.Outline.Edges)::(.i b.Outline.R)::(lst 7 AF.c b.Parts)::(lst 2 Bz.c b.Nets)::t_
abbrev CQ (b:AG) (t_:List Cl):List Cl:=(lst 6 AV.c b.Tracks)::(lst 8 Aw.c b.Vias)::(lst 8 BZ.c b.Pours)::(lst 5 C4.c b.Keeps)::(lst 4 Aj.c b.Slots)::t_
abbrev B1 (b:AG):List Cl:=(BM b (CQ b [lst 2 Ch.c b.Classes,.any,lst 3 CG.c b.Waivers,lst 3 Ds.c b.Matches]))
theorem ED (b:AG):∀ y∈B1 b,NM y:=by
 intro y hy
 simp only [B1,List.mem_cons,List.not_mem_nil,or_false] at hy
 rcases hy with rfl | rfl | rfl | rfl | rfl | rfl | rfl | rfl | rfl | rfl | rfl | rfl | rfl | rfl | rfl <;> first | exact .val _ | exact .any | exact Bc IA | exact Bc E3 | exact Bc Ig | exact Bc ZQ | exact Bc lV | exact Bc eQ | exact Bc eR | exact Bc eO | exact Bc ZS | exact Bc WJ | exact Bc ZR
def D4 (types:List AN) (p:AF):List (AF×BH):=(BA types p.Type').1.Pads.map fun q=>(p,q)
def AU (b:AG) (types:List AN):List (AF×BH):=(CK b.Parts).flatMap (D4 types)
def H0 (b:AG) (types:List AN) (k:Nat):Nat:=(((CK b.Parts).take k).flatMap (D4 types)).length
theorem Ic (types:List AN) (p:AF):(D4 types p).length=(BA types p.Type').1.Pads.length:=List.length_map _
theorem ZG (b:AG) (types:List AN):H0 b types (CK b.Parts).length=(AU b types).length:=by unfold H0 AU;rw [List.take_length]
theorem V5 (b:AG) (types:List AN) {k:Nat} (h:k<(CK b.Parts).length):H0 b types (k+1)=H0 b types k+(BA types ((CK b.Parts).getD k default).Type').1.Pads.length:=by
 unfold H0
 rw [(EO _ k h).1,List.flatMap_append,List.length_append,List.flatMap_singleton,Ic]
theorem dK (b:AG) (types:List AN) {k j:Nat} (h:k<(CK b.Parts).length) (hj:j<(BA types ((CK b.Parts).getD k default).Type').1.Pads.length) :
  H0 b types k+j<(AU b types).length/\(AU b types).getD (H0 b types k+j) default=((CK b.Parts).getD k default,(BA types ((CK b.Parts).getD k default).Type').1.Pads.getD j default):=by
 have e:AU b types=((CK b.Parts).take k).flatMap (D4 types)++(D4 types ((CK b.Parts).getD k default)++((CK b.Parts).drop (k+1)).flatMap (D4 types)):=by
  unfold AU
  rw [<- List.flatMap_cons,<- (EO _ k h).2,<- List.flatMap_append,List.take_append_drop]
 have hl:=Ic types ((CK b.Parts).getD k default)
 rw [e]
 unfold H0
 constructor
 ·rw [List.length_append,List.length_append,hl];omega
 rw [List.getD_eq_getElem?_getD,List.getElem?_append_right oM,Nat.add_sub_cancel_left,List.getElem?_append_left (by rw [hl];exact hj)]
 unfold D4
 rw [List.getElem?_map,List.getElem?_eq_getElem hj,List.getD_eq_getElem?_getD (l:=(BA types _).1.Pads),List.getElem?_eq_getElem hj]
 rfl
abbrev Eo (types:List AN):Nat×Tv:=(2,.av (.one (.eptr 1 1 (gD [lst 3 AN.c types]) 0 0)))
abbrev Fj (b:AG):Nat×Tv:=(17,tI ((CK b.Parts).length:Int))
abbrev Fi (b:AG):Nat×Tv:=(16,tO (lst 7 AF.c (CK b.Parts)))
theorem Xa (b:AG) (types:List AN) (hb:b.Parts.length<20) (ht:Bt types):JC Tryz.prog 147 2 (Am [.eptr 15 1 (gD (B1 b)) 0 0,.eptr 1 1 (gD [lst 3 AN.c types]) 0 0]) (AU b types).length (fun x=>[.agg (AF.c ((AU b types).getD x.val default).1),.agg (BH.c ((AU b types).getD x.val default).2)]):=by
 refine UI Tryz.func147 rfl rfl kr (fun i hi => ?_) ?_
 ·match i,hi with
  | 0,_=>rfl
  | 1,_=>rfl
 intro Ow n0 ly JJ hO hJg hY
 have hd:∀ (x:List (Nat×Tv)),(∀ p∈x,p.2.dv=true)->∀ i u,get x i=some u->u.dv=true:=fun x h=>Bg (p:=fun u=>Tv.dv u=true) h
 refine fL hO (Bg (p:=fun u=>Tv.dv u=true) (by simp [EL,Cn,Tv.dv,Av.dv,Cl.dv,List.range,List.range.loop,Am])) rfl fun W0 X1 M1 hX => ?_
 have hp1:(b.Parts.length:Int)<=1000000:=by omega
 refine oq 13 _ (dZ b.Parts au4)<|AE<|rb 15 (149,([.one (.own 1000 7 b.Parts.length),.one (.clo 150 0 dfc)]:List Av).map (Hx 1000 13),wrI 13 (.row 7 b.Parts.length (AP AF.c b.Parts) 78) (.tup []) (.row 7 b.Parts.length (AP AF.c (CK b.Parts)) 78)) (.row 7 b.Parts.length (AP AF.c b.Parts) 78) ⟨[(0,.av (.one (.val (.func (.yield ly) #[] #[])))),(Eo types),(4,tO (.own 13 7 b.Parts.length))],[(13,.row 7 b.Parts.length (AP AF.c (CK b.Parts)) 78)]⟩ (Fz (fun _ _=>kr) kr (pSrtP b.Parts au4)) ?_
 refine ⟨rfl,⟨[(0,.av (.one (.val (.func (.yield ly) #[] #[])))),(Eo types),(4,tO (lst 7 AF.c (CK b.Parts)))],[]⟩,fun W2 M2=>Cv.trans (A5 13 (Jy 7 AF.c (CK b.Parts) (Mr b.Parts au4))) (Q0 (⟨[(0,.av (.one (.val (.func (.yield ly) #[] #[])))),(Eo types),(4,tO (lst 7 AF.c (CK b.Parts)))],[]⟩) 13 hk0),?_⟩
 have hps:=Mr b.Parts hb
 refine DF<|DL hO (hd _ (by simp only [List.forall_mem_cons];exact ⟨rfl,rfl,rfl,fun x hx=>by cases hx⟩)) rfl fun W0 X1 M1 => ?_
 refine rg ⟨[(0,.av (.one (.val (.func (.yield ly) #[] #[])))),(Eo types),(Fi b),(Fj b),(18,tI 0)],[]⟩<|DA<|GN<|Nk (ι:=Nat) (fun k=>⟨[(0,.av (.one (.val (.func (.yield ly) #[] #[])))),(Eo types),(Fi b),(Fj b),(18,tI (k:Int))],[]⟩) (fun k=>JJ (H0 b types k)) (fun k=>k<=(CK b.Parts).length) (fun k=>(CK b.Parts).length-k) (fun k hk => ?_) 0 (Nat.zero_le _)
 refine DF<|DL hO (hd _ (by simp only [List.forall_mem_cons];exact ⟨rfl,rfl,rfl,rfl,rfl,fun x hx=>by cases hx⟩)) rfl fun W0 X1 M1 => ?_
 refine rg ⟨[(0,.av (.one (.val (.func (.yield ly) #[] #[])))),(Eo types),(Fi b),(Fj b),(18,tI (k:Int)),(19,tB (decide (((k:Int):Int)<((CK b.Parts).length:Int))))],[]⟩<|DA<|DF<|GD (decide (((k:Int):Int)<((CK b.Parts).length:Int))) kr (fun hc => ?_) (fun hc => ?_)
 ·have hlt:k<(CK b.Parts).length:=by have:=oT hc;omega
  refine Hb<|DA<|DF<|GN<|DF<|O5 [0,2,16,17,18] ⟨[(0,.av (.one (.val (.func (.yield ly) #[] #[])))),(Eo types),(Fi b),(Fj b),(18,tI (k:Int))],[]⟩ kr<|DL hO (hd _ (by simp only [List.forall_mem_cons];exact ⟨rfl,rfl,rfl,rfl,rfl,fun x hx=>by cases hx⟩)) rfl fun W0 X1 M1 => ?_
  refine rc [] [0<=((k:Int):Int)/\((k:Int):Int)<(((CK b.Parts).length:Nat):Int)] ⟨[(0,.av (.one (.val (.func (.yield ly) #[] #[])))),(Eo types),(6,tP 6 0),(Fi b),(Fj b),(18,tI (k:Int))],[(6,.cells (AF.c ((CK b.Parts).getD (k:Int).toNat default)) 78)]⟩ .nil (H1 au0)<|DA<|X3 (S:=⟨[(0,.av (.one (.val (.func (.yield ly) #[] #[])))),(Eo types),(6,.av (.one (.eptr 7 1 (gD (AF.c ((CK b.Parts).getD (k:Int).toNat default))) 0 0))),(Fi b),(Fj b),(18,tI (k:Int))],[]⟩) hO (fun W0 M1=>Hm _ 6 (AF.c ((CK b.Parts).getD (k:Int).toNat default)) 78 hk0 kr kr kr kr) ?_
  have hns:=V5 b types hlt
  have hat:=fun j hj=>dK b types (j:=j) hlt hj
  rw [Int.toNat_natCast]
  generalize hp:(CK b.Parts).getD k default=p at *
  refine DF ?_
  have hgl:=L8 types p.Type'
  have hpl:((BA types p.Type').1.Pads.length:Int)<=1000000:=by rw [hgl];exact Ij ht _
  refine DL hO (hd _ (by simp only [List.forall_mem_cons];exact ⟨rfl,rfl,rfl,rfl,rfl,rfl,fun x hx=>by cases hx⟩)) rfl fun W0 X1 M1 => ?_
  refine rs 26 _ ⟨[(0,.av (.one (.val (.func (.yield ly) #[] #[])))),(Eo types),(6,.av (.one (.eptr 7 1 (gD (AF.c p)) 0 0))),(7,tP 7 0),(Fi b),(Fj b),(18,tI (k:Int))],[(7,.cells (AN.c (BA types p.Type').1) 82)]⟩ (oD types p.Type' au4)<|DA<|X3 (S:=⟨[(0,.av (.one (.val (.func (.yield ly) #[] #[])))),(Eo types),(6,.av (.one (.eptr 7 1 (gD (AF.c p)) 0 0))),(7,.av (.one (.eptr 3 1 (gD (AN.c (BA types p.Type').1)) 0 0))),(Fi b),(Fj b),(18,tI (k:Int))],[]⟩) hO (fun W0 M1=>Hm _ 7 (AN.c (BA types p.Type').1) 82 hk0 kr kr kr kr)<|DF<|DL hO (hd _ (by simp only [List.forall_mem_cons];exact ⟨rfl,rfl,rfl,rfl,rfl,rfl,rfl,fun x hx=>by cases hx⟩)) rfl fun W0 X1 M1 => ?_
  refine rg ⟨[(0,.av (.one (.val (.func (.yield ly) #[] #[])))),(Eo types),(6,.av (.one (.eptr 7 1 (gD (AF.c p)) 0 0))),(Fi b),(Fj b),(18,tI (k:Int)),(30,tO (lst 7 BH.c (BA types p.Type').1.Pads)),(31,tI ((BA types p.Type').1.Pads.length:Int)),(32,tI 0)],[]⟩<|DA<|GN<|Nk (ι:=Nat) (fun j=>⟨[(0,.av (.one (.val (.func (.yield ly) #[] #[])))),(Eo types),(6,.av (.one (.eptr 7 1 (gD (AF.c p)) 0 0))),(Fi b),(Fj b),(18,tI (k:Int)),(30,tO (lst 7 BH.c (BA types p.Type').1.Pads)),(31,tI ((BA types p.Type').1.Pads.length:Int)),(32,tI (j:Int))],[]⟩) (fun j=>JJ (H0 b types k+j)) (fun j=>j<=(BA types p.Type').1.Pads.length) (fun j=>(BA types p.Type').1.Pads.length-j) (fun j hj => ?_) 0 (Nat.zero_le _)
  refine DF<|DL hO (hd _ (by simp only [List.forall_mem_cons];exact ⟨rfl,rfl,rfl,rfl,rfl,rfl,rfl,rfl,rfl,fun x hx=>by cases hx⟩)) rfl fun W0 X1 M1 => ?_
  refine rg ⟨[(0,.av (.one (.val (.func (.yield ly) #[] #[])))),(Eo types),(6,.av (.one (.eptr 7 1 (gD (AF.c p)) 0 0))),(Fi b),(Fj b),(18,tI (k:Int)),(30,tO (lst 7 BH.c (BA types p.Type').1.Pads)),(31,tI ((BA types p.Type').1.Pads.length:Int)),(32,tI (j:Int)),(33,tB (decide (((j:Int):Int)<((BA types p.Type').1.Pads.length:Int))))],[]⟩<|DA<|DF<|GD (decide (((j:Int):Int)<((BA types p.Type').1.Pads.length:Int))) kr (fun hc2 => ?_) (fun hc2 => ?_)
  ·have hlt2:j<(BA types p.Type').1.Pads.length:=by have:=oT hc2;omega
   obtain ⟨hat1,hat2⟩:=hat j hlt2
   refine Hb<|DA<|DF<|GN<|DF<|O5 [0,2,6,16,17,18,30,31,32] ⟨[(0,.av (.one (.val (.func (.yield ly) #[] #[])))),(Eo types),(6,.av (.one (.eptr 7 1 (gD (AF.c p)) 0 0))),(Fi b),(Fj b),(18,tI (k:Int)),(30,tO (lst 7 BH.c (BA types p.Type').1.Pads)),(31,tI ((BA types p.Type').1.Pads.length:Int)),(32,tI (j:Int))],[]⟩ kr<|DL hO (hd _ (by simp only [List.forall_mem_cons];exact ⟨rfl,rfl,rfl,rfl,rfl,rfl,rfl,rfl,rfl,fun x hx=>by cases hx⟩)) rfl fun W0 X1 M1 => ?_
   refine rc [] [0<=((j:Int):Int)/\((j:Int):Int)<(((BA types p.Type').1.Pads.length:Nat):Int)] ⟨[(0,.av (.one (.val (.func (.yield ly) #[] #[])))),(Eo types),(6,.av (.one (.eptr 7 1 (gD (AF.c p)) 0 0))),(10,tP 10 0),(Fi b),(Fj b),(18,tI (k:Int)),(30,tO (lst 7 BH.c (BA types p.Type').1.Pads)),(31,tI ((BA types p.Type').1.Pads.length:Int)),(32,tI (j:Int))],[(10,.cells (BH.c ((BA types p.Type').1.Pads.getD (j:Int).toNat default)) 102)]⟩ .nil (H1 au0)<|DA<|X3 (S:=⟨[(0,.av (.one (.val (.func (.yield ly) #[] #[])))),(Eo types),(6,.av (.one (.eptr 7 1 (gD (AF.c p)) 0 0))),(10,.av (.one (.eptr 7 1 (gD (BH.c ((BA types p.Type').1.Pads.getD (j:Int).toNat default))) 0 0))),(Fi b),(Fj b),(18,tI (k:Int)),(30,tO (lst 7 BH.c (BA types p.Type').1.Pads)),(31,tI ((BA types p.Type').1.Pads.length:Int)),(32,tI (j:Int))],[]⟩) hO (fun W0 M1=>Hm _ 10 (BH.c ((BA types p.Type').1.Pads.getD (j:Int).toNat default)) 102 hk0 kr kr kr kr) ?_
   rw [Int.toNat_natCast]
   generalize hq:(BA types p.Type').1.Pads.getD j default=q at *
   refine DF<|Kw<|Ha hO Cq 3 [0,2,6,10,16,17,18,30,31,32,36,37,38] [] [(0,.av (.one (.val (.func (.yield ly) #[] #[])))),(2,.av (.one (.eptr 1 1 (gD [lst 3 AN.c types]) 0 0))),(6,.av (.one (.eptr 7 1 (gD (AF.c p)) 0 0))),(10,.av (.one (.eptr 7 1 (gD (BH.c q)) 0 0))),(16,tO (lst 7 AF.c (CK b.Parts))),(17,tI ((CK b.Parts).length:Int)),(18,tI (k:Int)),(30,tO (lst 7 BH.c (BA types p.Type').1.Pads)),(31,tI ((BA types p.Type').1.Pads.length:Int)),(32,tI (j:Int)),(36,.av (.one (.val (.func (.yield ly) #[] #[])))),(37,.av (.agg (AF.c p))),(38,.av (.agg (BH.c q)))] kr .nil (hd _ (by simp only [List.forall_mem_cons];exact ⟨rfl,rfl,rfl,rfl,rfl,rfl,rfl,rfl,rfl,rfl,fun x hx=>by cases hx⟩)) rfl<|WP (ly:=ly) (d:=39) hO rfl [.agg (AF.c p),.agg (BH.c q)] rfl rfl kr kr kr ?hvm rfl kr ?hT1 (fun A B=>hJg _ A B) (JJ (H0 b types k+j+1)) ?hY rfl ?ht
   case hvm =>
    intro x hx
    simp only [List.mem_cons,List.not_mem_nil,or_false] at hx
    rcases hx with rfl | rfl
    ·exact E3 _
    exact Ie _
   case hT1=>exact Bg (p:=fun u=>Tv.dv u=true/\TvM u) (by
    simp only [List.forall_mem_cons]
    exact ⟨⟨rfl,A9 (.val _)⟩,⟨rfl,A9 (CL (by simp only [List.forall_mem_cons];exact ⟨(Bc FR),fun x hx=>by cases hx⟩))⟩,⟨rfl,A9 (CL (E3 _))⟩,⟨rfl,A9 (CL (Ie _))⟩,⟨rfl,A9 (Bc E3)⟩,⟨rfl,A9 (.val _)⟩,⟨rfl,A9 (.val _)⟩,⟨rfl,A9 (Bc Ie)⟩,⟨rfl,A9 (.val _)⟩,⟨rfl,A9 (.val _)⟩,⟨rfl,A9 (.val _)⟩,⟨rfl,(E3 _)⟩,⟨rfl,(Ie _)⟩,fun x hx=>by cases hx⟩)
   case hY =>
    intro W v hW hv
    refine hY _ hat1 W v hW ?_
    show nK (fun _=>none) Ow [.agg (AF.c ((AU b types).getD (H0 b types k+j) default).1),.agg (BH.c ((AU b types).getD (H0 b types k+j) default).2)] v W
    rw [hat2]
    exact hv
   case ht =>
    refine Jd [0,2,6,16,17,18,30,31,32,39] ⟨[(0,.av (.one (.val (.func (.yield ly) #[] #[])))),(Eo types),(6,.av (.one (.eptr 7 1 (gD (AF.c p)) 0 0))),(Fi b),(Fj b),(18,tI (k:Int)),(30,tO (lst 7 BH.c (BA types p.Type').1.Pads)),(31,tI ((BA types p.Type').1.Pads.length:Int)),(32,tI (j:Int)),(39,tB true)],[]⟩ kr<|Ha hO Cq 1 [0,2,6,16,17,18,30,31,32,40] [] [(0,.av (.one (.val (.func (.yield ly) #[] #[])))),(2,.av (.one (.eptr 1 1 (gD [lst 3 AN.c types]) 0 0))),(6,.av (.one (.eptr 7 1 (gD (AF.c p)) 0 0))),(16,tO (lst 7 AF.c (CK b.Parts))),(17,tI ((CK b.Parts).length:Int)),(18,tI (k:Int)),(30,tO (lst 7 BH.c (BA types p.Type').1.Pads)),(31,tI ((BA types p.Type').1.Pads.length:Int)),(32,tI (j:Int)),(40,tB false)] kr .nil (hd _ (by simp only [List.forall_mem_cons];exact ⟨rfl,rfl,rfl,rfl,rfl,rfl,rfl,rfl,rfl,rfl,fun x hx=>by cases hx⟩)) rfl<|Lc<|DA<|GD false kr (fun h=>by cases h) (fun _ => ?_)
    refine Hb<|UO<|DA<|DL hO (hd _ (by simp only [List.forall_mem_cons];exact ⟨rfl,rfl,rfl,rfl,rfl,rfl,rfl,rfl,rfl,rfl,fun x hx=>by cases hx⟩)) rfl fun W0 X1 M1 => ?_
    refine rg ⟨[(0,.av (.one (.val (.func (.yield ly) #[] #[])))),(Eo types),(6,.av (.one (.eptr 7 1 (gD (AF.c p)) 0 0))),(Fi b),(Fj b),(18,tI (k:Int)),(30,tO (lst 7 BH.c (BA types p.Type').1.Pads)),(31,tI ((BA types p.Type').1.Pads.length:Int)),(32,tI (W64 ((j:Int)+1)))],[]⟩<|DA ?_
    refine ⟨j+1,by omega,by omega,?_,by rw [Nat.add_assoc],rfl⟩
    rw [Ae oM oM]
    rfl
  have hjl:j=(BA types p.Type').1.Pads.length:=by have:=oF hc2;omega
  refine Nl<|M8<|M8<|Nm<|UO<|DA<|O5 [0,2,16,17,18] ⟨[(0,.av (.one (.val (.func (.yield ly) #[] #[])))),(Eo types),(Fi b),(Fj b),(18,tI (k:Int))],[]⟩ kr<|DL hO (hd _ (by simp only [List.forall_mem_cons];exact ⟨rfl,rfl,rfl,rfl,rfl,fun x hx=>by cases hx⟩)) rfl fun W0 X1 M1 => ?_
  refine rg ⟨[(0,.av (.one (.val (.func (.yield ly) #[] #[])))),(Eo types),(Fi b),(Fj b),(18,tI (W64 ((k:Int)+1)))],[]⟩<|DA ?_
  refine ⟨k+1,by omega,by omega,?_,by rw [hjl,hns],rfl⟩
  rw [Ae oM oM]
  rfl
 have hkl:k=(CK b.Parts).length:=by have:=oF hc;omega
 refine Nl<|M8<|M8<|Nm ?_
 exact ⟨.inr rfl,by rw [hkl,ZG]⟩
section
open Go.RowKit
section
variable (len:Nat) (g:Nat→Nat→Value)
abbrev Sf:Cl:=iM false 2 len (fun i j=>.val (g i j))
theorem lU:NM (Sf len g):=CL fun y hy=>by rw [List.mem_singleton.1 hy];exact .list _ _ _ _ fun i j=>.val _
abbrev ylB (ly:Nat):Tv:=.av (.one (.val (.func (.yield ly) #[] #[])))
abbrev tB1 (c:Cl):Tv:=.av (.one c)
abbrev avB (k:Nat):Av:=.agg [.val (g k 0),.val (g k 1)]
theorem iP (hl:(len:Int)<=1000000) (h1:∀ i j,i<len->j<2->(g i j).oneCell'=true):JC Tryz.prog 146 1 (Am [Sf len g]) len (fun x=>[.one (.i ((len:Int)-1-(x.val:Int))),avB g (len-1-x.val)]):=by
 refine Qb Tryz.func146 rfl rfl (fun x=>rfl) (fun x e he c hc => ?_) kr (fun i hi => ?_) ?_
 ·simp only [List.mem_cons,List.not_mem_nil,or_false] at he
  rcases he with rfl | rfl
  ·rw [List.mem_singleton.1 hc];rfl
  simp only [Av.cells,List.mem_cons,List.not_mem_nil,or_false] at hc
  have:=x.isLt
  rcases hc with rfl | rfl <;> exact h1 _ _ (by omega) (by decide)
 ·match i,hi with
  | 0,_=>rfl
 intro Ow n0 ly JJ Jx hO hJg hY
 have hd:∀ (x:List (Nat×Tv)),(∀ p∈x,p.2.dv=true)->∀ i u,get x i=some u->u.dv=true:=fun x h=>Bg (p:=fun u=>Tv.dv u=true) h
 refine DF ?_
 refine DL hO (Bg (p:=fun u=>Tv.dv u=true) (by simp [EL,Cn,Tv.dv,Av.dv,Cl.dv,List.range,List.range.loop,Am])) rfl fun W0 X1 M1 => ?_
 refine rg ⟨[(0,ylB ly),(1,tB1 (Sf len g)),(3,tI (W64 ((len:Int)-1)))],[]⟩ ?_
 refine DA ?_
 refine GN ?_
 rw [show W64 ((len:Int)-1)=(len:Int)-1-((0:Nat):Int) by rw [Ae (by omega) (by omega)];omega]
 refine Nk (ι:=Nat) (fun k=>⟨[(0,ylB ly),(1,tB1 (Sf len g)),(3,tI ((len:Int)-1-(k:Int)))],[]⟩) (fun k=>JJ k) (fun k=>k<=len) (fun k=>len-k) (fun k hk => ?_) 0 (Nat.zero_le _)
 refine DF ?_
 refine DF ?_
 refine DL hO (hd _ (by simp only [List.forall_mem_cons];exact ⟨rfl,rfl,rfl,fun x hx=>by cases hx⟩)) rfl fun W0 X1 M1 => ?_
 refine rg ⟨[(0,ylB ly),(1,tB1 (Sf len g)),(3,tI ((len:Int)-1-(k:Int))),(8,tB (decide ((0:Int)<=((len:Int)-1-(k:Int)))))],[]⟩ ?_
 refine DA ?_
 refine GD (decide ((0:Int)<=((len:Int)-1-(k:Int)))) kr (fun hc => ?_) (fun hc => ?_)
 ·have hlt:k<len:=by have:=oT hc;omega
  obtain ⟨m,hm⟩:∃ m:Nat,(len:Int)-1-(k:Int)=(m:Int):=⟨len-1-k,by omega⟩
  have hm2:m=len-1-k:=by omega
  refine Hb ?_
  refine DA ?_
  refine DF ?_
  refine GN ?_
  refine DF ?_
  refine Kw ?_
  rw [hm]
  refine Ha hO Cq 6 [0,1,3,11,12,16] [0<=(m:Int)/\(m:Int)<((len:Nat):Int)] [(0,ylB ly),(1,tB1 (Sf len g)),(3,tI (m:Int)),(11,ylB ly),(12,tI (m:Int)),(16,.av (avB g (m:Int).toNat))] kr (.cons ⟨by omega,by omega⟩ .nil) (hd _ (by simp only [List.forall_mem_cons];exact ⟨rfl,rfl,rfl,rfl,fun x hx=>by cases hx⟩)) rfl ?_
  rw [Int.toNat_natCast]
  refine WQ (ly:=ly) (d:=17) hO rfl [.one (.i (m:Int)),avB g m] rfl rfl kr kr rfl rfl kr ?hT1 (fun A B=>hJg _ A B) (JJ (k+1)) (Jx (k+1)) ?hY [] ?htf rfl ?ht ?hf
  case hT1=>exact Bg (p:=fun u=>Tv.dv u=true/\TvM u) (by
   simp only [List.forall_mem_cons]
   exact ⟨⟨rfl,A9 (.val _)⟩,⟨rfl,A9 (lU len g)⟩,⟨rfl,A9 (.val _)⟩,⟨rfl,A9 (.val _)⟩,⟨rfl,A9 (.val _)⟩,⟨rfl,fun c hc=>by
    simp only [Av.cells,List.mem_cons,List.not_mem_nil,or_false] at hc
    rcases hc with rfl | rfl <;> exact .val _⟩,fun x hx=>by cases hx⟩)
  case hY =>
   intro W hW
   have:=hY k hlt W hW
   simp only [hm,<- hm2] at this
   exact this
  case htf=>exact fun i v hv=>by cases hv
  case ht =>
   refine Jd [0,1,3,17] ⟨[(0,ylB ly),(1,tB1 (Sf len g)),(3,tI (m:Int)),(17,tB true)],[]⟩ kr ?_
   refine Ha hO Cq 1 [0,1,3,18] [] [(0,ylB ly),(1,tB1 (Sf len g)),(3,tI (m:Int)),(18,tB false)] kr .nil (hd _ (by simp only [List.forall_mem_cons];exact ⟨rfl,rfl,rfl,rfl,fun x hx=>by cases hx⟩)) rfl ?_
   refine Lc ?_
   refine DA ?_
   refine GD false kr (fun h=>by cases h) (fun _ => ?_)
   refine Hb ?_
   refine UO ?_
   refine DA ?_
   refine DL hO (hd _ (by simp only [List.forall_mem_cons];exact ⟨rfl,rfl,rfl,rfl,fun x hx=>by cases hx⟩)) rfl fun W0 X1 M1 => ?_
   refine rg ⟨[(0,ylB ly),(1,tB1 (Sf len g)),(3,tI (W64 ((m:Int)-1)))],[]⟩ ?_
   refine DA ?_
   refine ⟨k+1,by omega,by omega,?_,rfl,rfl⟩
   rw [Ae (by omega) (by omega),show (m:Int)-1=(len:Int)-1-((k+1:Nat):Int) by omega]
  case hf =>
   refine Jd [17] ⟨[(17,tB false)],[]⟩ kr ?_
   refine Ha hO Cq 1 [18] [] [(18,tB true)] kr .nil (hd _ (by simp only [List.forall_mem_cons];exact ⟨rfl,fun x hx=>by cases hx⟩)) rfl ?_
   refine Lc ?_
   refine DA ?_
   refine GD true kr (fun _ => ?_) (fun h=>by cases h)
   refine fK ?_
   exact ⟨.inl rfl,.inr ⟨_,hlt,rfl⟩⟩
 have hkl:k=len:=by have:=oF hc;omega
 refine Nl ?_
 refine M8 ?_
 refine M8 ?_
 refine Nm ?_
 exact ⟨.inr rfl,.inl (by rw [hkl])⟩
end
theorem YR (l:List Bz) (hl:(l.length:Int)<=1000000):JC Tryz.prog 146 1 (Am [.eptr 1 1 (fun _ j=>([lst 2 Bz.c l]:List Cl).getD j default) 0 0]) l.length (fun x=>[.one (.i ((l.length:Int)-1-(x.val:Int))),.agg (Bz.c (l.getD (l.length-1-x.val) default))]):=by
 refine WR (t:=false) (sz:=2) (len:=l.length) (f:=fun i j=>(Bz.c (l.getD i default)).getD j default) (fun g x=>[.one (.i ((l.length:Int)-1-(x.val:Int))),avB g (l.length-1-x.val)]) rfl (by decide) (fun g h1 => ?_) (fun g x=>rfl) (fun M g x vs h2 hL => ?_)
 ·refine WS (fun i hi => ?_) (iP l.length g hl h1)
  match i,hi with
  | 0,_=>rfl
 cases hL with
 | cons a1 a2 =>
  cases a2 with
  | cons a3 a4 =>
   refine .cons a1 (.cons (fun σ => ?_) a4)
   obtain ⟨us,hu,hus⟩:=a3 σ
   refine ⟨us,hu,?_⟩
   have hx:l.length-1-x.val<l.length:=by have:=x.isLt;omega
   cases hus with
   | cons b1 b2 =>
    cases b2 with
    | cons b3 b4 =>
     cases b4
     have e1:=b1.1
     have e2:=b3.1
     subst e1 e2
     exact .cons ((KM rfl).2 (h2 _ 0 hx (by decide))) (.cons ((KM rfl).2 (h2 _ 1 hx (by decide))) .nil)
end
section
open Go.RowKit
theorem QK  (l:(List Bz)):FV Tryz.prog 104 [.one (lst 2 Bz.c l)] (.av (.one (.clo 146 1 (Am [.eptr 1 1 (gD [lst 2 Bz.c l]) 0 0])))):=by
 refine pwf Tryz.func104 fun W0 M0 => ?_
 exact AB<|on<|AB<|rn ⟨[(2,tO (.clo 146 1 (Am [.ptr 1 0])))],[(1,.cells [lst 2 Bz.c l] 30)]⟩<|AW<|zy (Hm (⟨[(2,.av (.one (.clo 146 1 (Am [.eptr 1 1 (gD [lst 2 Bz.c l]) 0 0]))))],[]⟩) 1 [lst 2 Bz.c l] 30 hk0 kr kr kr kr)
variable (s:AO) (b:AG) (s_1:List AK) (v13:Int) (m:AZ) (p:AF) (types:List AN) (x0:AF)
abbrev Ke:List Av:=[.agg (B1 b),.one (HX types)]
def cpads:CT:=(105,(Ke b types),.val [] (.av (.one (.clo 147 2 (Am [.eptr 15 1 (fun _ j_=>((B1 b):List Cl).getD j_ default) 0 0,.eptr 1 1 (fun _ j_=>([lst 3 AN.c types]:List Cl).getD j_ default) 0 0])))))
abbrev zzc8:Av:=.one (.clo 147 2 (Am [.eptr 15 1 (gD (B1 b)) 0 0,.eptr 1 1 (gD [lst 3 AN.c types]) 0 0]))
abbrev G5:Nat×Blk:=(2,.cells (B1 b) 41)
theorem nY (b:AG) (types:(List AN)):PuP 105 (cpads b types).2.1 (.av (.one (.clo 147 2 (Am [.eptr 15 1 (gD (B1 b)) 0 0,.eptr 1 1 (gD [lst 3 AN.c types]) 0 0])))):=by
 refine pwf Tryz.func105 fun W0 M0 => ?_
 exact AB<|on<|AB<|rn ⟨[(4,tO (.clo 147 2 (Am [.ptr 2 0,.ptr 3 0])))],[(G5 b),(3,.cells [lst 3 AN.c types] 43)]⟩<|AW<|zy (Cv.trans (Hm (⟨[(4,.av (.one (.clo 147 2 (Am [.eptr 15 1 (gD (B1 b)) 0 0,.ptr 3 0]))))],[(3,.cells [lst 3 AN.c types] 43)]⟩) 2 (B1 b) 41 hk0 kr kr kr kr) (Hm (⟨[(4,.av (zzc8 b types))],[]⟩) 3 [lst 3 AN.c types] 43 hk0 kr kr kr kr))
def Eh (s:AO) (m:AZ):Nat->List AK->Int->AO
 | 0,_,_=>default
 | n0+1,s_1,v13=>bif decide ((v13:Int)<((s.Edges.length:Nat):Int)) then ((Eh s m n0) (s_1.set v13.toNat (D1 (s_1.getD v13.toNat default) m)) (v13+1)) else (AO.mk s.Kind s_1 s.R)
def Em (s:AO) (m:AZ):AO:=Eh s m ((((s.Edges.length:Nat):Int)-0).toNat+1) s.Edges 0
def iE:CT:=(106,[.agg (AO.c s),.agg (AZ.c m)],.val [] (.av (.agg (AO.c (Em s m)))))
abbrev LH:Nat×Blk:=(4,.cells [.i 0,vN,.i 0] 28)
abbrev Rj:Nat×Tv:=(12,tI ((s.Edges.length:Nat):Int))
abbrev bL:AS:=⟨(CR [(Rj s),(13,tI 0)]),[(2,.cells [.i s.Kind,.own 8 7 s.Edges.length,.i s.R] 28),(Gi m),LH,(8,.row 7 s.Edges.length (AP AK.c s.Edges) 68)]⟩
abbrev bJ:List (Nat×Blk):=[(2,.cells [.i s.Kind,.own 8 7 (s_1.set v13.toNat (D1 (s_1.getD v13.toNat default) m)).length,.i s.R] 28),(Gi m),LH,(8,.row 7 (s_1.set v13.toNat (D1 (s_1.getD v13.toNat default) m)).length (AP AK.c (s_1.set v13.toNat (D1 (s_1.getD v13.toNat default) m))) 68)]
theorem qB (s:AO) (m:AZ) (h0:(s.Edges.length:Int)<=1000000):PuP 106 (iE s m).2.1 (.av (.agg (AO.c (Em s m)))):=by
 refine pwf Tryz.func106 fun W0 M0 => ?_
 refine AB<|on<|AB<|oq 8 _ (JZ s.Edges au4)<|AE<|BE (A5 8 (A1 7 AK.c s.Edges))<|AB<|AB<|rn (bL s m)<|AM<|lpC (κ:=List AK×Int) (fun x=>⟨(CR [(Rj s),(13,tI x.2.2)]),[(2,.cells [.i s.Kind,.own 8 7 x.2.1.length,.i s.R] 28),(Gi m),LH,(8,.row 7 x.2.1.length (AP AK.c x.2.1) 68)]⟩) (fun x=>(((s.Edges.length:Nat):Int)-x.2.2).toNat) (fun x=>(x.2.1.length=s.Edges.length/\0<=x.2.2/\(x.2.2<=((s.Edges.length:Nat):Int)\/x.2.2=0))/\Eh s m x.1 x.2.1 x.2.2=Em s m) ?_ ((((s.Edges.length:Nat):Int)-0).toNat+1,s.Edges,0) ⟨Nat.lt_succ_self _,⟨ax0,ax0,ax0⟩,(by simp only [Em,cond_true,cond_false])⟩
 rintro n0 ⟨s_1,v13⟩ hm0 ⟨hinv0,hF0⟩
 try dsimp only at hm0 hinv0 hF0
 refine AB<|on<|AB<|kb (decide ((v13:Int)<((s.Edges.length:Nat):Int))) (fun h1 => ?_) (fun h1 => ?_)
 ·have g1:=oT h1
  refine AQ<|AE<|AB<|AM<|AB<|on<|oe [] _ [0<=(v13:Int)/\(v13:Int)<((s_1.length:Nat):Int),v13.toNat<s_1.length,none,0<=(v13:Int)/\(v13:Int)<((s_1.length:Nat):Int),v13.toNat<s_1.length] (J1 25 (eD (s_1.getD v13.toNat default) m)) (H4 au0 au0 au0 au0)<|A3<|AE<|BE (A5 8 (Hw (l:=(AK.c (D1 (s_1.getD v13.toNat default) m))) (off:=0) (q:=7) (k:=v13.toNat) (A1 7 AK.c s_1) au0 (D1 (s_1.getD v13.toNat default) m) (HY kr)))<|rg ⟨(CR [(Rj s),(13,tI (W64 (v13+1)))]),(bJ s s_1 v13 m)⟩ ?_
  (try rw [(show W64 (v13+1)=v13+1 from Ae oM au3)])
  refine AE ?_
  refine ⟨(n0,s_1.set v13.toNat (D1 (s_1.getD v13.toNat default) m),v13+1),⟨?_,?_,(by rw [<- hF0];simp only [Eh,h1,cond_true,cond_false])⟩,Nat.lt_succ_self _,Al kr⟩
  ·dsimp only;omega
  exact ⟨ax0,ax0,ax0⟩
 exact An<|Ai<|Ai<|Ao<|AE<|AB<|on<|AW<|zy (vf 8 hk0) (by rw [<- hF0];simp only [Eh,h1,cond_true,cond_false] <;> kernel_rfl)
theorem lI (s:AO) (m:AZ) (h0:(s.Edges.length:Int)<=1000000):OKc (iE s m):=cPu<|qB s m h0
def A4 (p:Ab):Value:=.agg #[.string p.Ref,.string p.Pad]
def As (a b:Ab):Bool:=eqS a.Ref b.Ref&&eqS a.Pad b.Pad
theorem KC (a b:Ab):As a b=true↔A4 a=A4 b:=by
 unfold As A4
 rw [Bool.and_eq_true,We,We]
 simp
theorem Lg (k:Ab):FX Tryz.prog eqE 106 (A4 k):=.inr ⟨_,_,_,rfl,rfl,by kernel_rfl,rfl,rfl⟩
theorem QM {b:AG} {types:List AN} (ht:Bt types) (k:Nat):(((AU b types).getD k default).2.Shape.Edges.length:Int)<=1000000:=by
 refine Eb (p:=fun x:AF×BH=>(x.2.Shape.Edges.length:Int)<=1000000) (by decide) (fun x hx => ?_) k
 unfold AU at hx
 obtain ⟨p,_,hp⟩:=List.mem_flatMap.1 hx
 unfold D4 at hp
 obtain ⟨q,hq,rfl⟩:=List.mem_map.1 hp
 rw [L8] at hq
 unfold Zh at hq
 cases hf:types.find? (fun t=>Hf t p.Type') with
 | none=>rw [hf] at hq;cases hq
 | some t=>rw [hf] at hq;exact (ht.2 t (List.mem_of_find?_eq_some hf)).2.2.1 q hq
theorem Gt {b:AG} {types:List AN} (hp:b.Parts.length<20) (ht:Bt types):((AU b types).length:Int)<=20000000:=by
 have key:∀ l:List AF,((l.flatMap (D4 types)).length:Int)<=1000000*(l.length:Int):=by
  intro l
  induction l with
  | nil=>simp
  | cons p l ih =>
   rw [List.flatMap_cons,List.length_append,Ic,L8,List.length_cons]
   have:=Ij ht p.Type'
   omega
 have h1:=key (CK b.Parts)
 have h2:=Mr b.Parts hp
 unfold AU
 omega
def BS (x0:AF):AZ:=AZ.mk x0.At x0.Turn x0.Under
def Nt:CT:=(63,[.agg (AF.c x0)],.val [] (.av (.agg (AZ.c (BS x0)))))
theorem kX (x0:AF):PuP 63 (Nt x0).2.1 (.av (.agg (AZ.c (BS x0)))):=by
 refine pwf Tryz.func63 fun W0 M0 => ?_
 exact AB<|on<|AB<|on<|AW<|zl
theorem Ou (x0:AF):OKc (Nt x0):=cPu<|kX x0
def Ck (b:AG) (p:AF):Int:=bif p.Under then b.Layers else 1
def oS:CT:=(86,[.agg (B1 b),.agg (AF.c p)],.val [] (.av (.one (.i (Ck b p)))))
theorem pside (b:AG) (p:AF):PuP 86 (oS b p).2.1 (tO (.i (Ck b p))):=by
 refine pwf Tryz.func86 fun W0 M0 => ?_
 refine AB<|on<|AB<|AB<|rn ⟨[(2,tP 2 0),(6,tB p.Under)],[(G5 b)]⟩<|Ap p.Under kr (fun h1 => ?_) (fun h1 => ?_)
 ·exact AB<|on<|AW<|Be<|zl (by simp only [Ck,h1,cond_true,cond_false] <;> kernel_rfl)
 exact AQ<|AE<|AB<|on<|AW<|zl (by simp only [Ck,h1,cond_true,cond_false] <;> kernel_rfl)
theorem SA (b:AG) (p:AF):OKc (oS b p):=cPu<|pside b p
end
section
open Go.RowKit
variable (b:AG) (types:List AN) (x2_:Nat) (AH:List (Ab×ByteArray)) (Ac:List AL) (x0_:Nat)
abbrev Fs:List Cl:=[lst 2 Bz.c b.Nets]
def Z0h:CT:=(104,[.one (lst 2 Bz.c b.Nets)],.val [] (.av (.one (.clo 146 1 (Am [.eptr 1 1 (fun _ j_=>((Fs b):List Cl).getD j_ default) 0 0])))))
def Z0i:CT:=(105,(Ke b types),.val [] (.av (.one (.clo 147 2 (Am [.eptr 15 1 (fun _ j_=>((B1 b):List Cl).getD j_ default) 0 0,.eptr 1 1 (fun _ j_=>([lst 3 AN.c types]:List Cl).getD j_ default) 0 0])))))
def IP (b:AG) (types:(List AN)) (AH:List (Ab×ByteArray)) (x0:Nat) (K0:List (Ab×ByteArray)->(List AL)):Nat->List (Ab×ByteArray)->Int->(List AL)
 | 0,_,_=>default
 | n1+1,Ag,v23=>bif decide ((v23:Int)<((b.Nets.getD (b.Nets.length-1-x0) default).Pins.length:Int)) then ((IP b types AH x0 K0 n1) (Fw As Ag ((b.Nets.getD (b.Nets.length-1-x0) default).Pins.getD v23.toNat default) (b.Nets.getD (b.Nets.length-1-x0) default).Name) (v23+1)) else (K0 Ag)
def EX (b:AG) (types:(List AN)) (AH:List (Ab×ByteArray)) (K0:List (Ab×ByteArray)->(List AL)):Nat->Nat->List AL->(List AL)
 | 0,_,Ac=>Ac
 | m+1,x,Ac=>(EX b types AH K0 m (x+1)) (Ac++[AL.mk ((AU b types).getD x default).1.Id ((AU b types).getD x default).2.Name 1 (bif DE As AH (Ab.mk ((AU b types).getD x default).1.Ref ((AU b types).getD x default).2.Name) then (AH.getD (CF As AH (Ab.mk ((AU b types).getD x default).1.Ref ((AU b types).getD x default).2.Name)) default).2 else ⟨#[]⟩) (bif decide ((((AU b types).getD x default).2.Drill:Int)=0) then (Ck b ((AU b types).getD x default).1) else 1) (bif decide ((((AU b types).getD x default).2.Drill:Int)=0) then (Ck b ((AU b types).getD x default).1) else b.Layers) (Em ((AU b types).getD x default).2.Shape (BS ((AU b types).getD x default).1))])
def EB (b:AG) (types:(List AN)):Nat->Nat->List (Ab×ByteArray)->(List AL)
 | 0,_,AH=>EX b types AH (fun _=>default) (AU b types).length 0 ([]:List AL)
 | m+1,x,AH=>IP b types AH x (EB b types m (x+1)) ((((b.Nets.getD (b.Nets.length-1-x) default).Pins.length:Int)-0).toNat+1) AH 0
def Du (b:AG) (types:(List AN)):(List AL):=EB b types b.Nets.length 0 ([]:List (Ab×ByteArray))
abbrev C7:=b.Nets.getD (b.Nets.length-1-x0_) default
abbrev Yj (AH:List (Ab×ByteArray)) (b:AG) (types:List AN) (x2_:Nat):=bif DE As AH (Ab.mk ((AU b types).getD x2_ default).1.Ref ((AU b types).getD x2_ default).2.Name) then (AH.getD (CF As AH (Ab.mk ((AU b types).getD x2_ default).1.Ref ((AU b types).getD x2_ default).2.Name)) default).2 else ⟨#[]⟩
abbrev NT:=Ab.mk ((AU b types).getD x2_ default).1.Ref ((AU b types).getD x2_ default).2.Name
abbrev FK (t_:List (Nat×Tv)):List (Nat×Tv):=(2,tP 3002 0)::(5,tP 3005 0)::(10,tP 3010 0)::t_
abbrev Kb:Nat×Tv:=(34,.av (zzc8 b types))
abbrev S5:List (Nat×Tv):=(FK [(11,.av (.one (.eptr 7 1 (gD (AF.c ((AU b types).getD x2_ default).1)) 0 0))),(12,.av (.one (.eptr 7 1 (gD (BH.c ((AU b types).getD x2_ default).2)) 0 0))),(13,tP 13 0),(Kb b types)])
abbrev B4:Nat×Blk:=(3005,.cells [.om 3014] 211)
abbrev Gl:Nat×Tv:=(1,tO (HX types))
abbrev XC:=(bif decide ((((AU b types).getD x2_ default).2.Drill:Int)=0) then (Ck b ((AU b types).getD x2_ default).1) else b.Layers)
abbrev S3:Nat×Tv:=(11,.av (.one (.eptr 7 1 (gD (AF.c ((AU b types).getD x2_ default).1)) 0 0)))
abbrev B3:Nat×Blk:=(3002,.cells (B1 b) 41)
abbrev W9:=(bif decide ((((AU b types).getD x2_ default).2.Drill:Int)=0) then (Ck b ((AU b types).getD x2_ default).1) else 1)
abbrev Nz:Nat×Tv:=(17,.av (.one (.clo 146 1 (Am [.eptr 1 1 (gD (Fs b)) 0 0]))))
abbrev aJ:Nat×Tv:=(12,.av (.one (.eptr 7 1 (gD (BH.c ((AU b types).getD x2_ default).2)) 0 0)))
abbrev Gj:Nat×Blk:=(3010,.cells [.own 2000 9 Ac.length] 50)
abbrev W7:=Em ((AU b types).getD x2_ default).2.Shape (BS ((AU b types).getD x2_ default).1)
abbrev W6:=BH.c ((AU b types).getD x2_ default).2
abbrev JU:Nat×Blk:=(2000,.row 9 Ac.length (AP AL.c Ac) 61)
abbrev Hl:Nat×Tv:=(7,.av (.one (.eptr 2 1 (gD (Bz.c (C7 b x0_))) 0 0)))
abbrev Rq:Nat×Blk:=(13,.cells [.i ((AU b types).getD x2_ default).1.Id,.s ((AU b types).getD x2_ default).2.Name,.i 1,.s (Yj AH b types x2_),.i 1,.i b.Layers,.i 0,vN,.i 0] 61)
abbrev JS:Nat×Tv:=(22,tI ((C7 b x0_).Pins.length:Int))
abbrev JR:Nat×Tv:=(21,tO (lst 2 Ab.c (C7 b x0_).Pins))
abbrev VQ:=[AL.mk ((AU b types).getD x2_ default).1.Id ((AU b types).getD x2_ default).2.Name 1 (Yj AH b types x2_) (W9 b types x2_) (XC b types x2_) (W7 b types x2_)]
abbrev bD:Nat×Blk:=(13,.cells [.i ((AU b types).getD x2_ default).1.Id,.s ((AU b types).getD x2_ default).2.Name,.i 1,.s (Yj AH b types x2_),.i (Ck b ((AU b types).getD x2_ default).1),.i (Ck b ((AU b types).getD x2_ default).1),.i 0,vN,.i 0] 61)
abbrev bB:List (Nat×Tv):=(FK [(S3 b types x2_),(aJ b types x2_),(13,tP 13 0),(Kb b types),(53,tB (decide ((((AU b types).getD x2_ default).2.Drill:Int)=0)))])
abbrev MG:Nat×Blk:=(5,.cells [.om 14] 211)
abbrev Dn (t_:List (Nat×Tv)):List (Nat×Tv):=(Gl types)::(2,tP 3002 0)::(5,tP 3005 0)::t_
abbrev MB (t_:List Cl):List Cl:=(.i ((AU b types).getD x2_ default).1.Id)::(.s ((AU b types).getD x2_ default).2.Name)::(.i 1)::t_
abbrev N1 (t_:List (Nat×Tv)):List (Nat×Tv):=(Hl b x0_)::(Nz b)::(JR b x0_)::(JS b x0_)::t_
theorem lr {p:Prop} (h:p:=by repeat (first | exact .nil | refine .cons ⟨rfl,.refl _⟩ ?_)):p:=h
theorem qPads (b:AG) (types:(List AN)) (hn:(b.Nets.length:Int)<=1000000) (hp:b.Parts.length<20) (ht:Bt types) (hm:((AU b types).length:Int)<=20000000) (hq:∀ n∈b.Nets,(n.Pins.length:Int)<=1000000):Fr Tryz.prog 51 [.agg (B1 b),.one (lst 3 AN.c types)] (.row 9 (Du b types).length (AP AL.c (Du b types)) 61) (fun d=>tO (.own d 9 (Du b types).length)):=by
 refine CN Tryz.func51 rfl kr (C2 _ _) fun W0 M0 => ?_
 refine AB<|on<|AB<|rn ⟨[(Gl types),(2,tP 2 0),(5,tP 5 0)],[(G5 b),MG,(14,.omap false 1 0 (fun _=>undef) (fun _ _=>default))]⟩<|BE (Es (⟨[(Gl types),(2,tP 2 0),(5,tP 5 0)],[(G5 b),MG,(14,.omap false 1 ([]:List (Ab×ByteArray)).length (kfG A4 ([]:List (Ab×ByteArray))) (vfG (fun x=>[.s x]) ([]:List (Ab×ByteArray))))]⟩) lr (rz (rz (.cons ⟨rfl,Um (ck:=A4) (cv:=(fun x=>[.s x]))⟩ .nil))))<|AB<|AB<|rs 17 (Z0h b) ⟨[(Gl types),(2,tP 2 0),(5,tP 5 0),(Nz b)],[(G5 b),MG,(14,.omap false 1 ([]:List (Ab×ByteArray)).length (kfG A4 ([]:List (Ab×ByteArray))) (vfG (fun x=>[.s x]) ([]:List (Ab×ByteArray))))]⟩ (cPu<|QK b.Nets)<|AE<|AM<|BE (Cv.trans (vr 2 3002 hk0) (Cv.trans (vr 5 3005 hk0) (wr (⟨(Dn types [(Nz b)]),[(B3 b),B4,(3014,.omap false 1 ([]:List (Ab×ByteArray)).length (kfG A4 ([]:List (Ab×ByteArray))) (vfG (fun x=>[.s x]) ([]:List (Ab×ByteArray))))]⟩) 14 3014 hk0))) ?_
 refine HN (ι:=List (Ab×ByteArray)) [3002,3005,3014] 299999 3002 9999 299998 (fun x=>[(3002,.cells (B1 b) 41),(3005,.cells [.om 3014] 211),(3014,.omap false 1 x.length (kfG A4 x) (vfG (fun x=>[.s x]) x))]) (fun x0=>[(1,tO (lst 3 AN.c types)),(2,tP 3002 0),(5,tP 3005 0),(7,.av (.one (.eptr 2 1 (gD (Bz.c (b.Nets.getD (b.Nets.length-1-x0.val) default))) 0 0))),(17,.av (.one (.clo 146 1 (Am [.eptr 1 1 (gD [lst 2 Bz.c b.Nets]) 0 0]))))]) (fun j x=>True) (fun y x=>EB b types (b.Nets.length-y) y x=Du b types) ([]:List (Ab×ByteArray)) (fun _=>rfl) kr kr (fun _ _=>kr) (YR b.Nets oM) (fun i _=>LU (by simp only [List.forall_mem_cons];exact ⟨(CL (by simp only [List.forall_mem_cons];exact ⟨(Bc Ig),fun x hx=>by cases hx⟩)),fun x hx=>by cases hx⟩) i) kr (fun _=>by kernel_rfl) (fun _=>rfl) (fun _=>rfl) (fun x=>(Bg (p:=BkN) (by simp only [List.forall_mem_cons];exact ⟨Jm (ED _),Jm (by simp only [List.forall_mem_cons];exact ⟨(.om _),fun x hx=>by cases hx⟩),YQ (fun x y hy=>by rw [List.mem_singleton.1 hy];exact (.val _)),fun x hx=>by cases hx⟩))) (fun x0=>(Bg (p:=TvM) (by simp only [List.forall_mem_cons];exact ⟨A9 (Bc FR),A9 (.ptr _ _),A9 (.ptr _ _),A9 (CL (Ig _)),A9 (Ov (by simp only [List.forall_mem_cons];exact ⟨(CL (by simp only [List.forall_mem_cons];exact ⟨(Bc Ig),fun x hx=>by cases hx⟩)),fun x hx=>by cases hx⟩)),fun x hx=>by cases hx⟩))) (fun _=>by kernel_rfl) ax0 (by simp only [Du,Nat.sub_zero,cond_true,cond_false]) (fun l1 W1 M1 X1 x0 j AH hinv hPX => ?_) (fun l2 W2 M2 X2 x0 j AH hPX hj hinv => ?_) (fun AH hinv hF0 => ?_)
 ·have hinv0:True:=hinv;clear hinv
  refine CW<|rg ⟨(Dn types [(7,tP 7 0),(Nz b)]),[(7,.cells (Bz.c (C7 b x0.val)) 120),(B3 b),B4,(3014,.omap false 1 AH.length (kfG A4 AH) (vfG (fun x=>[.s x]) AH))]⟩ ?_
  exact ⟨_,Cv.trans (IJ (⟨(Dn types [(Hl b x0.val),(Nz b)]),[(B3 b),B4,(3014,.omap false 1 AH.length (kfG A4 AH) (vfG (fun x=>[.s x]) AH))]⟩) 7 (Bz.c (b.Nets.getD (b.Nets.length-1-x0.val) default)) 120 [3002,3005,3014] 299998 hPX kr (fun h=>by obtain ⟨_,h⟩:=h;cases h) kr kr kr) (Cv.refl _),rfl,rfl⟩
 ·have hinv0:True:=hinv;clear hinv
  obtain ⟨Xb0,hXb0⟩:∃ Xb,EB b types (b.Nets.length-x0.val) x0.val AH=Xb:=⟨_,rfl⟩
  have hF0:=hXb0
  rw [show b.Nets.length-x0.val=(b.Nets.length-(x0.val+1))+1 by have:=x0.isLt;omega] at hF0
  have hqx:=Eb (p:=fun n:Bz=>(n.Pins.length:Int)<=1000000) (by decide) hq (b.Nets.length-1-x0.val)
  refine CW<|AM<|AB<|rn ⟨(Dn types (N1 b x0.val [(23,tI 0)])),[(B3 b),B4,(3014,.omap false 1 AH.length (kfG A4 AH) (vfG (fun x=>[.s x]) AH))]⟩<|AM<|lpC (κ:=List (Ab×ByteArray)×Int) (fun x=>⟨(Dn types (N1 b x0.val [(23,tI x.2.2)])),[(B3 b),B4,(3014,.omap false 1 x.2.1.length (kfG A4 x.2.1) (vfG (fun x=>[.s x]) x.2.1))]⟩) (fun x=>(((b.Nets.getD (b.Nets.length-1-x0.val) default).Pins.length:Int)-x.2.2).toNat) (fun x=>(0<=x.2.2/\(x.2.2<=((b.Nets.getD (b.Nets.length-1-x0.val) default).Pins.length:Int)\/x.2.2=0))/\IP b types AH x0.val (EB b types (b.Nets.length-(x0.val+1)) (x0.val+1)) x.1 x.2.1 x.2.2=Xb0) ?_ ((((b.Nets.getD (b.Nets.length-1-x0.val) default).Pins.length:Int)-0).toNat+1,AH,0) ⟨Nat.lt_succ_self _,⟨ax0,ax0⟩,(by rw [<- hF0];simp only [EB,cond_true,cond_false])⟩
  rintro n1 ⟨Ag,v23⟩ hm1 ⟨hinv1,hF1⟩
  try dsimp only at hm1 hinv1 hF1
  refine AB<|on<|AB<|kb (decide ((v23:Int)<((b.Nets.getD (b.Nets.length-1-x0.val) default).Pins.length:Int))) (fun h1 => ?_) (fun h1 => ?_)
  ·have g1:=oT h1
   refine AQ<|AE<|AB<|AM<|AB<|rc [] [0<=(v23:Int)/\(v23:Int)<(((b.Nets.getD (b.Nets.length-1-x0.val) default).Pins.length:Nat):Int)] ⟨(Dn types [(Hl b x0.val),(9,tP 9 0),(Nz b),(JR b x0.val),(JS b x0.val),(23,tI v23)]),[(9,.cells (Ab.c ((C7 b x0.val).Pins.getD v23.toNat default)) 106),(B3 b),B4,(3014,.omap false 1 Ag.length (kfG A4 Ag) (vfG (fun x=>[.s x]) Ag))]⟩ .nil (H1 au0)<|AE ?_
   refine DR Cq [] [(999999,((DE As Ag ((C7 b x0.val).Pins.getD v23.toNat default)),(CF As Ag ((C7 b x0.val).Pins.getD v23.toNat default))))] [] [1,2,5,7,17,21,22,23] [3002,3005,3014] [Pe Tryz.prog eqE 106 Ag.length (kfG A4 Ag) (A4 ((b.Nets.getD (b.Nets.length-1-x0.val) default).Pins.getD v23.toNat default)) (DE As Ag ((b.Nets.getD (b.Nets.length-1-x0.val) default).Pins.getD v23.toNat default)) (CF As Ag ((b.Nets.getD (b.Nets.length-1-x0.val) default).Pins.getD v23.toNat default))] ⟨(Dn types (N1 b x0.val [(23,tI v23)])),[(B3 b),B4,(3014,.omap false 1 (bif DE As Ag ((C7 b x0.val).Pins.getD v23.toNat default) then Ag.length else Ag.length+1) (fun j=>bif Nat.beq j (bif DE As Ag ((C7 b x0.val).Pins.getD v23.toNat default) then CF As Ag ((C7 b x0.val).Pins.getD v23.toNat default) else Ag.length) then A4 ((C7 b x0.val).Pins.getD v23.toNat default) else kfG A4 Ag j) (fun j c=>bif Nat.beq j (bif DE As Ag ((C7 b x0.val).Pins.getD v23.toNat default) then CF As Ag ((C7 b x0.val).Pins.getD v23.toNat default) else Ag.length) then ([.s (C7 b x0.val).Name]:List Cl).getD c default else vfG (fun x=>[.s x]) Ag j c))]⟩ .nil kr (.cons (LX KC Lg _ _) .nil)<|A3<|AE ?_
   refine BE (Es (⟨(Dn types (N1 b x0.val [(23,tI v23)])),[(B3 b),B4,(3014,.omap false 1 (Fw As Ag ((C7 b x0.val).Pins.getD v23.toNat default) (C7 b x0.val).Name).length (kfG A4 (Fw As Ag ((C7 b x0.val).Pins.getD v23.toNat default) (C7 b x0.val).Name)) (vfG (fun x=>[.s x]) (Fw As Ag ((C7 b x0.val).Pins.getD v23.toNat default) (C7 b x0.val).Name)))]⟩) lr (rz (rz (.cons ⟨rfl,Ul (ck:=A4) (cv:=(fun x=>[.s x])) (eq:=As) Ag ((b.Nets.getD (b.Nets.length-1-x0.val) default).Pins.getD v23.toNat default) (b.Nets.getD (b.Nets.length-1-x0.val) default).Name [.s (b.Nets.getD (b.Nets.length-1-x0.val) default).Name] rfl⟩ .nil))))<|rg ⟨(Dn types (N1 b x0.val [(23,tI (W64 (v23+1)))])),[(B3 b),B4,(3014,.omap false 1 (Fw As Ag ((C7 b x0.val).Pins.getD v23.toNat default) (C7 b x0.val).Name).length (kfG A4 (Fw As Ag ((C7 b x0.val).Pins.getD v23.toNat default) (C7 b x0.val).Name)) (vfG (fun x=>[.s x]) (Fw As Ag ((C7 b x0.val).Pins.getD v23.toNat default) (C7 b x0.val).Name)))]⟩ ?_
   (try rw [(show W64 (v23+1)=v23+1 from Ae oM au3)])
   refine AE ?_
   refine ⟨(n1,Fw As Ag ((b.Nets.getD (b.Nets.length-1-x0.val) default).Pins.getD v23.toNat default) (b.Nets.getD (b.Nets.length-1-x0.val) default).Name,v23+1),⟨?_,?_,(by rw [<- hF1];simp only [IP,h1,cond_true,cond_false])⟩,Nat.lt_succ_self _,Al kr⟩
   ·dsimp only;omega
   exact ⟨ax0,ax0⟩
  have g1:=oF h1
  refine An<|Ai<|Ai<|Ao<|A3 ?_
  refine ⟨_,Cv.trans (ck (⟨(Dn types [(Nz b)]),[(B3 b),B4,(3014,.omap false 1 Ag.length (kfG A4 Ag) (vfG (fun x=>[.s x]) Ag))]⟩)) (Cv.refl _),rfl,Ag,ax0,fun hk hF => ?_,fun _ _ h=>h⟩
  have e0:EB b types (b.Nets.length-(x0.val+1)) (x0.val+1) Ag=Xb0:=by
   rw [<- hF1]
   first | (simp only [IP,h1,cond_true,cond_false] <;> rfl)
  subst hk
  change EB b types (b.Nets.length-x0.val) x0.val AH=Du b types at hF
  show EB b types (b.Nets.length-(x0.val+1)) (x0.val+1) Ag=Du b types
  exact e0.trans (hXb0.symm.trans hF)
 have hinv0:True:=hinv;clear hinv
 change EB b types (b.Nets.length-b.Nets.length) b.Nets.length AH=Du b types at hF0
 rw [Nat.sub_self] at hF0
 refine A3<|AE<|AB<|on<|AB<|AB<|rs 34 (Z0i b types) ⟨[(2,tP 3002 0),(5,tP 3005 0),(10,tP 10 0),(Kb b types)],[(10,.cells [vN] 50),(B3 b),B4,(3014,.omap false 1 AH.length (kfG A4 AH) (vfG (fun x=>[.s x]) AH))]⟩ (cPu<|nY b types)<|AE<|AM<|BE (Cv.trans (vr 10 3010 hk0) (Cv.trans (vk [2,5,10,34] [3002,3005,3010,3014]) (Cv.trans (vg 2000 9 (fun _ _=>default) 61 [] [(3010,[0])] hk0) (KD (⟨((FK [(Kb b types)])),[(2000,.row 9 ([]:List AL).length (AP AL.c ([]:List AL)) 61),(B3 b),B4,(3010,.cells [.own 2000 9 ([]:List AL).length] 50),(3014,.omap false 1 AH.length (kfG A4 AH) (vfG (fun x=>[.s x]) AH))]⟩) 2000 (B9 9 (fun _ _=>default) AL.c))))) ?_
 refine HN (ι:=List AL) [3002,3005,3010,3014] 299999 3010 0 2000 (fun x=>[(2000,.row 9 x.length (AP AL.c x) 61),(3002,.cells (B1 b) 41),(3005,.cells [.om 3014] 211),(3010,.cells [.own 2000 9 x.length] 50),(3014,.omap false 1 AH.length (kfG A4 AH) (vfG (fun x=>[.s x]) AH))]) (fun x2=>[(2,tP 3002 0),(5,tP 3005 0),(10,tP 3010 0),(11,.av (.one (.eptr 7 1 (gD (AF.c ((AU b types).getD x2.val default).1)) 0 0))),(12,.av (.one (.eptr 7 1 (gD (BH.c ((AU b types).getD x2.val default).2)) 0 0))),(34,.av (.one (.clo 147 2 (Am [.eptr 15 1 (gD (B1 b)) 0 0,.eptr 1 1 (gD [lst 3 AN.c types]) 0 0]))))]) (fun j x=>x.length<=j) (fun y x=>EX b types AH (fun _=>default) ((AU b types).length-y) y x=Du b types) ([]:List AL) (fun _=>rfl) kr kr (fun _ _=>kr) (Xa b types hp ht) (fun i _=>LU (by simp only [List.forall_mem_cons];exact ⟨(CL (ED _)),(CL (by simp only [List.forall_mem_cons];exact ⟨(Bc FR),fun x hx=>by cases hx⟩)),fun x hx=>by cases hx⟩) i) kr (fun _=>by kernel_rfl) (fun _=>rfl) (fun _=>rfl) (fun x=>(Bg (p:=BkN) (by simp only [List.forall_mem_cons];exact ⟨oY HD,Jm (ED _),Jm (by simp only [List.forall_mem_cons];exact ⟨(.om _),fun x hx=>by cases hx⟩),Jm (by simp only [List.forall_mem_cons];exact ⟨(.own _ _ _),fun x hx=>by cases hx⟩),YQ (fun x y hy=>by rw [List.mem_singleton.1 hy];exact (.val _)),fun x hx=>by cases hx⟩))) (fun x2=>(Bg (p:=TvM) (by simp only [List.forall_mem_cons];exact ⟨A9 (.ptr _ _),A9 (.ptr _ _),A9 (.ptr _ _),A9 (CL (E3 _)),A9 (CL (Ie _)),A9 (Ov (by simp only [List.forall_mem_cons];exact ⟨(CL (ED _)),(CL (by simp only [List.forall_mem_cons];exact ⟨(Bc FR),fun x hx=>by cases hx⟩)),fun x hx=>by cases hx⟩)),fun x hx=>by cases hx⟩))) (fun _=>by kernel_rfl) ax0 (by rw [<- hF0];simp only [EB,Nat.sub_zero,cond_true,cond_false]) (fun l1 W1 M1 X1 x2 j Ac hinv hPX => ?_) (fun l2 W2 M2 X2 x2 j Ac hPX hj hinv => ?_) (fun Ac hinv hF2 => ?_)
 ·have hinv2:Ac.length<=j:=hinv;clear hinv
  refine CW<|AB<|on<|rg ⟨(FK [(11,tP 11 0),(12,tP 12 0),(Kb b types)]),[(11,.cells (AF.c ((AU b types).getD x2.val default).1) 78),(12,.cells (W6 b types x2.val) 102),(JU Ac),(B3 b),B4,(Gj Ac),(3014,.omap false 1 AH.length (kfG A4 AH) (vfG (fun x=>[.s x]) AH))]⟩ ?_
  exact ⟨_,Cv.trans (IJ (⟨(FK [(S3 b types x2.val),(12,tP 12 0),(Kb b types)]),[(12,.cells (W6 b types x2.val) 102),(JU Ac),(B3 b),B4,(Gj Ac),(3014,.omap false 1 AH.length (kfG A4 AH) (vfG (fun x=>[.s x]) AH))]⟩) 11 (AF.c ((AU b types).getD x2.val default).1) 78 [3002,3005,3010,3014] 2000 hPX kr (fun _=>⟨_,rfl⟩) kr kr kr) (IJ (⟨(FK [(S3 b types x2.val),(aJ b types x2.val),(Kb b types)]),[(JU Ac),(B3 b),B4,(Gj Ac),(3014,.omap false 1 AH.length (kfG A4 AH) (vfG (fun x=>[.s x]) AH))]⟩) 12 (BH.c ((AU b types).getD x2.val default).2) 102 [3002,3005,3010,3014] 2000 hPX kr (fun _=>⟨_,rfl⟩) kr kr kr),rfl,rfl⟩
 ·have hinv2:Ac.length<=j:=hinv;clear hinv
  obtain ⟨Xb2,hXb2⟩:∃ Xb,EX b types AH (fun _=>default) ((AU b types).length-x2.val) x2.val Ac=Xb:=⟨_,rfl⟩
  have hF2:=hXb2
  rw [show (AU b types).length-x2.val=((AU b types).length-(x2.val+1))+1 by have:=x2.isLt;omega] at hF2
  have hpe:=QM (b:=b) ht x2.val
  refine CW<|AM<|AB<|Nv UA Cq [] [(47,((DE As AH (NT b types x2.val)),(CF As AH (NT b types x2.val))))] [] [2,5,10,11,12,13,34] [13,2000,3002,3005,3010,3014] [Pe Tryz.prog eqE 106 AH.length (kfG A4 AH) (A4 (Ab.mk ((AU b types).getD x2.val default).1.Ref ((AU b types).getD x2.val default).2.Name)) (DE As AH (Ab.mk ((AU b types).getD x2.val default).1.Ref ((AU b types).getD x2.val default).2.Name)) (CF As AH (Ab.mk ((AU b types).getD x2.val default).1.Ref ((AU b types).getD x2.val default).2.Name))] ⟨(S5 b types x2.val),[(Rq b types x2.val AH),(JU Ac),(B3 b),B4,(Gj Ac),(3014,.omap false 1 AH.length (kfG A4 AH) (vfG (fun x=>[.s x]) AH))]⟩ .nil kr kr (.cons (LX KC Lg _ _) .nil)<|AE<|AB<|AB<|rn ⟨(bB b types x2.val),[(Rq b types x2.val AH),(JU Ac),(B3 b),B4,(Gj Ac),(3014,.omap false 1 AH.length (kfG A4 AH) (vfG (fun x=>[.s x]) AH))]⟩ ?_
  refine Bd (⟨(S5 b types x2.val),[(13,.cells (MB b types x2.val [.s (bif DE As AH (NT b types x2.val) then (AH.getD (CF As AH (NT b types x2.val)) default).2 else ⟨#[]⟩),.i (bif decide ((((AU b types).getD x2.val default).2.Drill:Int)=0) then (Ck b ((AU b types).getD x2.val default).1) else 1),.i (bif decide ((((AU b types).getD x2.val default).2.Drill:Int)=0) then (Ck b ((AU b types).getD x2.val default).1) else b.Layers),.i 0,vN,.i 0]) 61),(JU Ac),(B3 b),B4,(Gj Ac),(3014,.omap false 1 AH.length (kfG A4 AH) (vfG (fun x=>[.s x]) AH))]⟩) ?_ ?_
  ·refine Ap _ rfl (fun h1 => ?_) (fun h1 => ?_)
   ·refine dO [] _ [none,none] ⟨(S5 b types x2.val),[(bD b types x2.val AH),(JU Ac),(B3 b),B4,(Gj Ac),(3014,.omap false 1 AH.length (kfG A4 AH) (vfG (fun x=>[.s x]) AH))]⟩ (J2 56 59 (SA b ((AU b types).getD x2.val default).1) (SA b ((AU b types).getD x2.val default).1)) .nil<|AE<|Al ?_
    first | rfl | (simp only [h1,cond_true,cond_false] <;> rfl)
   refine AQ<|AE<|Cv.trans (ck (⟨(S5 b types x2.val),[(13,.cells (MB b types x2.val [.s (bif DE As AH (NT b types x2.val) then (AH.getD (CF As AH (NT b types x2.val)) default).2 else ⟨#[]⟩),.i 1,.i b.Layers,.i 0,vN,.i 0]) 61),(JU Ac),(B3 b),B4,(Gj Ac),(3014,.omap false 1 AH.length (kfG A4 AH) (vfG (fun x=>[.s x]) AH))]⟩)) (Al ?_)
   first | rfl | (simp only [h1,cond_true,cond_false] <;> rfl)
  refine AB<|oe [] _ [none,none] (J2 65 66 (Ou ((AU b types).getD x2.val default).1) (lI ((AU b types).getD x2.val default).2.Shape (BS ((AU b types).getD x2.val default).1) au4)) .nil<|AE<|rc [] [Ac.length=Ac.length,Ac.length+1<=maxLen,(Ac.length+1)*104<=140737488355328] ⟨((FK [(Kb b types)])),[(71,.row 9 (Ac.length+1) (fun i_ j_=>if i_<Ac.length then (AP AL.c Ac) i_ j_ else (BG 9 1 (MB b types x2.val [.s (Yj AH b types x2.val),.i (W9 b types x2.val),.i (XC b types x2.val),.i (W7 b types x2.val).Kind,lst 7 AK.c (W7 b types x2.val).Edges,.i (W7 b types x2.val).R])) (i_-Ac.length) j_) 61),(B3 b),B4,(3010,.cells [.own 71 9 (Ac.length+1)] 50),(3014,.omap false 1 AH.length (kfG A4 AH) (vfG (fun x=>[.s x]) AH))]⟩ .nil (H3 rfl au2 au2)<|A3 ?_
  refine ⟨_,Cv.trans (A5 71 (BF (A1 9 AL.c Ac) (BC 9 AL.c ([AL.mk ((AU b types).getD x2.val default).1.Id ((AU b types).getD x2.val default).2.Name 1 (bif DE As AH (Ab.mk ((AU b types).getD x2.val default).1.Ref ((AU b types).getD x2.val default).2.Name) then (AH.getD (CF As AH (Ab.mk ((AU b types).getD x2.val default).1.Ref ((AU b types).getD x2.val default).2.Name)) default).2 else ⟨#[]⟩) (bif decide ((((AU b types).getD x2.val default).2.Drill:Int)=0) then (Ck b ((AU b types).getD x2.val default).1) else 1) (bif decide ((((AU b types).getD x2.val default).2.Drill:Int)=0) then (Ck b ((AU b types).getD x2.val default).1) else b.Layers) (Em ((AU b types).getD x2.val default).2.Shape (BS ((AU b types).getD x2.val default).1))]:List AL)))) (wr (⟨((FK [(Kb b types)])),[(2000,.row 9 (Ac++(VQ b types x2.val AH)).length (AP AL.c (Ac++(VQ b types x2.val AH))) 61),(B3 b),B4,(3010,.cells [.own 2000 9 (Ac++(VQ b types x2.val AH)).length] 50),(3014,.omap false 1 AH.length (kfG A4 AH) (vfG (fun x=>[.s x]) AH))]⟩) 71 2000 (K:=[299999,3002,3005,3010,3014]) (fun k x h=>.inl (hPX k x h))),rfl,(Ac++[AL.mk ((AU b types).getD x2.val default).1.Id ((AU b types).getD x2.val default).2.Name 1 (bif DE As AH (Ab.mk ((AU b types).getD x2.val default).1.Ref ((AU b types).getD x2.val default).2.Name) then (AH.getD (CF As AH (Ab.mk ((AU b types).getD x2.val default).1.Ref ((AU b types).getD x2.val default).2.Name)) default).2 else ⟨#[]⟩) (bif decide ((((AU b types).getD x2.val default).2.Drill:Int)=0) then (Ck b ((AU b types).getD x2.val default).1) else 1) (bif decide ((((AU b types).getD x2.val default).2.Drill:Int)=0) then (Ck b ((AU b types).getD x2.val default).1) else b.Layers) (Em ((AU b types).getD x2.val default).2.Shape (BS ((AU b types).getD x2.val default).1))]),ax0,fun hk hF => ?_,fun _ _ h=>h⟩
  have e0:EX b types AH (fun _=>default) ((AU b types).length-(x2.val+1)) (x2.val+1) (Ac++[AL.mk ((AU b types).getD x2.val default).1.Id ((AU b types).getD x2.val default).2.Name 1 (bif DE As AH (Ab.mk ((AU b types).getD x2.val default).1.Ref ((AU b types).getD x2.val default).2.Name) then (AH.getD (CF As AH (Ab.mk ((AU b types).getD x2.val default).1.Ref ((AU b types).getD x2.val default).2.Name)) default).2 else ⟨#[]⟩) (bif decide ((((AU b types).getD x2.val default).2.Drill:Int)=0) then (Ck b ((AU b types).getD x2.val default).1) else 1) (bif decide ((((AU b types).getD x2.val default).2.Drill:Int)=0) then (Ck b ((AU b types).getD x2.val default).1) else b.Layers) (Em ((AU b types).getD x2.val default).2.Shape (BS ((AU b types).getD x2.val default).1))])=Xb2:=by
   rw [<- hF2]
   first | (simp only [EX,cond_true,cond_false] <;> rfl)
  subst hk
  change EX b types AH (fun _=>default) ((AU b types).length-x2.val) x2.val Ac=Du b types at hF
  show EX b types AH (fun _=>default) ((AU b types).length-(x2.val+1)) (x2.val+1) (Ac++[AL.mk ((AU b types).getD x2.val default).1.Id ((AU b types).getD x2.val default).2.Name 1 (bif DE As AH (Ab.mk ((AU b types).getD x2.val default).1.Ref ((AU b types).getD x2.val default).2.Name) then (AH.getD (CF As AH (Ab.mk ((AU b types).getD x2.val default).1.Ref ((AU b types).getD x2.val default).2.Name)) default).2 else ⟨#[]⟩) (bif decide ((((AU b types).getD x2.val default).2.Drill:Int)=0) then (Ck b ((AU b types).getD x2.val default).1) else 1) (bif decide ((((AU b types).getD x2.val default).2.Drill:Int)=0) then (Ck b ((AU b types).getD x2.val default).1) else b.Layers) (Em ((AU b types).getD x2.val default).2.Shape (BS ((AU b types).getD x2.val default).1))])=Du b types
  exact e0.trans (hXb2.symm.trans hF)
 have hinv2:Ac.length<=(AU b types).length:=hinv;clear hinv
 change EX b types AH (fun _=>default) ((AU b types).length-(AU b types).length) (AU b types).length Ac=Du b types at hF2
 rw [Nat.sub_self] at hF2
 exact A3<|AE<|AB<|on<|AW<|xl (tO (.own 2000 9 Ac.length)) (frE (c:=AL.c) (xs:=Ac) (by rw [<- hF2];first | (simp only [EX,cond_true,cond_false] <;> rfl)) kr)
def oU:CT:=(51,(Ke b types),.new [] (.row 9 (Du b types).length (AP AL.c (Du b types)) 61) (fun d=>.av (.one (.own d 9 (Du b types).length))))
theorem qY (b:AG) (types:(List AN)) (hn:(b.Nets.length:Int)<=1000000) (hp:b.Parts.length<20) (ht:Bt types) (hm:((AU b types).length:Int)<=20000000) (hq:∀ n∈b.Nets,(n.Pins.length:Int)<=1000000):OKc (oU b types):=Bx (fun _ _=>kr) (qPads b types hn hp ht hm hq)
end
section
open Go.RowKit
def nH (t:AV):AV:=t
variable (data' l:List AV) (b:AG) (j n:Int) (out:List AV) (t:AV)
def casT:CT:=(108,[.agg (AV.c t)],.val [] (.av (.agg (AV.c (nH t)))))
theorem pasT (t:AV):PuP 108 (casT t).2.1 (.av (.agg (AV.c (nH t)))):=by
 refine pwf Tryz.func108 fun W0 M0 => ?_
 exact AB<|on<|AB<|on<|AW<|zl
theorem okasT (t:AV):OKc (casT t):=cPu<|pasT t
def Z0 (t:AV):Int:=t.Id
def cidT:CT:=(109,[.agg (AV.c t)],.val [] (.av (.one (.i (Z0 t)))))
theorem pidT (t:AV):PuP 109 (cidT t).2.1 (tO (.i (Z0 t))):=by
 refine pwf Tryz.func109 fun W0 M0 => ?_
 exact AB<|on<|AB<|on<|AW<|zl
theorem oA (t:AV):OKc (cidT t):=cPu<|pidT t
def Lv (a:AV) (b_:AV):Int:=Cd (Z0 a) (Z0 b_)
theorem pcmpT  (a:AV) (b_:AV):FV Tryz.prog 154 [.agg (AV.c a),.agg (AV.c b_),.one (.eptr 1 1 (gD [.clo 109 0 dfc]) 0 0)] (tO (.i (Lv a b_))):=by
 refine pwf Tryz.func154 fun W0 M0 => ?_
 exact AB<|on<|AB<|oe [] _ [none,none,none] (J3 8 11 12 (oA a) (oA b_) (H9 (Z0 a) (Z0 b_))) .nil<|AE<|AW<|zl
def Z0j:CT:=(154,[.agg (AV.c (data'.getD j.toNat default)),.agg (AV.c (data'.getD (W64 (j-1)).toNat default)),.one (.eptr 1 1 (fun _ j_=>([.clo 109 0 dfc]:List Cl).getD j_ default) 0 0)],.val [] (tI (Lv (data'.getD j.toNat default) (data'.getD (W64 (j-1)).toNat default))))
def L1 (l:(List AV)) (n:Int) (data:List AV) (i:Int) (K0:List AV->Int->(List AV)):Nat->List AV->Int->(List AV)
 | 0,_,_=>default
 | n1+1,data',j=>bif bif decide ((0:Int)<j) then decide (((Lv (data'.getD j.toNat default) (data'.getD (j-1).toNat default)):Int)<0) else false then ((L1 l n data i K0 n1) ((data'.set j.toNat (data'.getD (j-1).toNat default)).set (j-1).toNat (data'.getD j.toNat default)) (j-1)) else (K0 data' (i+1))
def L3 (l:(List AV)) (n:Int):Nat->List AV->Int->(List AV)
 | 0,_,_=>default
 | n0+1,data,i=>bif decide ((i:Int)<n) then (L1 l n data i (L3 l n n0) (i.toNat+1) data i) else data
def NP (l:(List AV)) (n:Int):(List AV):=L3 l n ((n-1).toNat+1) l 1
theorem mE {p:Prop} (h:p:=by
 refine Ft mp0 rfl kr kr kr fun W0 M0 X hX => ?_
 refine AB<|rn ⟨[(0,tO (.own 1000 mp1 l.length)),(1,tI 0),(2,tI n),(3,.av (.one (.clo mp2 1 (Am [.eptr 1 1 (gD [.clo mp3 0 (fun _=>default)]) 0 0])))),(8,tI 1)],[(1000,.row mp1 l.length (AP mp4 l) mp5)]⟩<|AM<|lpC (κ:=List mp6×Int) (fun x=>⟨[(0,tO (.own 1000 mp1 x.2.1.length)),(1,tI 0),(2,tI n),(3,.av (.one (.clo mp2 1 (Am [.eptr 1 1 (gD [.clo mp3 0 (fun _=>default)]) 0 0])))),(8,tI x.2.2)],[(1000,.row mp1 x.2.1.length (AP mp4 x.2.1) mp5)]⟩) (fun x=>(n-x.2.2).toNat) (fun x=>(1<=x.2.2/\x.2.1.length=l.length/\1<=x.2.2/\(x.2.2<=n\/x.2.2=1))/\mp7 l n x.1 x.2.1 x.2.2=mp8 l n) ?_ ((n-1).toNat+1,l,1) ⟨Nat.lt_succ_self _,⟨ax0,ax0,ax0,ax0⟩,(by simp only [mp8,cond_true,cond_false])⟩
 rintro n0 ⟨data,i⟩ hm0 ⟨hinv0,hF0⟩
 try dsimp only at hm0 hinv0 hF0
 refine AB<|AB<|on<|kb (decide ((i:Int)<n)) (fun h1 => ?_) (fun h1 => ?_)
 ·have g1:=oT h1
  refine AQ<|AE<|AB<|AM<|AB<|rn ⟨[(0,tO (.own 1000 mp1 data.length)),(1,tI 0),(2,tI n),(3,.av (.one (.clo mp2 1 (Am [.eptr 1 1 (gD [.clo mp3 0 (fun _=>default)]) 0 0])))),(8,tI i),(9,tI i)],[(1000,.row mp1 data.length (AP mp4 data) mp5)]⟩<|AM<|lpC (κ:=List mp6×Int) (fun x=>⟨[(0,tO (.own 1000 mp1 x.2.1.length)),(1,tI 0),(2,tI n),(3,.av (.one (.clo mp2 1 (Am [.eptr 1 1 (gD [.clo mp3 0 (fun _=>default)]) 0 0])))),(8,tI i),(9,tI x.2.2)],[(1000,.row mp1 x.2.1.length (AP mp4 x.2.1) mp5)]⟩) (fun x=>x.2.2.toNat) (fun x=>(0<=x.2.2/\x.2.1.length=l.length/\x.2.2<n)/\mp9 l n data i (mp7 l n n0) x.1 x.2.1 x.2.2=mp8 l n) ?_ (i.toNat+1,data,i) ⟨Nat.lt_succ_self _,⟨ax0,ax0,ax0⟩,(by rw [<- hF0];simp only [mp7,h1,cond_true,cond_false])⟩
  rintro n1 ⟨data',j⟩ hm1 ⟨hinv1,hF1⟩
  try dsimp only at hm1 hinv1 hF1
  refine AB<|AB ?_
  refine dw [] [(32,(mp10 data' j))] (t2 (decide ((0:Int)<j)) ((gk (decide ((0:Int)<j)) (0<=(j:Int)/\(j:Int)<((data'.length:Nat):Int)))::(gt (decide ((0:Int)<j)))::(gk (decide ((0:Int)<j)) (j.toNat<data'.length))::(t3 (decide ((0:Int)<j)) ((gk (decide ((0:Int)<j)) (0<=(W64 (j-1):Int)/\(W64 (j-1):Int)<((data'.length:Nat):Int)))::(gt (decide ((0:Int)<j)))::(gk (decide ((0:Int)<j)) ((W64 (j-1)).toNat<data'.length))::(t3 (decide ((0:Int)<j)) ((gk (decide ((0:Int)<j)) (CD (mp10 data' j).2.1))::(t2 (decide ((0:Int)<j)) []))))))) ⟨[(0,tO (.own 1000 mp1 data'.length)),(1,tI 0),(2,tI n),(3,.av (.one (.clo mp2 1 (Am [.eptr 1 1 (gD [.clo mp3 0 (fun _=>default)]) 0 0])))),(8,tI i),(9,tI j),(34,tB (bif decide ((0:Int)<j) then decide (((mp11 (data'.getD j.toNat default) (data'.getD (W64 (j-1)).toNat default)):Int)<0) else false))],[(1000,.row mp1 data'.length (AP mp4 data') mp5)]⟩ (.cons (cPu<|mp12 (data'.getD j.toNat default) (data'.getD (W64 (j-1)).toNat default)) .nil) (c2 (.cons (fun hG=>by first | exact au0 | (simp only [decide_eq_true_eq,decide_eq_false_iff_not,Bool.not_eq_true,Bool.and_eq_true] at hG <;> omega) | (simp at hG <;> omega) | (simp only [decide_eq_true_eq,decide_eq_false_iff_not] at hG;simp only [Bf];omega)) (ci (.cons (fun hG=>by first | exact au0 | (simp only [decide_eq_true_eq,decide_eq_false_iff_not,Bool.not_eq_true,Bool.and_eq_true] at hG <;> omega) | (simp at hG <;> omega) | (simp only [decide_eq_true_eq,decide_eq_false_iff_not] at hG;simp only [Bf];omega)) (c3 (.cons (fun hG=>by first | exact au0 | (simp only [decide_eq_true_eq,decide_eq_false_iff_not,Bool.not_eq_true,Bool.and_eq_true] at hG <;> omega) | (simp at hG <;> omega) | (simp only [decide_eq_true_eq,decide_eq_false_iff_not] at hG;simp only [Bf];omega)) (ci (.cons (fun hG=>by first | exact au0 | (simp only [decide_eq_true_eq,decide_eq_false_iff_not,Bool.not_eq_true,Bool.and_eq_true] at hG <;> omega) | (simp at hG <;> omega) | (simp only [decide_eq_true_eq,decide_eq_false_iff_not] at hG;simp only [Bf];omega)) (c3 (.cons (fun _=>rfl) (c2 .nil))))))))))) ?_
  (try rw [(show W64 (j-1)=j-1 from Ae oM oM)])
  refine AE<|Ap _ rfl (fun h2 => ?_) (fun h2 => ?_)
  ·have g2:=Nw h2
   refine AQ<|AE<|AB<|AM<|dw [] [] [0<=(W64 (j-1):Int)/\(W64 (j-1):Int)<((data'.length:Nat):Int),(W64 (j-1)).toNat<data'.length,0<=(j:Int)/\(j:Int)<((data'.length:Nat):Int),j.toNat<data'.length,0<=(j:Int)/\(j:Int)<((data'.length:Nat):Int),j.toNat<data'.length,0<=(W64 (j-1):Int)/\(W64 (j-1):Int)<((data'.length:Nat):Int),(W64 (j-1)).toNat<data'.length] ⟨[(0,tO (.own 1000 mp1 data'.length)),(1,tI 0),(2,tI n),(3,.av (.one (.clo mp2 1 (Am [.eptr 1 1 (gD [.clo mp3 0 (fun _=>default)]) 0 0])))),(8,tI i),(9,tI j)],[(1000,.row mp1 data'.length (fun i_ j_=>if i_=(W64 (j-1)).toNat/\0<=j_/\j_<0+mp1 then ((mp4 (data'.getD j.toNat default)):List Cl).getD (j_-0) default else (fun i_ j_=>if i_=j.toNat/\0<=j_/\j_<0+mp1 then ((mp4 (data'.getD (W64 (j-1)).toNat default)):List Cl).getD (j_-0) default else (AP mp4 data') i_ j_) i_ j_) mp5)]⟩ .nil (H8 au0 au0 au0 au0 au0 au0 au0 au0) ?_
   (try rw [(show W64 (j-1)=j-1 from Ae oM oM)])
   refine A3<|AE<|BE (A5 1000 (Hw (l:=(mp4 (data'.getD j.toNat default))) (off:=0) (q:=mp1) (k:=(j-1).toNat) (Hw (l:=(mp4 (data'.getD (j-1).toNat default))) (off:=0) (q:=mp1) (k:=j.toNat) (A1 mp1 mp4 data') au0 (data'.getD (j-1).toNat default) (HY kr)) au0 (data'.getD j.toNat default) (HY kr)))<|rg ⟨[(0,tO (.own 1000 mp1 ((data'.set j.toNat (data'.getD (j-1).toNat default)).set (j-1).toNat (data'.getD j.toNat default)).length)),(1,tI 0),(2,tI n),(3,.av (.one (.clo mp2 1 (Am [.eptr 1 1 (gD [.clo mp3 0 (fun _=>default)]) 0 0])))),(8,tI i),(9,tI (W64 (j-1)))],[(1000,.row mp1 ((data'.set j.toNat (data'.getD (j-1).toNat default)).set (j-1).toNat (data'.getD j.toNat default)).length (AP mp4 ((data'.set j.toNat (data'.getD (j-1).toNat default)).set (j-1).toNat (data'.getD j.toNat default))) mp5)]⟩ ?_
   (try rw [(show W64 (j-1)=j-1 from Ae oM oM)])
   refine AE ?_
   refine ⟨(n1,(data'.set j.toNat (data'.getD (j-1).toNat default)).set (j-1).toNat (data'.getD j.toNat default),j-1),⟨?_,?_,(by rw [<- hF1];simp only [mp9,h2,cond_true,cond_false])⟩,Nat.lt_succ_self _,Al kr⟩
   ·dsimp only;omega
   exact ⟨ax0,ax0,ax0⟩
  refine An<|Ai<|Ai<|Ao<|A3<|AE<|rg ⟨[(0,tO (.own 1000 mp1 data'.length)),(1,tI 0),(2,tI n),(3,.av (.one (.clo mp2 1 (Am [.eptr 1 1 (gD [.clo mp3 0 (fun _=>default)]) 0 0])))),(8,tI (W64 (i+1)))],[(1000,.row mp1 data'.length (AP mp4 data') mp5)]⟩ ?_
  (try rw [(show W64 (i+1)=i+1 from Ae oM oM)])
  refine AE ?_
  refine ⟨(n0,data',i+1),⟨?_,?_,(by rw [<- hF1];simp only [mp9,h2,cond_true,cond_false])⟩,Nat.lt_succ_self _,Al kr⟩
  ·dsimp only;omega
  exact ⟨ax0,ax0,ax0,ax0⟩
 have g1:=oF h1
 exact An<|Ai<|Ai<|Ao<|xn (.tup []) ⟨Ej rfl,.row mp1 data.length (AP mp4 data) mp5,by kernel_rfl,F2 (c:=mp4) (xs:=data) (by rw [<- hF0];first | (simp only [mp7,h1,cond_true,cond_false] <;> rfl)) au19⟩):p:=h
section
 open Go.Proofs.YtheobjkgllmnmaaGreat renaming nn6→mp1,QP→mp2,eN→mp3,AV.c→mp4,Xo→mp5,AV→mp6,L3→mp7,NP→mp8,L1→mp9,Z0j→mp10,Lv→mp11,pcmpT→mp12
 open Go.Proofs.Tryz renaming func181→mp0
theorem pInsT (l:(List AV)) (n:Int) (hn:n=(l.length:Int)) (hl:l.length<20):WrR Tryz.prog 181 1000 [.one (.own 1000 6 l.length),.one (.i 0),.one (.i n),.one (.clo 154 1 (Am [.eptr 1 1 (gD [.clo 109 0 dfc]) 0 0]))] 6 l.length (AP AV.c l) 150 (.tup []) (AP AV.c (NP l n)):=mE
end
section
 open Go.Proofs.YtheobjkgllmnmaaGreat renaming NP→mp0,Lv→mp1,L3→mp2,L1→mp3
theorem U4 (l:List AV) (n:Int) (hn:n=(l.length:Int)):NP l n=CS (fun x y=>decide (Lv x y<0)) l:=fC
end
theorem RR (l:List AV) (n:Int) (hn:n=(l.length:Int)) (hl:l.length<20):(NP l n).length=l.length:=by rw [U4 l n hn,Dd]
def Z0k:CT:=(181,([.one (.own 1000 6 l.length),.one (.i 0),.one (.i n),.one (.clo 154 1 (Am [.eptr 1 1 (fun _ j_=>([.clo 109 0 dfc]:List Cl).getD j_ default) 0 0]))]:List Av).map (Hx 1000 1000),wrI 1000 (.row 6 l.length (AP AV.c l) 150) (.tup []) (.row 6 l.length (AP AV.c (NP l n)) 150))
def RI (l:(List AV)) (n:Int):(List AV):=NP l n
theorem mD {p:Prop} (h:p:=by
 refine Ft mp0 rfl kr kr kr fun W0 M0 X hX => ?_
 refine AB<|on<|AB<|rn ⟨[(0,tO (.own 1000 mp1 l.length)),(1,tI n),(2,.av (.one (.clo mp2 1 (Am [.eptr 1 1 (gD [.clo mp3 0 (fun _=>default)]) 0 0])))),(6,tI 20),(7,tI 0),(8,tI 20)],[(1000,.row mp1 l.length (AP mp4 l) mp5)]⟩<|AB<|AM<|EF 1<|CA<|AB<|AB<|rn ⟨[(0,tO (.own 1000 mp1 l.length)),(1,tI n),(2,.av (.one (.clo mp2 1 (Am [.eptr 1 1 (gD [.clo mp3 0 (fun _=>default)]) 0 0])))),(6,tI 20),(7,tI 0),(8,tI 20),(13,tB (decide ((20:Int)<=n)))],[(1000,.row mp1 l.length (AP mp4 l) mp5)]⟩ ?_
 have h1:(decide ((20:Int)<=n))=false:=decide_eq_false oM
 have g1:=oF h1
 refine Ap _ rfl (fun h=>absurd (h1.symm.trans h) (by decide)) (fun _ => ?_)
 refine An<|Ai<|Ai<|Ao<|AE<|AB<|rb 27 (mp6 l n) (.row mp1 l.length (AP mp4 l) mp5) ⟨[(0,tO (.own 1000 mp1 l.length)),(1,tI n),(2,.av (.one (.clo mp2 1 (Am [.eptr 1 1 (gD [.clo mp3 0 (fun _=>default)]) 0 0])))),(6,tI 20)],[(1000,.row mp1 l.length (AP mp4 (mp7 l n)) mp5)]⟩ (Fz (fun _ _=>kr) kr (mp8 l n au4 au4))<|AE<|BE (KD (⟨[(0,tO (.own 1000 mp1 (mp7 l n).length)),(1,tI n),(2,.av (.one (.clo mp2 1 (Am [.eptr 1 1 (gD [.clo mp3 0 (fun _=>default)]) 0 0])))),(6,tI 20)],[(1000,.row mp1 (mp7 l n).length (AP mp4 (mp7 l n)) mp5)]⟩) 1000 (Jy mp1 mp4 (mp7 l n) (mp9 l n au4 au4)))<|AM<|EF 1<|CA<|AB<|AB<|rn ⟨[(0,tO (.own 1000 mp1 (mp7 l n).length)),(1,tI n),(2,.av (.one (.clo mp2 1 (Am [.eptr 1 1 (gD [.clo mp3 0 (fun _=>default)]) 0 0])))),(6,tI 20),(30,tB (decide ((20:Int)<n)))],[(1000,.row mp1 (mp7 l n).length (AP mp4 (mp7 l n)) mp5)]⟩ ?_
 have h2:(decide ((20:Int)<n))=false:=decide_eq_false oM
 have g2:=oF h2
 refine Ap _ rfl (fun h=>absurd (h2.symm.trans h) (by decide)) (fun _ => ?_)
 exact An<|Ai<|Ai<|Ao<|xn (.tup []) ⟨Ej rfl,.row mp1 (mp7 l n).length (AP mp4 (mp7 l n)) mp5,by kernel_rfl,F2 (c:=mp4) (xs:=mp7 l n) (by simp only [mp10,h1,h2,cond_true,cond_false] <;> rfl) (mp9 l n hn hl)⟩):p:=h
section
 open Go.Proofs.YtheobjkgllmnmaaGreat renaming nn6→mp1,QP→mp2,eN→mp3,AV.c→mp4,Xo→mp5,Z0k→mp6,NP→mp7,pInsT→mp8,RR→mp9,RI→mp10
 open Go.Proofs.Tryz renaming func168→mp0
theorem pStaT (l:(List AV)) (n:Int) (hn:n=(l.length:Int)) (hl:l.length<20):WrR Tryz.prog 168 1000 [.one (.own 1000 6 l.length),.one (.i n),.one (.clo 154 1 (Am [.eptr 1 1 (gD [.clo 109 0 dfc]) 0 0]))] 6 l.length (AP AV.c l) 150 (.tup []) (AP AV.c (RI l n)):=mD
end
theorem RH (l:List AV) (n:Int) (hn:n=(l.length:Int)) (hl:l.length<20):(RI l n).length=l.length:=RR l n hn hl
def Z0l:CT:=(168,([.one (.own 1000 6 l.length),.one (.i ((l.length:Nat):Int)),.one (.clo 154 1 (Am [.eptr 1 1 (fun _ j_=>([.clo 109 0 dfc]:List Cl).getD j_ default) 0 0]))]:List Av).map (Hx 1000 1000),wrI 1000 (.row 6 l.length (AP AV.c l) 150) (.tup []) (.row 6 l.length (AP AV.c (RI l ((l.length:Nat):Int))) 150))
def Pm (l:(List AV)):(List AV):=RI l ((l.length:Nat):Int)
theorem mC {p:Prop} (h:p:=by
 refine Ft mp0 rfl kr kr kr fun W0 M0 X hX => ?_
 exact rb 8 (mp1 l) (.row mp2 l.length (AP mp3 l) mp4) ⟨[],[(1000,.row mp2 l.length (AP mp3 (mp5 l ((l.length:Nat):Int))) mp4)]⟩ (Fz (fun _ _=>kr) kr (mp6 l ((l.length:Nat):Int) au4 au4))<|yn (A5 1000 (Jy mp2 mp3 (mp5 l ((l.length:Nat):Int)) (mp7 l ((l.length:Nat):Int) au4 au4))) (.tup []) ⟨Ej rfl,.row mp2 (mp5 l ((l.length:Nat):Int)).length (AP mp3 (mp5 l ((l.length:Nat):Int))) mp4,by kernel_rfl,F2 (c:=mp3) (xs:=mp5 l ((l.length:Nat):Int)) (by rfl) (mp7 l _ rfl hl)⟩):p:=h
section
 open Go.Proofs.YtheobjkgllmnmaaGreat renaming Z0l→mp1,nn6→mp2,AV.c→mp3,Xo→mp4,RI→mp5,pStaT→mp6,RH→mp7
 open Go.Proofs.Tryz renaming func153→mp0
theorem pSrtT (l:(List AV)) (hl:l.length<20):WrR Tryz.prog 153 1000 [.one (.own 1000 6 l.length),.one (.clo 154 1 (Am [.eptr 1 1 (gD [.clo 109 0 dfc]) 0 0]))] 6 l.length (AP AV.c l) 150 (.tup []) (AP AV.c (Pm l)):=mC
end
theorem Z4 (l:List AV) (hl:l.length<20):(Pm l).length=l.length:=RH l _ rfl hl
theorem jG (l:List AV):Pm l=CS (fun x y=>decide (Lv x y<0)) l:=U4 l _ rfl
def Z0m:CT:=(153,([.one (.own 1000 6 out.length),.one (.clo 154 1 (Am [.eptr 1 1 (fun _ j_=>([.clo 109 0 dfc]:List Cl).getD j_ default) 0 0]))]:List Av).map (Hx 1000 2000),wrI 2000 (.row 6 out.length (AP AV.c out) 150) (.tup []) (.row 6 out.length (AP AV.c (Pm out)) 150))
def GQ (l:(List AV)):Nat->List AV->Int->(List AV)
 | 0,_,_=>default
 | n0+1,out,v12=>bif decide ((v12:Int)<(l.length:Int)) then ((GQ l n0) (out++[nH (l.getD v12.toNat default)]) (v12+1)) else (Pm out)
def CY (l:(List AV)):(List AV):=GQ l (((l.length:Int)-0).toNat+1) ([]:List AV) 0
theorem mB {p:Prop} (h:p:=by
 refine CN mp0 rfl kr (C2 _ _) fun W0 M0 => ?_
 refine AB<|on<|AB<|on<|AB<|AB<|rn ⟨[(1,.av (.one (.clo mp1 0 (fun _=>default)))),(5,tP 5 0),(7,.av (.one vN)),(10,tO (lst mp2 mp3 l)),(11,tI (l.length:Int)),(12,tI 0)],[(5,.cells [.clo mp4 0 (fun _=>default)] mp5)]⟩<|AM<|BE (Cv.trans (vg 2000 mp2 (fun _ _=>default) mp6 [(7,[0])] [] hk0) (Cv.trans (A5 2000 (B9 mp2 (fun _ _=>default) mp3)) (ck (⟨[(1,.av (.one (.clo mp1 0 (fun _=>default)))),(5,tP 5 0),(7,tO (.own 2000 mp2 ([]:List mp7).length)),(10,tO (lst mp2 mp3 l)),(11,tI (l.length:Int)),(12,tI 0)],[(5,.cells [.clo mp4 0 (fun _=>default)] mp5),(2000,.row mp2 ([]:List mp7).length (AP mp3 ([]:List mp7)) mp6)]⟩))))<|lpC (κ:=List mp7×Int) (fun x=>⟨[(1,.av (.one (.clo mp1 0 (fun _=>default)))),(5,tP 5 0),(7,tO (.own 2000 mp2 x.2.1.length)),(10,tO (lst mp2 mp3 l)),(11,tI (l.length:Int)),(12,tI x.2.2)],[(5,.cells [.clo mp4 0 (fun _=>default)] mp5),(2000,.row mp2 x.2.1.length (AP mp3 x.2.1) mp6)]⟩) (fun x=>((l.length:Int)-x.2.2).toNat) (fun x=>(0<=x.2.2/\(x.2.2<=(l.length:Int)\/x.2.2=0)/\(x.2.1.length:Int)<=0+1*(x.2.2-0))/\mp8 l x.1 x.2.1 x.2.2=mp9 l) ?_ (((l.length:Int)-0).toNat+1,([]:List mp7),0) ⟨Nat.lt_succ_self _,⟨ax0,ax0,ax0⟩,(by simp only [mp9,cond_true,cond_false])⟩
 rintro n0 ⟨out,v12⟩ hm0 ⟨hinv0,hF0⟩
 try dsimp only at hm0 hinv0 hF0
 refine AB<|on<|AB<|kb (decide ((v12:Int)<(l.length:Int))) (fun h1 => ?_) (fun h1 => ?_)
 ·have g1:=oT h1
  refine AQ<|AE<|AB<|AM<|AB<|oc [] [0<=(v12:Int)/\(v12:Int)<((l.length:Nat):Int)] .nil (H1 au0)<|AE<|oo _ [none,out.length=out.length,out.length+1<=maxLen,(out.length+1)*mp10<=140737488355328] (J1 19 (mp11 (l.getD v12.toNat default))) (H3 rfl au2 au2)<|A3<|AE<|BE (A5 21 (BF (A1 mp2 mp3 out) (BC mp2 mp3 ([mp12 (l.getD v12.toNat default)]:List mp7))))<|rg ⟨[(1,.av (.one (.clo mp1 0 (fun _=>default)))),(5,tP 5 0),(7,tO (.own 21 mp2 (out++[mp12 (l.getD v12.toNat default)]).length)),(10,tO (lst mp2 mp3 l)),(11,tI (l.length:Int)),(12,tI (W64 (v12+1)))],[(5,.cells [.clo mp4 0 (fun _=>default)] mp5),(21,.row mp2 (out++[mp12 (l.getD v12.toNat default)]).length (AP mp3 (out++[mp12 (l.getD v12.toNat default)])) mp6)]⟩ ?_
  (try rw [(show W64 (v12+1)=v12+1 from Ae oM au3)])
  refine AE ?_
  refine ⟨(n0,out++[mp12 (l.getD v12.toNat default)],v12+1),⟨?_,?_,(by rw [<- hF0];simp only [mp8,h1,cond_true,cond_false])⟩,Nat.lt_succ_self _,Cv.trans (vr 21 2000 hk0) (Al kr)⟩
  ·dsimp only;omega
  exact ⟨ax0,ax0,ax0⟩
 have g1:=oF h1
 exact An<|Ai<|Ai<|Ao<|AE<|AB<|BE (Hm (⟨[(1,.av (.one (.clo mp1 0 (fun _=>default)))),(5,.av (.one (.eptr 1 1 (gD [.clo mp4 0 (fun _=>default)]) 0 0))),(7,tO (.own 2000 mp2 out.length)),(10,tO (lst mp2 mp3 l)),(11,tI (l.length:Int)),(12,tI v12),(13,tB (decide ((v12:Int)<(l.length:Int))))],[(2000,.row mp2 out.length (AP mp3 out) mp6)]⟩) 5 [.clo mp4 0 (fun _=>default)] mp5 hk0 kr kr kr kr)<|rb 25 (mp13 out) (.row mp2 out.length (AP mp3 out) mp6) ⟨[(7,tO (.own 2000 mp2 out.length))],[(2000,.row mp2 out.length (AP mp3 (mp14 out)) mp6)]⟩ (Fz (fun _ _=>kr) kr (mp15 out au4))<|AE<|BE (A5 2000 (Jy mp2 mp3 (mp14 out) (mp16 out au4)))<|AB<|on<|AW<|xl (tO (.own 2000 mp2 (mp14 out).length)) (frE (c:=mp3) (xs:=mp14 out) (by rw [<- hF0];first | (simp only [mp8,h1,cond_true,cond_false] <;> rfl)) kr)):p:=h
section
 open Go.Proofs.YtheobjkgllmnmaaGreat renaming nn108→mp1,nn6→mp2,AV.c→mp3,eN→mp4,nn220→mp5,Xo→mp6,AV→mp7,GQ→mp8,CY→mp9,WI→mp10,okasT→mp11,nH→mp12,Z0m→mp13,Pm→mp14,pSrtT→mp15,Z4→mp16
 open Go.Proofs.Tryz renaming func107→mp0
theorem TW (l:(List AV)) (hl:l.length<20):Fr Tryz.prog 107 [.one (lst 6 AV.c l),.one (.clo 108 0 dfc),.one (.clo 109 0 dfc)] (.row 6 (CY l).length (AP AV.c (CY l)) 150) (fun d=>tO (.own d 6 (CY l).length)):=mB
end
def Z0n:CT:=(107,[.one (lst 6 AV.c b.Tracks),.one (.clo 108 0 dfc),.one (.clo 109 0 dfc)],.new [] (.row 6 (CY b.Tracks).length (AP AV.c (CY b.Tracks)) 150) (fun d=>.av (.one (.own d 6 (CY b.Tracks).length))))
def BJ (b:AG):(List AV):=CY b.Tracks
theorem kB (b:AG) (hl:b.Tracks.length<20):Fr Tryz.prog 52 [.agg (AG.c b)] (.row 6 (BJ b).length (AP AV.c (BJ b)) 150) (fun d=>tO (.own d 6 (BJ b).length)):=by
 refine CN Tryz.func52 rfl kr (C2 _ _) fun W0 M0 => ?_
 exact AB<|on<|AB<|oq 5 (Z0n b) (Bx (fun _ _=>kr) (TW b.Tracks au4))<|AE<|AW<|xl (tO (.own 5 6 (CY b.Tracks).length)) (frE (c:=AV.c) (xs:=CY b.Tracks) (by rfl) kr)
def mQ:CT:=(52,[.agg (AG.c b)],.new [] (.row 6 (BJ b).length (AP AV.c (BJ b)) 150) (fun d=>.av (.one (.own d 6 (BJ b).length))))
theorem dU (b:AG) (hl:b.Tracks.length<20):OKc (mQ b):=Bx (fun _ _=>kr) (kB b hl)
theorem Uw (l:List AV):CY l=CS (fun x y=>decide (Lv x y<0)) l:=by
 unfold CY
 have h:=Zp l (GQ l) (fun acc _=>Pm acc) (fun m acc v=>by
  rw [GQ,Int.toNat_natCast]
  rfl) l.length 0 ((((l.length:Int))-0).toNat+1) [] rfl (Nat.zero_le _) (by omega)
 rw [List.drop_zero,List.nil_append] at h
 exact h.trans (jG l)
theorem LD (b:AG):BJ b=CS (fun x y=>decide (Lv x y<0)) b.Tracks:=Uw _
theorem Uu {b:AG} {x:AV}:x∈BJ b↔x∈b.Tracks:=by rw [LD];exact O7 _ _ _
theorem Js (b:AG):(BJ b).length=b.Tracks.length:=by rw [LD];exact Dd _ _
def nG (t:Aw):Aw:=t
def casV (t:Aw):CT:=(111,[.agg (Aw.c t)],.val [] (.av (.agg (Aw.c (nG t)))))
theorem pasV (t:Aw):PuP 111 (casV t).2.1 (.av (.agg (Aw.c (nG t)))):=by
 refine pwf Tryz.func111 fun W0 M0 => ?_
 exact AB<|on<|AB<|on<|AW<|zl
theorem okasV (t:Aw):OKc (casV t):=cPu<|pasV t
def Zz (t:Aw):Int:=t.Id
def cidV (t:Aw):CT:=(112,[.agg (Aw.c t)],.val [] (.av (.one (.i (Zz t)))))
theorem pidV (t:Aw):PuP 112 (cidV t).2.1 (tO (.i (Zz t))):=by
 refine pwf Tryz.func112 fun W0 M0 => ?_
 exact AB<|on<|AB<|on<|AW<|zl
theorem nZ (t:Aw):OKc (cidV t):=cPu<|pidV t
def Lu (a:Aw) (b_:Aw):Int:=Cd (Zz a) (Zz b_)
theorem pcmpV  (a:Aw) (b_:Aw):FV Tryz.prog 156 [.agg (Aw.c a),.agg (Aw.c b_),.one (.eptr 1 1 (gD [.clo 112 0 dfc]) 0 0)] (tO (.i (Lu a b_))):=by
 refine pwf Tryz.func156 fun W0 M0 => ?_
 exact AB<|on<|AB<|oe [] _ [none,none,none] (J3 8 11 12 (nZ a) (nZ b_) (H9 (Zz a) (Zz b_))) .nil<|AE<|AW<|zl
def Z0o (data':List Aw) (j:Int):CT:=(156,[.agg (Aw.c (data'.getD j.toNat default)),.agg (Aw.c (data'.getD (W64 (j-1)).toNat default)),.one (.eptr 1 1 (fun _ j_=>([.clo 112 0 dfc]:List Cl).getD j_ default) 0 0)],.val [] (tI (Lu (data'.getD j.toNat default) (data'.getD (W64 (j-1)).toNat default))))
def Lz (l:(List Aw)) (n:Int) (data:List Aw) (i:Int) (K0:List Aw->Int->(List Aw)):Nat->List Aw->Int->(List Aw)
 | 0,_,_=>default
 | n1+1,data',j=>bif bif decide ((0:Int)<j) then decide (((Lu (data'.getD j.toNat default) (data'.getD (j-1).toNat default)):Int)<0) else false then ((Lz l n data i K0 n1) ((data'.set j.toNat (data'.getD (j-1).toNat default)).set (j-1).toNat (data'.getD j.toNat default)) (j-1)) else (K0 data' (i+1))
def L0 (l:(List Aw)) (n:Int):Nat->List Aw->Int->(List Aw)
 | 0,_,_=>default
 | n0+1,data,i=>bif decide ((i:Int)<n) then (Lz l n data i (L0 l n n0) (i.toNat+1) data i) else data
def NO (l:(List Aw)) (n:Int):(List Aw):=L0 l n ((n-1).toNat+1) l 1
section
 open Go.Proofs.YtheobjkgllmnmaaGreat renaming nn8→mp1,oK→mp2,eM→mp3,Aw.c→mp4,QP→mp5,Aw→mp6,L0→mp7,NO→mp8,Lz→mp9,Z0o→mp10,Lu→mp11,pcmpV→mp12
 open Go.Proofs.Tryz renaming func183→mp0
theorem pInsV (l:(List Aw)) (n:Int) (hn:n=(l.length:Int)) (hl:l.length<20):WrR Tryz.prog 183 1000 [.one (.own 1000 8 l.length),.one (.i 0),.one (.i n),.one (.clo 156 1 (Am [.eptr 1 1 (gD [.clo 112 0 dfc]) 0 0]))] 8 l.length (AP Aw.c l) 154 (.tup []) (AP Aw.c (NO l n)):=mE
end
section
 open Go.Proofs.YtheobjkgllmnmaaGreat renaming NO→mp0,Lu→mp1,L0→mp2,Lz→mp3
theorem U3 (l:List Aw) (n:Int) (hn:n=(l.length:Int)):NO l n=CS (fun x y=>decide (Lu x y<0)) l:=fC
end
theorem RQ (l:List Aw) (n:Int) (hn:n=(l.length:Int)) (hl:l.length<20):(NO l n).length=l.length:=by rw [U3 l n hn,Dd]
def Z0p (l:(List Aw)) (n:Int):CT:=(183,([.one (.own 1000 8 l.length),.one (.i 0),.one (.i n),.one (.clo 156 1 (Am [.eptr 1 1 (fun _ j_=>([.clo 112 0 dfc]:List Cl).getD j_ default) 0 0]))]:List Av).map (Hx 1000 1000),wrI 1000 (.row 8 l.length (AP Aw.c l) 154) (.tup []) (.row 8 l.length (AP Aw.c (NO l n)) 154))
def RG (l:(List Aw)) (n:Int):(List Aw):=NO l n
section
 open Go.Proofs.YtheobjkgllmnmaaGreat renaming nn8→mp1,oK→mp2,eM→mp3,Aw.c→mp4,QP→mp5,Z0p→mp6,NO→mp7,pInsV→mp8,RQ→mp9,RG→mp10
 open Go.Proofs.Tryz renaming func169→mp0
theorem pStaV (l:(List Aw)) (n:Int) (hn:n=(l.length:Int)) (hl:l.length<20):WrR Tryz.prog 169 1000 [.one (.own 1000 8 l.length),.one (.i n),.one (.clo 156 1 (Am [.eptr 1 1 (gD [.clo 112 0 dfc]) 0 0]))] 8 l.length (AP Aw.c l) 154 (.tup []) (AP Aw.c (RG l n)):=mD
end
theorem RF (l:List Aw) (n:Int) (hn:n=(l.length:Int)) (hl:l.length<20):(RG l n).length=l.length:=RQ l n hn hl
def Z0q (l:(List Aw)):CT:=(169,([.one (.own 1000 8 l.length),.one (.i ((l.length:Nat):Int)),.one (.clo 156 1 (Am [.eptr 1 1 (fun _ j_=>([.clo 112 0 dfc]:List Cl).getD j_ default) 0 0]))]:List Av).map (Hx 1000 1000),wrI 1000 (.row 8 l.length (AP Aw.c l) 154) (.tup []) (.row 8 l.length (AP Aw.c (RG l ((l.length:Nat):Int))) 154))
def Pl (l:(List Aw)):(List Aw):=RG l ((l.length:Nat):Int)
section
 open Go.Proofs.YtheobjkgllmnmaaGreat renaming Z0q→mp1,nn8→mp2,Aw.c→mp3,QP→mp4,RG→mp5,pStaV→mp6,RF→mp7
 open Go.Proofs.Tryz renaming func155→mp0
theorem pSrtV (l:(List Aw)) (hl:l.length<20):WrR Tryz.prog 155 1000 [.one (.own 1000 8 l.length),.one (.clo 156 1 (Am [.eptr 1 1 (gD [.clo 112 0 dfc]) 0 0]))] 8 l.length (AP Aw.c l) 154 (.tup []) (AP Aw.c (Pl l)):=mC
end
theorem Z3 (l:List Aw) (hl:l.length<20):(Pl l).length=l.length:=RF l _ rfl hl
theorem jF (l:List Aw):Pl l=CS (fun x y=>decide (Lu x y<0)) l:=U3 l _ rfl
def Z0r (out:List Aw):CT:=(155,([.one (.own 1000 8 out.length),.one (.clo 156 1 (Am [.eptr 1 1 (fun _ j_=>([.clo 112 0 dfc]:List Cl).getD j_ default) 0 0]))]:List Av).map (Hx 1000 2000),wrI 2000 (.row 8 out.length (AP Aw.c out) 154) (.tup []) (.row 8 out.length (AP Aw.c (Pl out)) 154))
def GP (l:(List Aw)):Nat->List Aw->Int->(List Aw)
 | 0,_,_=>default
 | n0+1,out,v12=>bif decide ((v12:Int)<(l.length:Int)) then ((GP l n0) (out++[nG (l.getD v12.toNat default)]) (v12+1)) else (Pl out)
def CX (l:(List Aw)):(List Aw):=GP l (((l.length:Int)-0).toNat+1) ([]:List Aw) 0
section
 open Go.Proofs.YtheobjkgllmnmaaGreat renaming nn111→mp1,nn8→mp2,Aw.c→mp3,eM→mp4,nn224→mp5,QP→mp6,Aw→mp7,GP→mp8,CX→mp9,WI→mp10,okasV→mp11,nG→mp12,Z0r→mp13,Pl→mp14,pSrtV→mp15,Z3→mp16
 open Go.Proofs.Tryz renaming func110→mp0
theorem TV (l:(List Aw)) (hl:l.length<20):Fr Tryz.prog 110 [.one (lst 8 Aw.c l),.one (.clo 111 0 dfc),.one (.clo 112 0 dfc)] (.row 8 (CX l).length (AP Aw.c (CX l)) 154) (fun d=>tO (.own d 8 (CX l).length)):=mB
end
def Z0s:CT:=(110,[.one (lst 8 Aw.c b.Vias),.one (.clo 111 0 dfc),.one (.clo 112 0 dfc)],.new [] (.row 8 (CX b.Vias).length (AP Aw.c (CX b.Vias)) 154) (fun d=>.av (.one (.own d 8 (CX b.Vias).length))))
def BV (b:AG):(List Aw):=CX b.Vias
theorem qvias (b:AG) (hl:b.Vias.length<20):Fr Tryz.prog 54 [.agg (AG.c b)] (.row 8 (BV b).length (AP Aw.c (BV b)) 154) (fun d=>tO (.own d 8 (BV b).length)):=by
 refine CN Tryz.func54 rfl kr (C2 _ _) fun W0 M0 => ?_
 exact AB<|on<|AB<|oq 5 (Z0s b) (Bx (fun _ _=>kr) (TV b.Vias au4))<|AE<|AW<|xl (tO (.own 5 8 (CX b.Vias).length)) (frE (c:=Aw.c) (xs:=CX b.Vias) (by rfl) kr)
def cvias:CT:=(54,[.agg (AG.c b)],.new [] (.row 8 (BV b).length (AP Aw.c (BV b)) 154) (fun d=>.av (.one (.own d 8 (BV b).length))))
theorem dS (b:AG) (hl:b.Vias.length<20):OKc (cvias b):=Bx (fun _ _=>kr) (qvias b hl)
theorem Uv (l:List Aw):CX l=CS (fun x y=>decide (Lu x y<0)) l:=by
 unfold CX
 have h:=Zp l (GP l) (fun acc _=>Pl acc) (fun m acc v=>by
  rw [GP,Int.toNat_natCast]
  rfl) l.length 0 ((((l.length:Int))-0).toNat+1) [] rfl (Nat.zero_le _) (by omega)
 rw [List.drop_zero,List.nil_append] at h
 exact h.trans (jF l)
theorem Ut (b:AG):BV b=CS (fun x y=>decide (Lu x y<0)) b.Vias:=Uv _
theorem KF (b:AG):(BV b).length=b.Vias.length:=by rw [Ut];exact Dd _ _
def nJ (t:AF):AF:=t
def casQ (t:AF):CT:=(116,[.agg (AF.c t)],.val [] (.av (.agg (AF.c (nJ t)))))
theorem pasQ (t:AF):PuP 116 (casQ t).2.1 (.av (.agg (AF.c (nJ t)))):=by
 refine pwf Tryz.func116 fun W0 M0 => ?_
 exact AB<|on<|AB<|on<|AW<|zl
theorem okasQ (t:AF):OKc (casQ t):=cPu<|pasQ t
def Z2 (t:AF):Int:=t.Id
def cidQ (t:AF):CT:=(117,[.agg (AF.c t)],.val [] (.av (.one (.i (Z2 t)))))
theorem pidQ (t:AF):PuP 117 (cidQ t).2.1 (tO (.i (Z2 t))):=by
 refine pwf Tryz.func117 fun W0 M0 => ?_
 exact AB<|on<|AB<|on<|AW<|zl
theorem oC (t:AF):OKc (cidQ t):=cPu<|pidQ t
def Lx (a:AF) (b_:AF):Int:=Cd (Z2 a) (Z2 b_)
theorem pcmpQ  (a:AF) (b_:AF):FV Tryz.prog 160 [.agg (AF.c a),.agg (AF.c b_),.one (.eptr 1 1 (gD [.clo 117 0 dfc]) 0 0)] (tO (.i (Lx a b_))):=by
 refine pwf Tryz.func160 fun W0 M0 => ?_
 exact AB<|on<|AB<|oe [] _ [none,none,none] (J3 8 11 12 (oC a) (oC b_) (H9 (Z2 a) (Z2 b_))) .nil<|AE<|AW<|zl
def Z0t (data':List AF) (j:Int):CT:=(160,[.agg (AF.c (JK data' j)),.agg (AF.c (data'.getD (W64 (j-1)).toNat default)),.one (.eptr 1 1 (fun _ j_=>([.clo 117 0 dfc]:List Cl).getD j_ default) 0 0)],.val [] (tI (Lx (JK data' j) (data'.getD (W64 (j-1)).toNat default))))
def L6 (l:(List AF)) (n:Int) (data:List AF) (i:Int) (K0:List AF->Int->(List AF)):Nat->List AF->Int->(List AF)
 | 0,_,_=>default
 | n1+1,data',j=>bif bif decide ((0:Int)<j) then decide (((Lx (data'.getD j.toNat default) (data'.getD (j-1).toNat default)):Int)<0) else false then ((L6 l n data i K0 n1) ((data'.set j.toNat (data'.getD (j-1).toNat default)).set (j-1).toNat (data'.getD j.toNat default)) (j-1)) else (K0 data' (i+1))
def L7 (l:(List AF)) (n:Int):Nat->List AF->Int->(List AF)
 | 0,_,_=>default
 | n0+1,data,i=>bif decide ((i:Int)<n) then (L6 l n data i (L7 l n n0) (i.toNat+1) data i) else data
def NR (l:(List AF)) (n:Int):(List AF):=L7 l n ((n-1).toNat+1) l 1
section
 open Go.Proofs.YtheobjkgllmnmaaGreat renaming nn7→mp1,QO→mp2,eL→mp3,AF.c→mp4,QO→mp5,AF→mp6,L7→mp7,NR→mp8,L6→mp9,Z0t→mp10,Lx→mp11,pcmpQ→mp12
 open Go.Proofs.Tryz renaming func185→mp0
theorem pInsQ (l:(List AF)) (n:Int) (hn:n=(l.length:Int)) (hl:l.length<20):WrR Tryz.prog 185 1000 [.one (.own 1000 7 l.length),.one (.i 0),.one (.i n),.one (.clo 160 1 (Am [.eptr 1 1 (gD [.clo 117 0 dfc]) 0 0]))] 7 l.length (AP AF.c l) 160 (.tup []) (AP AF.c (NR l n)):=mE
end
section
 open Go.Proofs.YtheobjkgllmnmaaGreat renaming NR→mp0,Lx→mp1,L7→mp2,L6→mp3
theorem U6 (l:List AF) (n:Int) (hn:n=(l.length:Int)):NR l n=CS (fun x y=>decide (Lx x y<0)) l:=fC
end
theorem RU (l:List AF) (n:Int) (hn:n=(l.length:Int)) (hl:l.length<20):(NR l n).length=l.length:=by rw [U6 l n hn,Dd]
def Z0u (l:(List AF)) (n:Int):CT:=(185,([.one (JN l),.one (.i 0),.one (.i n),.one (.clo 160 1 (Am [.eptr 1 1 (fun _ j_=>([.clo 117 0 dfc]:List Cl).getD j_ default) 0 0]))]:List Av).map (Hx 1000 1000),wrI 1000 (.row 7 l.length (AP AF.c l) 160) (.tup []) (.row 7 l.length (AP AF.c (NR l n)) 160))
def RM (l:(List AF)) (n:Int):(List AF):=NR l n
section
 open Go.Proofs.YtheobjkgllmnmaaGreat renaming nn7→mp1,QO→mp2,eL→mp3,AF.c→mp4,QO→mp5,Z0u→mp6,NR→mp7,pInsQ→mp8,RU→mp9,RM→mp10
 open Go.Proofs.Tryz renaming func170→mp0
theorem pStaQ (l:(List AF)) (n:Int) (hn:n=(l.length:Int)) (hl:l.length<20):WrR Tryz.prog 170 1000 [.one (.own 1000 7 l.length),.one (.i n),.one (.clo 160 1 (Am [.eptr 1 1 (gD [.clo 117 0 dfc]) 0 0]))] 7 l.length (AP AF.c l) 160 (.tup []) (AP AF.c (RM l n)):=mD
end
theorem RL (l:List AF) (n:Int) (hn:n=(l.length:Int)) (hl:l.length<20):(RM l n).length=l.length:=RU l n hn hl
def Z0v (l:(List AF)):CT:=(170,([.one (JN l),.one (.i ((l.length:Nat):Int)),.one (.clo 160 1 (Am [.eptr 1 1 (fun _ j_=>([.clo 117 0 dfc]:List Cl).getD j_ default) 0 0]))]:List Av).map (Hx 1000 1000),wrI 1000 (.row 7 l.length (AP AF.c l) 160) (.tup []) (.row 7 l.length (AP AF.c (RM l ((l.length:Nat):Int))) 160))
def Po (l:(List AF)):(List AF):=RM l ((l.length:Nat):Int)
section
 open Go.Proofs.YtheobjkgllmnmaaGreat renaming Z0v→mp1,nn7→mp2,AF.c→mp3,QO→mp4,RM→mp5,pStaQ→mp6,RL→mp7
 open Go.Proofs.Tryz renaming func159→mp0
theorem pSrtQ (l:(List AF)) (hl:l.length<20):WrR Tryz.prog 159 1000 [.one (.own 1000 7 l.length),.one (.clo 160 1 (Am [.eptr 1 1 (gD [.clo 117 0 dfc]) 0 0]))] 7 l.length (AP AF.c l) 160 (.tup []) (AP AF.c (Po l)):=mC
end
theorem Z6 (l:List AF) (hl:l.length<20):(Po l).length=l.length:=RL l _ rfl hl
theorem jI (l:List AF):Po l=CS (fun x y=>decide (Lx x y<0)) l:=U6 l _ rfl
def Z0w (out:List AF):CT:=(159,([.one (.own 1000 7 out.length),.one (.clo 160 1 (Am [.eptr 1 1 (fun _ j_=>([.clo 117 0 dfc]:List Cl).getD j_ default) 0 0]))]:List Av).map (Hx 1000 2000),wrI 2000 (.row 7 out.length (AP AF.c out) 160) (.tup []) (.row 7 out.length (AP AF.c (Po out)) 160))
def GS (l:(List AF)):Nat->List AF->Int->(List AF)
 | 0,_,_=>default
 | n0+1,out,v12=>bif decide ((v12:Int)<(l.length:Int)) then ((GS l n0) (out++[nJ (l.getD v12.toNat default)]) (v12+1)) else (Po out)
def Ca (l:(List AF)):(List AF):=GS l (((l.length:Int)-0).toNat+1) ([]:List AF) 0
section
 open Go.Proofs.YtheobjkgllmnmaaGreat renaming nn116→mp1,nn7→mp2,AF.c→mp3,eL→mp4,nn228→mp5,QO→mp6,AF→mp7,GS→mp8,Ca→mp9,WI→mp10,okasQ→mp11,nJ→mp12,Z0w→mp13,Po→mp14,pSrtQ→mp15,Z6→mp16
 open Go.Proofs.Tryz renaming func115→mp0
theorem TY (l:(List AF)) (hl:l.length<20):Fr Tryz.prog 115 [.one (lst 7 AF.c l),.one (.clo 116 0 dfc),.one (.clo 117 0 dfc)] (.row 7 (Ca l).length (AP AF.c (Ca l)) 160) (fun d=>tO (.own d 7 (Ca l).length)):=mB
end
def Z0x:CT:=(115,[.one (lst 7 AF.c b.Parts),.one (.clo 116 0 dfc),.one (.clo 117 0 dfc)],.new [] (.row 7 (Ca b.Parts).length (AP AF.c (Ca b.Parts)) 160) (fun d=>.av (.one (.own d 7 (Ca b.Parts).length))))
def CI (b:AG):(List AF):=Ca b.Parts
theorem pP (b:AG) (hl:b.Parts.length<20):Fr Tryz.prog 61 [.agg (AG.c b)] (.row 7 (CI b).length (AP AF.c (CI b)) 160) (fun d=>tO (.own d 7 (CI b).length)):=by
 refine CN Tryz.func61 rfl kr (C2 _ _) fun W0 M0 => ?_
 exact AB<|on<|AB<|oq 5 (Z0x b) (Bx (fun _ _=>kr) (TY b.Parts au4))<|AE<|AW<|xl (tO (.own 5 7 (Ca b.Parts).length)) (frE (c:=AF.c) (xs:=Ca b.Parts) (by rfl) kr)
def rZ:CT:=(61,[.agg (AG.c b)],.new [] (.row 7 (CI b).length (AP AF.c (CI b)) 160) (fun d=>.av (.one (.own d 7 (CI b).length))))
theorem lG (b:AG) (hl:b.Parts.length<20):OKc (rZ b):=Bx (fun _ _=>kr) (pP b hl)
theorem Uy (l:List AF):Ca l=CS (fun x y=>decide (Lx x y<0)) l:=by
 unfold Ca
 have h:=Zp l (GS l) (fun acc _=>Po acc) (fun m acc v=>by
  rw [GS,Int.toNat_natCast]
  rfl) l.length 0 ((((l.length:Int))-0).toNat+1) [] rfl (Nat.zero_le _) (by omega)
 rw [List.drop_zero,List.nil_append] at h
 exact h.trans (jI l)
theorem RE (b:AG):CI b=CS (fun x y=>decide (Lx x y<0)) b.Parts:=Uy _
theorem Pi (b:AG):(CI b).length=b.Parts.length:=by rw [RE];exact Dd _ _
def nI (t:Aj):Aj:=t
def casS (t:Aj):CT:=(121,[.agg (Aj.c t)],.val [] (.av (.agg (Aj.c (nI t)))))
theorem pasS (t:Aj):PuP 121 (casS t).2.1 (.av (.agg (Aj.c (nI t)))):=by
 refine pwf Tryz.func121 fun W0 M0 => ?_
 exact AB<|on<|AB<|on<|AW<|zl
theorem okasS (t:Aj):OKc (casS t):=cPu<|pasS t
def Z1 (t:Aj):Int:=t.Id
def cidS (t:Aj):CT:=(122,[.agg (Aj.c t)],.val [] (.av (.one (.i (Z1 t)))))
theorem pidS (t:Aj):PuP 122 (cidS t).2.1 (tO (.i (Z1 t))):=by
 refine pwf Tryz.func122 fun W0 M0 => ?_
 exact AB<|on<|AB<|on<|AW<|zl
theorem oB (t:Aj):OKc (cidS t):=cPu<|pidS t
def Lw (a:Aj) (b_:Aj):Int:=Cd (Z1 a) (Z1 b_)
theorem pcmpS  (a:Aj) (b_:Aj):FV Tryz.prog 162 [.agg (Aj.c a),.agg (Aj.c b_),.one (.eptr 1 1 (gD [.clo 122 0 dfc]) 0 0)] (tO (.i (Lw a b_))):=by
 refine pwf Tryz.func162 fun W0 M0 => ?_
 exact AB<|on<|AB<|oe [] _ [none,none,none] (J3 8 11 12 (oB a) (oB b_) (H9 (Z1 a) (Z1 b_))) .nil<|AE<|AW<|zl
def Z0y (data':List Aj) (j:Int):CT:=(162,[.agg (Aj.c (data'.getD j.toNat default)),.agg (Aj.c (data'.getD (W64 (j-1)).toNat default)),.one (.eptr 1 1 (fun _ j_=>([.clo 122 0 dfc]:List Cl).getD j_ default) 0 0)],.val [] (tI (Lw (data'.getD j.toNat default) (data'.getD (W64 (j-1)).toNat default))))
def L4 (l:(List Aj)) (n:Int) (data:List Aj) (i:Int) (K0:List Aj->Int->(List Aj)):Nat->List Aj->Int->(List Aj)
 | 0,_,_=>default
 | n1+1,data',j=>bif bif decide ((0:Int)<j) then decide (((Lw (data'.getD j.toNat default) (data'.getD (j-1).toNat default)):Int)<0) else false then ((L4 l n data i K0 n1) ((data'.set j.toNat (data'.getD (j-1).toNat default)).set (j-1).toNat (data'.getD j.toNat default)) (j-1)) else (K0 data' (i+1))
def L5 (l:(List Aj)) (n:Int):Nat->List Aj->Int->(List Aj)
 | 0,_,_=>default
 | n0+1,data,i=>bif decide ((i:Int)<n) then (L4 l n data i (L5 l n n0) (i.toNat+1) data i) else data
def NQ (l:(List Aj)) (n:Int):(List Aj):=L5 l n ((n-1).toNat+1) l 1
section
 open Go.Proofs.YtheobjkgllmnmaaGreat renaming nn4→mp1,oJ→mp2,eK→mp3,Aj.c→mp4,Xn→mp5,Aj→mp6,L5→mp7,NQ→mp8,L4→mp9,Z0y→mp10,Lw→mp11,pcmpS→mp12
 open Go.Proofs.Tryz renaming func187→mp0
theorem pInsS (l:(List Aj)) (n:Int) (hn:n=(l.length:Int)) (hl:l.length<20):WrR Tryz.prog 187 1000 [.one (.own 1000 4 l.length),.one (.i 0),.one (.i n),.one (.clo 162 1 (Am [.eptr 1 1 (gD [.clo 122 0 dfc]) 0 0]))] 4 l.length (AP Aj.c l) 165 (.tup []) (AP Aj.c (NQ l n)):=mE
end
section
 open Go.Proofs.YtheobjkgllmnmaaGreat renaming NQ→mp0,Lw→mp1,L5→mp2,L4→mp3
theorem U5 (l:List Aj) (n:Int) (hn:n=(l.length:Int)):NQ l n=CS (fun x y=>decide (Lw x y<0)) l:=fC
end
theorem RS (l:List Aj) (n:Int) (hn:n=(l.length:Int)) (hl:l.length<20):(NQ l n).length=l.length:=by rw [U5 l n hn,Dd]
def Z0z (l:(List Aj)) (n:Int):CT:=(187,([.one (.own 1000 4 l.length),.one (.i 0),.one (.i n),.one (.clo 162 1 (Am [.eptr 1 1 (fun _ j_=>([.clo 122 0 dfc]:List Cl).getD j_ default) 0 0]))]:List Av).map (Hx 1000 1000),wrI 1000 (.row 4 l.length (AP Aj.c l) 165) (.tup []) (.row 4 l.length (AP Aj.c (NQ l n)) 165))
def RK (l:(List Aj)) (n:Int):(List Aj):=NQ l n
section
 open Go.Proofs.YtheobjkgllmnmaaGreat renaming nn4→mp1,oJ→mp2,eK→mp3,Aj.c→mp4,Xn→mp5,Z0z→mp6,NQ→mp7,pInsS→mp8,RS→mp9,RK→mp10
 open Go.Proofs.Tryz renaming func171→mp0
theorem pStaS (l:(List Aj)) (n:Int) (hn:n=(l.length:Int)) (hl:l.length<20):WrR Tryz.prog 171 1000 [.one (.own 1000 4 l.length),.one (.i n),.one (.clo 162 1 (Am [.eptr 1 1 (gD [.clo 122 0 dfc]) 0 0]))] 4 l.length (AP Aj.c l) 165 (.tup []) (AP Aj.c (RK l n)):=mD
end
theorem RJ (l:List Aj) (n:Int) (hn:n=(l.length:Int)) (hl:l.length<20):(RK l n).length=l.length:=RS l n hn hl
def Z0A (l:(List Aj)):CT:=(171,([.one (.own 1000 4 l.length),.one (.i ((l.length:Nat):Int)),.one (.clo 162 1 (Am [.eptr 1 1 (fun _ j_=>([.clo 122 0 dfc]:List Cl).getD j_ default) 0 0]))]:List Av).map (Hx 1000 1000),wrI 1000 (.row 4 l.length (AP Aj.c l) 165) (.tup []) (.row 4 l.length (AP Aj.c (RK l ((l.length:Nat):Int))) 165))
def Pn (l:(List Aj)):(List Aj):=RK l ((l.length:Nat):Int)
section
 open Go.Proofs.YtheobjkgllmnmaaGreat renaming Z0A→mp1,nn4→mp2,Aj.c→mp3,Xn→mp4,RK→mp5,pStaS→mp6,RJ→mp7
 open Go.Proofs.Tryz renaming func161→mp0
theorem pSrtS (l:(List Aj)) (hl:l.length<20):WrR Tryz.prog 161 1000 [.one (.own 1000 4 l.length),.one (.clo 162 1 (Am [.eptr 1 1 (gD [.clo 122 0 dfc]) 0 0]))] 4 l.length (AP Aj.c l) 165 (.tup []) (AP Aj.c (Pn l)):=mC
end
theorem Z5 (l:List Aj) (hl:l.length<20):(Pn l).length=l.length:=RJ l _ rfl hl
theorem jH (l:List Aj):Pn l=CS (fun x y=>decide (Lw x y<0)) l:=U5 l _ rfl
def Z0B (out:List Aj):CT:=(161,([.one (.own 1000 4 out.length),.one (.clo 162 1 (Am [.eptr 1 1 (fun _ j_=>([.clo 122 0 dfc]:List Cl).getD j_ default) 0 0]))]:List Av).map (Hx 1000 2000),wrI 2000 (.row 4 out.length (AP Aj.c out) 165) (.tup []) (.row 4 out.length (AP Aj.c (Pn out)) 165))
def GR (l:(List Aj)):Nat->List Aj->Int->(List Aj)
 | 0,_,_=>default
 | n0+1,out,v12=>bif decide ((v12:Int)<(l.length:Int)) then ((GR l n0) (out++[nI (l.getD v12.toNat default)]) (v12+1)) else (Pn out)
def CZ (l:(List Aj)):(List Aj):=GR l (((l.length:Int)-0).toNat+1) ([]:List Aj) 0
section
 open Go.Proofs.YtheobjkgllmnmaaGreat renaming nn121→mp1,nn4→mp2,Aj.c→mp3,eK→mp4,nn233→mp5,Xn→mp6,Aj→mp7,GR→mp8,CZ→mp9,lQ→mp10,okasS→mp11,nI→mp12,Z0B→mp13,Pn→mp14,pSrtS→mp15,Z5→mp16
 open Go.Proofs.Tryz renaming func120→mp0
theorem TX (l:(List Aj)) (hl:l.length<20):Fr Tryz.prog 120 [.one (lst 4 Aj.c l),.one (.clo 121 0 dfc),.one (.clo 122 0 dfc)] (.row 4 (CZ l).length (AP Aj.c (CZ l)) 165) (fun d=>tO (.own d 4 (CZ l).length)):=mB
end
def Z0C:CT:=(120,[.one (lst 4 Aj.c b.Slots),.one (.clo 121 0 dfc),.one (.clo 122 0 dfc)],.new [] (.row 4 (CZ b.Slots).length (AP Aj.c (CZ b.Slots)) 165) (fun d=>.av (.one (.own d 4 (CZ b.Slots).length))))
def C9 (b:AG):(List Aj):=CZ b.Slots
theorem pO (b:AG) (hl:b.Slots.length<20):Fr Tryz.prog 64 [.agg (AG.c b)] (.row 4 (C9 b).length (AP Aj.c (C9 b)) 165) (fun d=>tO (.own d 4 (C9 b).length)):=by
 refine CN Tryz.func64 rfl kr (C2 _ _) fun W0 M0 => ?_
 exact AB<|on<|AB<|oq 5 (Z0C b) (Bx (fun _ _=>kr) (TX b.Slots au4))<|AE<|AW<|xl (tO (.own 5 4 (CZ b.Slots).length)) (frE (c:=Aj.c) (xs:=CZ b.Slots) (by rfl) kr)
def rY:CT:=(64,[.agg (AG.c b)],.new [] (.row 4 (C9 b).length (AP Aj.c (C9 b)) 165) (fun d=>.av (.one (.own d 4 (C9 b).length))))
theorem lE (b:AG) (hl:b.Slots.length<20):OKc (rY b):=Bx (fun _ _=>kr) (pO b hl)
theorem Ux (l:List Aj):CZ l=CS (fun x y=>decide (Lw x y<0)) l:=by
 unfold CZ
 have h:=Zp l (GR l) (fun acc _=>Pn acc) (fun m acc v=>by
  rw [GR,Int.toNat_natCast]
  rfl) l.length 0 ((((l.length:Int))-0).toNat+1) [] rfl (Nat.zero_le _) (by omega)
 rw [List.drop_zero,List.nil_append] at h
 exact h.trans (jH l)
theorem RD (b:AG):C9 b=CS (fun x y=>decide (Lw x y<0)) b.Slots:=Ux _
theorem Pg {b:AG} {x:Aj}:x∈C9 b↔x∈b.Slots:=by rw [RD];exact O7 _ _ _
theorem LE (b:AG):(C9 b).length=b.Slots.length:=by rw [RD];exact Dd _ _
end
section
open Go.RowKit
def jM (q r:Loc) (b:Nat):Prop:=only q b\/only r b
def WrA (P:Program) (f:FuncId) (vs:List Av) (sz len:Nat) (F:Nat->Nat->Cl) (tyr tyq:TypeId) (len':Nat) (F':Nat->Nat->Cl):Prop :=
 ∀ (M:Nat->Option Obj) (σ:Nat->Loc) (w:World) (args:List Value),(∀ b o,M b=some o->Dy w.heap[b]? o)->BT M σ w (σ 1000) (.cells [.own 1001 sz len] tyq)->M (σ 1000).b=none->BT M σ w (σ 1001) (.row sz len F tyr)->((σ 1001).nil=true\/M (σ 1001).b=none)->((σ 1001).nil=true\/(σ 1000).b≠(σ 1001).b)->L2 (RA M σ) (vs++[.one (.ptr 1000 0)]) args ->
  Calls P f args.toArray w fun en w'=>∃ U,en=.returned U/\∃ M' x,F3 w w' M M' (jM (σ 1000) (σ 1001))/\(x.nil=true\/((only (σ 1001) x.b\/w.heap.size<=x.b)/\M' x.b=none/\x.b≠(σ 1000).b)) /\
   (∀ (σ':Nat->Loc) d,σ' d=x->BT M' σ' w' (σ 1000) (.cells [.own d sz len'] tyq))/\∀ σ',BT M' σ' w' x (.row sz len' F' tyr)
section
variable {P:Program}
theorem Nn {q r:Nat} {bq br:Blk} (hqr:q≠r) {n:Nat} {b:Blk} (h:get [(q,bq),(r,br)] n=some b):(n=q/\b=bq)\/(n=r/\b=br):=by
 simp only [get,CH] at h
 by_cases h1:q=n
 ·simp [h1] at h;exact .inl ⟨h1.symm,h.symm⟩
 by_cases h2:r=n
 ·simp [h1,h2] at h;exact .inr ⟨h2.symm,h.symm⟩
 simp [h1,h2] at h
theorem OU {f:FuncId} {fn:Func} {c:Code} (hf:P.funcs[f]? = some fn) (hb:fn.body=some c) {vs:List Av} {sz len len':Nat} {F F':Nat->Nat->Cl} {tyr tyq:TypeId} (hN:Nat.ble (vs.length+1) fn.ntmps=true) (hK:Nat.ble fn.ntmps 1000=true)
  (h:∀ (W0:World) (M0:Nat->Option Obj) (X:Nat->Option Loc),DI X W0 [1000,1001]->AWp P none fn.ntmps W0 X M0 c (KN P fn.ntmps W0 X M0 fn fun r' s'=>∃ d b,Nat.beq d 1000=false/\get s'.h 1000=some (.cells [.own d sz len'] tyq)/\get s'.h d=some b/\HW b (.row sz len' F' tyr)) ⟨EL 0 (vs++[.one (.ptr 1000 0)]),[(1000,.cells [.own 1001 sz len] tyq),(1001,.row sz len F tyr)]⟩):WrA P f vs sz len F tyr tyq len' F':=by
 intro M σ w args himm hbq hMq hbr hMr hne hargs
 have hK':=Nat.le_of_ble_eq_true hK
 have hN':(vs++[Av.one (.ptr 1000 0)]).length<=fn.ntmps:=by have:=Nat.le_of_ble_eq_true hN;simpa using this
 have hqn:(σ 1000).nil=false:=hbq.1
 obtain ⟨X,hX⟩:∃ X:Nat->Option Loc,X=fun k=>bif Nat.beq k 1000 then some (σ 1000) else bif Nat.beq k 1001 && !(σ 1001).nil then some (σ 1001) else none:=⟨_,rfl⟩
 have hX0:X 1000=some (σ 1000):=by rw [hX];rfl
 have pins:∀ n x,X n=some x->(n=1000/\x=σ 1000)\/(n=1001/\(σ 1001).nil=false/\x=σ 1001):=fun n x hx=>by
  rw [hX] at hx
  simp only at hx
  cases h1:Nat.beq n 1000 with
  | true=>rw [h1] at hx;simp at hx;exact .inl ⟨Nat.eq_of_beq_eq_true h1,hx.symm⟩
  | false =>
   rw [h1] at hx
   cases h2:Nat.beq n 1001 with
   | false=>rw [h2] at hx;simp at hx
   | true =>
    rw [h2] at hx
    cases h3:(σ 1001).nil with
    | true=>rw [h3] at hx;simp at hx
    | false=>rw [h3] at hx;simp at hx;exact .inr ⟨Nat.eq_of_beq_eq_true h2,rfl,hx.symm⟩
 have hX1:(σ 1001).nil=false->X 1001=some (σ 1001):=fun h3=>by rw [hX];simp [h3];rfl
 have hXK:∀ k x,X k=some x->A8 [1000,1001] k=true:=fun k x hk=>by
  rcases pins k x hk with ⟨rfl,_⟩ | ⟨rfl,_⟩ <;> rfl
 have hin:∀ b,inX X b->jM (σ 1000) (σ 1001) b:=fun b ⟨n,x,h1,h2⟩=>by
  rcases pins n x h1 with ⟨_,rfl⟩ | ⟨_,h3,rfl⟩
  ·exact .inl ⟨hqn,h2.symm⟩
  exact .inr ⟨h3,h2.symm⟩
 refine Dz (X:=X) (σ:=σ) (h0:=[(1000,.cells [.own 1001 sz len] tyq),(1001,.row sz len F tyr)]) hf hb hN' himm hargs (fun n b hn => ?_) (fun n b hn => ?_) (fun n x hx => ?_) (fun n m b c hn hm hnm => ?_) (CW (h w M X fun k x hk=>.inl (hXK k x hk))) ?_
 ·rcases Nn (by decide) hn with ⟨rfl,rfl⟩ | ⟨rfl,rfl⟩
  ·exact hbq
  exact hbr
 ·rcases Nn (by decide) hn with ⟨rfl,rfl⟩ | ⟨rfl,rfl⟩
  ·exact .inr ⟨hMq,1000,_,hX0,rfl⟩
  cases h3:(σ 1001).nil with
  | true=>exact .inl rfl
  | false =>
   rcases hMr with h4 | h4
   ·rw [h3] at h4;cases h4
   exact .inr ⟨h4,1001,_,hX1 h3,rfl⟩
 ·rcases pins n x hx with ⟨rfl,rfl⟩ | ⟨rfl,_,rfl⟩
  ·exact ⟨hK',rfl⟩
  exact ⟨by omega,rfl⟩
 ·rcases Nn (by decide) hn with ⟨rfl,rfl⟩ | ⟨rfl,rfl⟩ <;> rcases Nn (by decide) hm with ⟨rfl,rfl⟩ | ⟨rfl,rfl⟩
  ·exact absurd rfl hnm
  ·rcases hne with h4 | h4
   ·exact .inr (.inl h4)
   exact .inr (.inr h4)
  ·rcases hne with h4 | h4
   ·exact .inl h4
   exact .inr (.inr (Ne.symm h4))
  exact absurd rfl hnm
 rintro r' s' M' σ' a' w' U ⟨d,b,hd,h1,h2,h3⟩ hs hR
 have hdn:d≠1000:=fun e=>by subst e;rw [Nat.beq_refl] at hd;cases hd
 have hp:=(hs.pin 1000 _ hX0).2
 refine ⟨U,rfl,M',σ' d,⟨hs.os,hs.tape,hs.output,hs.size,fun b hb hx=>hs.old b hb fun h4=>hx (hin b h4),hs.sub,hs.new,hs.imm⟩,?_,fun σ2 d2 e2 => ?_,fun σ2=>(I7 h3 (hs.blk d b h2):BT M' σ' w' (σ' d) (.row sz len' F' tyr))⟩
 ·cases hnil:(σ' d).nil with
  | true=>exact .inl rfl
  | false =>
   have hq:(σ' d).b≠(σ 1000).b:=by
    rcases hs.inj d 1000 b _ h2 h1 hdn with h4 | h4 | h4
    ·rw [hnil] at h4;cases h4
    ·rw [hp,hqn] at h4;cases h4
    rw [hp] at h4;exact h4
   rcases hs.loc d b h2 with h4 | ⟨h4,h5⟩
   ·rw [hnil] at h4;cases h4
   refine .inr ⟨?_,h4,hq⟩
   rcases h5 with h5 | h5
   ·exact .inr h5
   rcases hin _ h5 with h6 | h6
   ·exact absurd h6.2 hq
   exact .inl h6
 have hb1:=hs.blk 1000 _ h1
 rw [hp] at hb1
 obtain ⟨g0,cc,g1,g2⟩:=hb1
 refine ⟨g0,cc,g1,?_⟩
 cases g2 with
 | cons g3 g4 =>
  cases g4
  refine .cons ?_ .nil
  unfold R at g3 ⊢
  rw [e2];exact g3
section
variable {V:Env P} {rd:Option Nat} {N:Nat} {W0:World} {X:Nat→Option Loc} {M0 M:Nat→Option Obj} {σ:Nat→Loc} {w:World} {a:Act} {Q:Exit→AS→Prop} {s:AS}
def Ns (q r:Nat) (dst:Option Nat) (s:AS):Bool := !Nat.beq q r&&s.t.all (fun p=>p.2.no r&&(match dst with | some d => !Nat.beq p.1 d | none=>true))&&s.h.all fun p=>Nat.beq p.1 q||p.2.no r
def TL (q r:Nat) (bq br:Blk) (s:AS):AS:=⟨s.t,put (put s.h q bq) r br⟩
theorem Yw {K:List Nat} {q r:Nat} {dst:Option Nat} {sz len len':Nat} {F F':Nat->Nat->Cl} {tyr tyq:TypeId} {x:Loc} {M':Nat->Option Obj} {w':World} {U:Value} (hX:∀ k x,X k=some x->A8 K k=true) (hK:KK K r=true) (hok:Ns q r dst s=true) (hq:get s.h q=some (.cells [.own r sz len] tyq)) (hr:get s.h r=some (.row sz len F tyr))
  (hs:Sim N W0 X M0 M σ (get s.t) (get s.h) a w) (hk:F3 w w' M M' (jM (σ q) (σ r))) (hx:x.nil=true\/((only (σ r) x.b\/w.heap.size<=x.b)/\M' x.b=none/\x.b≠(σ q).b)) (hbq:∀ (σ':Nat->Loc) d,σ' d=x->BT M' σ' w' (σ q) (.cells [.own d sz len'] tyq)) (hbr:∀ σ',BT M' σ' w' x (.row sz len' F' tyr)) :
  Sim N W0 X M0 M' (upd σ r x) (get (TL q r (.cells [.own r sz len'] tyq) (.row sz len' F' tyr) s).t) (get (TL q r (.cells [.own r sz len'] tyq) (.row sz len' F' tyr) s).h) (a.put dst U) w':=by
 unfold Ns at hok
 simp only [Bool.and_eq_true,Bool.not_eq_true'] at hok
 obtain ⟨⟨hqr',ht⟩,hh⟩:=hok
 have hqr:q≠r:=fun e=>by subst e;rw [Nat.beq_refl] at hqr';cases hqr'
 have hqn:(σ q).nil=false:=(hs.blk q _ hq).1
 have ht':∀ i v,get s.t i=some v->v.no r=true/\(∀ d,dst=some d->i≠d):=fun i v hv=>by
  have h1:=List.all_eq_true.1 ht (i,v) (Ct hv)
  simp only [Bool.and_eq_true] at h1
  refine ⟨h1.1,fun d hd e => ?_⟩
  subst hd e
  have:=h1.2
  simp [Nat.beq_refl] at this
 have hh':∀ n b,get s.h n=some b->n≠q->b.no r=true:=fun n b hb hn=>by
  have h1:=List.all_eq_true.1 hh (n,b) (Ct hb)
  simp only [Bool.or_eq_true] at h1
  rcases h1 with h1 | h1
  ·exact absurd (Nat.eq_of_beq_eq_true h1) hn
  exact h1
 have hXr:∀ k u,X k=some u->k≠r:=fun k u hk' e=>by
  subst e
  unfold KK at hK
  simp only [Bool.and_eq_true] at hK
  have h1:=List.all_eq_true.1 hK.1 k (ES (hX k u hk'))
  simp [Nat.beq_refl] at h1
 have hg:∀ n,get (TL q r (.cells [.own r sz len'] tyq) (.row sz len' F' tyr) s).h n=if r=n then some (.row sz len' F' tyr) else if q=n then some (.cells [.own r sz len'] tyq) else get s.h n:=fun n=>by
  show get (put (put s.h q _) r _) n=_
  rw [Ii,Ii]
 have hlt:∀ n b,get s.h n=some b->(σ n).nil=false->(σ n).b<w.heap.size:=fun n b hb hn=>(hs.blk n b hb).lt hn
 have hup:∀ n,n≠r->upd σ r x n=σ n:=fun n hn=>Bw _ _ hn
 have hMn:∀ b,b<w.heap.size->M b=none->M' b=none:=fun b hb h0=>by
  cases h1:M' b with
  | none=>rfl
  | some o=>have:=hk.new b o h1 h0;omega
 have hsame:∀ n b,get s.h n=some b->n≠q->n≠r->(σ n).nil=false->w'.heap[(σ n).b]? = w.heap[(σ n).b]? := fun n b hb h1 h2 hn=>hk.old _ (hlt n b hb hn) fun h3=>by
  rcases h3 with h3 | h3
  ·rcases hs.inj n q b _ hb hq h1 with h4 | h4 | h4
   ·rw [hn] at h4;cases h4
   ·rw [hqn] at h4;cases h4
   exact h4 h3.2
  rcases hs.inj n r b _ hb hr h2 with h4 | h4 | h4
  ·rw [hn] at h4;cases h4
  ·rw [h3.1] at h4;cases h4
  exact h4 h3.2
 refine ⟨hk.os.trans hs.os,hk.tape.trans hs.tape,hk.output.trans hs.output,Nat.le_trans hs.size hk.size,fun b hb hnx => ?_,fun b o h=>hk.sub b o (hs.sub b o h),fun b o h h0 => ?_,fun n u hu=>⟨(hs.pin n u hu).1,by rw [hup n (hXr n u hu)];exact (hs.pin n u hu).2⟩,?_,?_,fun i v hv => ?_,hk.imm,fun n b hb => ?_,fun n b hb => ?_,fun n m b c hb hc hnm => ?_⟩
 ·refine (hk.old b (Nat.lt_of_lt_of_le hb hs.size) fun h3 => ?_).trans (hs.old b hb hnx)
  rcases h3 with h3 | h3
  ·rcases hs.loc q _ hq with h4 | ⟨_,h4 | h4⟩
   ·rw [hqn] at h4;cases h4
   ·rw [<- h3.2] at h4;omega
   rw [<- h3.2] at h4;exact hnx h4
  rcases hs.loc r _ hr with h4 | ⟨_,h4 | h4⟩
  ·rw [h3.1] at h4;cases h4
  ·rw [<- h3.2] at h4;omega
  rw [<- h3.2] at h4;exact hnx h4
 ·cases h1:M b with
  | some o'=>exact hs.new b o' h1 h0
  | none=>exact Nat.le_trans hs.size (hk.new b o h h1)
 ·have:=hs.defers.mono hk.sub
  cases dst <;> exact this
 ·cases dst with
  | none=>exact hs.room
  | some d=>simpa [Act.put] using hs.room
 ·have h1:=ht' i v hv
  have h2:(a.put dst U).tmps.getD i undef=a.tmps.getD i undef:=by
   cases dst with
   | none=>rfl
   | some d=>simp [Act.put,Array.getD_eq_getD_getElem?,Array.getElem?_setIfInBounds,Ne.symm (h1.2 d rfl)]
  rw [h2]
  exact D6 hk.sub (fun d hd=>hup d fun e=>by subst e;rw [h1.1] at hd;cases hd) (hs.tmps i v hv)
 ·rw [hg] at hb
  by_cases h1:r=n
  ·subst h1
   simp only [if_true,Option.some.injEq] at hb
   subst hb
   rw [A2]
   exact hbr _
  simp only [if_neg h1] at hb
  rw [hup n (Ne.symm h1)]
  by_cases h2:q=n
  ·subst h2
   simp only [if_true,Option.some.injEq] at hb
   subst hb
   exact hbq _ r (A2 _ _ _)
  simp only [if_neg h2] at hb
  exact (hs.blk n b hb).mono hk.sub (fun d hd=>hup d fun e=>by subst e;rw [hh' n b hb (Ne.symm h2)] at hd;cases hd) (hsame n b hb (Ne.symm h2) (Ne.symm h1))
 ·rw [hg] at hb
  by_cases h1:r=n
  ·subst h1
   rw [A2]
   rcases hx with h3 | ⟨h3,h4,h5⟩
   ·exact .inl h3
   refine .inr ⟨h4,?_⟩
   rcases h3 with h3 | h3
   ·rcases hs.loc r _ hr with h6 | ⟨_,h6⟩
    ·rw [h3.1] at h6;cases h6
    rw [h3.2];exact h6
   exact .inl (Nat.le_trans hs.size h3)
  rw [hup n (Ne.symm h1)]
  obtain ⟨b0,hb0⟩:∃ b0,get s.h n=some b0:=by
   simp only [if_neg h1] at hb
   by_cases h2:q=n
   ·subst h2;exact ⟨_,hq⟩
   simp only [if_neg h2] at hb;exact ⟨_,hb⟩
  cases hn:(σ n).nil with
  | true=>exact .inl rfl
  | false =>
   rcases hs.loc n b0 hb0 with h6 | ⟨h6,h7⟩
   ·rw [hn] at h6;cases h6
   exact .inr ⟨hMn _ (hlt n b0 hb0 hn) h6,h7⟩
 have hold:∀ n b,get (TL q r (.cells [.own r sz len'] tyq) (.row sz len' F' tyr) s).h n=some b->n≠r->∃ b0,get s.h n=some b0:=fun n b hb h1=>by
  rw [hg] at hb
  simp only [if_neg (Ne.symm h1)] at hb
  by_cases h2:q=n
  ·subst h2;exact ⟨_,hq⟩
  simp only [if_neg h2] at hb;exact ⟨_,hb⟩
 have hrm:∀ m b0,get s.h m=some b0->m≠r->x.nil=true\/(σ m).nil=true\/x.b≠(σ m).b:=fun m b0 hb0 hm=>by
  rcases hx with h3 | ⟨h3,h4,h5⟩
  ·exact .inl h3
  cases hn:(σ m).nil with
  | true=>exact .inr (.inl rfl)
  | false =>
   refine .inr (.inr ?_)
   rcases h3 with h3 | h3
   ·rcases hs.inj m r b0 _ hb0 hr hm with h6 | h6 | h6
    ·rw [hn] at h6;cases h6
    ·rw [h3.1] at h6;cases h6
    rw [h3.2];exact Ne.symm h6
   have:=hlt m b0 hb0 hn
   omega
 by_cases h1:n=r
 ·subst h1
  obtain ⟨c0,hc0⟩:=hold m c hc (Ne.symm hnm)
  rw [A2,hup m (Ne.symm hnm)]
  exact hrm m c0 hc0 (Ne.symm hnm)
 obtain ⟨b0,hb0⟩:=hold n b hb h1
 rw [hup n h1]
 by_cases h2:m=r
 ·subst h2
  rw [A2]
  rcases hrm n b0 hb0 h1 with h3 | h3 | h3
  ·exact .inr (.inl h3)
  ·exact .inl h3
  exact .inr (.inr (Ne.symm h3))
 obtain ⟨c0,hc0⟩:=hold m c hc h2
 rw [hup m h2]
 exact hs.inj n m b0 c0 hb0 hc0 hnm
end
end
end
section
open Go.RowKit Go.MapKept
section
variable {P:Program} {V:Env P} {rd:Option Nat} {N:Nat} {W0:World} {X:Nat→Option Loc} {M0 M:Nat→Option Obj} {σ:Nat→Loc} {w:World} {a:Act} {Q:Exit→AS→Prop} {s:AS}
structure jK (P:Program) (o:Oper) (s:AS) (q r sz len:Nat) (F:Nat->Nat->Cl) (tyr tyq:TypeId) (len':Nat) (F':Nat->Nat->Cl):Prop where
 op:∃ c f g k caps vs,o.op=.call c/\c.callee=.value f/\evT (get s.t) f=some (.av (.one (.clo g k caps)))/\Cn k caps=[.one (.ptr q 0)]/\EU (evT (get s.t)) c.args.toList=some vs/\vs.all Av.dv=true/\(∀ args w,(callFunc g args).run P w=.ok (.enter g args) w)/\WrA P g vs sz len F tyr tyq len' F'
 gd:o.guard=none
 ok:Ns q r o.dst s=true
 hq:get s.h q=some (.cells [.own r sz len] tyq)
 hr:get s.h r=some (.row sz len F tyr)
theorem Uj {K:List Nat} {o:Oper} {q r sz len len':Nat} {F F':Nat->Nat->Cl} {tyr tyq:TypeId} (hX:∀ k x,X k=some x->A8 K k=true) (hK:KK K r=true) (hc:jK P o s q r sz len F tyr tyq len' F') (hs:Sim N W0 X M0 M σ (get s.t) (get s.h) a w) {Kk:Act->World->Prop} {Q':Exit->Act->World->Prop}
  (h:∀ M' σ' a' w',Sim N W0 X M0 M' σ' (get (TL q r (.cells [.own r sz len'] tyq) (.row sz len' F' tyr) s).t) (get (TL q r (.cells [.own r sz len'] tyq) (.row sz len' F' tyr) s).h) a' w'->Kk a' w'):o.wpIn (FW rd) 0 P a w Kk Q':=by
 obtain ⟨⟨c,f,g,k,caps,vs,ho,hcf,hf,hcl,hxs,hdv,heg,hW⟩,hgd,hok,hq,hr⟩:=hc
 have hqn:(σ q).nil=false:=(hs.blk q _ hq).1
 have hqr:q≠r:=fun e=>by
  unfold Ns at hok
  subst e
  simp [Nat.beq_refl] at hok
 have hev:∀ x v,evT (get s.t) x=some v->RT M σ v (a.eval x):=fun x v hv=>Ge hs.tmps hv
 obtain ⟨caps',hfv,hsz,hcaps⟩:=hev f _ hf
 have hargs:=I0 hev _ _ hxs
 have hcl2:L2 (RA M σ) (Cn k caps) caps'.toList:=by
  refine L2.of (by simp [Cn,hsz]) fun i x y hx hy => ?_
  have hi:i<k:=by have:=(List.getElem?_eq_some_iff.1 hx).1;simpa [Cn] using this
  have:=hcaps i hi
  simp only [Cn,List.getElem?_map,List.getElem?_range hi,Option.map_some,Option.some.injEq] at hx
  subst hx
  have hy':caps'.getD i undef=y:=by
   simp only [Array.getD_eq_getD_getElem?]
   rw [<- Array.getElem?_toList,hy];rfl
  rw [hy'] at this
  exact this
 rw [hcl] at hcl2
 have hmap:c.args.map a.eval=(c.args.toList.map a.eval).toArray:=by apply Array.ext';simp
 have happ:(c.args.toList.map a.eval).toArray++caps'=(c.args.toList.map a.eval++caps'.toList).toArray:=by apply Array.ext';simp
 have hres:(resolve a.eval c o.type).run P w=.ok { target:=.fn (.func g) caps',args:=(c.args.toList.map a.eval).toArray } w:=by
  simp only [resolve,hcf,hfv,Deferred.ofValue,hmap]
  simp
 let σ2:Nat->Loc:=upd (upd σ 1000 (σ q)) 1001 (σ r)
 have e0:σ2 1000=σ q:=by show upd (upd σ 1000 (σ q)) 1001 (σ r) 1000=_;rw [Bw _ _ (by decide),A2]
 have e1:σ2 1001=σ r:=A2 _ _ _
 have hbq:=hs.blk q _ hq
 have hbq2:BT M σ2 w (σ2 1000) (.cells [.own 1001 sz len] tyq):=by
  rw [e0]
  obtain ⟨g0,cc,g1,g2⟩:=hbq
  refine ⟨g0,cc,g1,?_⟩
  cases g2 with
  | cons g3 g4 =>
   cases g4
   refine .cons ?_ .nil
   unfold R at g3 ⊢
   rw [e1];exact g3
 have hMq:M (σ2 1000).b=none:=by
  rw [e0]
  rcases hs.loc q _ hq with h1 | h1
  ·rw [hqn] at h1;cases h1
  exact h1.1
 have hMr:(σ2 1001).nil=true\/M (σ2 1001).b=none:=by
  rw [e1]
  exact (hs.loc r _ hr).imp id And.left
 have hne:(σ2 1001).nil=true\/(σ2 1000).b≠(σ2 1001).b:=by
  rw [e0,e1]
  rcases hs.inj q r _ _ hq hr hqr with h1 | h1 | h1
  ·rw [hqn] at h1;cases h1
  ·exact .inl h1
  exact .inr h1
 have hL:L2 (RA M σ2) (vs++[.one (.ptr 1000 0)]) (c.args.toList.map a.eval++caps'.toList):=by
  refine L2.append (hargs.mono fun x hx u hu=>HO (r:=.av x) (List.all_eq_true.1 hdv x hx) hu) ?_
  generalize caps'.toList=cl at hcl2
  cases hcl2 with
  | cons h1 h2 =>
   cases h2
   refine .cons ?_ .nil
   have h1:_=Value.pointer (some ⟨(σ q).b,0,none⟩):=h1
   subst h1
   show Value.pointer (some ⟨(σ q).b,0,none⟩)=Value.pointer (some ⟨(σ2 1000).b,0,none⟩)
   rw [e0]
 have hd:Sv P o a w fun U w'=>∃ M' x,F3 w w' M M' (jM (σ q) (σ r))/\(x.nil=true\/((only (σ r) x.b\/w.heap.size<=x.b)/\M' x.b=none/\x.b≠(σ q).b))/\(∀ (σ':Nat->Loc) d,σ' d=x->BT M' σ' w' (σ q) (.cells [.own d sz len'] tyq))/\∀ σ',BT M' σ' w' x (.row sz len' F' tyr):=by
  refine .inr (.inr ⟨g,(c.args.toList.map a.eval++caps'.toList).toArray,?_,?_⟩)
  ·simp only [execOp,ho,Sem.run_bind,hres,Result.andThen_ok,invoke,happ]
   exact heg _ _
  refine (hW M σ2 w _ hs.imm hbq2 hMq (by rw [e1];exact hs.blk r _ hr) hMr hne hL).mono ?_
  rintro en w' ⟨U,rfl,M',x,h1,h2,h3,h4⟩
  rw [e0,e1] at h1 h2
  rw [e0] at h3
  exact ⟨U,rfl,M',x,h1,h2,h3,h4⟩
 refine hd.wp (fun U w' ⟨M',x,h1,h2,h3,h4⟩=>h M' _ _ w' (Yw hX hK hok hq hr hs h1 h2 h3 h4)) (fun c' hc'=>by rw [ho] at hc';cases hc')
theorem Zv {K:List Nat} {ops:Array Oper} {o:Oper} {l:List Oper} {Kk:AS->Prop} {q r sz len len':Nat} {F F':Nat->Nat->Cl} {tyr tyq:TypeId} (S:AS) (hX:∀ k x,X k=some x->A8 K k=true) (hK:KK K r=true) (hc:jK P o s q r sz len F tyr tyq len' F') (hS:TL q r (.cells [.own r sz len'] tyq) (.row sz len' F' tyr) s=S)
  (h:AWL P rd N W0 X M0 ops l Kk S):AWL P rd N W0 X M0 ops (o::l) Kk s:=by
 subst hS
 intro M σ a w hs Q' hQ'
 refine wpListIn_step fun K0 hK' => ?_
 rw [if_pos (by simp [Region.wanted,hc.gd])]
 exact Uj hX hK hc hs fun M' σ' a' w' h1=>hK' _ _ (h M' σ' a' w' h1 Q' hQ')
theorem Sh {K:List Nat} (hm:P.follows .mixedOrders=true) {E:TypeId->Option (List Kd)} (hE:JE P ⟨fun _=>none,E,fun _=>false,fun _=>none⟩) {id:Nat} {l:List Oper} (k:Nat) {o:Oper} (ho1:l[k]? = some o) (hk1:Nat.beq (k+1) l.length=true) (ow:List Nat) (qs:List (Nat×(Bool×Nat))) (tbl:List (Nat×FuncId×List Av×Ef)) (ts ns:List Nat) (cs:List Prop) (S1 S:AS) (htbl:EN P tbl)
  (hr1:Ks P ⟨DG tbl,E,A8 ow,get qs⟩ N (l.take k) ts ns s=some (cs,S1)) (hd:NH P ⟨DG tbl,E,A8 ow,get qs⟩ N (l.take k) s=true) (hc:Bp cs) (hms:oQ (l.take k) o []=true) {q r sz len len':Nat} {F F':Nat->Nat->Cl} {tyr tyq:TypeId} (hX:∀ k x,X k=some x->A8 K k=true) (hK:KK K r=true) (hca:jK P o S1 q r sz len F tyr tyq len' F')
  (hS:TL q r (.cells [.own r sz len'] tyq) (.row sz len' F' tyr) S1=S) (h:Q .normal S):AWp P rd N W0 X M0 (.region id l.toArray true) Q s:=by
 have hl:l=l.take k++[o]:=by
  obtain ⟨hk,ho2⟩:=List.getElem?_eq_some_iff.1 ho1
  have hk2:=Nat.eq_of_beq_eq_true hk1
  have h3:l.drop (k+1)=[]:=List.drop_eq_nil_of_le (by omega)
  have h4:=List.take_append_drop k l
  rw [List.drop_eq_getElem_cons hk,h3,ho2] at h4
  exact h4.symm
 clear ho1 hk1
 generalize hl1:l.take k=l1 at *
 subst hl hS
 have hV:=htbl.env (O:=A8 ow) (q:=get qs) hE
 simp only [oQ,Bool.and_eq_true] at hms
 obtain ⟨⟨⟨hback,hk⟩,hlt⟩,hgs⟩:=hms
 have hguard:∀ x∈l1++[o],x.guard=none:=fun x hx=>by
  have:=List.all_eq_true.1 hgs x hx
  cases hg:x.guard with
  | none=>rfl
  | some _=>rw [hg] at this;cases this
 intro M σ a w hs
 unfold Ks at hr1
 split at hr1
 ·rename_i cs1 s1 h1
  simp only [Option.some.injEq,Prod.mk.injEq] at hr1
  obtain ⟨rfl,rfl⟩:=hr1
  obtain ⟨e1,hruns⟩:=Kq (s0:=s) l1 0 s s1 cs1 (fun j=>by rw [Nat.zero_add]) rfl h1 hc
  simp only [Nat.zero_add] at e1 hruns
  obtain ⟨hback1,hord⟩:=Oo hd
  have hrep:∀ (n j:Nat),(Array.replicate n false).getD j false=false:=fun n j=>by
   by_cases hj':j<n
   ·simp [hj']
   simp [hj']
  have hs0:Sim N W0 X M0 M σ (get s.t) (get s.h) a { w with drawn:=w.drawn+1 }:=⟨hs.os,hs.tape,hs.output,hs.size,hs.old,hs.sub,hs.new,hs.pin,hs.defers,hs.room,hs.tmps,hs.imm,fun n b hb=>(hs.blk n b hb).mono (fun _ _ h=>h) (fun _ _=>rfl) (fun _=>rfl),hs.loc,hs.inj⟩
  have hinv:Wy P ⟨DG tbl,E,A8 ow,get qs⟩ N W0 X M0 l1 s (Array.replicate (l1++[o]).toArray.size false) a { w with drawn:=w.drawn+1 } :=
   ⟨M,σ,get s.t,get s.h,hs0,fun x=>⟨0,Nat.zero_le _,fun j o hj hd=>⟨fun hh=>(by rw [hrep] at hh;cases hh),fun hh=>absurd hh (by omega)⟩,rfl⟩,fun m=>⟨0,Nat.zero_le _,fun j o hj hd=>⟨fun hh=>(by rw [hrep] at hh;cases hh),fun hh=>absurd hh (by omega)⟩,rfl⟩⟩
  refine wpIn_region_any hm (fZ (l2:=[]) hV hruns hback1 hord hback (fun j hj=>List.all_eq_true.1 hk j (List.mem_range.2 hj)) (fun i h3 h4=>by simp at h4;omega) (fun x hx=>hguard x (List.mem_append_left _ hx)) (fun f L a1 w1 hsz hall hcnt hsim => ?_) _ _ a _ (by simp) (fun j oj _ hd=>by rw [hrep] at hd;cases hd) (fun j _=>hrep _ j) (Nat.le_trans List.countP_le_length (by simp)) hinv)
  obtain ⟨M1,σ1,hs2⟩:=hsim
  rw [<- e1] at hs2
  have hs2:=FO hs2 ts ns
  have hok:(l1++[o]).toArray[l1.length]? = some o:=by simp
  unfold wpOpIn
  rw [hok]
  have hw:∀ ys,Region.wanted o ys=true:=fun ys=>by simp [Region.wanted,hguard o (by simp)]
  simp only [hw,if_true]
  refine Uj hX hK hca hs2 fun M' σ' a' w' h5 => ?_
  exact cC hback (by simp) hsz hall hcnt (fun x hx=>by cases hx) (fun _=>⟨_,M',σ',h,h5⟩) (fun u hu=>by cases hu)
 cases hr1
end
end
structure HV (b:AG):Prop where
 parts:b.Parts.length<20
 tracks:b.Tracks.length<20
 vias:b.Vias.length<20
 slots:b.Slots.length<20
 nets:(b.Nets.length:Int)<=1000000
 pins:∀ n∈b.Nets,(n.Pins.length:Int)<=1000000
 ted:∀ t∈b.Tracks,(t.Shape.Edges.length:Int)<=1000000
 sed:∀ s∈b.Slots,(s.Shape.Edges.length:Int)<=1000000
theorem Vc {b:AG} (h:HV b) (k:Nat):(((BJ b).getD k default).Shape.Edges.length:Int)<=1000000:=Eb (p:=fun t:AV=>(t.Shape.Edges.length:Int)<=1000000) (by decide) (fun x hx=>h.ted x (Uu.1 hx)) k
theorem Vj {b:AG} (h:HV b) (k:Nat):(((C9 b).getD k default).Shape.Edges.length:Int)<=1000000:=Eb (p:=fun t:Aj=>(t.Shape.Edges.length:Int)<=1000000) (by decide) (fun x hx=>h.sed x (Pg.1 hx)) k
theorem P2 {types:List AN} (h:Bt types) (name:ByteArray):((BA types name).1.Pads.length:Int)<=1000000:=by rw [L8];exact Ij h name
def O6 (b:AG) (v:List (Ab×ByteArray)) (x:AF×BH):AL:=AL.mk x.1.Id x.2.Name 1 (bif DE As v (Ab.mk x.1.Ref x.2.Name) then (v.getD (CF As v (Ab.mk x.1.Ref x.2.Name)) default).2 else ⟨#[]⟩) (bif decide (x.2.Drill=0) then Ck b x.1 else 1) (bif decide (x.2.Drill=0) then Ck b x.1 else b.Layers) (Em x.2.Shape (BS x.1))
def oN (v:List (Ab×ByteArray)) (n:Bz):List (Ab×ByteArray):=n.Pins.foldl (fun v p=>Fw As v p n.Name) v
def eV (b:AG):List (Ab×ByteArray):=b.Nets.reverse.foldl oN []
theorem mac9 {p:Prop} (h:p:=by
 have h2:∀ v K0,mp0 b types v K0 (AU b types).length 0 []=(AU b types).map (mp1 b v):=fun v K0=>by
  have:=gG (AU b types) (fun acc x=>acc++[mp1 b v x]) (mp0 b types v K0) id (fun x acc=>by rw [mp0];rfl) (fun m x acc hx=>by rw [mp0];rfl) (AU b types).length 0 [] oM
  rw [this,List.drop_zero,Gw,List.nil_append];rfl
 have hrev:∀ x,x<b.Nets.reverse.length->b.Nets.getD (b.Nets.length-1-x) default=b.Nets.reverse.getD x default:=fun x hx=>by
  rw [List.length_reverse] at hx
  rw [List.getD_eq_getElem?_getD,List.getD_eq_getElem?_getD,List.getElem?_reverse hx]
 unfold mp2
 have:=gG b.Nets.reverse oN (mp3 b types) (fun v=>(AU b types).map (mp1 b v)) (fun x acc=>by rw [mp3];exact h2 _ _) (fun m x acc hx=>by
  rw [mp3,hrev x hx]
  have h1:=Ky (b.Nets.reverse.getD x default).Pins (fun v p=>Fw As v p (b.Nets.reverse.getD x default).Name) (mp4 b types acc x (mp3 b types m (x+1))) (fun v _=>mp3 b types m (x+1) v) (fun m v k=>by rw [mp4,hrev x hx,Int.toNat_natCast]) (b.Nets.reverse.getD x default).Pins.length 0 ((((b.Nets.reverse.getD x default).Pins.length:Int)-0).toNat+1) acc rfl (Nat.zero_le _) oM
  rw [List.drop_zero] at h1
  exact h1) b.Nets.length 0 [] (by rw [List.length_reverse];omega)
 rw [this,List.drop_zero];rfl):p:=h
section
 open Go.Proofs.YtheobjkgllmnmaaGreat renaming EX→mp0,O6→mp1,Du→mp2,EB→mp3,IP→mp4
theorem Pp (b:AG) (types:List AN):Du b types=(AU b types).map (O6 b (eV b)):=mac9
end
theorem RN (b:AG) (types:List AN):(Du b types).length=(AU b types).length:=by rw [Pp,List.length_map]
def GG (s:AO):AO:=s
def YI (s:AO):CT:=(53,[.agg (AO.c s)],.val [] (.av (.agg (AO.c (GG s)))))
theorem kT (s:AO) (h0:(s.Edges.length:Int)<=1000000):PuP 53 (YI s).2.1 (.av (.agg (AO.c (GG s)))):=by
 refine pwf Tryz.func53 fun W0 M0 => ?_
 exact AB<|on<|AB<|oq 5 _ (JZ s.Edges au4)<|AE<|BE (A5 5 (A1 7 AK.c s.Edges))<|AB<|on<|AW<|zy (vf 5 hk0)
theorem Tx (s:AO) (h0:(s.Edges.length:Int)<=1000000):OKc (YI s):=cPu<|kT s h0
def Bs (p:AC) (r:Int):AO:=AO.mk 1 [AK.mk 1 p p (AC.mk 0 0)] r
def iI (p:AC) (r:Int):CT:=(38,[.agg (AC.c p),.one (.i r)],.val [] (.av (.agg (AO.c (Bs p r)))))
theorem qJ (p:AC) (r:Int):PuP 38 (iI p r).2.1 (.av (.agg (AO.c (Bs p r)))):=by
 refine pwf Tryz.func38 fun W0 M0 => ?_
 exact AB<|on<|AB<|on<|AW<|xl (.av (.agg [.i 1,.list true 7 1 (BG 7 1 [.i 1,.i p.X,.i p.Y,.i p.X,.i p.Y,.i 0,.i 0]),.i r])) (D3 (y:=.av (.agg [.i 1,lst 7 AK.c [AK.mk 1 p p (AC.mk 0 0)],.i r])) (.av (.agg (rr (.cons (BW true (Ba (c:=AK.c) (xs:=([AK.mk 1 p p (AC.mk 0 0)]:List AK)) rfl kr)) (rr .nil))))) (by rfl))
theorem J4 (p:AC) (r:Int):OKc (iI p r):=cPu<|qJ p r
def Z0D (b:AG) (v39:Int):AO:=Bs ((BV b).getD v39.toNat default).At ((BV b).getD v39.toNat default).R
def Z0E (b:AG) (v16:Int):AO:=((BJ b).getD v16.toNat default).Shape
def GJ (b:AG) (types:(List AN)) (out:List AL) (v16:Int) (K0:List AL->Int->(List AL)):Nat->List AL->Int->(List AL)
 | 0,_,_=>default
 | n1+1,out',v39=>bif decide ((v39:Int)<(((BV b).length:Nat):Int)) then ((GJ b types out v16 K0 n1) (out'++[AL.mk ((BV b).getD v39.toNat default).Id (⟨#[]⟩) 3 ((BV b).getD v39.toNat default).Net ((BV b).getD v39.toNat default).From ((BV b).getD v39.toNat default).To (Z0D b v39)]) (v39+1)) else out'
def E1 (b:AG) (types:(List AN)):Nat->List AL->Int->(List AL)
 | 0,_,_=>default
 | n0+1,out,v16=>bif decide ((v16:Int)<(((BJ b).length:Nat):Int)) then ((E1 b types n0) (out++[AL.mk ((BJ b).getD v16.toNat default).Id (⟨#[]⟩) 2 ((BJ b).getD v16.toNat default).Net ((BJ b).getD v16.toNat default).Layer ((BJ b).getD v16.toNat default).Layer (GG (Z0E b v16))]) (v16+1)) else (GJ b types out v16 (E1 b types n0) (((((BV b).length:Nat):Int)-0).toNat+1) out 0)
def DJ (b:AG) (types:(List AN)):(List AL):=E1 b types (((((BJ b).length:Nat):Int)-0).toNat+1) (Du b types) 0
abbrev aD (b:AG) (v16:Int):=[AL.mk ((BJ b).getD v16.toNat default).Id (⟨#[]⟩) 2 ((BJ b).getD v16.toNat default).Net ((BJ b).getD v16.toNat default).Layer ((BJ b).getD v16.toNat default).Layer (GG (Z0E b v16))]
abbrev aB (b:AG) (v39:Int):=[AL.mk ((BV b).getD v39.toNat default).Id (⟨#[]⟩) 3 ((BV b).getD v39.toNat default).Net ((BV b).getD v39.toNat default).From ((BV b).getD v39.toNat default).To (Z0D b v39)]
abbrev VE (b:AG):Nat×Blk:=(14,.row 6 (BJ b).length (AP AV.c (BJ b)) 150)
abbrev VC (b:AG):Nat×Blk:=(37,.row 8 (BV b).length (AP Aw.c (BV b)) 154)
theorem au6 {p:Prop} (h:p:=by first | (exact Vc hb _) | (exact Vj hb _) | (exact hb.parts) | (exact hb.tracks) | (exact hb.vias) | (exact hb.slots) | (exact hb.nets) | (exact hb.pins) | (exact Gt hb.parts ht) | with_reducible assumption | omega | decide | (simp only [List.length_cons,List.length_nil,List.length_append];omega) | assumption):p:=h
theorem qAll (b:AG) (types:(List AN)) (hb:HV b) (ht:Bt types):Fr Tryz.prog 14 [.agg (AG.c b),.one (lst 3 AN.c types)] (.row 9 (DJ b types).length (AP AL.c (DJ b types)) 61) (fun d=>tO (.own d 9 (DJ b types).length)):=by
 refine CN Tryz.func14 rfl kr (C2 _ _) fun W0 M0 => ?_
 have hpl:=Gt hb.parts ht
 have hp1:=RN b types
 have ht1:=Js b
 have hv1:=KF b
 have hb1:=hb.tracks
 have hb2:=hb.vias
 refine AB<|on<|AB<|oq 12 (ceI [.agg (AG.c b),.one (lst 3 AN.c types)] (oU b types)) (Cf (qY b types au6 au6 au6 au6 au6) (.cons (.agg (rr9 (rr3 (rA (rr (rr .nil)))))) (.cons (AvE.refl _) .nil)))<|AE<|AB<|AB<|rs 14 _ ⟨[(2,tP 2 0),(5,tO (.own 12 9 (Du b types).length)),(14,tO (.own 14 6 (BJ b).length)),(15,tI (((BJ b).length:Nat):Int)),(16,tI 0)],[(2,.cells (AG.c b) 41),(12,.row 9 (Du b types).length (AP AL.c (Du b types)) 61),(VE b)]⟩ (dU b au6)<|AE<|AM<|lpC (κ:=List AL×Int) (fun x=>⟨[(2,tP 2 0),(5,tO (.own 12 9 x.2.1.length)),(14,tO (.own 14 6 (BJ b).length)),(15,tI (((BJ b).length:Nat):Int)),(16,tI x.2.2)],[(2,.cells (AG.c b) 41),(12,.row 9 x.2.1.length (AP AL.c x.2.1) 61),(VE b)]⟩) (fun x=>((((BJ b).length:Nat):Int)-x.2.2).toNat) (fun x=>(0<=x.2.2/\(x.2.2<=(((BJ b).length:Nat):Int)\/x.2.2=0)/\(x.2.1.length:Int)<=((Du b types).length:Int)+1*(x.2.2-0))/\E1 b types x.1 x.2.1 x.2.2=DJ b types) ?_ (((((BJ b).length:Nat):Int)-0).toNat+1,Du b types,0) ⟨Nat.lt_succ_self _,⟨ax0,ax0,ax0⟩,(by simp only [DJ,cond_true,cond_false])⟩
 rintro n0 ⟨out,v16⟩ hm0 ⟨hinv0,hF0⟩
 try dsimp only at hm0 hinv0 hF0
 refine AB<|on<|AB<|kb (decide ((v16:Int)<(((BJ b).length:Nat):Int))) (fun h1 => ?_) (fun h1 => ?_)
 ·have g1:=oT h1
  refine AQ<|AE<|AB<|AM<|AB<|oc [] [0<=(v16:Int)/\(v16:Int)<(((BJ b).length:Nat):Int),v16.toNat<(BJ b).length] .nil (H2 au0 au0)<|AE<|oe [] _ [none,out.length=out.length,out.length+1<=maxLen,(out.length+1)*104<=140737488355328] (J1 31 (Tx (Z0E b v16) au6)) (H3 rfl au2 au2)<|A3<|AE<|BE (A5 34 (BF (A1 9 AL.c out) (BC 9 AL.c ([AL.mk ((BJ b).getD v16.toNat default).Id (⟨#[]⟩) 2 ((BJ b).getD v16.toNat default).Net ((BJ b).getD v16.toNat default).Layer ((BJ b).getD v16.toNat default).Layer (GG (Z0E b v16))]:List AL))))<|rg ⟨[(2,tP 2 0),(5,tO (.own 34 9 (out++(aD b v16)).length)),(14,tO (.own 14 6 (BJ b).length)),(15,tI (((BJ b).length:Nat):Int)),(16,tI (W64 (v16+1)))],[(2,.cells (AG.c b) 41),(VE b),(34,.row 9 (out++(aD b v16)).length (AP AL.c (out++(aD b v16))) 61)]⟩ ?_
  (try rw [(show W64 (v16+1)=v16+1 from Ae oM au3)])
  refine AE ?_
  refine ⟨(n0,out++[AL.mk ((BJ b).getD v16.toNat default).Id (⟨#[]⟩) 2 ((BJ b).getD v16.toNat default).Net ((BJ b).getD v16.toNat default).Layer ((BJ b).getD v16.toNat default).Layer (GG (Z0E b v16))],v16+1),⟨?_,?_,(by rw [<- hF0];simp only [E1,h1,cond_true,cond_false])⟩,Nat.lt_succ_self _,Cv.trans (vr 34 12 hk0) (Cv.trans (vk [2,5,14,15,16] [2,12,14]) (Al kr))⟩
  ·dsimp only;omega
  exact ⟨ax0,ax0,ax0⟩
 have g1:=oF h1
 refine An<|Ai<|Ai<|Ao<|AE<|AB<|AB<|rs 37 _ ⟨[(5,tO (.own 12 9 out.length)),(37,tO (.own 37 8 (BV b).length)),(38,tI (((BV b).length:Nat):Int)),(39,tI 0)],[(12,.row 9 out.length (AP AL.c out) 61),(VC b)]⟩ (dS b au6)<|AE<|AM<|lpC (κ:=List AL×Int) (fun x=>⟨[(5,tO (.own 12 9 x.2.1.length)),(37,tO (.own 37 8 (BV b).length)),(38,tI (((BV b).length:Nat):Int)),(39,tI x.2.2)],[(12,.row 9 x.2.1.length (AP AL.c x.2.1) 61),(VC b)]⟩) (fun x=>((((BV b).length:Nat):Int)-x.2.2).toNat) (fun x=>(0<=x.2.2/\(x.2.2<=(((BV b).length:Nat):Int)\/x.2.2=0)/\(x.2.1.length:Int)<=(out.length:Int)+1*(x.2.2-0))/\GJ b types out v16 (E1 b types n0) x.1 x.2.1 x.2.2=DJ b types) ?_ (((((BV b).length:Nat):Int)-0).toNat+1,out,0) ⟨Nat.lt_succ_self _,⟨ax0,ax0,ax0⟩,(by rw [<- hF0];simp only [E1,h1,cond_true,cond_false])⟩
 rintro n1 ⟨out',v39⟩ hm1 ⟨hinv1,hF1⟩
 try dsimp only at hm1 hinv1 hF1
 refine AB<|on<|AB<|kb (decide ((v39:Int)<(((BV b).length:Nat):Int))) (fun h2 => ?_) (fun h2 => ?_)
 ·have g2:=oT h2
  refine AQ<|AE<|AB<|AM<|AB<|oc [] [0<=(v39:Int)/\(v39:Int)<(((BV b).length:Nat):Int),v39.toNat<(BV b).length] .nil (H2 au0 au0)<|AE<|oe [] _ [none,out'.length=out'.length,out'.length+1<=maxLen,(out'.length+1)*104<=140737488355328] (J1 56 (J4 ((BV b).getD v39.toNat default).At ((BV b).getD v39.toNat default).R)) (H3 rfl au2 au2)<|A3<|AE<|BE (A5 59 (BF (A1 9 AL.c out') (BC 9 AL.c ([AL.mk ((BV b).getD v39.toNat default).Id (⟨#[]⟩) 3 ((BV b).getD v39.toNat default).Net ((BV b).getD v39.toNat default).From ((BV b).getD v39.toNat default).To (Z0D b v39)]:List AL))))<|rg ⟨[(5,tO (.own 59 9 (out'++(aB b v39)).length)),(37,tO (.own 37 8 (BV b).length)),(38,tI (((BV b).length:Nat):Int)),(39,tI (W64 (v39+1)))],[(VC b),(59,.row 9 (out'++(aB b v39)).length (AP AL.c (out'++(aB b v39))) 61)]⟩ ?_
  (try rw [(show W64 (v39+1)=v39+1 from Ae oM au3)])
  refine AE ?_
  refine ⟨(n1,out'++[AL.mk ((BV b).getD v39.toNat default).Id (⟨#[]⟩) 3 ((BV b).getD v39.toNat default).Net ((BV b).getD v39.toNat default).From ((BV b).getD v39.toNat default).To (Z0D b v39)],v39+1),⟨?_,?_,(by rw [<- hF1];simp only [GJ,h2,cond_true,cond_false])⟩,Nat.lt_succ_self _,Cv.trans (vr 59 12 hk0) (Cv.trans (vk [5,37,38,39] [12,37]) (Al kr))⟩
  ·dsimp only;omega
  exact ⟨ax0,ax0,ax0⟩
 exact An<|Ai<|Ai<|Ao<|AE<|AB<|on<|AW<|xl (tO (.own 12 9 out'.length)) (frE (c:=AL.c) (xs:=out') (by rw [<- hF1];first | (simp only [GJ,h2,cond_true,cond_false] <;> rfl)) kr)
def Gp (l:(List Aa)) (at_:AC) (drill:Int) (from_:Int) (to_:Int):(List Aa):=l++[Aa.mk (Bs at_ (W64 (Int.tdiv drill 2))) from_ to_ true]
theorem kN (l:(List Aa)) (at_:AC) (drill:Int) (from_:Int) (to_:Int) (hl:l.length<30000000):WrA Tryz.prog 60 [.agg (AC.c at_),.one (.i drill),.one (.i from_),.one (.i to_)] 6 l.length (AP Aa.c l) 70 53 (Gp l at_ drill from_ to_).length (AP Aa.c (Gp l at_ drill from_ to_)):=by
 refine OU Tryz.func60 rfl kr kr fun W0 M0 X hX => ?_
 exact AB<|on<|oe [] _ [(2:Int)≠0,none,l.length=l.length,l.length+1<=maxLen,(l.length+1)*64<=140737488355328] (J1 13 (J4 at_ (W64 (Int.tdiv drill 2)))) (H4 au15 rfl au2 au2)<|yn (A5 18 (BF (A1 6 Aa.c l) (BC 6 Aa.c ([Aa.mk (Bs at_ (W64 (Int.tdiv drill 2))) from_ to_ true]:List Aa)))) (.tup []) ⟨18,.row 6 (l++[Aa.mk (Bs at_ (W64 (Int.tdiv drill 2))) from_ to_ true]).length (AP Aa.c (l++[Aa.mk (Bs at_ (W64 (Int.tdiv drill 2))) from_ to_ true])) 70,by kernel_rfl,by kernel_rfl,by kernel_rfl,DP (by rfl)⟩
theorem NN (l:List Aa) (a:AC) (x f t:Int):(Gp l a x f t).length=l.length+1:=by unfold Gp;rw [List.length_append];rfl
theorem Vw (c:Bool) (l:List Aa) (a:AC) (x f t:Int):((bif c then Gp l a x f t else l).length:Int)<=(l.length:Int)+1:=by
 cases c with
 | true=>rw [cond_true,NN];omega
 | false=>rw [cond_false];omega
theorem ZE (l:List Aa) (a:AC) (x f t:Int):((Gp l a x f t).length:Int)<=(l.length:Int)+1:=by rw [NN];omega
def FI (b:AG) (types:(List AN)) (v5_0:List Aa) (v21:Int) (K0:List Aa->Int->(List Aa)):Nat->List Aa->Int->(List Aa)
 | 0,_,_=>default
 | n1+1,v5_0',v35=>bif decide ((v35:Int)<((BA types ((CI b).getD v21.toNat default).Type').1.Pads.length:Int)) then ((FI b types v5_0 v21 K0 n1) (bif !decide ((((BA types ((CI b).getD v21.toNat default).Type').1.Pads.getD v35.toNat default).Drill:Int)=0) then (Gp v5_0' (Aq (BS ((CI b).getD v21.toNat default)) ((BA types ((CI b).getD v21.toNat default).Type').1.Pads.getD v35.toNat default).At) ((BA types ((CI b).getD v21.toNat default).Type').1.Pads.getD v35.toNat default).Drill 1 b.Layers) else v5_0') (v35+1)) else (K0 v5_0' (v21+1))
def FH (b:AG) (types:(List AN)) (v5_0:List Aa) (v21:Int) (v5_0':List Aa) (v58:Int) (K0:List Aa->Int->(List Aa)) (K1:List Aa->Int->(List Aa)):Nat->List Aa->Int->(List Aa)
 | 0,_,_=>default
 | n3+1,v5_0'',v76=>bif decide ((v76:Int)<(((C9 b).length:Nat):Int)) then ((FH b types v5_0 v21 v5_0' v58 K0 K1 n3) (v5_0''++[Aa.mk (GG ((C9 b).getD v76.toNat default).Shape) 1 b.Layers false]) (v76+1)) else v5_0''
def EH (b:AG) (types:(List AN)) (v5_0:List Aa) (v21:Int) (K0:List Aa->Int->(List Aa)):Nat->List Aa->Int->(List Aa)
 | 0,_,_=>default
 | n2+1,v5_0',v58=>bif decide ((v58:Int)<(((BV b).length:Nat):Int)) then ((EH b types v5_0 v21 K0 n2) (Gp v5_0' ((BV b).getD v58.toNat default).At ((BV b).getD v58.toNat default).Drill ((BV b).getD v58.toNat default).From ((BV b).getD v58.toNat default).To) (v58+1)) else (FH b types v5_0 v21 v5_0' v58 K0 (EH b types v5_0 v21 K0 n2) (((((C9 b).length:Nat):Int)-0).toNat+1) v5_0' 0)
def Dw (b:AG) (types:(List AN)):Nat->List Aa->Int->(List Aa)
 | 0,_,_=>default
 | n0+1,v5_0,v21=>bif decide ((v21:Int)<(((CI b).length:Nat):Int)) then (FI b types v5_0 v21 (Dw b types n0) ((((BA types ((CI b).getD v21.toNat default).Type').1.Pads.length:Int)-0).toNat+1) v5_0 0) else (EH b types v5_0 v21 (Dw b types n0) (((((BV b).length:Nat):Int)-0).toNat+1) v5_0 0)
def Fe (b:AG) (types:(List AN)):(List Aa):=Dw b types (((((CI b).length:Nat):Int)-0).toNat+1) ([]:List Aa) 0
theorem oR {p:Prop} (h:p:=by
 refine CN Tryz.func17 rfl kr (C2 _ _) fun W0 M0 => ?_
 have ht1:=mp0 b
 have hv1:=mp1 b
 have hs1:=mp2 b
 have hb1:=hb.parts
 have hb2:=hb.vias
 have hb3:=hb.slots
 refine AB<|on<|AB<|on<|AB<|on<|AB<|AB<|rs 19 _ ⟨[(1,tO (lst 3 AN.c types)),(2,tP 2 0),(5,tP 5 0),(6,tO (.clo 60 1 (Am [.ptr 5 0]))),(19,tO (.own 19 7 (mp3 b).length)),(20,tI (((mp3 b).length:Nat):Int)),(21,tI 0)],[(2,.cells (mp4 b) 41),(5,.cells [vN] 53),(19,.row 7 (mp3 b).length (AP AF.c (mp3 b)) 160)]⟩ (mp5 b au6)<|AE<|AM<|BE (Cv.trans (vg 2000 6 (fun _ _=>default) 70 [] [(5,[0])] hk0) (Cv.trans (A5 2000 (B9 6 (fun _ _=>default) mp6)) (ck (⟨[(1,tO (lst 3 AN.c types)),(2,tP 2 0),(5,tP 5 0),(6,tO (.clo 60 1 (Am [.ptr 5 0]))),(19,tO (.own 19 7 (mp3 b).length)),(20,tI (((mp3 b).length:Nat):Int)),(21,tI 0)],[(2,.cells (mp4 b) 41),(5,.cells [.own 2000 6 ([]:List Aa).length] 53),(19,.row 7 (mp3 b).length (AP AF.c (mp3 b)) 160),(2000,.row 6 ([]:List Aa).length (AP mp6 ([]:List Aa)) 70)]⟩)))) ?_
 refine lpC (κ:=List Aa×Int) (fun x=>⟨[(1,tO (lst 3 AN.c types)),(2,tP 2 0),(5,tP 5 0),(6,tO (.clo 60 1 (Am [.ptr 5 0]))),(19,tO (.own 19 7 (mp3 b).length)),(20,tI (((mp3 b).length:Nat):Int)),(21,tI x.2.2)],[(2,.cells (mp4 b) 41),(5,.cells [.own 2000 6 x.2.1.length] 53),(19,.row 7 (mp3 b).length (AP AF.c (mp3 b)) 160),(2000,.row 6 x.2.1.length (AP mp6 x.2.1) 70)]⟩) (fun x=>((((mp3 b).length:Nat):Int)-x.2.2).toNat) (fun x=>((x.2.1.length:Int)<=1000000*x.2.2/\0<=x.2.2/\(x.2.2<=(((mp3 b).length:Nat):Int)\/x.2.2=0))/\mp7 b types x.1 x.2.1 x.2.2=mp8 b types) ?_ (((((mp3 b).length:Nat):Int)-0).toNat+1,([]:List Aa),0) ⟨Nat.lt_succ_self _,⟨ax0,ax0,ax0⟩,(by simp only [mp8,cond_true,cond_false])⟩
 rintro n0 ⟨v5_0,v21⟩ hm0 ⟨hinv0,hF0⟩
 try dsimp only at hm0 hinv0 hF0
 refine AB<|on<|AB<|kb (decide ((v21:Int)<(((mp3 b).length:Nat):Int))) (fun h1 => ?_) (fun h1 => ?_)
 ·have g1:=oT h1
  refine AQ<|AE<|AB<|AM<|AB<|oc [] [0<=(v21:Int)/\(v21:Int)<(((mp3 b).length:Nat):Int),v21.toNat<(mp3 b).length] .nil (H2 au0 au0)<|AE<|AB<|oq 29 _ (oD types ((mp3 b).getD v21.toNat default).Type' au6)<|AE<|AB<|rn ⟨[(1,tO (lst 3 AN.c types)),(2,tP 2 0),(5,tP 5 0),(6,tO (.clo 60 1 (Am [.ptr 5 0]))),(8,tP 8 0),(19,tO (.own 19 7 (mp3 b).length)),(20,tI (((mp3 b).length:Nat):Int)),(21,tI v21),(33,tO (lst 7 BH.c (BA types ((mp3 b).getD v21.toNat default).Type').1.Pads)),(34,tI ((BA types ((mp3 b).getD v21.toNat default).Type').1.Pads.length:Int)),(35,tI 0)],[(2,.cells (mp4 b) 41),(5,.cells [.own 2000 6 v5_0.length] 53),(8,.cells (AF.c ((mp3 b).getD v21.toNat default)) 160),(19,.row 7 (mp3 b).length (AP AF.c (mp3 b)) 160),(2000,.row 6 v5_0.length (AP mp6 v5_0) 70)]⟩<|AM ?_
  refine lpC (κ:=List Aa×Int) (fun x=>⟨[(1,tO (lst 3 AN.c types)),(2,tP 2 0),(5,tP 5 0),(6,tO (.clo 60 1 (Am [.ptr 5 0]))),(8,tP 8 0),(19,tO (.own 19 7 (mp3 b).length)),(20,tI (((mp3 b).length:Nat):Int)),(21,tI v21),(33,tO (lst 7 BH.c (BA types ((mp3 b).getD v21.toNat default).Type').1.Pads)),(34,tI ((BA types ((mp3 b).getD v21.toNat default).Type').1.Pads.length:Int)),(35,tI x.2.2)],[(2,.cells (mp4 b) 41),(5,.cells [.own 2000 6 x.2.1.length] 53),(8,.cells (AF.c ((mp3 b).getD v21.toNat default)) 160),(19,.row 7 (mp3 b).length (AP AF.c (mp3 b)) 160),(2000,.row 6 x.2.1.length (AP mp6 x.2.1) 70)]⟩) (fun x=>(((BA types ((mp3 b).getD v21.toNat default).Type').1.Pads.length:Int)-x.2.2).toNat) (fun x=>((x.2.1.length:Int)<=1000000*v21+x.2.2/\0<=x.2.2/\(x.2.2<=((BA types ((mp3 b).getD v21.toNat default).Type').1.Pads.length:Int)\/x.2.2=0))/\mp9 b types v5_0 v21 (mp7 b types n0) x.1 x.2.1 x.2.2=mp8 b types) ?_ ((((BA types ((mp3 b).getD v21.toNat default).Type').1.Pads.length:Int)-0).toNat+1,v5_0,0) ⟨Nat.lt_succ_self _,⟨ax0,ax0,ax0⟩,(by rw [<- hF0];simp only [mp7,h1,cond_true,cond_false])⟩
  rintro n1 ⟨v5_0',v35⟩ hm1 ⟨hinv1,hF1⟩
  try dsimp only at hm1 hinv1 hF1
  have hpp:=P2 ht ((mp3 b).getD v21.toNat default).Type'
  refine AB<|on<|AB<|kb (decide ((v35:Int)<((BA types ((mp3 b).getD v21.toNat default).Type').1.Pads.length:Int))) (fun h2 => ?_) (fun h2 => ?_)
  ·have g2:=oT h2
   refine AQ<|AE<|AB ?_
   refine Bd (⟨[(1,tO (lst 3 AN.c types)),(2,tP 2 0),(5,tP 5 0),(6,tO (.clo 60 1 (Am [.ptr 5 0]))),(8,tP 8 0),(19,tO (.own 19 7 (mp3 b).length)),(20,tI (((mp3 b).length:Nat):Int)),(21,tI v21),(33,tO (lst 7 BH.c (BA types ((mp3 b).getD v21.toNat default).Type').1.Pads)),(34,tI ((BA types ((mp3 b).getD v21.toNat default).Type').1.Pads.length:Int)),(35,tI v35)],[(2,.cells (mp4 b) 41),(5,.cells [.own 2000 6 (bif !decide ((((BA types ((mp3 b).getD v21.toNat default).Type').1.Pads.getD v35.toNat default).Drill:Int)=0) then (mp10 v5_0' (Aq (BS ((mp3 b).getD v21.toNat default)) ((BA types ((mp3 b).getD v21.toNat default).Type').1.Pads.getD v35.toNat default).At) ((BA types ((mp3 b).getD v21.toNat default).Type').1.Pads.getD v35.toNat default).Drill 1 b.Layers) else v5_0').length] 53),(8,.cells (AF.c ((mp3 b).getD v21.toNat default)) 160),(19,.row 7 (mp3 b).length (AP AF.c (mp3 b)) 160),(2000,.row 6 (bif !decide ((((BA types ((mp3 b).getD v21.toNat default).Type').1.Pads.getD v35.toNat default).Drill:Int)=0) then (mp10 v5_0' (Aq (BS ((mp3 b).getD v21.toNat default)) ((BA types ((mp3 b).getD v21.toNat default).Type').1.Pads.getD v35.toNat default).At) ((BA types ((mp3 b).getD v21.toNat default).Type').1.Pads.getD v35.toNat default).Drill 1 b.Layers) else v5_0').length (AP mp6 (bif !decide ((((BA types ((mp3 b).getD v21.toNat default).Type').1.Pads.getD v35.toNat default).Drill:Int)=0) then (mp10 v5_0' (Aq (BS ((mp3 b).getD v21.toNat default)) ((BA types ((mp3 b).getD v21.toNat default).Type').1.Pads.getD v35.toNat default).At) ((BA types ((mp3 b).getD v21.toNat default).Type').1.Pads.getD v35.toNat default).Drill 1 b.Layers) else v5_0')) 70)]⟩) ?_ ?_
   ·refine AM<|AB<|oc [] [0<=(v35:Int)/\(v35:Int)<(((BA types ((mp3 b).getD v21.toNat default).Type').1.Pads.length:Nat):Int)] .nil (H1 au0)<|AE<|AB<|on<|kb (!decide ((((BA types ((mp3 b).getD v21.toNat default).Type').1.Pads.getD v35.toNat default).Drill:Int)=0)) (fun h3 => ?_) (fun h3 => ?_)
    ·have g3:=Bq h3
     refine Sh (q:=5) (r:=2000) UA Cq 10 rfl kr [] [] [(44,Nt ((mp3 b).getD v21.toNat default)),(47,Gy (BS ((mp3 b).getD v21.toNat default)) ((BA types ((mp3 b).getD v21.toNat default).Type').1.Pads.getD v35.toNat default).At)] [1,2,5,6,8,19,20,21,33,34,35,42,47,49,51] [2,5,8,19,2000] [CD (Nt ((mp3 b).getD v21.toNat default)).2.1,CD (Gy (BS ((mp3 b).getD v21.toNat default)) ((BA types ((mp3 b).getD v21.toNat default).Type').1.Pads.getD v35.toNat default).At).2.1] ⟨[(1,tO (lst 3 AN.c types)),(2,tP 2 0),(5,tP 5 0),(6,tO (.clo 60 1 (Am [.ptr 5 0]))),(8,tP 8 0),(19,tO (.own 19 7 (mp3 b).length)),(20,tI (((mp3 b).length:Nat):Int)),(21,tI v21),(33,tO (lst 7 BH.c (BA types ((mp3 b).getD v21.toNat default).Type').1.Pads)),(34,tI ((BA types ((mp3 b).getD v21.toNat default).Type').1.Pads.length:Int)),(35,tI v35),(42,tO (.clo 60 1 (Am [.ptr 5 0]))),(47,.av (.agg (AC.c (Aq (BS ((mp3 b).getD v21.toNat default)) ((BA types ((mp3 b).getD v21.toNat default).Type').1.Pads.getD v35.toNat default).At)))),(49,tI ((BA types ((mp3 b).getD v21.toNat default).Type').1.Pads.getD v35.toNat default).Drill),(51,tI b.Layers)],[(2,.cells (mp4 b) 41),(5,.cells [.own 2000 6 v5_0'.length] 53),(8,.cells (AF.c ((mp3 b).getD v21.toNat default)) 160),(19,.row 7 (mp3 b).length (AP AF.c (mp3 b)) 160),(2000,.row 6 v5_0'.length (AP mp6 v5_0') 70)]⟩ ⟨[(1,tO (lst 3 AN.c types)),(2,tP 2 0),(5,tP 5 0),(6,tO (.clo 60 1 (Am [.ptr 5 0]))),(8,tP 8 0),(19,tO (.own 19 7 (mp3 b).length)),(20,tI (((mp3 b).length:Nat):Int)),(21,tI v21),(33,tO (lst 7 BH.c (BA types ((mp3 b).getD v21.toNat default).Type').1.Pads)),(34,tI ((BA types ((mp3 b).getD v21.toNat default).Type').1.Pads.length:Int)),(35,tI v35),(42,tO (.clo 60 1 (Am [.ptr 5 0]))),(47,.av (.agg (AC.c (Aq (BS ((mp3 b).getD v21.toNat default)) ((BA types ((mp3 b).getD v21.toNat default).Type').1.Pads.getD v35.toNat default).At)))),(49,tI ((BA types ((mp3 b).getD v21.toNat default).Type').1.Pads.getD v35.toNat default).Drill),(51,tI b.Layers)],[(2,.cells (mp4 b) 41),(5,.cells [.own 2000 6 (mp10 v5_0' (Aq (BS ((mp3 b).getD v21.toNat default)) ((BA types ((mp3 b).getD v21.toNat default).Type').1.Pads.getD v35.toNat default).At) ((BA types ((mp3 b).getD v21.toNat default).Type').1.Pads.getD v35.toNat default).Drill 1 b.Layers).length] 53),(8,.cells (AF.c ((mp3 b).getD v21.toNat default)) 160),(19,.row 7 (mp3 b).length (AP AF.c (mp3 b)) 160),(2000,.row 6 (mp10 v5_0' (Aq (BS ((mp3 b).getD v21.toNat default)) ((BA types ((mp3 b).getD v21.toNat default).Type').1.Pads.getD v35.toNat default).At) ((BA types ((mp3 b).getD v21.toNat default).Type').1.Pads.getD v35.toNat default).Drill 1 b.Layers).length (AP mp6 (mp10 v5_0' (Aq (BS ((mp3 b).getD v21.toNat default)) ((BA types ((mp3 b).getD v21.toNat default).Type').1.Pads.getD v35.toNat default).At) ((BA types ((mp3 b).getD v21.toNat default).Type').1.Pads.getD v35.toNat default).Drill 1 b.Layers)) 70)]⟩ (.cons (Ou ((mp3 b).getD v21.toNat default)) (.cons (Db (BS ((mp3 b).getD v21.toNat default)) ((BA types ((mp3 b).getD v21.toNat default).Type').1.Pads.getD v35.toNat default).At) .nil)) kr kr (.cons rfl (.cons rfl .nil)) kr hk1 kr ⟨⟨_,_,60,1,Am [.ptr 5 0],[.agg (AC.c (Aq (BS ((mp3 b).getD v21.toNat default)) ((BA types ((mp3 b).getD v21.toNat default).Type').1.Pads.getD v35.toNat default).At)),.one (.i ((BA types ((mp3 b).getD v21.toNat default).Type').1.Pads.getD v35.toNat default).Drill),.one (.i 1),.one (.i b.Layers)],rfl,rfl,by kernel_rfl,rfl,by kernel_rfl,by kernel_rfl,fun _ _=>by kernel_rfl,mp11 v5_0' (Aq (BS ((mp3 b).getD v21.toNat default)) ((BA types ((mp3 b).getD v21.toNat default).Type').1.Pads.getD v35.toNat default).At) ((BA types ((mp3 b).getD v21.toNat default).Type').1.Pads.getD v35.toNat default).Drill 1 b.Layers au6⟩,rfl,by kernel_rfl,by kernel_rfl,by kernel_rfl⟩ kr<|A3<|AE ?_
     refine Cv.trans (ck (⟨[(1,tO (lst 3 AN.c types)),(2,tP 2 0),(5,tP 5 0),(6,tO (.clo 60 1 (Am [.ptr 5 0]))),(8,tP 8 0),(19,tO (.own 19 7 (mp3 b).length)),(20,tI (((mp3 b).length:Nat):Int)),(21,tI v21),(33,tO (lst 7 BH.c (BA types ((mp3 b).getD v21.toNat default).Type').1.Pads)),(34,tI ((BA types ((mp3 b).getD v21.toNat default).Type').1.Pads.length:Int)),(35,tI v35)],[(2,.cells (mp4 b) 41),(5,.cells [.own 2000 6 (mp10 v5_0' (Aq (BS ((mp3 b).getD v21.toNat default)) ((BA types ((mp3 b).getD v21.toNat default).Type').1.Pads.getD v35.toNat default).At) ((BA types ((mp3 b).getD v21.toNat default).Type').1.Pads.getD v35.toNat default).Drill 1 b.Layers).length] 53),(8,.cells (AF.c ((mp3 b).getD v21.toNat default)) 160),(19,.row 7 (mp3 b).length (AP AF.c (mp3 b)) 160),(2000,.row 6 (mp10 v5_0' (Aq (BS ((mp3 b).getD v21.toNat default)) ((BA types ((mp3 b).getD v21.toNat default).Type').1.Pads.getD v35.toNat default).At) ((BA types ((mp3 b).getD v21.toNat default).Type').1.Pads.getD v35.toNat default).Drill 1 b.Layers).length (AP mp6 (mp10 v5_0' (Aq (BS ((mp3 b).getD v21.toNat default)) ((BA types ((mp3 b).getD v21.toNat default).Type').1.Pads.getD v35.toNat default).At) ((BA types ((mp3 b).getD v21.toNat default).Type').1.Pads.getD v35.toNat default).Drill 1 b.Layers)) 70)]⟩)) (Al ?_)
     first | rfl | (simp only [h3,cond_true,cond_false] <;> rfl)
    have g3:=BN h3
    refine AQ<|A3<|AE<|Cv.trans (ck (⟨[(1,tO (lst 3 AN.c types)),(2,tP 2 0),(5,tP 5 0),(6,tO (.clo 60 1 (Am [.ptr 5 0]))),(8,tP 8 0),(19,tO (.own 19 7 (mp3 b).length)),(20,tI (((mp3 b).length:Nat):Int)),(21,tI v21),(33,tO (lst 7 BH.c (BA types ((mp3 b).getD v21.toNat default).Type').1.Pads)),(34,tI ((BA types ((mp3 b).getD v21.toNat default).Type').1.Pads.length:Int)),(35,tI v35)],[(2,.cells (mp4 b) 41),(5,.cells [.own 2000 6 v5_0'.length] 53),(8,.cells (AF.c ((mp3 b).getD v21.toNat default)) 160),(19,.row 7 (mp3 b).length (AP AF.c (mp3 b)) 160),(2000,.row 6 v5_0'.length (AP mp6 v5_0') 70)]⟩)) (Al ?_)
    first | rfl | (simp only [h3,cond_true,cond_false] <;> rfl)
   refine rg ⟨[(1,tO (lst 3 AN.c types)),(2,tP 2 0),(5,tP 5 0),(6,tO (.clo 60 1 (Am [.ptr 5 0]))),(8,tP 8 0),(19,tO (.own 19 7 (mp3 b).length)),(20,tI (((mp3 b).length:Nat):Int)),(21,tI v21),(33,tO (lst 7 BH.c (BA types ((mp3 b).getD v21.toNat default).Type').1.Pads)),(34,tI ((BA types ((mp3 b).getD v21.toNat default).Type').1.Pads.length:Int)),(35,tI (W64 (v35+1)))],[(2,.cells (mp4 b) 41),(5,.cells [.own 2000 6 (bif !decide ((((BA types ((mp3 b).getD v21.toNat default).Type').1.Pads.getD v35.toNat default).Drill:Int)=0) then (mp10 v5_0' (Aq (BS ((mp3 b).getD v21.toNat default)) ((BA types ((mp3 b).getD v21.toNat default).Type').1.Pads.getD v35.toNat default).At) ((BA types ((mp3 b).getD v21.toNat default).Type').1.Pads.getD v35.toNat default).Drill 1 b.Layers) else v5_0').length] 53),(8,.cells (AF.c ((mp3 b).getD v21.toNat default)) 160),(19,.row 7 (mp3 b).length (AP AF.c (mp3 b)) 160),(2000,.row 6 (bif !decide ((((BA types ((mp3 b).getD v21.toNat default).Type').1.Pads.getD v35.toNat default).Drill:Int)=0) then (mp10 v5_0' (Aq (BS ((mp3 b).getD v21.toNat default)) ((BA types ((mp3 b).getD v21.toNat default).Type').1.Pads.getD v35.toNat default).At) ((BA types ((mp3 b).getD v21.toNat default).Type').1.Pads.getD v35.toNat default).Drill 1 b.Layers) else v5_0').length (AP mp6 (bif !decide ((((BA types ((mp3 b).getD v21.toNat default).Type').1.Pads.getD v35.toNat default).Drill:Int)=0) then (mp10 v5_0' (Aq (BS ((mp3 b).getD v21.toNat default)) ((BA types ((mp3 b).getD v21.toNat default).Type').1.Pads.getD v35.toNat default).At) ((BA types ((mp3 b).getD v21.toNat default).Type').1.Pads.getD v35.toNat default).Drill 1 b.Layers) else v5_0')) 70)]⟩ ?_
   (try rw [(show W64 (v35+1)=v35+1 from Ae oM au3)])
   refine AE ?_
   refine ⟨(n1,bif !decide ((((BA types ((mp3 b).getD v21.toNat default).Type').1.Pads.getD v35.toNat default).Drill:Int)=0) then (mp10 v5_0' (Aq (BS ((mp3 b).getD v21.toNat default)) ((BA types ((mp3 b).getD v21.toNat default).Type').1.Pads.getD v35.toNat default).At) ((BA types ((mp3 b).getD v21.toNat default).Type').1.Pads.getD v35.toNat default).Drill 1 b.Layers) else v5_0',v35+1),⟨?_,?_,(by rw [<- hF1];simp only [mp9,h2,cond_true,cond_false])⟩,Nat.lt_succ_self _,Al kr⟩
   ·dsimp only;omega
   exact (by dsimp only;(first | (refine ⟨?_,by omega,by omega⟩) | skip);first | omega | (refine Int.le_trans (mp12 _ _ _ _ _ _) ?_;omega) | (refine Int.le_trans (mp13 _ _ _ _ _) ?_;omega) | exact at0)
  have g2:=oF h2
  refine An<|Ai<|Ai<|Ao<|A3<|AE<|rg ⟨[(1,tO (lst 3 AN.c types)),(2,tP 2 0),(5,tP 5 0),(6,tO (.clo 60 1 (Am [.ptr 5 0]))),(19,tO (.own 19 7 (mp3 b).length)),(20,tI (((mp3 b).length:Nat):Int)),(21,tI (W64 (v21+1)))],[(2,.cells (mp4 b) 41),(5,.cells [.own 2000 6 v5_0'.length] 53),(19,.row 7 (mp3 b).length (AP AF.c (mp3 b)) 160),(2000,.row 6 v5_0'.length (AP mp6 v5_0') 70)]⟩ ?_
  (try rw [(show W64 (v21+1)=v21+1 from Ae oM au3)])
  refine AE ?_
  refine ⟨(n0,v5_0',v21+1),⟨?_,?_,(by rw [<- hF1];simp only [mp9,h2,cond_true,cond_false])⟩,Nat.lt_succ_self _,Al kr⟩
  ·dsimp only;omega
  exact (by dsimp only;(first | (refine ⟨?_,by omega,by omega⟩) | skip);first | omega | (refine Int.le_trans (mp12 _ _ _ _ _ _) ?_;omega) | (refine Int.le_trans (mp13 _ _ _ _ _) ?_;omega) | exact at0)
 have g1:=oF h1
 refine An<|Ai<|Ai<|Ao<|AE<|AB<|AB<|rs 56 _ ⟨[(2,tP 2 0),(5,tP 5 0),(6,tO (.clo 60 1 (Am [.ptr 5 0]))),(56,tO (.own 56 8 (mp14 b).length)),(57,tI (((mp14 b).length:Nat):Int)),(58,tI 0)],[(2,.cells (mp4 b) 41),(5,.cells [.own 2000 6 v5_0.length] 53),(56,.row 8 (mp14 b).length (AP Aw.c (mp14 b)) 154),(2000,.row 6 v5_0.length (AP mp6 v5_0) 70)]⟩ (mp15 b au6)<|AE<|AM<|lpC (κ:=List Aa×Int) (fun x=>⟨[(2,tP 2 0),(5,tP 5 0),(6,tO (.clo 60 1 (Am [.ptr 5 0]))),(56,tO (.own 56 8 (mp14 b).length)),(57,tI (((mp14 b).length:Nat):Int)),(58,tI x.2.2)],[(2,.cells (mp4 b) 41),(5,.cells [.own 2000 6 x.2.1.length] 53),(56,.row 8 (mp14 b).length (AP Aw.c (mp14 b)) 154),(2000,.row 6 x.2.1.length (AP mp6 x.2.1) 70)]⟩) (fun x=>((((mp14 b).length:Nat):Int)-x.2.2).toNat) (fun x=>((x.2.1.length:Int)<=20000000+x.2.2/\0<=x.2.2/\(x.2.2<=(((mp14 b).length:Nat):Int)\/x.2.2=0))/\mp16 b types v5_0 v21 (mp7 b types n0) x.1 x.2.1 x.2.2=mp8 b types) ?_ (((((mp14 b).length:Nat):Int)-0).toNat+1,v5_0,0) ⟨Nat.lt_succ_self _,⟨ax0,ax0,ax0⟩,(by rw [<- hF0];simp only [mp7,h1,cond_true,cond_false])⟩
 rintro n2 ⟨v5_0',v58⟩ hm2 ⟨hinv2,hF2⟩
 try dsimp only at hm2 hinv2 hF2
 refine AB<|on<|AB<|kb (decide ((v58:Int)<(((mp14 b).length:Nat):Int))) (fun h2 => ?_) (fun h2 => ?_)
 ·have g2:=oT h2
  refine AQ<|AE<|AB<|AM<|AB<|rc [] [0<=(v58:Int)/\(v58:Int)<(((mp14 b).length:Nat):Int),v58.toNat<(mp14 b).length] ⟨[(2,tP 2 0),(5,tP 5 0),(6,tO (.clo 60 1 (Am [.ptr 5 0]))),(14,tP 14 0),(56,tO (.own 56 8 (mp14 b).length)),(57,tI (((mp14 b).length:Nat):Int)),(58,tI v58)],[(2,.cells (mp4 b) 41),(5,.cells [.own 2000 6 v5_0'.length] 53),(14,.cells (Aw.c ((mp14 b).getD v58.toNat default)) 154),(56,.row 8 (mp14 b).length (AP Aw.c (mp14 b)) 154),(2000,.row 6 v5_0'.length (AP mp6 v5_0') 70)]⟩ .nil (H2 au0 au0)<|AE<|De<|GF Cq 9 [] [] [] [2,5,6,56,57,58,62,64,66,68,70] [2,5,56,2000] [] ⟨[(2,tP 2 0),(5,tP 5 0),(6,tO (.clo 60 1 (Am [.ptr 5 0]))),(56,tO (.own 56 8 (mp14 b).length)),(57,tI (((mp14 b).length:Nat):Int)),(58,tI v58),(62,tO (.clo 60 1 (Am [.ptr 5 0]))),(64,.av (.agg (AC.c ((mp14 b).getD v58.toNat default).At))),(66,tI ((mp14 b).getD v58.toNat default).Drill),(68,tI ((mp14 b).getD v58.toNat default).From),(70,tI ((mp14 b).getD v58.toNat default).To)],[(2,.cells (mp4 b) 41),(5,.cells [.own 2000 6 v5_0'.length] 53),(56,.row 8 (mp14 b).length (AP Aw.c (mp14 b)) 154),(2000,.row 6 v5_0'.length (AP mp6 v5_0') 70)]⟩ .nil kr .nil ?_
  refine Zv (q:=5) (r:=2000) (⟨[(2,tP 2 0),(5,tP 5 0),(6,tO (.clo 60 1 (Am [.ptr 5 0]))),(56,tO (.own 56 8 (mp14 b).length)),(57,tI (((mp14 b).length:Nat):Int)),(58,tI v58),(62,tO (.clo 60 1 (Am [.ptr 5 0]))),(64,.av (.agg (AC.c ((mp14 b).getD v58.toNat default).At))),(66,tI ((mp14 b).getD v58.toNat default).Drill),(68,tI ((mp14 b).getD v58.toNat default).From),(70,tI ((mp14 b).getD v58.toNat default).To)],[(2,.cells (mp4 b) 41),(5,.cells [.own 2000 6 (mp10 v5_0' ((mp14 b).getD v58.toNat default).At ((mp14 b).getD v58.toNat default).Drill ((mp14 b).getD v58.toNat default).From ((mp14 b).getD v58.toNat default).To).length] 53),(56,.row 8 (mp14 b).length (AP Aw.c (mp14 b)) 154),(2000,.row 6 (mp10 v5_0' ((mp14 b).getD v58.toNat default).At ((mp14 b).getD v58.toNat default).Drill ((mp14 b).getD v58.toNat default).From ((mp14 b).getD v58.toNat default).To).length (AP mp6 (mp10 v5_0' ((mp14 b).getD v58.toNat default).At ((mp14 b).getD v58.toNat default).Drill ((mp14 b).getD v58.toNat default).From ((mp14 b).getD v58.toNat default).To)) 70)]⟩) hk1 kr ⟨⟨_,_,60,1,Am [.ptr 5 0],[.agg (AC.c ((mp14 b).getD v58.toNat default).At),.one (.i ((mp14 b).getD v58.toNat default).Drill),.one (.i ((mp14 b).getD v58.toNat default).From),.one (.i ((mp14 b).getD v58.toNat default).To)],rfl,rfl,by kernel_rfl,rfl,by kernel_rfl,by kernel_rfl,fun _ _=>by kernel_rfl,mp11 v5_0' ((mp14 b).getD v58.toNat default).At ((mp14 b).getD v58.toNat default).Drill ((mp14 b).getD v58.toNat default).From ((mp14 b).getD v58.toNat default).To au6⟩,rfl,by kernel_rfl,by kernel_rfl,by kernel_rfl⟩ kr ?_
  refine Ev Cq [] [] [] [2,5,6,56,57,58] [2,5,56,2000] [] ⟨[(2,tP 2 0),(5,tP 5 0),(6,tO (.clo 60 1 (Am [.ptr 5 0]))),(56,tO (.own 56 8 (mp14 b).length)),(57,tI (((mp14 b).length:Nat):Int)),(58,tI v58)],[(2,.cells (mp4 b) 41),(5,.cells [.own 2000 6 (mp10 v5_0' ((mp14 b).getD v58.toNat default).At ((mp14 b).getD v58.toNat default).Drill ((mp14 b).getD v58.toNat default).From ((mp14 b).getD v58.toNat default).To).length] 53),(56,.row 8 (mp14 b).length (AP Aw.c (mp14 b)) 154),(2000,.row 6 (mp10 v5_0' ((mp14 b).getD v58.toNat default).At ((mp14 b).getD v58.toNat default).Drill ((mp14 b).getD v58.toNat default).From ((mp14 b).getD v58.toNat default).To).length (AP mp6 (mp10 v5_0' ((mp14 b).getD v58.toNat default).At ((mp14 b).getD v58.toNat default).Drill ((mp14 b).getD v58.toNat default).From ((mp14 b).getD v58.toNat default).To)) 70)]⟩ .nil kr .nil<|A3<|AE ?_
  refine rg ⟨[(2,tP 2 0),(5,tP 5 0),(6,tO (.clo 60 1 (Am [.ptr 5 0]))),(56,tO (.own 56 8 (mp14 b).length)),(57,tI (((mp14 b).length:Nat):Int)),(58,tI (W64 (v58+1)))],[(2,.cells (mp4 b) 41),(5,.cells [.own 2000 6 (mp10 v5_0' ((mp14 b).getD v58.toNat default).At ((mp14 b).getD v58.toNat default).Drill ((mp14 b).getD v58.toNat default).From ((mp14 b).getD v58.toNat default).To).length] 53),(56,.row 8 (mp14 b).length (AP Aw.c (mp14 b)) 154),(2000,.row 6 (mp10 v5_0' ((mp14 b).getD v58.toNat default).At ((mp14 b).getD v58.toNat default).Drill ((mp14 b).getD v58.toNat default).From ((mp14 b).getD v58.toNat default).To).length (AP mp6 (mp10 v5_0' ((mp14 b).getD v58.toNat default).At ((mp14 b).getD v58.toNat default).Drill ((mp14 b).getD v58.toNat default).From ((mp14 b).getD v58.toNat default).To)) 70)]⟩ ?_
  (try rw [(show W64 (v58+1)=v58+1 from Ae oM au3)])
  refine AE ?_
  refine ⟨(n2,mp10 v5_0' ((mp14 b).getD v58.toNat default).At ((mp14 b).getD v58.toNat default).Drill ((mp14 b).getD v58.toNat default).From ((mp14 b).getD v58.toNat default).To,v58+1),⟨?_,?_,(by rw [<- hF2];simp only [mp16,h2,cond_true,cond_false])⟩,Nat.lt_succ_self _,Al kr⟩
  ·dsimp only;omega
  exact (by dsimp only;(first | (refine ⟨?_,by omega,by omega⟩) | skip);first | omega | (refine Int.le_trans (mp12 _ _ _ _ _ _) ?_;omega) | (refine Int.le_trans (mp13 _ _ _ _ _) ?_;omega) | exact at0)
 have g2:=oF h2
 refine An<|Ai<|Ai<|Ao<|AE<|AB<|AB<|rs 74 _ ⟨[(2,tP 2 0),(5,tP 5 0),(74,tO (.own 74 4 (mp17 b).length)),(75,tI (((mp17 b).length:Nat):Int)),(76,tI 0)],[(2,.cells (mp4 b) 41),(5,.cells [.own 2000 6 v5_0'.length] 53),(74,.row 4 (mp17 b).length (AP Aj.c (mp17 b)) 165),(2000,.row 6 v5_0'.length (AP mp6 v5_0') 70)]⟩ (mp18 b au6)<|AE<|AM<|lpC (κ:=List Aa×Int) (fun x=>⟨[(2,tP 2 0),(5,tP 5 0),(74,tO (.own 74 4 (mp17 b).length)),(75,tI (((mp17 b).length:Nat):Int)),(76,tI x.2.2)],[(2,.cells (mp4 b) 41),(5,.cells [.own 2000 6 x.2.1.length] 53),(74,.row 4 (mp17 b).length (AP Aj.c (mp17 b)) 165),(2000,.row 6 x.2.1.length (AP mp6 x.2.1) 70)]⟩) (fun x=>((((mp17 b).length:Nat):Int)-x.2.2).toNat) (fun x=>((x.2.1.length:Int)<=20000020+x.2.2/\0<=x.2.2/\(x.2.2<=(((mp17 b).length:Nat):Int)\/x.2.2=0)/\(x.2.1.length:Int)<=(v5_0'.length:Int)+1*(x.2.2-0))/\mp19 b types v5_0 v21 v5_0' v58 (mp7 b types n0) (mp16 b types v5_0 v21 (mp7 b types n0) n2) x.1 x.2.1 x.2.2=mp8 b types) ?_ (((((mp17 b).length:Nat):Int)-0).toNat+1,v5_0',0) ⟨Nat.lt_succ_self _,⟨ax0,ax0,ax0,ax0⟩,(by rw [<- hF2];simp only [mp16,h2,cond_true,cond_false])⟩
 rintro n3 ⟨v5_0'',v76⟩ hm3 ⟨hinv3,hF3⟩
 try dsimp only at hm3 hinv3 hF3
 refine AB<|on<|AB<|kb (decide ((v76:Int)<(((mp17 b).length:Nat):Int))) (fun h3 => ?_) (fun h3 => ?_)
 ·have g3:=oT h3
  refine AQ<|AE<|AB<|AM<|AB<|oc [] [0<=(v76:Int)/\(v76:Int)<(((mp17 b).length:Nat):Int),v76.toNat<(mp17 b).length] .nil (H2 au0 au0)<|AE<|oe [] _ [none,v5_0''.length=v5_0''.length,v5_0''.length+1<=maxLen,(v5_0''.length+1)*64<=140737488355328] (J1 83 (mp20 ((mp17 b).getD v76.toNat default).Shape au6)) (H3 rfl au2 au2)<|A3<|AE<|BE (A5 88 (BF (A1 6 mp6 v5_0'') (BC 6 mp6 ([Aa.mk (mp21 ((mp17 b).getD v76.toNat default).Shape) 1 b.Layers false]:List Aa))))<|rg ⟨[(2,tP 2 0),(5,tP 5 0),(74,tO (.own 74 4 (mp17 b).length)),(75,tI (((mp17 b).length:Nat):Int)),(76,tI (W64 (v76+1)))],[(2,.cells (mp4 b) 41),(5,.cells [.own 88 6 (v5_0''++[Aa.mk (mp21 ((mp17 b).getD v76.toNat default).Shape) 1 b.Layers false]).length] 53),(74,.row 4 (mp17 b).length (AP Aj.c (mp17 b)) 165),(88,.row 6 (v5_0''++[Aa.mk (mp21 ((mp17 b).getD v76.toNat default).Shape) 1 b.Layers false]).length (AP mp6 (v5_0''++[Aa.mk (mp21 ((mp17 b).getD v76.toNat default).Shape) 1 b.Layers false])) 70)]⟩ ?_
  (try rw [(show W64 (v76+1)=v76+1 from Ae oM au3)])
  refine AE ?_
  refine ⟨(n3,v5_0''++[Aa.mk (mp21 ((mp17 b).getD v76.toNat default).Shape) 1 b.Layers false],v76+1),⟨?_,?_,(by rw [<- hF3];simp only [mp19,h3,cond_true,cond_false])⟩,Nat.lt_succ_self _,Cv.trans (vr 88 2000 hk0) (Al kr)⟩
  ·dsimp only;omega
  exact (by dsimp only;(first | (refine ⟨?_,by omega,by omega⟩) | skip);first | omega | (refine Int.le_trans (mp12 _ _ _ _ _ _) ?_;omega) | (refine Int.le_trans (mp13 _ _ _ _ _) ?_;omega) | exact at0)
 exact An<|Ai<|Ai<|Ao<|AE<|AB<|on<|AW<|xl (tO (.own 2000 6 v5_0''.length)) (frE (c:=mp6) (xs:=v5_0'') (by rw [<- hF3];first | (simp only [mp19,h3,cond_true,cond_false] <;> rfl)) kr)):p:=h
section
 open Go.Proofs.YtheobjkgllmnmaaGreat renaming Pi→mp0,KF→mp1,LE→mp2,CI→mp3,AG.c→mp4,lG→mp5,Aa.c→mp6,Dw→mp7,Fe→mp8,FI→mp9,Gp→mp10,kN→mp11,Vw→mp12,ZE→mp13,BV→mp14,dS→mp15,EH→mp16,C9→mp17,lE→mp18,FH→mp19,Tx→mp20,GG→mp21
theorem pR (b:AG) (types:(List AN)) (hb:HV b) (ht:Bt types):Fr Tryz.prog 17 [.agg (AG.c b),.one (lst 3 AN.c types)] (.row 6 (Fe b types).length (AP Aa.c (Fe b types)) 70) (fun d=>tO (.own d 6 (Fe b types).length)):=oR
end
section
open Go.RowKit
def AO.cE (x:AO):List Cl:=[.i x.Kind,.ed (List.length x.Edges),.i x.R]
def AL.cE (x:AL):List Cl:=[.i x.Id,.s x.Pad,.i x.Kind,.s x.Net,.i x.From,.i x.To,.i x.Shape.Kind,.ed (List.length x.Shape.Edges),.i x.Shape.R]
def Aa.cE (x:Aa):List Cl:=[.i x.Shape.Kind,.ed (List.length x.Shape.Edges),.i x.Shape.R,.i x.From,.i x.To,.b x.Plated]
theorem eW:∀ x:AL,∀ y∈AL.cE x,NE y:=by
 intro x y hy
 simp only [AL.cE,List.mem_cons,List.not_mem_nil,or_false] at hy
 rcases hy with rfl | rfl | rfl | rfl | rfl | rfl | rfl | rfl | rfl <;> first | exact .inl (.val _) | exact .inr ⟨_,rfl⟩
def F9 (s:AO) (m:AZ):Nat->List AK->Int->AO
 | 0,_,_=>default
 | n0+1,s_1,v13=>bif decide ((v13:Int)<((s.Edges.length:Nat):Int)) then ((F9 s m n0) (s_1.set v13.toNat (D1 (s_1.getD v13.toNat default) m)) (v13+1)) else (AO.mk s.Kind s_1 s.R)
def Gh (s:AO) (m:AZ):AO:=F9 s m ((((s.Edges.length:Nat):Int)-0).toNat+1) s.Edges 0
variable (b:AG) (types:List AN) (p:AC) (s:AO) (x2_:Nat) (m:AZ) (r v16:Int) (AH:List (Ab×ByteArray)) (Ac:List AL) (v39:Int)
def iF:CT:=(106,[.agg (AO.c s),.agg (AZ.c m)],.val [] (.av (.agg (AO.cE (Gh s m)))))
theorem qD (s:AO) (m:AZ) (h0:(s.Edges.length:Int)<=1000000):PuP 106 (iF s m).2.1 (.av (.agg (AO.cE (Gh s m)))):=by
 refine pwf Tryz.func106 fun W0 M0 => ?_
 refine AB<|on<|AB<|oq 8 _ (JZ s.Edges au6)<|AE<|BE (A5 8 (A1 7 AK.c s.Edges))<|AB<|AB<|rn (bL s m)<|AM<|lpC (κ:=List AK×Int) (fun x=>⟨(CR [(Rj s),(13,tI x.2.2)]),[(2,.cells [.i s.Kind,.own 8 7 x.2.1.length,.i s.R] 28),(Gi m),LH,(8,.row 7 x.2.1.length (AP AK.c x.2.1) 68)]⟩) (fun x=>(((s.Edges.length:Nat):Int)-x.2.2).toNat) (fun x=>(x.2.1.length=s.Edges.length/\0<=x.2.2/\(x.2.2<=((s.Edges.length:Nat):Int)\/x.2.2=0))/\F9 s m x.1 x.2.1 x.2.2=Gh s m) ?_ ((((s.Edges.length:Nat):Int)-0).toNat+1,s.Edges,0) ⟨Nat.lt_succ_self _,⟨ax0,ax0,ax0⟩,(by simp only [Gh,cond_true,cond_false])⟩
 rintro n0 ⟨s_1,v13⟩ hm0 ⟨hinv0,hF0⟩
 try dsimp only at hm0 hinv0 hF0
 refine AB<|on<|AB<|kb (decide ((v13:Int)<((s.Edges.length:Nat):Int))) (fun h1 => ?_) (fun h1 => ?_)
 ·have g1:=oT h1
  refine AQ<|AE<|AB<|AM<|AB<|on<|oe [] _ [0<=(v13:Int)/\(v13:Int)<((s_1.length:Nat):Int),v13.toNat<s_1.length,none,0<=(v13:Int)/\(v13:Int)<((s_1.length:Nat):Int),v13.toNat<s_1.length] (J1 25 (eD (s_1.getD v13.toNat default) m)) (H4 au0 au0 au0 au0)<|A3<|AE<|BE (A5 8 (Hw (l:=(AK.c (D1 (s_1.getD v13.toNat default) m))) (off:=0) (q:=7) (k:=v13.toNat) (A1 7 AK.c s_1) au0 (D1 (s_1.getD v13.toNat default) m) (HY kr)))<|rg ⟨(CR [(Rj s),(13,tI (W64 (v13+1)))]),(bJ s s_1 v13 m)⟩ ?_
  (try rw [(show W64 (v13+1)=v13+1 from Ae oM au3)])
  refine AE ?_
  refine ⟨(n0,s_1.set v13.toNat (D1 (s_1.getD v13.toNat default) m),v13+1),⟨?_,?_,(by rw [<- hF0];simp only [F9,h1,cond_true,cond_false])⟩,Nat.lt_succ_self _,Al kr⟩
  ·dsimp only;omega
  exact ⟨ax0,ax0,ax0⟩
 exact An<|Ai<|Ai<|Ao<|AE<|AB<|rn ⟨[(4,tP 4 0)],[(4,.cells [.i s.Kind,.own 8 7 s_1.length,.i s.R] 28),(8,.row 7 s_1.length (AP AK.c s_1) 68)]⟩<|AW<|zy (Wg (⟨[(4,tP 4 0)],[(4,.cells [.i s.Kind,.ed (List.length s_1),.i s.R] 28)]⟩) 8 s_1.length (AP AK.c s_1) 68 hk0 (pM (fun _=>rfl) (fun _=>rfl))) (by rw [<- hF0];simp only [F9,h1,cond_true,cond_false] <;> kernel_rfl)
theorem lJ (s:AO) (m:AZ) (h0:(s.Edges.length:Int)<=1000000):OKc (iF s m):=cPu<|qD s m h0
def GU (s:AO):AO:=s
def Uh:CT:=(53,[.agg (AO.c s)],.val [] (.av (.agg (AO.cE (GU s)))))
theorem dF (s:AO) (h0:(s.Edges.length:Int)<=1000000):PuP 53 (Uh s).2.1 (.av (.agg (AO.cE (GU s)))):=by
 refine pwf Tryz.func53 fun W0 M0 => ?_
 exact AB<|on<|AB<|oq 5 _ (JZ s.Edges au6)<|AE<|BE (A5 5 (A1 7 AK.c s.Edges))<|AB<|rn ⟨[(2,tP 2 0)],[(2,.cells [.i s.Kind,.own 5 7 s.Edges.length,.i s.R] 28),(5,.row 7 s.Edges.length (AP AK.c s.Edges) 68)]⟩<|AW<|zy (Wg (⟨[(2,tP 2 0)],[(2,.cells (AO.cE s) 28)]⟩) 5 s.Edges.length (AP AK.c s.Edges) 68 hk0 (pM (fun _=>rfl) (fun _=>rfl)))
theorem QN (s:AO) (h0:(s.Edges.length:Int)<=1000000):OKc (Uh s):=cPu<|dF s h0
def LF (p:AC) (r:Int):AO:=AO.mk 1 [AK.mk 1 p p (AC.mk 0 0)] r
def iJ:CT:=(38,[.agg (AC.c p),.one (.i r)],.val [] (.av (.agg (AO.cE (LF p r)))))
theorem qL (p:AC) (r:Int):PuP 38 (iJ p r).2.1 (.av (.agg (AO.cE (LF p r)))):=by
 refine pwf Tryz.func38 fun W0 M0 => ?_
 exact AB<|rn ⟨[(1,tI r),(2,tP 2 0),(4,tP 4 0)],[(2,.cells (AC.c p) 66),LH]⟩<|AB<|DR Cq [8] [] [] [4] [4,8] [] ⟨[(4,tP 4 0)],[(4,.cells [.i 1,.own 8 7 1,.i r] 28),(8,.row 7 1 (BG 7 1 [.i 1,.i p.X,.i p.Y,.i p.X,.i p.Y,.i 0,.i 0]) 68)]⟩ .nil kr .nil<|AE<|BE (KD (⟨[(4,tP 4 0)],[(4,.cells [.i 1,.own 8 7 ([AK.mk 1 p p (AC.mk 0 0)].length),.i r] 28),(8,.row 7 ([AK.mk 1 p p (AC.mk 0 0)].length) (AP AK.c [AK.mk 1 p p (AC.mk 0 0)]) 68)]⟩) 8 (BC 7 AK.c ([AK.mk 1 p p (AC.mk 0 0)]:List AK)))<|AW<|zy (Wg (⟨[(4,tP 4 0)],[(4,.cells [.i 1,.ed (List.length [AK.mk 1 p p (AC.mk 0 0)]),.i r] 28)]⟩) 8 ([AK.mk 1 p p (AC.mk 0 0)].length) (AP AK.c [AK.mk 1 p p (AC.mk 0 0)]) 68 hk0 (pM (fun _=>rfl) (fun _=>rfl)))
theorem Xi (p:AC) (r:Int):OKc (iJ p r):=cPu<|qL p r
def Z0F:CT:=(104,[.one (lst 2 Bz.c b.Nets)],.val [] (.av (.one (.clo 146 1 (Am [.eptr 1 1 (fun _ j=>((Fs b):List Cl).getD j default) 0 0])))))
def Z0G:CT:=(105,(Ke b types),.val [] (.av (.one (.clo 147 2 (Am [.eptr 15 1 (fun _ j_=>((B1 b):List Cl).getD j_ default) 0 0,.eptr 1 1 (fun _ j_=>([lst 3 AN.c types]:List Cl).getD j_ default) 0 0])))))
def G2 (b:AG) (types:(List AN)) (AH:List (Ab×ByteArray)) (x0:Nat) (K0:List (Ab×ByteArray)->(List AL)):Nat->List (Ab×ByteArray)->Int->(List AL)
 | 0,_,_=>default
 | n1+1,Ag,v23=>bif decide ((v23:Int)<((b.Nets.getD (b.Nets.length-1-x0) default).Pins.length:Int)) then ((G2 b types AH x0 K0 n1) (Fw As Ag ((b.Nets.getD (b.Nets.length-1-x0) default).Pins.getD v23.toNat default) (b.Nets.getD (b.Nets.length-1-x0) default).Name) (v23+1)) else (K0 Ag)
def Dt (b:AG) (types:(List AN)) (AH:List (Ab×ByteArray)) (K0:List (Ab×ByteArray)->(List AL)):Nat->Nat->List AL->(List AL)
 | 0,_,Ac=>Ac
 | m+1,x,Ac=>(Dt b types AH K0 m (x+1)) (Ac++[AL.mk ((AU b types).getD x default).1.Id ((AU b types).getD x default).2.Name 1 (bif DE As AH (Ab.mk ((AU b types).getD x default).1.Ref ((AU b types).getD x default).2.Name) then (AH.getD (CF As AH (Ab.mk ((AU b types).getD x default).1.Ref ((AU b types).getD x default).2.Name)) default).2 else ⟨#[]⟩) (bif decide ((((AU b types).getD x default).2.Drill:Int)=0) then (Ck b ((AU b types).getD x default).1) else 1) (bif decide ((((AU b types).getD x default).2.Drill:Int)=0) then (Ck b ((AU b types).getD x default).1) else b.Layers) (Gh ((AU b types).getD x default).2.Shape (BS ((AU b types).getD x default).1))])
def DU (b:AG) (types:(List AN)):Nat->Nat->List (Ab×ByteArray)->(List AL)
 | 0,_,AH=>Dt b types AH (fun _=>default) (AU b types).length 0 ([]:List AL)
 | m+1,x,AH=>G2 b types AH x (DU b types m (x+1)) ((((b.Nets.getD (b.Nets.length-1-x) default).Pins.length:Int)-0).toNat+1) AH 0
def C0 (b:AG) (types:(List AN)):(List AL):=DU b types b.Nets.length 0 ([]:List (Ab×ByteArray))
abbrev W8:=Gh ((AU b types).getD x2_ default).2.Shape (BS ((AU b types).getD x2_ default).1)
abbrev JV:Nat×Blk:=(2000,.row 9 Ac.length (AP AL.cE Ac) 61)
abbrev VR:=[AL.mk ((AU b types).getD x2_ default).1.Id ((AU b types).getD x2_ default).2.Name 1 (Yj AH b types x2_) (W9 b types x2_) (XC b types x2_) (W8 b types x2_)]
theorem pQ (b:AG) (types:(List AN)) (hn:(b.Nets.length:Int)<=1000000) (hp:b.Parts.length<20) (ht:Bt types) (hm:((AU b types).length:Int)<=20000000) (hq:∀ n∈b.Nets,(n.Pins.length:Int)<=1000000):Fr Tryz.prog 51 [.agg (B1 b),.one (lst 3 AN.c types)] (.row 9 (C0 b types).length (AP AL.cE (C0 b types)) 61) (fun d=>tO (.own d 9 (C0 b types).length)):=by
 refine CN Tryz.func51 rfl kr (C2 _ _) fun W0 M0 => ?_
 refine AB<|on<|AB<|rn ⟨[(Gl types),(2,tP 2 0),(5,tP 5 0)],[(G5 b),MG,(14,.omap false 1 0 (fun _=>undef) (fun _ _=>default))]⟩<|BE (Es (⟨[(Gl types),(2,tP 2 0),(5,tP 5 0)],[(G5 b),MG,(14,.omap false 1 ([]:List (Ab×ByteArray)).length (kfG A4 ([]:List (Ab×ByteArray))) (vfG (fun x=>[.s x]) ([]:List (Ab×ByteArray))))]⟩) lr (rz (rz (.cons ⟨rfl,Um (ck:=A4) (cv:=(fun x=>[.s x]))⟩ .nil))))<|AB<|AB<|rs 17 (Z0F b) ⟨[(Gl types),(2,tP 2 0),(5,tP 5 0),(17,.av (.one (.clo 146 1 (Am [.eptr 1 1 (fun _ j=>((Fs b):List Cl).getD j default) 0 0]))))],[(G5 b),MG,(14,.omap false 1 ([]:List (Ab×ByteArray)).length (kfG A4 ([]:List (Ab×ByteArray))) (vfG (fun x=>[.s x]) ([]:List (Ab×ByteArray))))]⟩ (cPu<|QK b.Nets)<|AE<|AM<|BE (Cv.trans (vr 2 3002 hk0) (Cv.trans (vr 5 3005 hk0) (wr (⟨(Dn types [(17,.av (.one (.clo 146 1 (Am [.eptr 1 1 (fun _ j=>((Fs b):List Cl).getD j default) 0 0]))))]),[(B3 b),B4,(3014,.omap false 1 ([]:List (Ab×ByteArray)).length (kfG A4 ([]:List (Ab×ByteArray))) (vfG (fun x=>[.s x]) ([]:List (Ab×ByteArray))))]⟩) 14 3014 hk0))) ?_
 refine HN (ι:=List (Ab×ByteArray)) [3002,3005,3014] 299999 3002 9999 299998 (fun x=>[(3002,.cells (B1 b) 41),(3005,.cells [.om 3014] 211),(3014,.omap false 1 x.length (kfG A4 x) (vfG (fun x=>[.s x]) x))]) (fun x0=>[(1,tO (lst 3 AN.c types)),(2,tP 3002 0),(5,tP 3005 0),(7,.av (.one (.eptr 2 1 (gD (Bz.c (b.Nets.getD (b.Nets.length-1-x0.val) default))) 0 0))),(17,.av (.one (.clo 146 1 (Am [.eptr 1 1 (fun _ j=>([lst 2 Bz.c b.Nets]:List Cl).getD j default) 0 0]))))]) (fun j x=>True) (fun y x=>DU b types (b.Nets.length-y) y x=C0 b types) ([]:List (Ab×ByteArray)) (fun _=>rfl) kr kr (fun _ _=>kr) (YR b.Nets oM) (fun i _=>LU (by simp only [List.forall_mem_cons];exact ⟨(CL (by simp only [List.forall_mem_cons];exact ⟨(Bc Ig),fun x hx=>by cases hx⟩)),fun x hx=>by cases hx⟩) i) kr (fun _=>by kernel_rfl) (fun _=>rfl) (fun _=>rfl) (fun x=>(Bg (p:=BkN) (by simp only [List.forall_mem_cons];exact ⟨Jm (ED _),Jm (by simp only [List.forall_mem_cons];exact ⟨(.om _),fun x hx=>by cases hx⟩),YQ (fun x y hy=>by rw [List.mem_singleton.1 hy];exact (.val _)),fun x hx=>by cases hx⟩))) (fun x0=>(Bg (p:=TvM) (by simp only [List.forall_mem_cons];exact ⟨A9 (Bc FR),A9 (.ptr _ _),A9 (.ptr _ _),A9 (CL (Ig _)),A9 (Ov (by simp only [List.forall_mem_cons];exact ⟨(CL (by simp only [List.forall_mem_cons];exact ⟨(Bc Ig),fun x hx=>by cases hx⟩)),fun x hx=>by cases hx⟩)),fun x hx=>by cases hx⟩))) (fun _=>by kernel_rfl) ax0 (by simp only [C0,Nat.sub_zero,cond_true,cond_false]) (fun l1 W1 M1 X1 x0 j AH hinv hPX => ?_) (fun l2 W2 M2 X2 x0 j AH hPX hj hinv => ?_) (fun AH hinv hF0 => ?_)
 ·have hinv0:True:=hinv;clear hinv
  refine CW<|rg ⟨(Dn types [(7,tP 7 0),(17,.av (.one (.clo 146 1 (Am [.eptr 1 1 (fun _ j=>((Fs b):List Cl).getD j default) 0 0]))))]),[(7,.cells (Bz.c (C7 b x0.val)) 120),(B3 b),B4,(3014,.omap false 1 AH.length (kfG A4 AH) (vfG (fun x=>[.s x]) AH))]⟩ ?_
  exact ⟨_,Cv.trans (IJ (⟨(Dn types [(Hl b x0.val),(17,.av (.one (.clo 146 1 (Am [.eptr 1 1 (fun _ j=>((Fs b):List Cl).getD j default) 0 0]))))]),[(B3 b),B4,(3014,.omap false 1 AH.length (kfG A4 AH) (vfG (fun x=>[.s x]) AH))]⟩) 7 (Bz.c (b.Nets.getD (b.Nets.length-1-x0.val) default)) 120 [3002,3005,3014] 299998 hPX kr (fun h=>by obtain ⟨_,h⟩:=h;cases h) kr kr kr) (Cv.refl _),rfl,rfl⟩
 ·have hinv0:True:=hinv;clear hinv
  obtain ⟨Xb0,hXb0⟩:∃ Xb,DU b types (b.Nets.length-x0.val) x0.val AH=Xb:=⟨_,rfl⟩
  have hF0:=hXb0
  rw [show b.Nets.length-x0.val=(b.Nets.length-(x0.val+1))+1 by have:=x0.isLt;omega] at hF0
  have hqx:=Eb (p:=fun n:Bz=>(n.Pins.length:Int)<=1000000) (by decide) hq (b.Nets.length-1-x0.val)
  refine CW<|AM<|AB<|rn ⟨(Dn types [(Hl b x0.val),(17,.av (.one (.clo 146 1 (Am [.eptr 1 1 (fun _ j=>((Fs b):List Cl).getD j default) 0 0])))),(JR b x0.val),(JS b x0.val),(23,tI 0)]),[(B3 b),B4,(3014,.omap false 1 AH.length (kfG A4 AH) (vfG (fun x=>[.s x]) AH))]⟩<|AM<|lpC (κ:=List (Ab×ByteArray)×Int) (fun x=>⟨(Dn types [(Hl b x0.val),(17,.av (.one (.clo 146 1 (Am [.eptr 1 1 (fun _ j=>((Fs b):List Cl).getD j default) 0 0])))),(JR b x0.val),(JS b x0.val),(23,tI x.2.2)]),[(B3 b),B4,(3014,.omap false 1 x.2.1.length (kfG A4 x.2.1) (vfG (fun x=>[.s x]) x.2.1))]⟩) (fun x=>(((b.Nets.getD (b.Nets.length-1-x0.val) default).Pins.length:Int)-x.2.2).toNat) (fun x=>(0<=x.2.2/\(x.2.2<=((b.Nets.getD (b.Nets.length-1-x0.val) default).Pins.length:Int)\/x.2.2=0))/\G2 b types AH x0.val (DU b types (b.Nets.length-(x0.val+1)) (x0.val+1)) x.1 x.2.1 x.2.2=Xb0) ?_ ((((b.Nets.getD (b.Nets.length-1-x0.val) default).Pins.length:Int)-0).toNat+1,AH,0) ⟨Nat.lt_succ_self _,⟨ax0,ax0⟩,(by rw [<- hF0];simp only [DU,cond_true,cond_false])⟩
  rintro n1 ⟨Ag,v23⟩ hm1 ⟨hinv1,hF1⟩
  try dsimp only at hm1 hinv1 hF1
  refine AB<|on<|AB<|kb (decide ((v23:Int)<((b.Nets.getD (b.Nets.length-1-x0.val) default).Pins.length:Int))) (fun h1 => ?_) (fun h1 => ?_)
  ·have g1:=oT h1
   refine AQ<|AE<|AB<|AM<|AB<|rc [] [0<=(v23:Int)/\(v23:Int)<(((b.Nets.getD (b.Nets.length-1-x0.val) default).Pins.length:Nat):Int)] ⟨(Dn types [(Hl b x0.val),(9,tP 9 0),(17,.av (.one (.clo 146 1 (Am [.eptr 1 1 (fun _ j=>((Fs b):List Cl).getD j default) 0 0])))),(JR b x0.val),(JS b x0.val),(23,tI v23)]),[(9,.cells (Ab.c ((C7 b x0.val).Pins.getD v23.toNat default)) 106),(B3 b),B4,(3014,.omap false 1 Ag.length (kfG A4 Ag) (vfG (fun x=>[.s x]) Ag))]⟩ .nil (H1 au0)<|AE ?_
   refine DR Cq [] [(999999,((DE As Ag ((C7 b x0.val).Pins.getD v23.toNat default)),(CF As Ag ((C7 b x0.val).Pins.getD v23.toNat default))))] [] [1,2,5,7,17,21,22,23] [3002,3005,3014] [Pe Tryz.prog eqE 106 Ag.length (kfG A4 Ag) (A4 ((b.Nets.getD (b.Nets.length-1-x0.val) default).Pins.getD v23.toNat default)) (DE As Ag ((b.Nets.getD (b.Nets.length-1-x0.val) default).Pins.getD v23.toNat default)) (CF As Ag ((b.Nets.getD (b.Nets.length-1-x0.val) default).Pins.getD v23.toNat default))] ⟨(Dn types [(Hl b x0.val),(17,.av (.one (.clo 146 1 (Am [.eptr 1 1 (fun _ j=>((Fs b):List Cl).getD j default) 0 0])))),(JR b x0.val),(JS b x0.val),(23,tI v23)]),[(B3 b),B4,(3014,.omap false 1 (bif DE As Ag ((C7 b x0.val).Pins.getD v23.toNat default) then Ag.length else Ag.length+1) (fun j=>bif Nat.beq j (bif DE As Ag ((C7 b x0.val).Pins.getD v23.toNat default) then CF As Ag ((C7 b x0.val).Pins.getD v23.toNat default) else Ag.length) then A4 ((C7 b x0.val).Pins.getD v23.toNat default) else kfG A4 Ag j) (fun j c=>bif Nat.beq j (bif DE As Ag ((C7 b x0.val).Pins.getD v23.toNat default) then CF As Ag ((C7 b x0.val).Pins.getD v23.toNat default) else Ag.length) then ([.s (C7 b x0.val).Name]:List Cl).getD c default else vfG (fun x=>[.s x]) Ag j c))]⟩ .nil kr (.cons (LX KC Lg _ _) .nil)<|A3<|AE ?_
   refine BE (Es (⟨(Dn types [(Hl b x0.val),(17,.av (.one (.clo 146 1 (Am [.eptr 1 1 (fun _ j=>((Fs b):List Cl).getD j default) 0 0])))),(JR b x0.val),(JS b x0.val),(23,tI v23)]),[(B3 b),B4,(3014,.omap false 1 (Fw As Ag ((C7 b x0.val).Pins.getD v23.toNat default) (C7 b x0.val).Name).length (kfG A4 (Fw As Ag ((C7 b x0.val).Pins.getD v23.toNat default) (C7 b x0.val).Name)) (vfG (fun x=>[.s x]) (Fw As Ag ((C7 b x0.val).Pins.getD v23.toNat default) (C7 b x0.val).Name)))]⟩) lr (rz (rz (.cons ⟨rfl,Ul (ck:=A4) (cv:=(fun x=>[.s x])) (eq:=As) Ag ((b.Nets.getD (b.Nets.length-1-x0.val) default).Pins.getD v23.toNat default) (b.Nets.getD (b.Nets.length-1-x0.val) default).Name [.s (b.Nets.getD (b.Nets.length-1-x0.val) default).Name] rfl⟩ .nil)))) ?_
   refine rg ⟨(Dn types [(Hl b x0.val),(17,.av (.one (.clo 146 1 (Am [.eptr 1 1 (fun _ j=>((Fs b):List Cl).getD j default) 0 0])))),(JR b x0.val),(JS b x0.val),(23,tI (W64 (v23+1)))]),[(B3 b),B4,(3014,.omap false 1 (Fw As Ag ((C7 b x0.val).Pins.getD v23.toNat default) (C7 b x0.val).Name).length (kfG A4 (Fw As Ag ((C7 b x0.val).Pins.getD v23.toNat default) (C7 b x0.val).Name)) (vfG (fun x=>[.s x]) (Fw As Ag ((C7 b x0.val).Pins.getD v23.toNat default) (C7 b x0.val).Name)))]⟩ ?_
   (try rw [(show W64 (v23+1)=v23+1 from Ae oM au3)])
   refine AE ?_
   refine ⟨(n1,Fw As Ag ((b.Nets.getD (b.Nets.length-1-x0.val) default).Pins.getD v23.toNat default) (b.Nets.getD (b.Nets.length-1-x0.val) default).Name,v23+1),⟨?_,?_,(by rw [<- hF1];simp only [G2,h1,cond_true,cond_false])⟩,Nat.lt_succ_self _,Al kr⟩
   ·dsimp only;omega
   exact ⟨ax0,ax0⟩
  have g1:=oF h1
  refine An<|Ai<|Ai<|Ao<|A3 ?_
  refine ⟨_,Cv.trans (ck (⟨(Dn types [(17,.av (.one (.clo 146 1 (Am [.eptr 1 1 (fun _ j=>((Fs b):List Cl).getD j default) 0 0]))))]),[(B3 b),B4,(3014,.omap false 1 Ag.length (kfG A4 Ag) (vfG (fun x=>[.s x]) Ag))]⟩)) (Cv.refl _),rfl,Ag,ax0,fun hk hF => ?_,fun _ _ h=>h⟩
  have e0:DU b types (b.Nets.length-(x0.val+1)) (x0.val+1) Ag=Xb0:=by
   rw [<- hF1]
   first | (simp only [G2,h1,cond_true,cond_false] <;> rfl)
  subst hk
  change DU b types (b.Nets.length-x0.val) x0.val AH=C0 b types at hF
  show DU b types (b.Nets.length-(x0.val+1)) (x0.val+1) Ag=C0 b types
  exact e0.trans (hXb0.symm.trans hF)
 have hinv0:True:=hinv;clear hinv
 change DU b types (b.Nets.length-b.Nets.length) b.Nets.length AH=C0 b types at hF0
 rw [Nat.sub_self] at hF0
 refine A3<|AE<|AB<|on<|AB<|AB<|rs 34 (Z0G b types) ⟨[(2,tP 3002 0),(5,tP 3005 0),(10,tP 10 0),(Kb b types)],[(10,.cells [vN] 50),(B3 b),B4,(3014,.omap false 1 AH.length (kfG A4 AH) (vfG (fun x=>[.s x]) AH))]⟩ (cPu<|nY b types)<|AE<|AM<|BE (Cv.trans (vr 10 3010 hk0) (Cv.trans (vk [2,5,10,34] [3002,3005,3010,3014]) (Cv.trans (vg 2000 9 (fun _ _=>default) 61 [] [(3010,[0])] hk0) (KD (⟨((FK [(Kb b types)])),[(2000,.row 9 ([]:List AL).length (AP AL.cE ([]:List AL)) 61),(B3 b),B4,(3010,.cells [.own 2000 9 ([]:List AL).length] 50),(3014,.omap false 1 AH.length (kfG A4 AH) (vfG (fun x=>[.s x]) AH))]⟩) 2000 (B9 9 (fun _ _=>default) AL.cE))))) ?_
 refine HN (ι:=List AL) [3002,3005,3010,3014] 299999 3010 0 2000 (fun x=>[(2000,.row 9 x.length (AP AL.cE x) 61),(3002,.cells (B1 b) 41),(3005,.cells [.om 3014] 211),(3010,.cells [.own 2000 9 x.length] 50),(3014,.omap false 1 AH.length (kfG A4 AH) (vfG (fun x=>[.s x]) AH))]) (fun x2=>[(2,tP 3002 0),(5,tP 3005 0),(10,tP 3010 0),(11,.av (.one (.eptr 7 1 (gD (AF.c ((AU b types).getD x2.val default).1)) 0 0))),(12,.av (.one (.eptr 7 1 (gD (BH.c ((AU b types).getD x2.val default).2)) 0 0))),(34,.av (.one (.clo 147 2 (Am [.eptr 15 1 (gD (B1 b)) 0 0,.eptr 1 1 (gD [lst 3 AN.c types]) 0 0]))))]) (fun j x=>x.length<=j) (fun y x=>Dt b types AH (fun _=>default) ((AU b types).length-y) y x=C0 b types) ([]:List AL) (fun _=>rfl) kr kr (fun _ _=>kr) (Xa b types hp ht) (fun i _=>LU (by simp only [List.forall_mem_cons];exact ⟨(CL (ED _)),(CL (by simp only [List.forall_mem_cons];exact ⟨(Bc FR),fun x hx=>by cases hx⟩)),fun x hx=>by cases hx⟩) i) kr (fun _=>by kernel_rfl) (fun _=>rfl) (fun _=>rfl) (fun x=>(Bg (p:=BkN) (by simp only [List.forall_mem_cons];exact ⟨iO eW,Jm (ED _),Jm (by simp only [List.forall_mem_cons];exact ⟨(.om _),fun x hx=>by cases hx⟩),Jm (by simp only [List.forall_mem_cons];exact ⟨(.own _ _ _),fun x hx=>by cases hx⟩),YQ (fun x y hy=>by rw [List.mem_singleton.1 hy];exact (.val _)),fun x hx=>by cases hx⟩))) (fun x2=>(Bg (p:=TvM) (by simp only [List.forall_mem_cons];exact ⟨A9 (.ptr _ _),A9 (.ptr _ _),A9 (.ptr _ _),A9 (CL (E3 _)),A9 (CL (Ie _)),A9 (Ov (by simp only [List.forall_mem_cons];exact ⟨(CL (ED _)),(CL (by simp only [List.forall_mem_cons];exact ⟨(Bc FR),fun x hx=>by cases hx⟩)),fun x hx=>by cases hx⟩)),fun x hx=>by cases hx⟩))) (fun _=>by kernel_rfl) ax0 (by rw [<- hF0];simp only [DU,Nat.sub_zero,cond_true,cond_false]) (fun l1 W1 M1 X1 x2 j Ac hinv hPX => ?_) (fun l2 W2 M2 X2 x2 j Ac hPX hj hinv => ?_) (fun Ac hinv hF2 => ?_)
 ·have hinv2:Ac.length<=j:=hinv;clear hinv
  refine CW<|AB<|on<|rg ⟨(FK [(11,tP 11 0),(12,tP 12 0),(Kb b types)]),[(11,.cells (AF.c ((AU b types).getD x2.val default).1) 78),(12,.cells (W6 b types x2.val) 102),(JV Ac),(B3 b),B4,(Gj Ac),(3014,.omap false 1 AH.length (kfG A4 AH) (vfG (fun x=>[.s x]) AH))]⟩ ?_
  exact ⟨_,Cv.trans (IJ (⟨(FK [(S3 b types x2.val),(12,tP 12 0),(Kb b types)]),[(12,.cells (W6 b types x2.val) 102),(JV Ac),(B3 b),B4,(Gj Ac),(3014,.omap false 1 AH.length (kfG A4 AH) (vfG (fun x=>[.s x]) AH))]⟩) 11 (AF.c ((AU b types).getD x2.val default).1) 78 [3002,3005,3010,3014] 2000 hPX kr (fun _=>⟨_,rfl⟩) kr kr kr) (IJ (⟨(FK [(S3 b types x2.val),(aJ b types x2.val),(Kb b types)]),[(JV Ac),(B3 b),B4,(Gj Ac),(3014,.omap false 1 AH.length (kfG A4 AH) (vfG (fun x=>[.s x]) AH))]⟩) 12 (BH.c ((AU b types).getD x2.val default).2) 102 [3002,3005,3010,3014] 2000 hPX kr (fun _=>⟨_,rfl⟩) kr kr kr),rfl,rfl⟩
 ·have hinv2:Ac.length<=j:=hinv;clear hinv
  obtain ⟨Xb2,hXb2⟩:∃ Xb,Dt b types AH (fun _=>default) ((AU b types).length-x2.val) x2.val Ac=Xb:=⟨_,rfl⟩
  have hF2:=hXb2
  rw [show (AU b types).length-x2.val=((AU b types).length-(x2.val+1))+1 by have:=x2.isLt;omega] at hF2
  have hpe:=QM (b:=b) ht x2.val
  refine CW<|AM<|AB<|Nv UA Cq [] [(47,((DE As AH (NT b types x2.val)),(CF As AH (NT b types x2.val))))] [] [2,5,10,11,12,13,34] [13,2000,3002,3005,3010,3014] [Pe Tryz.prog eqE 106 AH.length (kfG A4 AH) (A4 (Ab.mk ((AU b types).getD x2.val default).1.Ref ((AU b types).getD x2.val default).2.Name)) (DE As AH (Ab.mk ((AU b types).getD x2.val default).1.Ref ((AU b types).getD x2.val default).2.Name)) (CF As AH (Ab.mk ((AU b types).getD x2.val default).1.Ref ((AU b types).getD x2.val default).2.Name))] ⟨(S5 b types x2.val),[(Rq b types x2.val AH),(JV Ac),(B3 b),B4,(Gj Ac),(3014,.omap false 1 AH.length (kfG A4 AH) (vfG (fun x=>[.s x]) AH))]⟩ .nil kr kr (.cons (LX KC Lg _ _) .nil)<|AE<|AB<|AB<|rn ⟨(bB b types x2.val),[(Rq b types x2.val AH),(JV Ac),(B3 b),B4,(Gj Ac),(3014,.omap false 1 AH.length (kfG A4 AH) (vfG (fun x=>[.s x]) AH))]⟩ ?_
  refine Bd (⟨(S5 b types x2.val),[(13,.cells (MB b types x2.val [.s (bif DE As AH (NT b types x2.val) then (AH.getD (CF As AH (NT b types x2.val)) default).2 else ⟨#[]⟩),.i (bif decide ((((AU b types).getD x2.val default).2.Drill:Int)=0) then (Ck b ((AU b types).getD x2.val default).1) else 1),.i (bif decide ((((AU b types).getD x2.val default).2.Drill:Int)=0) then (Ck b ((AU b types).getD x2.val default).1) else b.Layers),.i 0,vN,.i 0]) 61),(JV Ac),(B3 b),B4,(Gj Ac),(3014,.omap false 1 AH.length (kfG A4 AH) (vfG (fun x=>[.s x]) AH))]⟩) ?_ ?_
  ·refine Ap _ rfl (fun h1 => ?_) (fun h1 => ?_)
   ·refine dO [] _ [none,none] ⟨(S5 b types x2.val),[(bD b types x2.val AH),(JV Ac),(B3 b),B4,(Gj Ac),(3014,.omap false 1 AH.length (kfG A4 AH) (vfG (fun x=>[.s x]) AH))]⟩ (J2 56 59 (SA b ((AU b types).getD x2.val default).1) (SA b ((AU b types).getD x2.val default).1)) .nil<|AE<|Al ?_
    first | rfl | (simp only [h1,cond_true,cond_false] <;> rfl)
   refine AQ<|AE<|Cv.trans (ck (⟨(S5 b types x2.val),[(13,.cells (MB b types x2.val [.s (bif DE As AH (NT b types x2.val) then (AH.getD (CF As AH (NT b types x2.val)) default).2 else ⟨#[]⟩),.i 1,.i b.Layers,.i 0,vN,.i 0]) 61),(JV Ac),(B3 b),B4,(Gj Ac),(3014,.omap false 1 AH.length (kfG A4 AH) (vfG (fun x=>[.s x]) AH))]⟩)) (Al ?_)
   first | rfl | (simp only [h1,cond_true,cond_false] <;> rfl)
  refine AB<|oe [] _ [none,none] (J2 65 66 (Ou ((AU b types).getD x2.val default).1) (lJ ((AU b types).getD x2.val default).2.Shape (BS ((AU b types).getD x2.val default).1) au10)) .nil<|AE<|rc [] [Ac.length=Ac.length,Ac.length+1<=maxLen,(Ac.length+1)*104<=140737488355328] ⟨((FK [(Kb b types)])),[(71,.row 9 (Ac.length+1) (fun i_ j_=>if i_<Ac.length then (AP AL.cE Ac) i_ j_ else (BG 9 1 (MB b types x2.val [.s (Yj AH b types x2.val),.i (W9 b types x2.val),.i (XC b types x2.val),.i (W8 b types x2.val).Kind,.ed (List.length (W8 b types x2.val).Edges),.i (W8 b types x2.val).R])) (i_-Ac.length) j_) 61),(B3 b),B4,(3010,.cells [.own 71 9 (Ac.length+1)] 50),(3014,.omap false 1 AH.length (kfG A4 AH) (vfG (fun x=>[.s x]) AH))]⟩ .nil (H3 rfl au2 au2)<|A3 ?_
  refine ⟨_,Cv.trans (A5 71 (BF (A1 9 AL.cE Ac) (BC 9 AL.cE ([AL.mk ((AU b types).getD x2.val default).1.Id ((AU b types).getD x2.val default).2.Name 1 (bif DE As AH (Ab.mk ((AU b types).getD x2.val default).1.Ref ((AU b types).getD x2.val default).2.Name) then (AH.getD (CF As AH (Ab.mk ((AU b types).getD x2.val default).1.Ref ((AU b types).getD x2.val default).2.Name)) default).2 else ⟨#[]⟩) (bif decide ((((AU b types).getD x2.val default).2.Drill:Int)=0) then (Ck b ((AU b types).getD x2.val default).1) else 1) (bif decide ((((AU b types).getD x2.val default).2.Drill:Int)=0) then (Ck b ((AU b types).getD x2.val default).1) else b.Layers) (Gh ((AU b types).getD x2.val default).2.Shape (BS ((AU b types).getD x2.val default).1))]:List AL)))) (wr (⟨((FK [(Kb b types)])),[(2000,.row 9 (Ac++(VR b types x2.val AH)).length (AP AL.cE (Ac++(VR b types x2.val AH))) 61),(B3 b),B4,(3010,.cells [.own 2000 9 (Ac++(VR b types x2.val AH)).length] 50),(3014,.omap false 1 AH.length (kfG A4 AH) (vfG (fun x=>[.s x]) AH))]⟩) 71 2000 (K:=[299999,3002,3005,3010,3014]) (fun k x h=>.inl (hPX k x h))),rfl,(Ac++[AL.mk ((AU b types).getD x2.val default).1.Id ((AU b types).getD x2.val default).2.Name 1 (bif DE As AH (Ab.mk ((AU b types).getD x2.val default).1.Ref ((AU b types).getD x2.val default).2.Name) then (AH.getD (CF As AH (Ab.mk ((AU b types).getD x2.val default).1.Ref ((AU b types).getD x2.val default).2.Name)) default).2 else ⟨#[]⟩) (bif decide ((((AU b types).getD x2.val default).2.Drill:Int)=0) then (Ck b ((AU b types).getD x2.val default).1) else 1) (bif decide ((((AU b types).getD x2.val default).2.Drill:Int)=0) then (Ck b ((AU b types).getD x2.val default).1) else b.Layers) (Gh ((AU b types).getD x2.val default).2.Shape (BS ((AU b types).getD x2.val default).1))]),ax0,fun hk hF => ?_,fun _ _ h=>h⟩
  have e0:Dt b types AH (fun _=>default) ((AU b types).length-(x2.val+1)) (x2.val+1) (Ac++[AL.mk ((AU b types).getD x2.val default).1.Id ((AU b types).getD x2.val default).2.Name 1 (bif DE As AH (Ab.mk ((AU b types).getD x2.val default).1.Ref ((AU b types).getD x2.val default).2.Name) then (AH.getD (CF As AH (Ab.mk ((AU b types).getD x2.val default).1.Ref ((AU b types).getD x2.val default).2.Name)) default).2 else ⟨#[]⟩) (bif decide ((((AU b types).getD x2.val default).2.Drill:Int)=0) then (Ck b ((AU b types).getD x2.val default).1) else 1) (bif decide ((((AU b types).getD x2.val default).2.Drill:Int)=0) then (Ck b ((AU b types).getD x2.val default).1) else b.Layers) (Gh ((AU b types).getD x2.val default).2.Shape (BS ((AU b types).getD x2.val default).1))])=Xb2:=by
   rw [<- hF2]
   first | (simp only [Dt,cond_true,cond_false] <;> rfl)
  subst hk
  change Dt b types AH (fun _=>default) ((AU b types).length-x2.val) x2.val Ac=C0 b types at hF
  show Dt b types AH (fun _=>default) ((AU b types).length-(x2.val+1)) (x2.val+1) (Ac++[AL.mk ((AU b types).getD x2.val default).1.Id ((AU b types).getD x2.val default).2.Name 1 (bif DE As AH (Ab.mk ((AU b types).getD x2.val default).1.Ref ((AU b types).getD x2.val default).2.Name) then (AH.getD (CF As AH (Ab.mk ((AU b types).getD x2.val default).1.Ref ((AU b types).getD x2.val default).2.Name)) default).2 else ⟨#[]⟩) (bif decide ((((AU b types).getD x2.val default).2.Drill:Int)=0) then (Ck b ((AU b types).getD x2.val default).1) else 1) (bif decide ((((AU b types).getD x2.val default).2.Drill:Int)=0) then (Ck b ((AU b types).getD x2.val default).1) else b.Layers) (Gh ((AU b types).getD x2.val default).2.Shape (BS ((AU b types).getD x2.val default).1))])=C0 b types
  exact e0.trans (hXb2.symm.trans hF)
 have hinv2:Ac.length<=(AU b types).length:=hinv;clear hinv
 change Dt b types AH (fun _=>default) ((AU b types).length-(AU b types).length) (AU b types).length Ac=C0 b types at hF2
 rw [Nat.sub_self] at hF2
 exact A3<|AE<|AB<|on<|AW<|xl (tO (.own 2000 9 Ac.length)) (frE (c:=AL.cE) (xs:=Ac) (by rw [<- hF2];first | (simp only [Dt,cond_true,cond_false] <;> rfl)) kr)
def sB:CT:=(51,(Ke b types),.new [] (.row 9 (C0 b types).length (AP AL.cE (C0 b types)) 61) (fun d=>.av (.one (.own d 9 (C0 b types).length))))
theorem lH (b:AG) (types:(List AN)) (hn:(b.Nets.length:Int)<=1000000) (hp:b.Parts.length<20) (ht:Bt types) (hm:((AU b types).length:Int)<=20000000) (hq:∀ n∈b.Nets,(n.Pins.length:Int)<=1000000):OKc (sB b types):=Bx (fun _ _=>kr) (pQ b types hn hp ht hm hq)
def X4 (b:AG) (v:List (Ab×ByteArray)) (x:AF×BH):AL:=AL.mk x.1.Id x.2.Name 1 (bif DE As v (Ab.mk x.1.Ref x.2.Name) then (v.getD (CF As v (Ab.mk x.1.Ref x.2.Name)) default).2 else ⟨#[]⟩) (bif decide (x.2.Drill=0) then Ck b x.1 else 1) (bif decide (x.2.Drill=0) then Ck b x.1 else b.Layers) (Gh x.2.Shape (BS x.1))
section
 open Go.Proofs.YtheobjkgllmnmaaGreat renaming Dt→mp0,X4→mp1,C0→mp2,DU→mp3,G2→mp4
theorem RO (b:AG) (types:List AN):C0 b types=(AU b types).map (X4 b (eV b)):=mac9
end
theorem Wz (b:AG) (types:List AN):(C0 b types).length=(AU b types).length:=by rw [RO,List.length_map]
def Z0H:CT:=(107,[.one (lst 6 AV.c b.Tracks),.one (.clo 108 0 dfc),.one (.clo 109 0 dfc)],.new [] (.row 6 (CY b.Tracks).length (AP AV.c (CY b.Tracks)) 150) (fun d=>.av (.one (.own d 6 (CY b.Tracks).length))))
def BI (b:AG):(List AV):=CY b.Tracks
theorem cS (b:AG) (hl:b.Tracks.length<20):Fr Tryz.prog 52 [.agg (B1 b)] (.row 6 (BI b).length (AP AV.c (BI b)) 150) (fun d=>tO (.own d 6 (BI b).length)):=by
 refine CN Tryz.func52 rfl kr (C2 _ _) fun W0 M0 => ?_
 exact AB<|on<|AB<|oq 5 (Z0H b) (Bx (fun _ _=>kr) (TW b.Tracks au6))<|AE<|AW<|xl (tO (.own 5 6 (CY b.Tracks).length)) (frE (c:=AV.c) (xs:=CY b.Tracks) (by rfl) kr)
def gZ:CT:=(52,[.agg (B1 b)],.new [] (.row 6 (BI b).length (AP AV.c (BI b)) 150) (fun d=>.av (.one (.own d 6 (BI b).length))))
theorem ZM (b:AG) (hl:b.Tracks.length<20):OKc (gZ b):=Bx (fun _ _=>kr) (cS b hl)
theorem Sp (b:AG):(BI b).length=b.Tracks.length:=Js b
def Z0I:CT:=(110,[.one (lst 8 Aw.c b.Vias),.one (.clo 111 0 dfc),.one (.clo 112 0 dfc)],.new [] (.row 8 (CX b.Vias).length (AP Aw.c (CX b.Vias)) 154) (fun d=>.av (.one (.own d 8 (CX b.Vias).length))))
def BU (b:AG):(List Aw):=CX b.Vias
theorem pN (b:AG) (hl:b.Vias.length<20):Fr Tryz.prog 54 [.agg (B1 b)] (.row 8 (BU b).length (AP Aw.c (BU b)) 154) (fun d=>tO (.own d 8 (BU b).length)):=by
 refine CN Tryz.func54 rfl kr (C2 _ _) fun W0 M0 => ?_
 exact AB<|on<|AB<|oq 5 (Z0I b) (Bx (fun _ _=>kr) (TV b.Vias au6))<|AE<|AW<|xl (tO (.own 5 8 (CX b.Vias).length)) (frE (c:=Aw.c) (xs:=CX b.Vias) (by rfl) kr)
def rV:CT:=(54,[.agg (B1 b)],.new [] (.row 8 (BU b).length (AP Aw.c (BU b)) 154) (fun d=>.av (.one (.own d 8 (BU b).length))))
theorem Xe (b:AG) (hl:b.Vias.length<20):OKc (rV b):=Bx (fun _ _=>kr) (pN b hl)
theorem Pf (b:AG):(BU b).length=b.Vias.length:=KF b
def Z0J:CT:=(115,[.one (lst 7 AF.c b.Parts),.one (.clo 116 0 dfc),.one (.clo 117 0 dfc)],.new [] (.row 7 (Ca b.Parts).length (AP AF.c (Ca b.Parts)) 160) (fun d=>.av (.one (.own d 7 (Ca b.Parts).length))))
def Dm (b:AG):(List AF):=Ca b.Parts
theorem kD (b:AG) (hl:b.Parts.length<20):Fr Tryz.prog 61 [.agg (B1 b)] (.row 7 (Dm b).length (AP AF.c (Dm b)) 160) (fun d=>tO (.own d 7 (Dm b).length)):=by
 refine CN Tryz.func61 rfl kr (C2 _ _) fun W0 M0 => ?_
 exact AB<|on<|AB<|oq 5 (Z0J b) (Bx (fun _ _=>kr) (TY b.Parts au6))<|AE<|AW<|xl (tO (.own 5 7 (Ca b.Parts).length)) (frE (c:=AF.c) (xs:=Ca b.Parts) (by rfl) kr)
def mS:CT:=(61,[.agg (B1 b)],.new [] (.row 7 (Dm b).length (AP AF.c (Dm b)) 160) (fun d=>.av (.one (.own d 7 (Dm b).length))))
theorem dW (b:AG) (hl:b.Parts.length<20):OKc (mS b):=Bx (fun _ _=>kr) (kD b hl)
theorem U0 (b:AG):(Dm b).length=b.Parts.length:=Pi b
def Z0K:CT:=(120,[.one (lst 4 Aj.c b.Slots),.one (.clo 121 0 dfc),.one (.clo 122 0 dfc)],.new [] (.row 4 (CZ b.Slots).length (AP Aj.c (CZ b.Slots)) 165) (fun d=>.av (.one (.own d 4 (CZ b.Slots).length))))
def FZ (b:AG):(List Aj):=CZ b.Slots
theorem kC (b:AG) (hl:b.Slots.length<20):Fr Tryz.prog 64 [.agg (B1 b)] (.row 4 (FZ b).length (AP Aj.c (FZ b)) 165) (fun d=>tO (.own d 4 (FZ b).length)):=by
 refine CN Tryz.func64 rfl kr (C2 _ _) fun W0 M0 => ?_
 exact AB<|on<|AB<|oq 5 (Z0K b) (Bx (fun _ _=>kr) (TX b.Slots au6))<|AE<|AW<|xl (tO (.own 5 4 (CZ b.Slots).length)) (frE (c:=Aj.c) (xs:=CZ b.Slots) (by rfl) kr)
def mR:CT:=(64,[.agg (B1 b)],.new [] (.row 4 (FZ b).length (AP Aj.c (FZ b)) 165) (fun d=>.av (.one (.own d 4 (FZ b).length))))
theorem dV (b:AG) (hl:b.Slots.length<20):OKc (mR b):=Bx (fun _ _=>kr) (kC b hl)
theorem Uz (b:AG):(FZ b).length=b.Slots.length:=LE b
def Z0L:AO:=LF ((BU b).getD v39.toNat default).At ((BU b).getD v39.toNat default).R
def Z0M:AO:=((BI b).getD v16.toNat default).Shape
def HT (b:AG) (types:(List AN)) (out:List AL) (v16:Int) (K0:List AL->Int->(List AL)):Nat->List AL->Int->(List AL)
 | 0,_,_=>default
 | n1+1,out',v39=>bif decide ((v39:Int)<(((BU b).length:Nat):Int)) then ((HT b types out v16 K0 n1) (out'++[AL.mk ((BU b).getD v39.toNat default).Id (⟨#[]⟩) 3 ((BU b).getD v39.toNat default).Net ((BU b).getD v39.toNat default).From ((BU b).getD v39.toNat default).To (Z0L b v39)]) (v39+1)) else out'
def Ff (b:AG) (types:(List AN)):Nat->List AL->Int->(List AL)
 | 0,_,_=>default
 | n0+1,out,v16=>bif decide ((v16:Int)<(((BI b).length:Nat):Int)) then ((Ff b types n0) (out++[AL.mk ((BI b).getD v16.toNat default).Id (⟨#[]⟩) 2 ((BI b).getD v16.toNat default).Net ((BI b).getD v16.toNat default).Layer ((BI b).getD v16.toNat default).Layer (GU (Z0M b v16))]) (v16+1)) else (HT b types out v16 (Ff b types n0) (((((BU b).length:Nat):Int)-0).toNat+1) out 0)
def IV (b:AG) (types:(List AN)):(List AL):=Ff b types (((((BI b).length:Nat):Int)-0).toNat+1) (C0 b types) 0
abbrev aC:=[AL.mk ((BI b).getD v16.toNat default).Id (⟨#[]⟩) 2 ((BI b).getD v16.toNat default).Net ((BI b).getD v16.toNat default).Layer ((BI b).getD v16.toNat default).Layer (GU (Z0M b v16))]
abbrev aA:=[AL.mk ((BU b).getD v39.toNat default).Id (⟨#[]⟩) 3 ((BU b).getD v39.toNat default).Net ((BU b).getD v39.toNat default).From ((BU b).getD v39.toNat default).To (Z0L b v39)]
abbrev VD:Nat×Blk:=(14,.row 6 (BI b).length (AP AV.c (BI b)) 150)
abbrev VB:Nat×Blk:=(37,.row 8 (BU b).length (AP Aw.c (BU b)) 154)
theorem qAllE (b:AG) (types:(List AN)) (hb:HV b) (ht:Bt types):Fr Tryz.prog 14 [.agg (B1 b),.one (lst 3 AN.c types)] (.row 9 (IV b types).length (AP AL.cE (IV b types)) 61) (fun d=>tO (.own d 9 (IV b types).length)):=by
 refine CN Tryz.func14 rfl kr (C2 _ _) fun W0 M0 => ?_
 have hpl:=Gt hb.parts ht
 have hp1:=Wz b types
 have ht1:=Sp b
 have hv1:=Pf b
 have hb1:=hb.tracks
 have hb2:=hb.vias
 refine AB<|on<|AB<|oq 12 _ (lH b types au6 au6 au6 au6 au6)<|AE<|AB<|AB<|rs 14 _ ⟨[(2,tP 2 0),(5,tO (.own 12 9 (C0 b types).length)),(14,tO (.own 14 6 (BI b).length)),(15,tI (((BI b).length:Nat):Int)),(16,tI 0)],[(G5 b),(12,.row 9 (C0 b types).length (AP AL.cE (C0 b types)) 61),(VD b)]⟩ (ZM b au6)<|AE<|AM<|lpC (κ:=List AL×Int) (fun x=>⟨[(2,tP 2 0),(5,tO (.own 12 9 x.2.1.length)),(14,tO (.own 14 6 (BI b).length)),(15,tI (((BI b).length:Nat):Int)),(16,tI x.2.2)],[(G5 b),(12,.row 9 x.2.1.length (AP AL.cE x.2.1) 61),(VD b)]⟩) (fun x=>((((BI b).length:Nat):Int)-x.2.2).toNat) (fun x=>(0<=x.2.2/\(x.2.2<=(((BI b).length:Nat):Int)\/x.2.2=0)/\(x.2.1.length:Int)<=((C0 b types).length:Int)+1*(x.2.2-0))/\Ff b types x.1 x.2.1 x.2.2=IV b types) ?_ (((((BI b).length:Nat):Int)-0).toNat+1,C0 b types,0) ⟨Nat.lt_succ_self _,⟨ax0,ax0,ax0⟩,(by simp only [IV,cond_true,cond_false])⟩
 rintro n0 ⟨out,v16⟩ hm0 ⟨hinv0,hF0⟩
 try dsimp only at hm0 hinv0 hF0
 refine AB<|on<|AB<|kb (decide ((v16:Int)<(((BI b).length:Nat):Int))) (fun h1 => ?_) (fun h1 => ?_)
 ·have g1:=oT h1
  refine AQ<|AE<|AB<|AM<|AB<|oc [] [0<=(v16:Int)/\(v16:Int)<(((BI b).length:Nat):Int),v16.toNat<(BI b).length] .nil (H2 au0 au0)<|AE<|oe [] _ [none,out.length=out.length,out.length+1<=maxLen,(out.length+1)*104<=140737488355328] (J1 31 (QN (Z0M b v16) au6)) (H3 rfl au2 au2)<|A3<|AE<|BE (A5 34 (BF (A1 9 AL.cE out) (BC 9 AL.cE ([AL.mk ((BI b).getD v16.toNat default).Id (⟨#[]⟩) 2 ((BI b).getD v16.toNat default).Net ((BI b).getD v16.toNat default).Layer ((BI b).getD v16.toNat default).Layer (GU (Z0M b v16))]:List AL))))<|rg ⟨[(2,tP 2 0),(5,tO (.own 34 9 (out++(aC b v16)).length)),(14,tO (.own 14 6 (BI b).length)),(15,tI (((BI b).length:Nat):Int)),(16,tI (W64 (v16+1)))],[(G5 b),(VD b),(34,.row 9 (out++(aC b v16)).length (AP AL.cE (out++(aC b v16))) 61)]⟩ ?_
  (try rw [(show W64 (v16+1)=v16+1 from Ae oM au3)])
  refine AE ?_
  refine ⟨(n0,out++[AL.mk ((BI b).getD v16.toNat default).Id (⟨#[]⟩) 2 ((BI b).getD v16.toNat default).Net ((BI b).getD v16.toNat default).Layer ((BI b).getD v16.toNat default).Layer (GU (Z0M b v16))],v16+1),⟨?_,?_,(by rw [<- hF0];simp only [Ff,h1,cond_true,cond_false])⟩,Nat.lt_succ_self _,Cv.trans (vr 34 12 hk0) (Cv.trans (vk [2,5,14,15,16] [2,12,14]) (Al kr))⟩
  ·dsimp only;omega
  exact ⟨ax0,ax0,ax0⟩
 have g1:=oF h1
 refine An<|Ai<|Ai<|Ao<|AE<|AB<|AB<|rs 37 _ ⟨[(5,tO (.own 12 9 out.length)),(37,tO (.own 37 8 (BU b).length)),(38,tI (((BU b).length:Nat):Int)),(39,tI 0)],[(12,.row 9 out.length (AP AL.cE out) 61),(VB b)]⟩ (Xe b au6)<|AE<|AM<|lpC (κ:=List AL×Int) (fun x=>⟨[(5,tO (.own 12 9 x.2.1.length)),(37,tO (.own 37 8 (BU b).length)),(38,tI (((BU b).length:Nat):Int)),(39,tI x.2.2)],[(12,.row 9 x.2.1.length (AP AL.cE x.2.1) 61),(VB b)]⟩) (fun x=>((((BU b).length:Nat):Int)-x.2.2).toNat) (fun x=>(0<=x.2.2/\(x.2.2<=(((BU b).length:Nat):Int)\/x.2.2=0)/\(x.2.1.length:Int)<=(out.length:Int)+1*(x.2.2-0))/\HT b types out v16 (Ff b types n0) x.1 x.2.1 x.2.2=IV b types) ?_ (((((BU b).length:Nat):Int)-0).toNat+1,out,0) ⟨Nat.lt_succ_self _,⟨ax0,ax0,ax0⟩,(by rw [<- hF0];simp only [Ff,h1,cond_true,cond_false])⟩
 rintro n1 ⟨out',v39⟩ hm1 ⟨hinv1,hF1⟩
 try dsimp only at hm1 hinv1 hF1
 refine AB<|on<|AB<|kb (decide ((v39:Int)<(((BU b).length:Nat):Int))) (fun h2 => ?_) (fun h2 => ?_)
 ·have g2:=oT h2
  refine AQ<|AE<|AB<|AM<|AB<|oc [] [0<=(v39:Int)/\(v39:Int)<(((BU b).length:Nat):Int),v39.toNat<(BU b).length] .nil (H2 au0 au0)<|AE<|oe [] _ [none,out'.length=out'.length,out'.length+1<=maxLen,(out'.length+1)*104<=140737488355328] (J1 56 (Xi ((BU b).getD v39.toNat default).At ((BU b).getD v39.toNat default).R)) (H3 rfl au2 au2)<|A3<|AE<|BE (A5 59 (BF (A1 9 AL.cE out') (BC 9 AL.cE ([AL.mk ((BU b).getD v39.toNat default).Id (⟨#[]⟩) 3 ((BU b).getD v39.toNat default).Net ((BU b).getD v39.toNat default).From ((BU b).getD v39.toNat default).To (Z0L b v39)]:List AL))))<|rg ⟨[(5,tO (.own 59 9 (out'++(aA b v39)).length)),(37,tO (.own 37 8 (BU b).length)),(38,tI (((BU b).length:Nat):Int)),(39,tI (W64 (v39+1)))],[(VB b),(59,.row 9 (out'++(aA b v39)).length (AP AL.cE (out'++(aA b v39))) 61)]⟩ ?_
  (try rw [(show W64 (v39+1)=v39+1 from Ae oM au3)])
  refine AE ?_
  refine ⟨(n1,out'++[AL.mk ((BU b).getD v39.toNat default).Id (⟨#[]⟩) 3 ((BU b).getD v39.toNat default).Net ((BU b).getD v39.toNat default).From ((BU b).getD v39.toNat default).To (Z0L b v39)],v39+1),⟨?_,?_,(by rw [<- hF1];simp only [HT,h2,cond_true,cond_false])⟩,Nat.lt_succ_self _,Cv.trans (vr 59 12 hk0) (Cv.trans (vk [5,37,38,39] [12,37]) (Al kr))⟩
  ·dsimp only;omega
  exact ⟨ax0,ax0,ax0⟩
 exact An<|Ai<|Ai<|Ao<|AE<|AB<|on<|AW<|xl (tO (.own 12 9 out'.length)) (frE (c:=AL.cE) (xs:=out') (by rw [<- hF1];first | (simp only [HT,h2,cond_true,cond_false] <;> rfl)) kr)
def Fa (l:(List Aa)) (at_:AC) (drill:Int) (from_:Int) (to_:Int):(List Aa):=l++[Aa.mk (LF at_ (W64 (Int.tdiv drill 2))) from_ to_ true]
theorem dD (l:(List Aa)) (at_:AC) (drill:Int) (from_:Int) (to_:Int) (hl:l.length<30000000):WrA Tryz.prog 60 [.agg (AC.c at_),.one (.i drill),.one (.i from_),.one (.i to_)] 6 l.length (AP Aa.cE l) 70 53 (Fa l at_ drill from_ to_).length (AP Aa.cE (Fa l at_ drill from_ to_)):=by
 refine OU Tryz.func60 rfl kr kr fun W0 M0 X hX => ?_
 exact AB<|on<|oe [] _ [(2:Int)≠0,none,l.length=l.length,l.length+1<=maxLen,(l.length+1)*64<=140737488355328] (J1 13 (Xi at_ (W64 (Int.tdiv drill 2)))) (H4 au15 rfl au2 au2)<|yn (A5 18 (BF (A1 6 Aa.cE l) (BC 6 Aa.cE ([Aa.mk (LF at_ (W64 (Int.tdiv drill 2))) from_ to_ true]:List Aa)))) (.tup []) ⟨18,.row 6 (l++[Aa.mk (LF at_ (W64 (Int.tdiv drill 2))) from_ to_ true]).length (AP Aa.cE (l++[Aa.mk (LF at_ (W64 (Int.tdiv drill 2))) from_ to_ true])) 70,by kernel_rfl,by kernel_rfl,by kernel_rfl,DP (by rfl)⟩
theorem Ls (l:List Aa) (a:AC) (x f t:Int):(Fa l a x f t).length=l.length+1:=by unfold Fa;rw [List.length_append];rfl
theorem Te (c:Bool) (l:List Aa) (a:AC) (x f t:Int):((bif c then Fa l a x f t else l).length:Int)<=(l.length:Int)+1:=by
 cases c with
 | true=>rw [cond_true,Ls];omega
 | false=>rw [cond_false];omega
theorem Vx (l:List Aa) (a:AC) (x f t:Int):((Fa l a x f t).length:Int)<=(l.length:Int)+1:=by rw [Ls];omega
def HS (b:AG) (types:(List AN)) (v5_0:List Aa) (v21:Int) (K0:List Aa->Int->(List Aa)):Nat->List Aa->Int->(List Aa)
 | 0,_,_=>default
 | n1+1,v5_0',v35=>bif decide ((v35:Int)<((BA types ((Dm b).getD v21.toNat default).Type').1.Pads.length:Int)) then ((HS b types v5_0 v21 K0 n1) (bif !decide ((((BA types ((Dm b).getD v21.toNat default).Type').1.Pads.getD v35.toNat default).Drill:Int)=0) then (Fa v5_0' (Aq (BS ((Dm b).getD v21.toNat default)) ((BA types ((Dm b).getD v21.toNat default).Type').1.Pads.getD v35.toNat default).At) ((BA types ((Dm b).getD v21.toNat default).Type').1.Pads.getD v35.toNat default).Drill 1 b.Layers) else v5_0') (v35+1)) else (K0 v5_0' (v21+1))
def HR (b:AG) (types:(List AN)) (v5_0:List Aa) (v21:Int) (v5_0':List Aa) (v58:Int) (K0:List Aa->Int->(List Aa)) (K1:List Aa->Int->(List Aa)):Nat->List Aa->Int->(List Aa)
 | 0,_,_=>default
 | n3+1,v5_0'',v76=>bif decide ((v76:Int)<(((FZ b).length:Nat):Int)) then ((HR b types v5_0 v21 v5_0' v58 K0 K1 n3) (v5_0''++[Aa.mk (GU ((FZ b).getD v76.toNat default).Shape) 1 b.Layers false]) (v76+1)) else v5_0''
def GB (b:AG) (types:(List AN)) (v5_0:List Aa) (v21:Int) (K0:List Aa->Int->(List Aa)):Nat->List Aa->Int->(List Aa)
 | 0,_,_=>default
 | n2+1,v5_0',v58=>bif decide ((v58:Int)<(((BU b).length:Nat):Int)) then ((GB b types v5_0 v21 K0 n2) (Fa v5_0' ((BU b).getD v58.toNat default).At ((BU b).getD v58.toNat default).Drill ((BU b).getD v58.toNat default).From ((BU b).getD v58.toNat default).To) (v58+1)) else (HR b types v5_0 v21 v5_0' v58 K0 (GB b types v5_0 v21 K0 n2) (((((FZ b).length:Nat):Int)-0).toNat+1) v5_0' 0)
def E8 (b:AG) (types:(List AN)):Nat->List Aa->Int->(List Aa)
 | 0,_,_=>default
 | n0+1,v5_0,v21=>bif decide ((v21:Int)<(((Dm b).length:Nat):Int)) then (HS b types v5_0 v21 (E8 b types n0) ((((BA types ((Dm b).getD v21.toNat default).Type').1.Pads.length:Int)-0).toNat+1) v5_0 0) else (GB b types v5_0 v21 (E8 b types n0) (((((BU b).length:Nat):Int)-0).toNat+1) v5_0 0)
def GH (b:AG) (types:(List AN)):(List Aa):=E8 b types (((((Dm b).length:Nat):Int)-0).toNat+1) ([]:List Aa) 0
section
 open Go.Proofs.YtheobjkgllmnmaaGreat renaming U0→mp0,Pf→mp1,Uz→mp2,Dm→mp3,B1→mp4,dW→mp5,Aa.cE→mp6,E8→mp7,GH→mp8,HS→mp9,Fa→mp10,dD→mp11,Te→mp12,Vx→mp13,BU→mp14,Xe→mp15,GB→mp16,FZ→mp17,dV→mp18,HR→mp19,QN→mp20,GU→mp21
theorem kE (b:AG) (types:(List AN)) (hb:HV b) (ht:Bt types):Fr Tryz.prog 17 [.agg (B1 b),.one (lst 3 AN.c types)] (.row 6 (GH b types).length (AP Aa.cE (GH b types)) 70) (fun d=>tO (.own d 6 (GH b types).length)):=oR
end
end
end Go.Proofs.YtheobjkgllmnmaaGreat
