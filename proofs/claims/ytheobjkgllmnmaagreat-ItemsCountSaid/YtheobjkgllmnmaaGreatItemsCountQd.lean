/-
  No statement is proved in this text. It holds a part of what the proof of ItemsCount needs.
-/
import Derived.Test.YtheobjkgllmnmaaGreatItemsCountQc
namespace Go.Proofs.YtheobjkgllmnmaaGreat
set_option maxRecDepth 100000
set_option linter.unusedVariables false
set_option linter.unusedSimpArgs false
section
open Go.RowKit
def UY (p:BF):Prop:=(p.Shape.Edges.length:Int)<=1000000
def LE (g:A4):Prop:=(g.Legs.length:Int)<=1000000
def LA (t:AM):Prop:=(t.Pads.length:Int)<=1000000/\(t.Gates.length:Int)<=1000000/\(∀ p∈t.Pads,UY p)/\∀ g∈t.Gates,LE g
def Ck (l:List AM):Prop:=(l.length:Int)<=1000000/\∀ t∈l,LA t
theorem GS {α:Type} [Inhabited α] {p:α->Prop} {l:List α} (hd:p default) (h:∀ x∈l,p x) (k:Nat):p (l.getD k default):=by
 rw [List.getD_eq_getElem?_getD]
 cases hk:l[k]? with
 | none=>exact hd
 | some x=>exact h x (List.mem_of_getElem? hk)
theorem VH {l:List AM} (h:Ck l) (k:Nat):LA (l.getD k default):=GS (p:=LA) ⟨by decide,by decide,(fun p hp=>by cases hp),fun p hp=>by cases hp⟩ h.2 k
theorem TO {t:AM} (h:LA t) (k:Nat):((t.Pads.getD k default).Shape.Edges.length:Int)<=1000000:=GS (p:=UY) (by unfold UY;decide) h.2.2.1 k
theorem Qh {t:AM} (h:LA t) (k:Nat):((t.Gates.getD k default).Legs.length:Int)<=1000000:=GS (p:=LE) (by unfold LE;decide) h.2.2.2 k
theorem au3 {p:Prop} (h:p:=by first | (unfold maxLen;omega) | (unfold maxLen;simp only [List.length_append,List.length_cons,List.length_nil];omega) | first | omega | (simp only [List.length_append,List.length_cons,List.length_nil];omega) | (simp only [gX,gW,gV,Vm];omega)):p:=h
theorem sD {p:Prop} (h:p:=by
 refine EC mp0 rfl kr (Ek _ _) fun W0 M0 => ?_
 refine AC<|rn ⟨[(0,.av (.one (.list true mp1 l.length (AP mp2 l))))],[]⟩ ?_
 refine AC<|AC ?_
 refine rn ⟨[(0,.av (.one (.list true mp1 l.length (AP mp2 l)))),(4,tB false)],[]⟩ ?_
 refine E7 kr<|Af ?_
 refine AJ<|AC ?_
 refine Cz C4 [5] [] [] [2] [7] [0=0,0+l.length<=maxLen,(0+l.length)*mp3<=140737488355328] ⟨[(2,tO (.own 7 mp1 (0+l.length)))],[(7,.row mp1 (0+l.length) (fun i_ j_=>if i_<0 then (Ay mp1 0 []) i_ j_ else (AP mp2 l) (i_-0) j_) mp4)]⟩ .nil kr (.cons rfl (.cons au3 (.cons au3 .nil)))<|AJ ?_
 refine Ba (Cv.trans (BT (⟨[(2,tO (.own 7 mp1 l.length))],[(7,.row mp1 l.length (AP mp2 l) mp4)]⟩) (.cons ⟨rfl,.av (.one (.own _ _ au2))⟩ .nil) (.cons ⟨rfl,Ap mp4 (BZ (Aw (c:=mp2) (xs:=(([]:List mp5):List mp5)) rfl kr) (BM mp1 mp2 l))⟩ .nil)) (Cv.refl _))<|Ag ?_
 exact ⟨_,Cv.refl _,.inl rfl,tO (.own 7 mp1 l.length),by kernel_rfl,frE (c:=mp2) (xs:=l) (by rfl) kr⟩):p:=h
section
 open Go.Proofs.YtheobjkgllmnmaaGreat renaming nn7→mp1,AG.c→mp2,gV→mp3,nn68→mp4,AG→mp5
 open Go.Proofs.Tryz renaming func77→mp0
theorem Z1 (l:(List AG)) (h0:(l.length:Int)<=1000000):Fr Tryz.prog 77 [.one (.list true 7 l.length (AP AG.c l))] (.row 7 l.length (AP AG.c l) 68) (fun d=>tO (.own d 7 l.length)):=sD
end
abbrev vN:Cl:=.val (.slice none 0 0)
theorem sC {p:Prop} (h:p:=by
 refine EC mp0 rfl kr (Ek _ _) fun W0 M0 => ?_
 cases l with
 | cons a l=>cases h0
 | nil =>
 refine AC<|rn ⟨[(0,.av (.one vN))],[]⟩ ?_
 refine AC<|AC ?_
 refine rn ⟨[(0,.av (.one vN)),(4,tB true)],[]⟩ ?_
 refine DS kr<|AC ?_
 refine rn ⟨[(2,.av (.one vN))],[]⟩ ?_
 refine Ag<|Bd ?_
 exact ⟨_,Cv.trans (Ca (⟨[(2,tO (.own 100000 mp1 0))],[(100000,.row mp1 0 (fun _ _=>default) mp2)]⟩) 100000 mp1 (fun _ _=>default) mp2 [(2,[0])] [] (K:=[]) (fun k x h=>by cases h) rfl kr kr) (Cv.trans (BT (⟨[(2,tO (.own 100000 mp1 ([]:List mp3).length))],[(100000,.row mp1 ([]:List mp3).length (AP mp4 ([]:List mp3)) mp2)]⟩) (.cons ⟨rfl,.av (.one (.own _ _ au2))⟩ .nil) (.cons ⟨rfl,Ap mp2 (CZ mp1 (fun _ _=>default) mp4)⟩ .nil)) (Cv.refl _)),.inl rfl,tO (.own 100000 mp1 ([]:List mp3).length),by kernel_rfl,frE (c:=mp4) (xs:=([]:List mp3)) (by rfl) kr⟩):p:=h
section
 open Go.Proofs.YtheobjkgllmnmaaGreat renaming nn7→mp1,nn68→mp2,AG→mp3,AG.c→mp4
 open Go.Proofs.Tryz renaming func77→mp0
theorem Z2 (l:(List AG)) (h0:l.length=0):Fr Tryz.prog 77 [.one vN] (.row 7 l.length (AP AG.c l) 68) (fun d=>tO (.own d 7 l.length)):=sC
end
def GU (l:(List AG)):FuncId×List Av×Ef:=(77,[.one (lst 7 AG.c l)],.new [] (.row 7 l.length (AP AG.c l) 68) (fun d=>.av (.one (.own d 7 l.length))))
theorem O1 (l:(List AG)) (h0:(l.length:Int)<=1000000):Az Tryz.prog (GU l).1 (GU l).2.1 (GU l).2.2:=Dv (fun _ _=>kr) (V5 (fun hz=>Z2 l hz) (Z1 l h0))
section
 open Go.Proofs.YtheobjkgllmnmaaGreat renaming nn2→mp1,Br.c→mp2,gX→mp3,kM→mp4,Br→mp5
 open Go.Proofs.Tryz renaming func78→mp0
theorem Zz (l:(List Br)) (h0:(l.length:Int)<=1000000):Fr Tryz.prog 78 [.one (.list true 2 l.length (AP Br.c l))] (.row 2 l.length (AP Br.c l) 183) (fun d=>tO (.own d 2 l.length)):=sD
end
section
 open Go.Proofs.YtheobjkgllmnmaaGreat renaming nn2→mp1,kM→mp2,Br→mp3,Br.c→mp4
 open Go.Proofs.Tryz renaming func78→mp0
theorem Z0 (l:(List Br)) (h0:l.length=0):Fr Tryz.prog 78 [.one vN] (.row 2 l.length (AP Br.c l) 183) (fun d=>tO (.own d 2 l.length)):=sC
end
section
 open Go.Proofs.YtheobjkgllmnmaaGreat renaming nn7→mp1,AE.c→mp2,Vm→mp3,rW→mp4,AE→mp5
 open Go.Proofs.Tryz renaming func148→mp0
theorem Zx (l:(List AE)) (h0:(l.length:Int)<=1000000):Fr Tryz.prog 148 [.one (.list true 7 l.length (AP AE.c l))] (.row 7 l.length (AP AE.c l) 78) (fun d=>tO (.own d 7 l.length)):=sD
end
section
 open Go.Proofs.YtheobjkgllmnmaaGreat renaming nn7→mp1,rW→mp2,AE→mp3,AE.c→mp4
 open Go.Proofs.Tryz renaming func148→mp0
theorem Zy (l:(List AE)) (h0:l.length=0):Fr Tryz.prog 148 [.one vN] (.row 7 l.length (AP AE.c l) 78) (fun d=>tO (.own d 7 l.length)):=sC
end
def Lm (l:(List AE)):FuncId×List Av×Ef:=(148,[.one (lst 7 AE.c l)],.new [] (OQ l) (fun d=>.av (.one (.own d 7 l.length))))
theorem aK (l:(List AE)) (h0:(l.length:Int)<=1000000):Az Tryz.prog (Lm l).1 (Lm l).2.1 (Lm l).2.2:=Dv (fun _ _=>kr) (V5 (fun hz=>Zy l hz) (Zx l h0))
def G5 (l:List Br):List Br:=l
def Jo (l:List Br):FuncId×List Av×Ef:=(78,[.one (lst 2 Br.c l)],.val [] (.av (.one (lst 2 Br.c (G5 l)))))
theorem YE (l:List Br) (h0:(l.length:Int)<=1000000):Az Tryz.prog (Jo l).1 (Jo l).2.1 (Jo l).2.2:=AW (fun _ _=>kr) fun _=>Kt (V5 (fun hz=>Z0 l hz) (Zz l h0))
def HO (t:AM) (name:ByteArray):Bool:=(t.Name.toList==name.toList)
theorem pisTy  (t:AM) (name:ByteArray):Bk Tryz.prog 76 [.agg (AM.c t),.one (.eptr 1 1 (gD [.s name]) 0 0)] (tO (.b (HO t name))):=by
 refine AV Tryz.func76 rfl kr kr fun W0 M0 => ?_
 refine AC<|rn ⟨[(1,.av (.one (.eptr 1 1 (gD [.s name]) 0 0))),(2,tP 2 0)],[(2,.cells (AM.c t) 82)]⟩<|AC ?_
 refine rn ⟨[(3,tB (t.Name.toList==name.toList))],[]⟩<|Ag ?_
 exact ⟨_,Cv.refl _,.inl rfl,tO (.b (t.Name.toList==name.toList)),by kernel_rfl,Al (by rfl)⟩
def Z0h (xs:(List AM)) (v8:Int) (name:ByteArray):FuncId×List Av×Ef:=(76,[.agg (AM.c (xs.getD v8.toNat default)),.one (.eptr 1 1 (fun _ j_=>([.s name]:List Cl).getD j_ default) 0 0)],.val [] (tB (HO (xs.getD v8.toNat default) name)))
def GC (xs:(List AM)) (name:ByteArray):Nat->Int->Int
 | 0,_=>default
 | n0+1,v8=>bif decide ((v8:Int)<(xs.length:Int)) then (bif HO (xs.getD v8.toNat default) name then v8 else ((GC xs name n0) (v8+1))) else (-1)
def B7 (xs:(List AM)) (name:ByteArray):Int:=GC xs name (((xs.length:Int)-0).toNat+1) 0
abbrev Kj (name:ByteArray):Nat×Tv:=(1,.av (.one (.clo 76 1 (A6 [.eptr 1 1 (gD [.s name]) 0 0]))))
abbrev KU (xs:List AM):Nat×Tv:=(0,tO (lst 3 AM.c xs))
abbrev MG (xs:List AM):Nat×Tv:=(7,tI (xs.length:Int))
theorem au6 {p:Prop} (h:p:=by first | omega | (simp only [List.length_drop,List.length_take] at *;omega)):p:=h
theorem pixTy  (xs:(List AM)) (name:ByteArray) (hx:(xs.length:Int)<=9223372036854775807):Bk Tryz.prog 75 [.one (lst 3 AM.c xs),.one (.clo 76 1 (A6 [.eptr 1 1 (gD [.s name]) 0 0]))] (tO (.i (B7 xs name))):=by
 refine AV Tryz.func75 rfl kr kr fun W0 M0 => ?_
 refine AC<|rn ⟨[(KU xs),(Kj name)],[]⟩ ?_
 refine AC<|AC ?_
 refine rn ⟨[(KU xs),(Kj name),(MG xs),(8,tI 0)],[]⟩<|AY ?_
 refine BS (ι:=Nat×Int) (fun x=>⟨[(KU xs),(Kj name),(MG xs),(8,tI x.2)],[]⟩) (fun x=>((xs.length:Int)-x.2).toNat<x.1/\(0<=x.2/\(x.2<=(xs.length:Int)\/x.2=0))/\GC xs name x.1 x.2=B7 xs name) (fun x=>x.1) ?_ (((xs.length:Int)-0).toNat+1,0) ⟨Nat.lt_succ_self _,⟨ax0,ax0⟩,(by simp only [B7,cond_true,cond_false])⟩
 rintro ⟨n0,v8⟩ ⟨hn,hinv,hF⟩
 have hm0:=hn;have hinv0:=hinv;have hF0:=hF;try dsimp only at hm0 hinv0 hF0
 clear hn hinv hF
 cases n0 with
 | zero=>exact absurd hm0 (Nat.not_lt_zero _)
 | succ n0 =>
  refine AC<|rn ⟨[(KU xs),(Kj name),(MG xs),(8,tI v8),(9,tB (decide ((v8:Int)<(xs.length:Int))))],[]⟩<|AC ?_
  refine Ab _ rfl (fun h1 => ?_) (fun h1 => ?_)
  ·have g1:=oT h1
   refine Af<|AJ ?_
   refine AC<|AY<|AC ?_
   refine rn ⟨[(KU xs),(Kj name),(5,tI v8),(MG xs),(8,tI v8)],[]⟩<|AC ?_
   refine rc [(16,(Z0h xs v8 name))] [0<=(v8:Int)/\(v8:Int)<((xs.length:Nat):Int),Ak (Z0h xs v8 name).2.1] ⟨[(KU xs),(Kj name),(5,tI v8),(MG xs),(8,tI v8),(16,tB (HO (xs.getD v8.toNat default) name))],[]⟩ (.cons (AW (fun _ _=>kr) fun _=>pisTy (xs.getD v8.toNat default) name) .nil) (.cons au0 (.cons rfl .nil))<|AJ ?_
   refine Ab _ rfl (fun h2 => ?_) (fun h2 => ?_)
   ·refine AC<|rn ⟨[(4,tI v8)],[]⟩ ?_
    refine Ag<|CO ?_
    refine Bd<|Bd ?_
    refine CO<|Bd ?_
    exact ⟨_,Cv.refl _,.inl rfl,tO (.i v8),by kernel_rfl,Al (by rw [<- hF0];first | (simp only [GC,h1,h2,cond_true,cond_false] <;> rfl))⟩
   ·refine Af<|Be<|AJ ?_
    refine rg ⟨[(KU xs),(Kj name),(MG xs),(8,tI (W64 (v8+1)))],[]⟩ ?_
    (try rw [(show W64 (v8+1)=v8+1 from An (by omega) au6)])
    refine AJ ?_
    refine ⟨(n0,v8+1),⟨?_,?_,(by rw [<- hF0];simp only [GC,h1,h2,cond_true,cond_false])⟩,Nat.lt_succ_self _,BB kr⟩
    ·show ((xs.length:Int)-(v8+1)).toNat<n0;omega
    ·exact ⟨ax0,ax0⟩
  ·have g1:=oF h1
   refine BV<|BE ?_
   refine BE<|BW ?_
   refine AJ<|AC ?_
   refine rn ⟨[(4,tI (-1))],[]⟩<|Ag ?_
   exact ⟨_,Cv.refl _,.inl rfl,tO (.i (-1)),by kernel_rfl,Al (by rw [<- hF0];first | (simp only [GC,h1,cond_true,cond_false] <;> rfl))⟩
theorem Po (xs:List AM) (c:ByteArray):B7 xs c=ixI (fun x=>HO x c) xs:=by
 unfold B7
 have h:=ix_l0 (fun x=>HO x c) xs (GC xs c) (fun m v=>by rw [GC,Int.toNat_natCast]) xs.length 0 (((xs.length:Int)-0).toNat+1) rfl (Nat.zero_le _) (by omega)
 rw [List.drop_zero] at h
 refine h.trans ?_
 unfold ixI
 cases xs.findIdx? (fun x=>HO x c) with
 | none=>rfl
 | some i=>simp
theorem sH {xs:List AM} {c:ByteArray} (h:¬ B7 xs c<0):0<=B7 xs c/\B7 xs c<(xs.length:Int):=by
 rw [Po] at *
 exact ixI_b h
def Z0i (types:(List AM)) (name:ByteArray) (v49:Int):A4:=(types.getD (B7 types name).toNat default).Gates.getD v49.toNat default
def Z0j (types:(List AM)) (name:ByteArray) (v26:Int):BF:=(types.getD (B7 types name).toNat default).Pads.getD v26.toNat default
def I0 (types:(List AM)) (name:ByteArray) (v7_1:List BF) (v26:Int) (K0:List BF->Int->(AM×Bool)):Nat->List A4->Int->(AM×Bool)
 | 0,_,_=>default
 | n1+1,v7_2,v49=>bif decide ((v49:Int)<((types.getD (B7 types name).toNat default).Gates.length:Int)) then ((I0 types name v7_1 v26 K0 n1) (v7_2++[A4.mk (Z0i types name v49).Kind (G5 (Z0i types name v49).Legs)]) (v49+1)) else (AM.mk name v7_1 v7_2,true)
def Fu (types:(List AM)) (name:ByteArray):Nat->List BF->Int->(AM×Bool)
 | 0,_,_=>default
 | n0+1,v7_1,v26=>bif decide ((v26:Int)<((types.getD (B7 types name).toNat default).Pads.length:Int)) then ((Fu types name n0) (v7_1++[BF.mk (Z0j types name v26).Name (AQ.mk (Z0j types name v26).Shape.Kind (Z0j types name v26).Shape.Edges (Z0j types name v26).Shape.R) (Z0j types name v26).At (Z0j types name v26).Drill]) (v26+1)) else (I0 types name v7_1 v26 (Fu types name n0) ((((types.getD (B7 types name).toNat default).Gates.length:Int)-0).toNat+1) ([]:List A4) 0)
def Bt (types:(List AM)) (name:ByteArray):(AM×Bool):=bif decide (((B7 types name):Int)<0) then (AM.mk (⟨#[]⟩) [] [],false) else (Fu types name ((((types.getD (B7 types name).toNat default).Pads.length:Int)-0).toNat+1) ([]:List BF) 0)
abbrev Fw (types:List AM):=lst 3 AM.c types
def P5 (types:(List AM)) (name:ByteArray):FuncId×List Av×Ef:=(27,[.one (Fw types),.one (.s name)],.val [] (.tup [.agg (AM.c (Bt types name).1),.one (.b (Bt types name).2)]))
abbrev LJ (v7_1:List BF) (types:List AM) (name:ByteArray) (v26:Int):=v7_1++[BF.mk (Z0j types name v26).Name (AQ.mk (Z0j types name v26).Shape.Kind (Z0j types name v26).Shape.Edges (Z0j types name v26).Shape.R) (Z0j types name v26).At (Z0j types name v26).Drill]
abbrev NO (types:List AM) (name:ByteArray):=types.getD (B7 types name).toNat default
abbrev OJ:List Cl:=[.s (⟨#[]⟩),vN,vN]
abbrev Cm:Nat×Blk:=(4,.cells OJ 82)
abbrev Fv (v7_1:List BF):Nat×Blk:=(100000,.row 7 v7_1.length (AP BF.c v7_1) 102)
abbrev I3 (v7_2:List A4) (types:List AM) (name:ByteArray) (v49:Int):=v7_2++[A4.mk (Z0i types name v49).Kind (G5 (Z0i types name v49).Legs)]
abbrev pK (types:List AM) (name:ByteArray):List (Nat×Tv):=[(0,tO (Fw types)),(4,tP 4 0),(6,tI (B7 types name)),(7,tP 7 0),(24,tO (lst 7 BF.c (NO types name).Pads)),(25,tI ((NO types name).Pads.length:Int)),(26,tI 0)]
abbrev Rq (types:List AM) (name:ByteArray):List (Nat×Tv):=(pK types name)
abbrev IL (types:List AM) (name:ByteArray):Nat×Tv:=(25,tI ((NO types name).Pads.length:Int))
abbrev pE (types:List AM) (name:ByteArray):List (Nat×Tv):=[(4,tP 4 0),(7,tP 7 0),(47,tO (lst 2 A4.c (NO types name).Gates)),(48,tI ((NO types name).Gates.length:Int)),(49,tI 0)]
abbrev Rn (types:List AM) (name:ByteArray):List (Nat×Tv):=(pE types name)
abbrev JX (types:List AM) (name:ByteArray):Nat×Tv:=(48,tI ((NO types name).Gates.length:Int))
abbrev IK (types:List AM) (name:ByteArray):Nat×Tv:=(24,tO (lst 7 BF.c (NO types name).Pads))
abbrev JU (types:List AM) (name:ByteArray):Nat×Tv:=(47,tO (lst 2 A4.c (NO types name).Gates))
abbrev D2 (types:List AM):Nat×Tv:=(0,tO (Fw types))
abbrev OV (name:ByteArray) (v7_1:List BF):Nat×Blk:=(7,.cells [.s name,.own 100000 7 v7_1.length,vN] 82)
abbrev RV (v7_2:List A4):Nat×Blk:=(100001,.row 2 v7_2.length (AP A4.c v7_2) 180)
abbrev RN:List (Nat×Tv):=[(4,tP 4 0),(5,tB true)]
abbrev ZJ:List Av:=[.agg [.s (⟨#[]⟩),lst 7 BF.c [],lst 2 A4.c []],.one (.b false)]
abbrev ZI:Nat×Blk:=(100000,.row 7 ([]:List BF).length (AP BF.c ([]:List BF)) 102)
abbrev mM:Nat×Blk:=(100001,.row 2 ([]:List A4).length (AP A4.c ([]:List A4)) 180)
abbrev mQ:Nat×Blk:=mM
abbrev mZ:Nat×Blk:=mQ
abbrev nP:Nat×Blk:=mZ
abbrev oJ:Nat×Blk:=nP
abbrev oV:Nat×Blk:=oJ
abbrev ZH:Nat×Blk:=oV
abbrev nG (name:ByteArray):List Cl:=[.s name,.own 100000 7 ([]:List BF).length,vN]
abbrev oB (name:ByteArray):List Cl:=(nG name)
abbrev Uo (name:ByteArray):List Cl:=(oB name)
theorem au4 {p:Prop} (h:p:=by first | (exact TO (hta _) _) | (exact Qh (hta _) _) | with_reducible assumption | omega | decide | (simp only [List.length_cons,List.length_nil,List.length_append];omega) | assumption):p:=h
theorem au21 {p:Prop} (h:p:=by first | exact sH (by assumption) | omega):p:=h
theorem pGet (types:(List AM)) (name:ByteArray) (ht:Ck types):Bk Tryz.prog 27 (P5 types name).2.1 (.tup [.agg (AM.c (Bt types name).1),.one (.b (Bt types name).2)]):=by
 refine AV Tryz.func27 rfl kr kr fun W0 M0 => ?_
 have ht1:=ht.1
 have hta:=VH ht
 have htp:=(hta (B7 types name).toNat).1
 have htg:=(hta (B7 types name).toNat).2.1
 refine AC<|rn ⟨[(D2 types),(3,tP 3 0),(4,tP 4 0)],[(3,.cells [.s name] 9),Cm]⟩<|AC ?_
 refine rc [(14,(75,[.one (Fw types),.one (.clo 76 1 (A6 [.ptr 3 0]))],rdI [3] [.cells [.s name] 9] (tI (B7 types name))))] [Ak [.one (lst 3 AM.c types),.one (.clo 76 1 (A6 [.ptr 3 0]))],dS [.cells [.s name] 9]] ⟨[(D2 types),(3,tP 3 0),(4,tP 4 0),(6,tI (B7 types name))],[(3,.cells [.s name] 9),Cm]⟩ (.cons (Yi (fun _ _=>kr) kr kr (fM (pixTy types name au4) (.cons (AvE.refl _) (.cons (.one (.clo 76 1 _ _ (IU kr))) .nil)))) .nil) (.cons rfl (.cons rfl .nil))<|AJ ?_
 refine AC<|AC ?_
 refine rn ⟨[(D2 types),(3,tP 3 0),(4,tP 4 0),(6,tI (B7 types name)),(16,tB (decide (((B7 types name):Int)<0)))],[(3,.cells [.s name] 9),Cm]⟩ ?_
 refine Ab _ rfl (fun h1 => ?_) (fun h1 => ?_)
 ·have g1:=oT h1
  refine AC<|rn ⟨[(4,tP 4 0),(5,tB false)],[Cm]⟩ ?_
  refine Ag<|Bd ?_
  exact ⟨_,Cv.refl _,.inl rfl,.tup [.agg OJ,.one (.b false)],by kernel_rfl,D3 (y:=.tup ZJ) (.tup (.cons (.agg (rr (.cons (Cr 7 BF.c) (.cons (Cr 2 A4.c) .nil)))) (.cons (AvE.refl _) .nil))) (by first | (simp only [Bt,h1,cond_true,cond_false] <;> rfl))⟩
 ·have g1:=oF h1
  refine Af<|AJ<|AC ?_
  refine rn ⟨[(D2 types),(4,tP 4 0),(6,tI (B7 types name)),(7,tP 7 0)],[Cm,(7,.cells [.s name,vN,vN] 82)]⟩ ?_
  refine AC<|AC ?_
  refine rc [] [0<=(B7 types name:Int)/\(B7 types name:Int)<((types.length:Nat):Int)] ⟨(Rq types name),[Cm,(7,.cells [.s name,vN,vN] 82)]⟩ .nil (.cons au21 .nil)<|AJ<|AY ?_
  refine Ba (Cv.trans (Ca (⟨(Rq types name),[(100000,.row 7 0 (fun _ _=>default) 102),Cm,(7,.cells [.s name,.own 100000 7 0,vN] 82)]⟩) 100000 7 (fun _ _=>default) 102 [] [(7,[1])] (K:=[]) (fun k x h=>by cases h) rfl kr kr) (Cv.trans (BT (⟨(Rq types name),[ZI,Cm,(7,.cells (Uo name) 82)]⟩) lr (.cons ⟨rfl,Ap 102 (CZ 7 (fun _ _=>default) BF.c)⟩ (.cons ⟨rfl,.refl _⟩ (.cons ⟨rfl,.cells _ (rr (.cons (.own _ _ au2) (rr .nil)))⟩ .nil)))) (Cv.trans (BD [0,4,6,7,24,25,26] [4,7,100000] (⟨(Rq types name),[Cm,(7,.cells (Uo name) 82),ZI]⟩) kr) (Cv.refl _)))) ?_
  refine BS (ι:=Nat×List BF×Int) (fun x=>⟨[(D2 types),(4,tP 4 0),(6,tI (B7 types name)),(7,tP 7 0),(IK types name),(IL types name),(26,tI x.2.2)],[Cm,(7,.cells [.s name,.own 100000 7 x.2.1.length,vN] 82),(100000,.row 7 x.2.1.length (AP BF.c x.2.1) 102)]⟩) (fun x=>(((types.getD (B7 types name).toNat default).Pads.length:Int)-x.2.2).toNat<x.1/\(0<=x.2.2/\(x.2.2<=((types.getD (B7 types name).toNat default).Pads.length:Int)\/x.2.2=0)/\(x.2.1.length:Int)<=0+1*(x.2.2-0))/\Fu types name x.1 x.2.1 x.2.2=Bt types name) (fun x=>x.1) ?_ ((((types.getD (B7 types name).toNat default).Pads.length:Int)-0).toNat+1,([]:List BF),0) ⟨Nat.lt_succ_self _,⟨ax0,ax0,ax0⟩,(by simp only [Bt,h1,cond_true,cond_false])⟩
  rintro ⟨n0,v7_1,v26⟩ ⟨hn,hinv,hF⟩
  have hm0:=hn;have hinv0:=hinv;have hF0:=hF;try dsimp only at hm0 hinv0 hF0
  clear hn hinv hF
  cases n0 with
  | zero=>exact absurd hm0 (Nat.not_lt_zero _)
  | succ n0 =>
   refine AC<|rn ⟨[(D2 types),(4,tP 4 0),(6,tI (B7 types name)),(7,tP 7 0),(IK types name),(IL types name),(26,tI v26),(27,tB (decide ((v26:Int)<((types.getD (B7 types name).toNat default).Pads.length:Int))))],[Cm,(OV name v7_1),(Fv v7_1)]⟩<|AC ?_
   refine Ab _ rfl (fun h2 => ?_) (fun h2 => ?_)
   ·have g2:=oT h2
    refine Af<|AJ ?_
    refine AC<|AY<|AC ?_
    refine rc [] [0<=(v26:Int)/\(v26:Int)<(((types.getD (B7 types name).toNat default).Pads.length:Nat):Int)] ⟨[(D2 types),(4,tP 4 0),(6,tI (B7 types name)),(7,tP 7 0),(9,tP 9 0),(IK types name),(IL types name),(26,tI v26)],[Cm,(OV name v7_1),(9,.cells (BF.c (Z0j types name v26)) 102),(Fv v7_1)]⟩ .nil (.cons au21 .nil)<|AJ<|AC ?_
    refine rc [(33,GU (Z0j types name v26).Shape.Edges)] [Ak (GU (Z0j types name v26).Shape.Edges).2.1] ⟨[(D2 types),(4,tP 4 0),(6,tI (B7 types name)),(7,tP 7 0),(9,tP 9 0),(IK types name),(IL types name),(26,tI v26)],[Cm,(OV name v7_1),(9,.cells [.s (Z0j types name v26).Name,.i (Z0j types name v26).Shape.Kind,.own 33 7 (Z0j types name v26).Shape.Edges.length,.i (Z0j types name v26).Shape.R,.i (Z0j types name v26).At.X,.i (Z0j types name v26).At.Y,.i (Z0j types name v26).Drill] 102),(33,.row 7 (Z0j types name v26).Shape.Edges.length (AP AG.c (Z0j types name v26).Shape.Edges) 68),(Fv v7_1)]⟩ (.cons (O1 (Z0j types name v26).Shape.Edges au4) .nil) (.cons rfl .nil)<|AJ ?_
    refine Ba (Cv.trans (Dn (⟨[(D2 types),(4,tP 4 0),(6,tI (B7 types name)),(7,tP 7 0),(9,tP 9 0),(IK types name),(IL types name),(26,tI v26)],[Cm,(OV name v7_1),(9,.cells (BF.c (Z0j types name v26)) 102),(Fv v7_1)]⟩) 33 7 (Z0j types name v26).Shape.Edges.length (AP AG.c (Z0j types name v26).Shape.Edges) 68 (K:=[]) (fun k x h=>by cases h) kr kr (.cons ⟨rfl,rfl⟩ .nil) kr) (Cv.refl _)) ?_
    refine rc [] [v7_1.length=v7_1.length,v7_1.length+1<=maxLen,(v7_1.length+1)*80<=140737488355328] ⟨[(D2 types),(4,tP 4 0),(6,tI (B7 types name)),(7,tP 7 0),(IK types name),(IL types name),(26,tI v26)],[Cm,(7,.cells [.s name,.own 40 7 (v7_1.length+1),vN] 82),(40,.row 7 (v7_1.length+1) (fun i_ j_=>if i_<v7_1.length then (AP BF.c v7_1) i_ j_ else (Ay 7 1 (BF.c (Z0j types name v26))) (i_-v7_1.length) j_) 102)]⟩ .nil (.cons rfl (.cons au3 (.cons au3 .nil)))<|Be<|AJ ?_
    refine Ba (Cv.trans (BT (⟨[(D2 types),(4,tP 4 0),(6,tI (B7 types name)),(7,tP 7 0),(IK types name),(IL types name),(26,tI v26)],[Cm,(7,.cells [.s name,.own 40 7 (LJ v7_1 types name v26).length,vN] 82),(40,.row 7 (LJ v7_1 types name v26).length (AP BF.c (LJ v7_1 types name v26)) 102)]⟩) lr (.cons ⟨rfl,.refl _⟩ (.cons ⟨rfl,.cells _ (rr (.cons (.own _ _ au2) (rr .nil)))⟩ (.cons ⟨rfl,Ap 102 (BZ (BM 7 BF.c v7_1) (Aw (c:=BF.c) (xs:=([BF.mk (Z0j types name v26).Name (AQ.mk (Z0j types name v26).Shape.Kind (Z0j types name v26).Shape.Edges (Z0j types name v26).Shape.R) (Z0j types name v26).At (Z0j types name v26).Drill]:List BF)) rfl kr))⟩ .nil)))) (Cv.refl _)) ?_
    refine rg ⟨[(D2 types),(4,tP 4 0),(6,tI (B7 types name)),(7,tP 7 0),(IK types name),(IL types name),(26,tI (W64 (v26+1)))],[Cm,(7,.cells [.s name,.own 40 7 (LJ v7_1 types name v26).length,vN] 82),(40,.row 7 (LJ v7_1 types name v26).length (AP BF.c (LJ v7_1 types name v26)) 102)]⟩ ?_
    (try rw [(show W64 (v26+1)=v26+1 from An (by omega) au6)])
    refine AJ ?_
    refine ⟨(n0,v7_1++[BF.mk (Z0j types name v26).Name (AQ.mk (Z0j types name v26).Shape.Kind (Z0j types name v26).Shape.Edges (Z0j types name v26).Shape.R) (Z0j types name v26).At (Z0j types name v26).Drill],v26+1),⟨?_,?_,(by rw [<- hF0];simp only [Fu,h2,cond_true,cond_false])⟩,Nat.lt_succ_self _,Cv.trans (BR (⟨[(D2 types),(4,tP 4 0),(6,tI (B7 types name)),(7,tP 7 0),(IK types name),(IL types name),(26,tI (v26+1))],[Cm,(7,.cells [.s name,.own 100000 7 (LJ v7_1 types name v26).length,vN] 82),(100000,.row 7 (LJ v7_1 types name v26).length (AP BF.c (LJ v7_1 types name v26)) 102)]⟩) 40 100000 (K:=[]) (fun k x h=>by cases h) rfl rfl kr kr) (BB kr)⟩
    ·show (((types.getD (B7 types name).toNat default).Pads.length:Int)-(v26+1)).toNat<n0;omega
    ·exact ⟨ax0,ax0,ax0⟩
   ·have g2:=oF h2
    refine BV<|BE ?_
    refine BE<|BW ?_
    refine AJ<|AC<|AC ?_
    refine rc [] [0<=(B7 types name:Int)/\(B7 types name:Int)<((types.length:Nat):Int)] ⟨(Rn types name),[Cm,(OV name v7_1),(Fv v7_1)]⟩ .nil (.cons au21 .nil)<|AJ<|AY ?_
    refine Ba (Cv.trans (Ca (⟨(Rn types name),[(100001,.row 2 0 (fun _ _=>default) 180),Cm,(7,.cells [.s name,.own 100000 7 v7_1.length,.own 100001 2 0] 82),(Fv v7_1)]⟩) 100001 2 (fun _ _=>default) 180 [] [(7,[2])] (K:=[]) (fun k x h=>by cases h) rfl kr kr) (Cv.trans (BT (⟨(Rn types name),[ZH,Cm,(7,.cells [.s name,.own 100000 7 v7_1.length,.own 100001 2 ([]:List A4).length] 82),(Fv v7_1)]⟩) lr (.cons ⟨rfl,Ap 180 (CZ 2 (fun _ _=>default) A4.c)⟩ (.cons ⟨rfl,.refl _⟩ (.cons ⟨rfl,.cells _ (rr (rr (.cons (.own _ _ au2) .nil)))⟩ lr)))) (Cv.trans (BD [4,7,47,48,49] [4,7,100000,100001] (⟨(Rn types name),[Cm,(7,.cells [.s name,.own 100000 7 v7_1.length,.own 100001 2 ([]:List A4).length] 82),(Fv v7_1),ZH]⟩) kr) (Cv.refl _)))) ?_
    refine BS (ι:=Nat×List A4×Int) (fun x=>⟨[(4,tP 4 0),(7,tP 7 0),(JU types name),(JX types name),(49,tI x.2.2)],[Cm,(7,.cells [.s name,.own 100000 7 v7_1.length,.own 100001 2 x.2.1.length] 82),(Fv v7_1),(100001,.row 2 x.2.1.length (AP A4.c x.2.1) 180)]⟩) (fun x=>(((types.getD (B7 types name).toNat default).Gates.length:Int)-x.2.2).toNat<x.1/\(0<=x.2.2/\(x.2.2<=((types.getD (B7 types name).toNat default).Gates.length:Int)\/x.2.2=0)/\(x.2.1.length:Int)<=0+1*(x.2.2-0))/\I0 types name v7_1 v26 (Fu types name n0) x.1 x.2.1 x.2.2=Bt types name) (fun x=>x.1) ?_ ((((types.getD (B7 types name).toNat default).Gates.length:Int)-0).toNat+1,([]:List A4),0) ⟨Nat.lt_succ_self _,⟨ax0,ax0,ax0⟩,(by rw [<- hF0];simp only [Fu,h2,cond_true,cond_false])⟩
    rintro ⟨n1,v7_2,v49⟩ ⟨hn,hinv,hF⟩
    have hm1:=hn;have hinv1:=hinv;have hF1:=hF;try dsimp only at hm1 hinv1 hF1
    clear hn hinv hF
    cases n1 with
    | zero=>exact absurd hm1 (Nat.not_lt_zero _)
    | succ n1 =>
     refine AC<|rn ⟨[(4,tP 4 0),(7,tP 7 0),(JU types name),(JX types name),(49,tI v49),(50,tB (decide ((v49:Int)<((types.getD (B7 types name).toNat default).Gates.length:Int))))],[Cm,(7,.cells [.s name,.own 100000 7 v7_1.length,.own 100001 2 v7_2.length] 82),(Fv v7_1),(RV v7_2)]⟩<|AC ?_
     refine Ab _ rfl (fun h3 => ?_) (fun h3 => ?_)
     ·have g3:=oT h3
      refine Af<|AJ ?_
      refine AC<|AY<|AC ?_
      refine rc [] [0<=(v49:Int)/\(v49:Int)<(((types.getD (B7 types name).toNat default).Gates.length:Nat):Int)] ⟨[(4,tP 4 0),(7,tP 7 0),(11,tP 11 0),(JU types name),(JX types name),(49,tI v49)],[Cm,(7,.cells [.s name,.own 100000 7 v7_1.length,.own 100001 2 v7_2.length] 82),(11,.cells (A4.c (Z0i types name v49)) 180),(Fv v7_1),(RV v7_2)]⟩ .nil (.cons au21 .nil)<|AJ ?_
      refine dw [] [(59,Jo (Z0i types name v49).Legs)] [Ak (Jo (Z0i types name v49).Legs).2.1,v7_2.length=v7_2.length,v7_2.length+1<=maxLen,(v7_2.length+1)*32<=140737488355328] ⟨[(4,tP 4 0),(7,tP 7 0),(JU types name),(JX types name),(49,tI v49)],[Cm,(7,.cells [.s name,.own 100000 7 v7_1.length,.own 62 2 (v7_2.length+1)] 82),(62,.row 2 (v7_2.length+1) (fun i_ j_=>if i_<v7_2.length then (AP A4.c v7_2) i_ j_ else (Ay 2 1 [.i (Z0i types name v49).Kind,lst 2 Br.c (G5 (Z0i types name v49).Legs)]) (i_-v7_2.length) j_) 180),(Fv v7_1)]⟩ (.cons (YE (Z0i types name v49).Legs (by first | assumption | exact Qh (hta _) _ | exact TO (hta _) _ | omega)) .nil) (.cons rfl (.cons rfl (.cons au3 (.cons au3 .nil))))<|Be<|AJ ?_
      refine Ba (Cv.trans (BT (⟨[(4,tP 4 0),(7,tP 7 0),(JU types name),(JX types name),(49,tI v49)],[Cm,(7,.cells [.s name,.own 100000 7 v7_1.length,.own 62 2 (I3 v7_2 types name v49).length] 82),(62,.row 2 (I3 v7_2 types name v49).length (AP A4.c (I3 v7_2 types name v49)) 180),(Fv v7_1)]⟩) lr (.cons ⟨rfl,.refl _⟩ (.cons ⟨rfl,.cells _ (rr (rr (.cons (.own _ _ au2) .nil)))⟩ (.cons ⟨rfl,Ap 180 (BZ (BM 2 A4.c v7_2) (Aw (c:=A4.c) (xs:=([A4.mk (Z0i types name v49).Kind (G5 (Z0i types name v49).Legs)]:List A4)) rfl kr))⟩ lr)))) (Cv.refl _)) ?_
      refine rg ⟨[(4,tP 4 0),(7,tP 7 0),(JU types name),(JX types name),(49,tI (W64 (v49+1)))],[Cm,(7,.cells [.s name,.own 100000 7 v7_1.length,.own 62 2 (I3 v7_2 types name v49).length] 82),(62,.row 2 (I3 v7_2 types name v49).length (AP A4.c (I3 v7_2 types name v49)) 180),(Fv v7_1)]⟩ ?_
      (try rw [(show W64 (v49+1)=v49+1 from An (by omega) au6)])
      refine AJ ?_
      refine ⟨(n1,v7_2++[A4.mk (Z0i types name v49).Kind (G5 (Z0i types name v49).Legs)],v49+1),⟨?_,?_,(by rw [<- hF1];simp only [I0,h3,cond_true,cond_false])⟩,Nat.lt_succ_self _,Cv.trans (BR (⟨[(4,tP 4 0),(7,tP 7 0),(JU types name),(JX types name),(49,tI (v49+1))],[Cm,(7,.cells [.s name,.own 100000 7 v7_1.length,.own 100001 2 (I3 v7_2 types name v49).length] 82),(100001,.row 2 (I3 v7_2 types name v49).length (AP A4.c (I3 v7_2 types name v49)) 180),(Fv v7_1)]⟩) 62 100001 (K:=[]) (fun k x h=>by cases h) rfl rfl kr kr) (Cv.trans (BD [4,7,47,48,49] [4,7,100000,100001] (⟨[(4,tP 4 0),(7,tP 7 0),(JU types name),(JX types name),(49,tI (v49+1))],[Cm,(7,.cells [.s name,.own 100000 7 v7_1.length,.own 100001 2 (I3 v7_2 types name v49).length] 82),(Fv v7_1),(100001,.row 2 (I3 v7_2 types name v49).length (AP A4.c (I3 v7_2 types name v49)) 180)]⟩) kr) (BB kr))⟩
      ·show (((types.getD (B7 types name).toNat default).Gates.length:Int)-(v49+1)).toNat<n1;omega
      ·exact ⟨ax0,ax0,ax0⟩
     ·have g3:=oF h3
      refine BV<|BE ?_
      refine BE<|BW ?_
      refine AJ<|AC ?_
      refine rn ⟨RN,[(4,.cells [.s name,.own 100000 7 v7_1.length,.own 100001 2 v7_2.length] 82),(Fv v7_1),(RV v7_2)]⟩<|Ag ?_
      exact ⟨_,Cv.trans (Dn (⟨RN,[(4,.cells [.s name,lst 7 BF.c v7_1,.own 100001 2 v7_2.length] 82),(RV v7_2)]⟩) 100000 7 v7_1.length (AP BF.c v7_1) 102 (K:=[]) (fun k x h=>by cases h) kr kr (.cons ⟨rfl,rfl⟩ .nil) kr) (Cv.trans (Dn (⟨RN,[(4,.cells [.s name,lst 7 BF.c v7_1,lst 2 A4.c v7_2] 82)]⟩) 100001 2 v7_2.length (AP A4.c v7_2) 180 (K:=[]) (fun k x h=>by cases h) kr kr (.cons ⟨rfl,rfl⟩ .nil) kr) (Cv.refl _)),.inl rfl,.tup [.agg [.s name,lst 7 BF.c v7_1,lst 2 A4.c v7_2],.one (.b true)],by kernel_rfl,Al (by rw [<- hF1];first | (simp only [I0,h3,cond_true,cond_false] <;> rfl))⟩
theorem aO (types:(List AM)) (name:ByteArray) (ht:Ck types):Az Tryz.prog (P5 types name).1 (P5 types name).2.1 (P5 types name).2.2:=AW (fun _ _=>kr) fun _=>pGet types name ht
def YV (types:List AM) (name:ByteArray):AM×Bool:=match types.find? (fun t=>HO t name) with
 | some t=>(⟨name,t.Pads,t.Gates⟩,true)
 | none=>(⟨⟨#[]⟩,[],[]⟩,false)
theorem MB (types:List AM) (name:ByteArray):Bt types name=YV types name:=by
 unfold Bt YV
 rw [Po]
 cases hc:decide ((ixI (fun x=>HO x name) types:Int)<0) with
 | true =>
  rw [bJ (oT hc)]
  rfl
 | false =>
  obtain ⟨_,h2⟩:=bI (oF hc)
  rw [h2,cond_false]
  have e:=Po types name
  rw [<- e]
  generalize ht:types.getD (B7 types name).toNat default=t
  have h1:=fun (acc0:List BF) (v0:Int) K0=>Yc t.Gates (I0 types name acc0 v0 K0) (fun acc _=>(AM.mk name acc0 acc,true)) (fun m acc v=>by
   rw [I0]
   unfold Z0i G5
   rw [ht,Int.toNat_natCast]) t.Gates.length 0 ((((t.Gates.length:Int))-0).toNat+1) [] rfl (Nat.zero_le _) (by omega)
  have h0:=Yc t.Pads (Fu types name) (fun acc v=>(AM.mk name acc t.Gates,true)) (fun m acc v=>by
   rw [Fu]
   unfold Z0j
   rw [ht,Int.toNat_natCast]
   have:=h1 acc v (Fu types name m)
   rw [List.drop_zero,List.nil_append] at this
   cases decide ((v:Int)<(t.Pads.length:Int)) with
   | true=>rfl
   | false=>exact this) t.Pads.length 0 ((((t.Pads.length:Int))-0).toNat+1) [] rfl (Nat.zero_le _) (by omega)
  rw [List.drop_zero,List.nil_append] at h0
  exact h0
theorem Ih {types:List AM} (h:Ck types) (name:ByteArray):((YV types name).1.Pads.length:Int)<=1000000:=by
 unfold YV
 cases hf:types.find? (fun t=>HO t name) with
 | none=>exact (by decide:((0:Nat):Int)<=1000000)
 | some t=>exact (h.2 t (List.mem_of_find?_eq_some hf)).1
end
section
open Go.RowKit
theorem El:∀ x:AG,∀ y∈AG.c x,NM y:=by
 intro x y hy
 simp only [AG.c,List.mem_cons,List.not_mem_nil,or_false] at hy
 rcases hy with rfl | rfl | rfl | rfl | rfl | rfl | rfl <;> first | exact .val _
theorem YG:∀ x:AQ,∀ y∈AQ.c x,NM y:=by
 intro x y hy
 simp only [AQ.c,List.mem_cons,List.not_mem_nil,or_false] at hy
 rcases hy with rfl | rfl | rfl <;> first | exact .val _ | exact CG El
theorem FX:∀ x:AE,∀ y∈AE.c x,NM y:=by
 intro x y hy
 simp only [AE.c,List.mem_cons,List.not_mem_nil,or_false] at hy
 rcases hy with rfl | rfl | rfl | rfl | rfl | rfl | rfl <;> first | exact .val _
theorem iB:∀ x:Aq,∀ y∈Aq.c x,NM y:=by
 intro x y hy
 simp only [Aq.c,List.mem_cons,List.not_mem_nil,or_false] at hy
 rcases hy with rfl | rfl <;> first | exact .val _
theorem SK:∀ x:A1,∀ y∈A1.c x,NM y:=by
 intro x y hy
 simp only [A1.c,List.mem_cons,List.not_mem_nil,or_false] at hy
 rcases hy with rfl | rfl <;> first | exact .val _ | exact CG iB
theorem YF:∀ x:AO,∀ y∈AO.c x,NM y:=by
 intro x y hy
 simp only [AO.c,List.mem_cons,List.not_mem_nil,or_false] at hy
 rcases hy with rfl | rfl | rfl | rfl | rfl | rfl <;> first | exact .val _ | exact CG El
theorem iA:∀ x:As,∀ y∈As.c x,NM y:=by
 intro x y hy
 simp only [As.c,List.mem_cons,List.not_mem_nil,or_false] at hy
 rcases hy with rfl | rfl | rfl | rfl | rfl | rfl | rfl | rfl <;> first | exact .val _
theorem aV:∀ x:Ad,∀ y∈Ad.c x,NM y:=by
 intro x y hy
 simp only [Ad.c,List.mem_cons,List.not_mem_nil,or_false] at hy
 rcases hy with rfl | rfl | rfl | rfl <;> first | exact .val _
theorem aW:∀ x:A0,∀ y∈A0.c x,NM y:=by
 intro x y hy
 simp only [A0.c,List.mem_cons,List.not_mem_nil,or_false] at hy
 rcases hy with rfl | rfl | rfl | rfl | rfl | rfl | rfl | rfl <;> first | exact .val _ | exact CG aV
theorem aX:∀ x:Bb,∀ y∈Bb.c x,NM y:=by
 intro x y hy
 simp only [Bb.c,List.mem_cons,List.not_mem_nil,or_false] at hy
 rcases hy with rfl | rfl | rfl | rfl | rfl <;> first | exact .val _ | exact CG El
theorem aU:∀ x:Am,∀ y∈Am.c x,NM y:=by
 intro x y hy
 simp only [Am.c,List.mem_cons,List.not_mem_nil,or_false] at hy
 rcases hy with rfl | rfl | rfl | rfl <;> first | exact .val _ | exact CG El
theorem YI:∀ x:B8,∀ y∈B8.c x,NM y:=by
 intro x y hy
 simp only [B8.c,List.mem_cons,List.not_mem_nil,or_false] at hy
 rcases hy with rfl | rfl <;> first | exact .val _ | exact CG (fun x y hy=>by rw [List.mem_singleton.1 hy];exact .val _)
theorem Vn:∀ x:B4,∀ y∈B4.c x,NM y:=by
 intro x y hy
 simp only [B4.c,List.mem_cons,List.not_mem_nil,or_false] at hy
 rcases hy with rfl | rfl | rfl <;> first | exact .val _
theorem YH:∀ x:Dw,∀ y∈Dw.c x,NM y:=by
 intro x y hy
 simp only [Dw.c,List.mem_cons,List.not_mem_nil,or_false] at hy
 rcases hy with rfl | rfl | rfl <;> first | exact .val _ | exact CG (fun x y hy=>by rw [List.mem_singleton.1 hy];exact .val _)
theorem Jc:∀ x:AZ,∀ y∈AZ.c x,NM y:=by
 intro x y hy
 simp only [AZ.c,List.mem_cons,List.not_mem_nil,or_false] at hy
 rcases hy with rfl | rfl | rfl | rfl | rfl | rfl | rfl | rfl | rfl <;> first | exact .val _ | exact CG El
theorem Jy:∀ x:BF,∀ y∈BF.c x,NM y:=by
 intro x y hy
 simp only [BF.c,List.mem_cons,List.not_mem_nil,or_false] at hy
 rcases hy with rfl | rfl | rfl | rfl | rfl | rfl | rfl <;> first | exact .val _ | exact CG El
theorem iC:∀ x:Br,∀ y∈Br.c x,NM y:=by
 intro x y hy
 simp only [Br.c,List.mem_cons,List.not_mem_nil,or_false] at hy
 rcases hy with rfl | rfl <;> first | exact .val _
theorem aY:∀ x:A4,∀ y∈A4.c x,NM y:=by
 intro x y hy
 simp only [A4.c,List.mem_cons,List.not_mem_nil,or_false] at hy
 rcases hy with rfl | rfl <;> first | exact .val _ | exact CG iC
theorem O4:∀ x:AM,∀ y∈AM.c x,NM y:=by
 intro x y hy
 simp only [AM.c,List.mem_cons,List.not_mem_nil,or_false] at hy
 rcases hy with rfl | rfl | rfl <;> first | exact .val _ | exact CG aY | exact CG Jy
end
section
open Go.RowKit
theorem jC {l:Nat} {b c:Bool} (h:(bif b then b else (bif decide (((l:Nat):Int)=0) then decide (((l:Nat):Int)=0) else c))=false):1<=l:=by
 cases b with
 | true=>cases h
 | false =>
  by_cases e:((l:Nat):Int)=0
  ·rw [decide_eq_true e] at h;cases h
  ·omega
def Z0k (s:AQ):FuncId×List Av×Ef:=(80,[.one (lst 7 AG.c s.Edges),.one (.b (decide ((s.Kind:Int)=2)))],.val [] (.av (.one (.clo 132 2 (A6 [.eptr 1 1 (fun _ j=>([lst 7 AG.c s.Edges]:List Cl).getD j default) 0 0,.eptr 1 1 (fun _ j=>([.b (decide ((s.Kind:Int)=2))]:List Cl).getD j default) 0 0])))))
def Cq (s:AQ) (v39:Int) (K0:Int->Int):Nat->Nat->Int
 | 0,_=>bif bif bif bif decide ((s.Kind:Int)=2) then !decide ((s.R:Int)=0) else false then true else decide ((s.R:Int)<0) then true else decide ((4194304:Int)<s.R) then 3 else 0
 | m+1,x=>bif !(decide ((jnA s.Edges x).B.X=(jnB s.Edges x).A.X)&&(decide ((jnA s.Edges x).B.Y=(jnB s.Edges x).A.Y)&&true)) then 12 else (Cq s v39 K0 m (x+1))
def Cf (s:AQ):Nat->Int->Int
 | 0,_=>default
 | n0+1,v39=>bif decide ((v39:Int)<(s.Edges.length:Int)) then (bif !decide (((D7 (s.Edges.getD v39.toNat default)):Int)=0) then (D7 (s.Edges.getD v39.toNat default)) else ((Cf s n0) (v39+1))) else (Cq s v39 (Cf s n0) (jnN s.Edges (decide ((s.Kind:Int)=2))) 0)
def C9 (s:AQ):Int:=bif bif bif !decide ((s.Kind:Int)=1) then !(decide ((s.Kind:Int)=2)) else false then (bif !decide ((s.Kind:Int)=1) then !(decide ((s.Kind:Int)=2)) else false) else (bif decide (((s.Edges.length:Int):Int)=0) then (decide (((s.Edges.length:Int):Int)=0)) else (bif decide ((s.Kind:Int)=2) then decide (((s.Edges.length:Int):Int)<2) else false)) then 12 else (bif decide ((40:Int)<(s.Edges.length:Int)) then 2 else (Cf s (((s.Edges.length:Int)-0).toNat+1) 0))
def KD (s:AQ):FuncId×List Av×Ef:=(28,[.agg (AQ.c s)],.val [] (.av (.one (.i (C9 s)))))
theorem gA (s:AQ) (hl:(s.Edges.length:Int)<=9223372036854775807):Bk Tryz.prog 28 (KD s).2.1 (tO (.i (C9 s))):=by
 refine AV Tryz.func28 rfl kr kr fun W0 M0 => ?_
 refine AC<|rn ⟨[(1,tP 1 0),(2,tP 2 0)],[(1,.cells (AQ.c s) 28),(2,.cells [.i 0] 85)]⟩<|AC ?_
 refine rn ⟨[(1,tP 1 0),(2,tP 2 0),(3,tB (decide ((s.Kind:Int)=2)))],[(1,.cells (AQ.c s) 28),(2,.cells [.i 0] 85)]⟩ ?_
 refine AC<|AY ?_
 refine AC<|AC ?_
 refine rc [] [gt (!decide ((s.Kind:Int)=1)),gt (!decide ((s.Kind:Int)=1))] ⟨[(1,tP 1 0),(2,tP 2 0),(3,tB (decide ((s.Kind:Int)=2))),(12,tB (bif !decide ((s.Kind:Int)=1) then !(decide ((s.Kind:Int)=2)) else false))],[(1,.cells (AQ.c s) 28),(2,.cells [.i 0] 85)]⟩ .nil (ci (ci .nil))<|AJ ?_
 refine Bu (⟨[(1,tP 1 0),(2,tP 2 0),(3,tB (decide ((s.Kind:Int)=2))),(12,tB (bif bif !decide ((s.Kind:Int)=1) then !(decide ((s.Kind:Int)=2)) else false then (bif !decide ((s.Kind:Int)=1) then !(decide ((s.Kind:Int)=2)) else false) else (bif decide (((s.Edges.length:Int):Int)=0) then (decide (((s.Edges.length:Int):Int)=0)) else (bif decide ((s.Kind:Int)=2) then decide (((s.Edges.length:Int):Int)<2) else false))))],[(1,.cells (AQ.c s) 28),(2,.cells [.i 0] 85)]⟩) ?_ ?_
 ·refine Ab _ rfl (fun h1 => ?_) (fun h1 => ?_)
  ·refine Af<|AJ ?_
   refine BB ?_
   first | rfl | (simp only [h1,cond_true,cond_false] <;> rfl)
  ·refine AC<|rn ⟨[(1,tP 1 0),(2,tP 2 0),(3,tB (decide ((s.Kind:Int)=2))),(12,tB (decide (((s.Edges.length:Int):Int)=0)))],[(1,.cells (AQ.c s) 28),(2,.cells [.i 0] 85)]⟩ ?_
   refine Ab _ rfl (fun h2 => ?_) (fun h2 => ?_)
   ·have g2:=oT h2
    refine Af<|AJ ?_
    refine BB ?_
    first | rfl | (simp only [h1,h2,cond_true,cond_false] <;> rfl)
   ·have g2:=oF h2
    refine rc [] [gt (decide ((s.Kind:Int)=2)),gt (decide ((s.Kind:Int)=2)),gt (decide ((s.Kind:Int)=2)),gt (decide ((s.Kind:Int)=2))] ⟨[(1,tP 1 0),(2,tP 2 0),(3,tB (decide ((s.Kind:Int)=2))),(12,tB (bif decide ((s.Kind:Int)=2) then decide (((s.Edges.length:Int):Int)<2) else false))],[(1,.cells (AQ.c s) 28),(2,.cells [.i 0] 85)]⟩ .nil (ci (ci (ci (ci .nil))))<|AJ ?_
    refine BB ?_
    first | rfl | (simp only [h1,h2,cond_true,cond_false] <;> rfl)
 refine Ab _ rfl (fun h1 => ?_) (fun h1 => ?_)
 ·refine AC<|rn ⟨[(2,tP 2 0)],[(2,.cells [.i 12] 85)]⟩ ?_
  refine Ag<|CO<|Bd ?_
  exact ⟨_,Cv.refl _,.inl rfl,tO (.i 12),by kernel_rfl,Al (by first | (simp only [C9,h1,cond_true,cond_false] <;> rfl))⟩
 ·refine AC<|rn ⟨[(1,tP 1 0),(2,tP 2 0),(3,tB (decide ((s.Kind:Int)=2))),(31,tB (decide ((40:Int)<(s.Edges.length:Int))))],[(1,.cells (AQ.c s) 28),(2,.cells [.i 0] 85)]⟩ ?_
  refine Ab _ rfl (fun h2 => ?_) (fun h2 => ?_)
  ·have g2:=oT h2
   refine AC<|rn ⟨[(2,tP 2 0)],[(2,.cells [.i 2] 85)]⟩ ?_
   refine Ag<|CO<|Bd ?_
   exact ⟨_,Cv.refl _,.inl rfl,tO (.i 2),by kernel_rfl,Al (by first | (simp only [C9,h1,h2,cond_true,cond_false] <;> rfl))⟩
  ·have g2:=oF h2
   refine Af<|Be ?_
   refine AJ<|AC<|AC ?_
   refine rn ⟨[(1,tP 1 0),(2,tP 2 0),(3,tB (decide ((s.Kind:Int)=2))),(37,tO (lst 7 AG.c s.Edges)),(38,tI (s.Edges.length:Int)),(39,tI 0)],[(1,.cells (AQ.c s) 28),(2,.cells [.i 0] 85)]⟩<|AY ?_
   refine BS (ι:=Nat×Int) (fun x=>⟨[(1,tP 1 0),(2,tP 2 0),(3,tB (decide ((s.Kind:Int)=2))),(37,tO (lst 7 AG.c s.Edges)),(38,tI (s.Edges.length:Int)),(39,tI x.2)],[(1,.cells (AQ.c s) 28),(2,.cells [.i 0] 85)]⟩) (fun x=>((s.Edges.length:Int)-x.2).toNat<x.1/\(0<=x.2/\(x.2<=(s.Edges.length:Int)\/x.2=0))/\Cf s x.1 x.2=C9 s) (fun x=>x.1) ?_ (((s.Edges.length:Int)-0).toNat+1,0) ⟨Nat.lt_succ_self _,⟨ax0,ax0⟩,(by simp only [C9,h1,h2,cond_true,cond_false])⟩
   rintro ⟨n0,v39⟩ ⟨hn,hinv,hF⟩
   have hm0:=hn;have hinv0:=hinv;have hF0:=hF;try dsimp only at hm0 hinv0 hF0
   clear hn hinv hF
   cases n0 with
   | zero=>exact absurd hm0 (Nat.not_lt_zero _)
   | succ n0 =>
    refine AC<|rn ⟨[(1,tP 1 0),(2,tP 2 0),(3,tB (decide ((s.Kind:Int)=2))),(37,tO (lst 7 AG.c s.Edges)),(38,tI (s.Edges.length:Int)),(39,tI v39),(40,tB (decide ((v39:Int)<(s.Edges.length:Int))))],[(1,.cells (AQ.c s) 28),(2,.cells [.i 0] 85)]⟩<|AC ?_
    refine Ab _ rfl (fun h3 => ?_) (fun h3 => ?_)
    ·have g3:=oT h3
     refine Af<|AJ ?_
     refine AC<|AY<|AC ?_
     refine rc [] [0<=(v39:Int)/\(v39:Int)<((s.Edges.length:Nat):Int)] ⟨[(1,tP 1 0),(2,tP 2 0),(3,tB (decide ((s.Kind:Int)=2))),(5,tP 5 0),(37,tO (lst 7 AG.c s.Edges)),(38,tI (s.Edges.length:Int)),(39,tI v39)],[(1,.cells (AQ.c s) 28),(2,.cells [.i 0] 85),(5,.cells (AG.c (s.Edges.getD v39.toNat default)) 68)]⟩ .nil (.cons au0 .nil)<|AJ<|AC ?_
     refine rc [(44,M9 (s.Edges.getD v39.toNat default))] [Ak (M9 (s.Edges.getD v39.toNat default)).2.1] ⟨[(1,tP 1 0),(2,tP 2 0),(3,tB (decide ((s.Kind:Int)=2))),(6,tI (D7 (s.Edges.getD v39.toNat default))),(37,tO (lst 7 AG.c s.Edges)),(38,tI (s.Edges.length:Int)),(39,tI v39)],[(1,.cells (AQ.c s) 28),(2,.cells [.i 0] 85)]⟩ (.cons (gR (s.Edges.getD v39.toNat default)) .nil) (.cons rfl .nil)<|AJ<|AC ?_
     refine rn ⟨[(1,tP 1 0),(2,tP 2 0),(3,tB (decide ((s.Kind:Int)=2))),(6,tI (D7 (s.Edges.getD v39.toNat default))),(37,tO (lst 7 AG.c s.Edges)),(38,tI (s.Edges.length:Int)),(39,tI v39),(46,tB (!decide (((D7 (s.Edges.getD v39.toNat default)):Int)=0)))],[(1,.cells (AQ.c s) 28),(2,.cells [.i 0] 85)]⟩ ?_
     refine Ab _ rfl (fun h4 => ?_) (fun h4 => ?_)
     ·have g4:=CF h4
      refine AC<|rn ⟨[(2,tP 2 0)],[(2,.cells [.i (D7 (s.Edges.getD v39.toNat default))] 85)]⟩ ?_
      refine Ag<|CO ?_
      refine Bd<|Bd ?_
      refine CO<|Bd ?_
      exact ⟨_,Cv.refl _,.inl rfl,tO (.i (D7 (s.Edges.getD v39.toNat default))),by kernel_rfl,Al (by rw [<- hF0];first | (simp only [Cf,h3,h4,cond_true,cond_false] <;> rfl))⟩
     ·have g4:=B6 h4
      refine Af<|Be<|AJ ?_
      refine rg ⟨[(1,tP 1 0),(2,tP 2 0),(3,tB (decide ((s.Kind:Int)=2))),(37,tO (lst 7 AG.c s.Edges)),(38,tI (s.Edges.length:Int)),(39,tI (W64 (v39+1)))],[(1,.cells (AQ.c s) 28),(2,.cells [.i 0] 85)]⟩ ?_
      (try rw [(show W64 (v39+1)=v39+1 from An (by omega) au6)])
      refine AJ ?_
      refine ⟨(n0,v39+1),⟨?_,?_,(by rw [<- hF0];simp only [Cf,h3,h4,cond_true,cond_false])⟩,Nat.lt_succ_self _,BB kr⟩
      ·show ((s.Edges.length:Int)-(v39+1)).toNat<n0;omega
      ·exact ⟨ax0,ax0⟩
    ·have g3:=oF h3
     refine BV<|BE ?_
     refine BE<|BW ?_
     refine AJ<|AC<|AC ?_
     refine rc [(52,(Z0k s))] [Ak (Z0k s).2.1] ⟨[(1,tP 1 0),(2,tP 2 0),(3,tB (decide ((s.Kind:Int)=2))),(52,.av (.one (.clo 132 2 (A6 [.eptr 1 1 (fun _ j=>([lst 7 AG.c s.Edges]:List Cl).getD j default) 0 0,.eptr 1 1 (fun _ j=>([.b (decide ((s.Kind:Int)=2))]:List Cl).getD j default) 0 0]))))],[(1,.cells (AQ.c s) 28),(2,.cells [.i 0] 85)]⟩ (.cons (AW (fun _ _=>kr) fun _=>fQ s.Edges (decide ((s.Kind:Int)=2))) .nil) (.cons rfl .nil)<|AJ<|AY ?_
     refine Ba (Cv.trans (BR (⟨[(1,tP 200001 0),(2,tP 2 0),(3,tB (decide ((s.Kind:Int)=2))),(52,.av (.one (.clo 132 2 (A6 [.eptr 1 1 (fun _ j=>([lst 7 AG.c s.Edges]:List Cl).getD j default) 0 0,.eptr 1 1 (fun _ j=>([.b (decide ((s.Kind:Int)=2))]:List Cl).getD j default) 0 0]))))],[(200001,.cells (AQ.c s) 28),(2,.cells [.i 0] 85)]⟩) 1 200001 (K:=[]) (fun k x h=>by cases h) rfl rfl kr kr) (Cv.trans (BR (⟨[(1,tP 200001 0),(2,tP 200002 0),(3,tB (decide ((s.Kind:Int)=2))),(52,.av (.one (.clo 132 2 (A6 [.eptr 1 1 (fun _ j=>([lst 7 AG.c s.Edges]:List Cl).getD j default) 0 0,.eptr 1 1 (fun _ j=>([.b (decide ((s.Kind:Int)=2))]:List Cl).getD j default) 0 0]))))],[(200001,.cells (AQ.c s) 28),(200002,.cells [.i 0] 85)]⟩) 2 200002 (K:=[]) (fun k x h=>by cases h) rfl rfl kr kr) (Cv.refl _))) ?_
     refine Yn [200001,200002] 299999 200001 (fun x1=>[(1,tP 200001 0),(2,tP 200002 0),(3,tB (decide ((s.Kind:Int)=2))),(7,.av (.one (.eptr 7 1 (gD (AG.c (jnA s.Edges x1.val))) 0 0))),(8,.av (.one (.eptr 7 1 (gD (AG.c (jnB s.Edges x1.val))) 0 0))),(52,.av (.one (.clo 132 2 (A6 [.eptr 1 1 (fun _ j=>([lst 7 AG.c s.Edges]:List Cl).getD j default) 0 0,.eptr 1 1 (fun _ j=>([.b (decide ((s.Kind:Int)=2))]:List Cl).getD j default) 0 0]))))]) (fun y=>Cq s v39 (Cf s n0) (jnN s.Edges (decide ((s.Kind:Int)=2))-y) y=C9 s) (fun _=>rfl) kr kr (fun _ _=>kr) (YR s.Edges (decide ((s.Kind:Int)=2)) (fun _=>jC h1) (by omega)) kr (fun _=>rfl) (fun _=>rfl) (BX (p:=BkM) (by simp only [List.forall_mem_cons];exact ⟨bkM (YG _),bkM (by simp only [List.forall_mem_cons];exact ⟨(.val _),fun x hx=>by cases hx⟩),fun x hx=>by cases hx⟩)) (fun x1=>(BX (p:=TvM) (by simp only [List.forall_mem_cons];exact ⟨A8 (.ptr _ _),A8 (.ptr _ _),A8 (.val _),A8 (De (El _)),A8 (De (El _)),A8 (SG (by simp only [List.forall_mem_cons];exact ⟨(De (by simp only [List.forall_mem_cons];exact ⟨(CG El),fun x hx=>by cases hx⟩)),(De (by simp only [List.forall_mem_cons];exact ⟨(.val _),fun x hx=>by cases hx⟩)),fun x hx=>by cases hx⟩)),fun x hx=>by cases hx⟩))) (by rw [<- hF0];simp only [Cf,h3,Nat.sub_zero,cond_true,cond_false]) (fun l1 W1 M1 X1 x1 hPX => ?_) (fun l2 W2 M2 X2 x1 hPX => ?_) (fun hF1 => ?_)
     ·refine DH<|AC ?_
      refine rn ⟨[(1,tP 200001 0),(2,tP 200002 0),(3,tB (decide ((s.Kind:Int)=2))),(7,tP 7 0),(52,.av (.one (.clo 132 2 (A6 [.eptr 1 1 (fun _ j=>([lst 7 AG.c s.Edges]:List Cl).getD j default) 0 0,.eptr 1 1 (fun _ j=>([.b (decide ((s.Kind:Int)=2))]:List Cl).getD j default) 0 0])))),(54,.av (.agg (AG.c (jnB s.Edges x1.val))))],[(7,.cells (AG.c (jnA s.Edges x1.val)) 68),(200001,.cells (AQ.c s) 28),(200002,.cells [.i 0] 85)]⟩ ?_
      refine rg ⟨[(1,tP 200001 0),(2,tP 200002 0),(3,tB (decide ((s.Kind:Int)=2))),(7,tP 7 0),(8,tP 8 0),(52,.av (.one (.clo 132 2 (A6 [.eptr 1 1 (fun _ j=>([lst 7 AG.c s.Edges]:List Cl).getD j default) 0 0,.eptr 1 1 (fun _ j=>([.b (decide ((s.Kind:Int)=2))]:List Cl).getD j default) 0 0]))))],[(7,.cells (AG.c (jnA s.Edges x1.val)) 68),(8,.cells (AG.c (jnB s.Edges x1.val)) 68),(200001,.cells (AQ.c s) 28),(200002,.cells [.i 0] 85)]⟩ ?_
      exact ⟨_,Cv.trans (XX (⟨[(1,tP 200001 0),(2,tP 200002 0),(3,tB (decide ((s.Kind:Int)=2))),(7,.av (.one (.eptr 7 1 (gD (AG.c (jnA s.Edges x1.val))) 0 0))),(8,tP 8 0),(52,.av (.one (.clo 132 2 (A6 [.eptr 1 1 (fun _ j=>([lst 7 AG.c s.Edges]:List Cl).getD j default) 0 0,.eptr 1 1 (fun _ j=>([.b (decide ((s.Kind:Int)=2))]:List Cl).getD j default) 0 0]))))],[(8,.cells (AG.c (jnB s.Edges x1.val)) 68),(200001,.cells (AQ.c s) 28),(200002,.cells [.i 0] 85)]⟩) 7 (AG.c (jnA s.Edges x1.val)) 68 [200001,200002] hPX kr kr kr kr) (Cv.trans (XX (⟨[(1,tP 200001 0),(2,tP 200002 0),(3,tB (decide ((s.Kind:Int)=2))),(7,.av (.one (.eptr 7 1 (gD (AG.c (jnA s.Edges x1.val))) 0 0))),(8,.av (.one (.eptr 7 1 (gD (AG.c (jnB s.Edges x1.val))) 0 0))),(52,.av (.one (.clo 132 2 (A6 [.eptr 1 1 (fun _ j=>([lst 7 AG.c s.Edges]:List Cl).getD j default) 0 0,.eptr 1 1 (fun _ j=>([.b (decide ((s.Kind:Int)=2))]:List Cl).getD j default) 0 0]))))],[(200001,.cells (AQ.c s) 28),(200002,.cells [.i 0] 85)]⟩) 8 (AG.c (jnB s.Edges x1.val)) 68 [200001,200002] hPX kr kr kr kr) (Cv.refl _)),rfl,rfl⟩
     ·refine DH<|AY<|AC ?_
      refine rn ⟨[(1,tP 200001 0),(2,tP 200002 0),(3,tB (decide ((s.Kind:Int)=2))),(52,.av (.one (.clo 132 2 (A6 [.eptr 1 1 (fun _ j=>([lst 7 AG.c s.Edges]:List Cl).getD j default) 0 0,.eptr 1 1 (fun _ j=>([.b (decide ((s.Kind:Int)=2))]:List Cl).getD j default) 0 0])))),(59,tB (!(decide ((jnA s.Edges x1.val).B.X=(jnB s.Edges x1.val).A.X)&&(decide ((jnA s.Edges x1.val).B.Y=(jnB s.Edges x1.val).A.Y)&&true))))],[(200001,.cells (AQ.c s) 28),(200002,.cells [.i 0] 85)]⟩ ?_
      refine Ab _ rfl (fun h4 => ?_) (fun h4 => ?_)
      ·refine AC<|rn ⟨[(2,tP 200002 0)],[(200002,.cells [.i 12] 85)]⟩ ?_
       refine Ag<|CO ?_
       refine ⟨_,Cv.refl _,(BX (p:=BkM) (by simp only [List.forall_mem_cons];exact ⟨bkM (by simp only [List.forall_mem_cons];exact ⟨(.val _),fun x hx=>by cases hx⟩),fun x hx=>by cases hx⟩)),fun hF1 => ?_⟩
       change Cq s v39 (Cf s n0) (jnN s.Edges (decide ((s.Kind:Int)=2))-x1.val) x1.val=C9 s at hF1
       rw [show jnN s.Edges (decide ((s.Kind:Int)=2))-x1.val=(jnN s.Edges (decide ((s.Kind:Int)=2))-(x1.val+1))+1 by have:=x1.isLt;omega] at hF1
       refine CO<|Bd ?_
       exact ⟨_,Cv.refl _,.inl rfl,tO (.i 12),by kernel_rfl,Al (by rw [<- hF1];first | (simp only [Cq,h4,cond_true,cond_false] <;> rfl))⟩
      ·refine Af<|Be ?_
       refine ⟨_,Cv.refl _,fun _ _ h=>h,fun hF => ?_⟩
       change Cq s v39 (Cf s n0) (jnN s.Edges (decide ((s.Kind:Int)=2))-x1.val) x1.val=C9 s at hF
       rw [show jnN s.Edges (decide ((s.Kind:Int)=2))-x1.val=(jnN s.Edges (decide ((s.Kind:Int)=2))-(x1.val+1))+1 by have:=x1.isLt;omega] at hF
       show Cq s v39 (Cf s n0) (jnN s.Edges (decide ((s.Kind:Int)=2))-(x1.val+1)) (x1.val+1)=C9 s
       rw [<- hF]
       first | (simp only [Cq,h4,cond_true,cond_false] <;> rfl)
     ·change Cq s v39 (Cf s n0) (jnN s.Edges (decide ((s.Kind:Int)=2))-(jnN s.Edges (decide ((s.Kind:Int)=2)))) (jnN s.Edges (decide ((s.Kind:Int)=2)))=C9 s at hF1
      rw [Nat.sub_self] at hF1
      refine Be<|AJ ?_
      refine AC<|AC ?_
      refine rc [] [gt (decide ((s.Kind:Int)=2)),gt (decide ((s.Kind:Int)=2)),gt (decide ((s.Kind:Int)=2)),gi (bif decide ((s.Kind:Int)=2) then !decide ((s.R:Int)=0) else false),gi (bif decide ((s.Kind:Int)=2) then !decide ((s.R:Int)=0) else false),gi (bif decide ((s.Kind:Int)=2) then !decide ((s.R:Int)=0) else false),gi (bif bif decide ((s.Kind:Int)=2) then !decide ((s.R:Int)=0) else false then true else decide ((s.R:Int)<0)),gi (bif bif decide ((s.Kind:Int)=2) then !decide ((s.R:Int)=0) else false then true else decide ((s.R:Int)<0)),gi (bif bif decide ((s.Kind:Int)=2) then !decide ((s.R:Int)=0) else false then true else decide ((s.R:Int)<0))] ⟨[(2,tP 200002 0),(75,tB (bif bif bif decide ((s.Kind:Int)=2) then !decide ((s.R:Int)=0) else false then true else decide ((s.R:Int)<0) then true else decide ((4194304:Int)<s.R)))],[(200002,.cells [.i 0] 85)]⟩ .nil (ci (ci (ci (ci (ci (ci (ci (ci (ci .nil)))))))))<|AJ ?_
      refine Ab _ rfl (fun h4 => ?_) (fun h4 => ?_)
      ·refine AC<|rn ⟨[(2,tP 200002 0)],[(200002,.cells [.i 3] 85)]⟩ ?_
       refine Ag<|Bd ?_
       exact ⟨_,Cv.refl _,.inl rfl,tO (.i 3),by kernel_rfl,Al (by rw [<- hF1];first | (simp only [Cq,h4,cond_true,cond_false] <;> rfl))⟩
      ·refine Af<|AJ<|AC ?_
       refine rn ⟨[(2,tP 200002 0)],[(200002,.cells [.i 0] 85)]⟩<|Ag ?_
       exact ⟨_,Cv.refl _,.inl rfl,tO (.i 0),by kernel_rfl,Al (by rw [<- hF1];first | (simp only [Cq,h4,cond_true,cond_false] <;> rfl))⟩
theorem aP (s:AQ) (hl:(s.Edges.length:Int)<=9223372036854775807):Az Tryz.prog (KD s).1 (KD s).2.1 (KD s).2.2:=AW (fun _ _=>kr) fun _=>gA s hl
end
section
open Go.RowKit
def DM (r:Ad):AQ:=AQ.mk 2 ((([AG.mk 1 (AB.mk r.X0 r.Y0) (AB.mk r.X1 r.Y0) (AB.mk 0 0)]++[AG.mk 1 (AB.mk r.X1 r.Y0) (AB.mk r.X1 r.Y1) (AB.mk 0 0)])++[AG.mk 1 (AB.mk r.X1 r.Y1) (AB.mk r.X0 r.Y1) (AB.mk 0 0)])++[AG.mk 1 (AB.mk r.X0 r.Y1) (AB.mk r.X0 r.Y0) (AB.mk 0 0)]) 0
def GK (r:Ad):FuncId×List Av×Ef:=(37,[.agg (Ad.c r)],.val [] (.av (.agg (AQ.c (DM r)))))
abbrev DP (r:Ad):=[AG.mk 1 (AB.mk r.X0 r.Y0) (AB.mk r.X1 r.Y0) (AB.mk 0 0)]
abbrev pX (r:Ad):=[AG.mk 1 (AB.mk r.X1 r.Y0) (AB.mk r.X1 r.Y1) (AB.mk 0 0)]
abbrev Ej (r:Ad):=(pX r)
abbrev U1 (r:Ad):List Cl:=[.i r.X0,.i r.Y0,.i r.X1,.i r.Y0,.i r.X1,.i r.Y1,.i r.X0,.i r.Y1]
abbrev Dm (r:Ad):Nat×Blk:=(3,.cells (U1 r) 199)
abbrev FL (r:Ad):=[AG.mk 1 (AB.mk r.X1 r.Y1) (AB.mk r.X0 r.Y1) (AB.mk 0 0)]
abbrev zzc41 (r:Ad):=AB.mk r.X0 r.Y0
abbrev DB:Nat×Blk:=(2,.cells [.i 0,vN,.i 0] 28)
abbrev zzc81 (r:Ad):=AB.mk r.X0 r.Y1
abbrev Kl (r:Ad):=[AG.mk 1 (zzc81 r) (zzc41 r) (AB.mk 0 0)]
abbrev Gn:List (Nat×Tv):=[(1,tP 1 0),(2,tP 2 0)]
abbrev MZ:List (Nat×Tv):=[(2,tP 2 0),(3,tP 3 0),(4,tP 4 0)]
abbrev pG (r:Ad):Nat×Blk:=(100002,.row 7 (((DP r)++(Ej r))++(FL r)).length (AP AG.c (((DP r)++(Ej r))++(FL r))) 68)
abbrev U6 (r:Ad):Nat×Blk:=(pG r)
abbrev U5 (r:Ad):=AP AG.c (((DP r)++(Ej r))++(FL r))
abbrev Rh:List (Nat×Tv):=[(2,tP 2 0),(3,tP 3 0),(4,tP 4 0),(28,tI 1)]
abbrev Rg:List (Nat×Tv):=[(2,tP 2 0),(3,tP 3 0),(4,tP 4 0),(28,tI 2)]
abbrev Rf:List (Nat×Tv):=[(2,tP 2 0),(3,tP 3 0),(4,tP 4 0),(28,tI 3)]
abbrev U4 (r:Ad):Nat×Blk:=(4,.cells [.i 2,.own 100002 7 (((DP r)++(Ej r))++(FL r)).length,.i 0] 28)
abbrev U2 (r:Ad):Nat×Blk:=(100001,.row 7 ((DP r)++(Ej r)).length (AP AG.c ((DP r)++(Ej r))) 68)
abbrev U0 (r:Ad):Nat×Blk:=(4,.cells [.i 2,.own 100001 7 ((DP r)++(Ej r)).length,.i 0] 28)
abbrev oD (r:Ad):Nat×Blk:=(100003,.row 7 ((((DP r)++(Ej r))++(FL r))++(Kl r)).length (AP AG.c ((((DP r)++(Ej r))++(FL r))++(Kl r))) 68)
abbrev oS (r:Ad):Nat×Blk:=(oD r)
abbrev Uy (r:Ad):Nat×Blk:=(oS r)
abbrev Ux (r:Ad):List Cl:=[.i 2,.own 100003 7 ((((DP r)++(Ej r))++(FL r))++(Kl r)).length,.i 0]
abbrev ZS (r:Ad):Nat×Blk:=(43,.row 7 ((((DP r)++(Ej r))++(FL r))++(Kl r)).length (AP AG.c ((((DP r)++(Ej r))++(FL r))++(Kl r))) 68)
abbrev Uw:List (Nat×Tv):=[(2,tP 2 0),(3,tP 3 0),(4,tP 4 0),(28,tI 0)]
abbrev Uv (r:Ad):Nat×Blk:=(4,.cells [.i 2,.own 100000 7 ((DP r).length),.i 0] 28)
abbrev RU:Nat×Blk:=(4,.cells [.i 2,vN,.i 0] 28)
abbrev Us (r:Ad):Nat×Blk:=(100000,.row 7 ((DP r).length) (AP AG.c (DP r)) 68)
abbrev ZL (r:Ad):Nat×Blk:=(4,.cells [.i 2,.own 43 7 ((((DP r)++(Ej r))++(FL r))++(Kl r)).length,.i 0] 28)
abbrev Y9 (r:Ad):Nat×Blk:=(4,.cells [.i 2,.own 43 7 (((DP r)++(Ej r))++(FL r)).length,.i 0] 28)
theorem qX (r:Ad):Bk Tryz.prog 37 (GK r).2.1 (.av (.agg (AQ.c (DM r)))):=by
 refine AV Tryz.func37 rfl kr kr fun W0 M0 => ?_
 refine AC<|rn ⟨Gn,[(1,.cells (Ad.c r) 90),DB]⟩<|AC ?_
 refine rn ⟨IF,[DB,(Dm r)]⟩<|AC ?_
 refine rn ⟨MZ,[DB,(Dm r),RU]⟩ ?_
 refine AC<|AC ?_
 refine rn ⟨Uw,[DB,(Dm r),RU]⟩<|AY ?_
 refine Gd 5 ?_
 refine DX<|AC ?_
 refine rn ⟨[(2,tP 2 0),(3,tP 3 0),(4,tP 4 0),(28,tI 0),(29,tB true)],[DB,(Dm r),RU]⟩<|AC ?_
 refine DS kr<|Af ?_
 refine AJ<|AC ?_
 refine AY<|AC ?_
 refine rn ⟨[(2,tP 2 0),(3,tP 3 0),(4,tP 4 0),(5,tI 0),(28,tI 0)],[DB,(Dm r),RU]⟩ ?_
 refine dw [] [] [0<=(0:Int)/\(0:Int)<(4:Int),(4:Int)≠0,0<=(1:Int)/\(1:Int)<(4:Int),1<=maxLen,1*56<=140737488355328] ⟨Uw,[DB,(Dm r),(4,.cells [.i 2,.own 43 7 1,.i 0] 28),(43,.row 7 1 (Ay 7 1 [.i 1,.i r.X0,.i r.Y0,.i r.X1,.i r.Y0,.i 0,.i 0]) 68)]⟩ .nil (.cons (by decide) (.cons au15 (.cons (by decide) (.cons au3 (.cons au3 .nil)))))<|Be<|AJ ?_
 refine Ba (Cv.trans (BT (⟨Uw,[DB,(Dm r),(4,.cells [.i 2,.own 43 7 ((DP r).length),.i 0] 28),(43,.row 7 ((DP r).length) (AP AG.c (DP r)) 68)]⟩) lr (.cons ⟨rfl,.refl _⟩ (.cons ⟨rfl,.refl _⟩ (.cons ⟨rfl,.cells _ (rr (.cons (.own _ _ au2) (rr .nil)))⟩ (.cons ⟨rfl,Ap 68 (Aw (c:=AG.c) (xs:=([AG.mk 1 (AB.mk r.X0 r.Y0) (AB.mk r.X1 r.Y0) (AB.mk 0 0)]:List AG)) rfl kr)⟩ .nil))))) (Cv.refl _)) ?_
 refine rn ⟨Rh,[DB,(Dm r),(4,.cells [.i 2,.own 43 7 ((DP r).length),.i 0] 28),(43,.row 7 ((DP r).length) (AP AG.c (DP r)) 68)]⟩ ?_
 refine DX ?_
 refine Ba (Cv.trans (BR (⟨Rh,[DB,(Dm r),(Uv r),(Us r)]⟩) 43 100000 (K:=[]) (fun k x h=>by cases h) rfl rfl kr kr) (Cv.refl _))<|AC ?_
 refine rn ⟨[(2,tP 2 0),(3,tP 3 0),(4,tP 4 0),(28,tI 1),(29,tB true)],[DB,(Dm r),(Uv r),(Us r)]⟩<|AC ?_
 refine DS kr<|Af ?_
 refine AJ<|AC ?_
 refine AY<|AC ?_
 refine rn ⟨[(2,tP 2 0),(3,tP 3 0),(4,tP 4 0),(5,tI 1),(28,tI 1)],[DB,(Dm r),(Uv r),(Us r)]⟩ ?_
 refine dw [] [] [0<=(1:Int)/\(1:Int)<(4:Int),(4:Int)≠0,0<=(2:Int)/\(2:Int)<(4:Int),[AG.mk 1 (AB.mk r.X0 r.Y0) (AB.mk r.X1 r.Y0) (AB.mk 0 0)].length=[AG.mk 1 (AB.mk r.X0 r.Y0) (AB.mk r.X1 r.Y0) (AB.mk 0 0)].length,([AG.mk 1 (AB.mk r.X0 r.Y0) (AB.mk r.X1 r.Y0) (AB.mk 0 0)].length)+1<=maxLen,(([AG.mk 1 (AB.mk r.X0 r.Y0) (AB.mk r.X1 r.Y0) (AB.mk 0 0)].length)+1)*56<=140737488355328] ⟨Rh,[DB,(Dm r),(4,.cells [.i 2,.own 43 7 (((DP r).length)+1),.i 0] 28),(43,.row 7 (((DP r).length)+1) (fun i_ j_=>if i_<((DP r).length) then (AP AG.c (DP r)) i_ j_ else (Ay 7 1 [.i 1,.i r.X1,.i r.Y0,.i r.X1,.i r.Y1,.i 0,.i 0]) (i_-((DP r).length)) j_) 68)]⟩ .nil (.cons (by decide) (.cons au15 (.cons (by decide) (.cons rfl (.cons au3 (.cons au3 .nil))))))<|Be<|AJ ?_
 refine Ba (Cv.trans (BT (⟨Rh,[DB,(Dm r),(4,.cells [.i 2,.own 43 7 ((DP r)++(Ej r)).length,.i 0] 28),(43,.row 7 ((DP r)++(Ej r)).length (AP AG.c ((DP r)++(Ej r))) 68)]⟩) lr (.cons ⟨rfl,.refl _⟩ (.cons ⟨rfl,.refl _⟩ (.cons ⟨rfl,.cells _ (rr (.cons (.own _ _ au2) (rr .nil)))⟩ (.cons ⟨rfl,Ap 68 (BZ (BM 7 AG.c [AG.mk 1 (AB.mk r.X0 r.Y0) (AB.mk r.X1 r.Y0) (AB.mk 0 0)]) (Aw (c:=AG.c) (xs:=([AG.mk 1 (AB.mk r.X1 r.Y0) (AB.mk r.X1 r.Y1) (AB.mk 0 0)]:List AG)) rfl kr))⟩ .nil))))) (Cv.refl _)) ?_
 refine rn ⟨Rg,[DB,(Dm r),(4,.cells [.i 2,.own 43 7 ((DP r)++(Ej r)).length,.i 0] 28),(43,.row 7 ((DP r)++(Ej r)).length (AP AG.c ((DP r)++(Ej r))) 68)]⟩ ?_
 refine DX ?_
 refine Ba (Cv.trans (BR (⟨Rg,[DB,(Dm r),(U0 r),(U2 r)]⟩) 43 100001 (K:=[]) (fun k x h=>by cases h) rfl rfl kr kr) (Cv.refl _))<|AC ?_
 refine rn ⟨[(2,tP 2 0),(3,tP 3 0),(4,tP 4 0),(28,tI 2),(29,tB true)],[DB,(Dm r),(U0 r),(U2 r)]⟩<|AC ?_
 refine DS kr<|Af ?_
 refine AJ<|AC ?_
 refine AY<|AC ?_
 refine rn ⟨[(2,tP 2 0),(3,tP 3 0),(4,tP 4 0),(5,tI 2),(28,tI 2)],[DB,(Dm r),(U0 r),(U2 r)]⟩ ?_
 refine dw [] [] [0<=(2:Int)/\(2:Int)<(4:Int),(4:Int)≠0,0<=(3:Int)/\(3:Int)<(4:Int),([AG.mk 1 (AB.mk r.X0 r.Y0) (AB.mk r.X1 r.Y0) (AB.mk 0 0)]++[AG.mk 1 (AB.mk r.X1 r.Y0) (AB.mk r.X1 r.Y1) (AB.mk 0 0)]).length=([AG.mk 1 (AB.mk r.X0 r.Y0) (AB.mk r.X1 r.Y0) (AB.mk 0 0)]++[AG.mk 1 (AB.mk r.X1 r.Y0) (AB.mk r.X1 r.Y1) (AB.mk 0 0)]).length,([AG.mk 1 (AB.mk r.X0 r.Y0) (AB.mk r.X1 r.Y0) (AB.mk 0 0)]++[AG.mk 1 (AB.mk r.X1 r.Y0) (AB.mk r.X1 r.Y1) (AB.mk 0 0)]).length+1<=maxLen,(([AG.mk 1 (AB.mk r.X0 r.Y0) (AB.mk r.X1 r.Y0) (AB.mk 0 0)]++[AG.mk 1 (AB.mk r.X1 r.Y0) (AB.mk r.X1 r.Y1) (AB.mk 0 0)]).length+1)*56<=140737488355328] ⟨Rg,[DB,(Dm r),(4,.cells [.i 2,.own 43 7 (((DP r)++(Ej r)).length+1),.i 0] 28),(43,.row 7 (((DP r)++(Ej r)).length+1) (fun i_ j_=>if i_<((DP r)++(Ej r)).length then (AP AG.c ((DP r)++(Ej r))) i_ j_ else (Ay 7 1 [.i 1,.i r.X1,.i r.Y1,.i r.X0,.i r.Y1,.i 0,.i 0]) (i_-((DP r)++(Ej r)).length) j_) 68)]⟩ .nil (.cons (by decide) (.cons au15 (.cons (by decide) (.cons rfl (.cons au3 (.cons au3 .nil))))))<|Be<|AJ ?_
 refine Ba (Cv.trans (BT (⟨Rg,[DB,(Dm r),(Y9 r),(43,.row 7 (((DP r)++(Ej r))++(FL r)).length (U5 r) 68)]⟩) lr (.cons ⟨rfl,.refl _⟩ (.cons ⟨rfl,.refl _⟩ (.cons ⟨rfl,.cells _ (rr (.cons (.own _ _ au2) (rr .nil)))⟩ (.cons ⟨rfl,Ap 68 (BZ (BM 7 AG.c ([AG.mk 1 (AB.mk r.X0 r.Y0) (AB.mk r.X1 r.Y0) (AB.mk 0 0)]++[AG.mk 1 (AB.mk r.X1 r.Y0) (AB.mk r.X1 r.Y1) (AB.mk 0 0)])) (Aw (c:=AG.c) (xs:=([AG.mk 1 (AB.mk r.X1 r.Y1) (AB.mk r.X0 r.Y1) (AB.mk 0 0)]:List AG)) rfl kr))⟩ .nil))))) (Cv.refl _)) ?_
 refine rn ⟨Rf,[DB,(Dm r),(Y9 r),(43,.row 7 (((DP r)++(Ej r))++(FL r)).length (U5 r) 68)]⟩ ?_
 refine DX ?_
 refine Ba (Cv.trans (BR (⟨Rf,[DB,(Dm r),(U4 r),(U6 r)]⟩) 43 100002 (K:=[]) (fun k x h=>by cases h) rfl rfl kr kr) (Cv.refl _))<|AC ?_
 refine rn ⟨[(2,tP 2 0),(3,tP 3 0),(4,tP 4 0),(28,tI 3),(29,tB true)],[DB,(Dm r),(U4 r),(U6 r)]⟩<|AC ?_
 refine DS kr<|Af ?_
 refine AJ<|AC ?_
 refine AY<|AC ?_
 refine rn ⟨[(2,tP 2 0),(3,tP 3 0),(4,tP 4 0),(5,tI 3),(28,tI 3)],[DB,(Dm r),(U4 r),(U6 r)]⟩ ?_
 refine dw [] [] [0<=(3:Int)/\(3:Int)<(4:Int),(4:Int)≠0,0<=(0:Int)/\(0:Int)<(4:Int),(([AG.mk 1 (AB.mk r.X0 r.Y0) (AB.mk r.X1 r.Y0) (AB.mk 0 0)]++[AG.mk 1 (AB.mk r.X1 r.Y0) (AB.mk r.X1 r.Y1) (AB.mk 0 0)])++[AG.mk 1 (AB.mk r.X1 r.Y1) (AB.mk r.X0 r.Y1) (AB.mk 0 0)]).length=(([AG.mk 1 (AB.mk r.X0 r.Y0) (AB.mk r.X1 r.Y0) (AB.mk 0 0)]++[AG.mk 1 (AB.mk r.X1 r.Y0) (AB.mk r.X1 r.Y1) (AB.mk 0 0)])++[AG.mk 1 (AB.mk r.X1 r.Y1) (AB.mk r.X0 r.Y1) (AB.mk 0 0)]).length,(([AG.mk 1 (AB.mk r.X0 r.Y0) (AB.mk r.X1 r.Y0) (AB.mk 0 0)]++[AG.mk 1 (AB.mk r.X1 r.Y0) (AB.mk r.X1 r.Y1) (AB.mk 0 0)])++[AG.mk 1 (AB.mk r.X1 r.Y1) (AB.mk r.X0 r.Y1) (AB.mk 0 0)]).length+1<=maxLen,((([AG.mk 1 (AB.mk r.X0 r.Y0) (AB.mk r.X1 r.Y0) (AB.mk 0 0)]++[AG.mk 1 (AB.mk r.X1 r.Y0) (AB.mk r.X1 r.Y1) (AB.mk 0 0)])++[AG.mk 1 (AB.mk r.X1 r.Y1) (AB.mk r.X0 r.Y1) (AB.mk 0 0)]).length+1)*56<=140737488355328] ⟨Rf,[DB,(Dm r),(4,.cells [.i 2,.own 43 7 ((((DP r)++(Ej r))++(FL r)).length+1),.i 0] 28),(43,.row 7 ((((DP r)++(Ej r))++(FL r)).length+1) (fun i_ j_=>if i_<(((DP r)++(Ej r))++(FL r)).length then (U5 r) i_ j_ else (Ay 7 1 [.i 1,.i r.X0,.i r.Y1,.i r.X0,.i r.Y0,.i 0,.i 0]) (i_-(((DP r)++(Ej r))++(FL r)).length) j_) 68)]⟩ .nil (.cons (by decide) (.cons au15 (.cons (by decide) (.cons rfl (.cons au3 (.cons au3 .nil))))))<|Be<|AJ ?_
 refine Ba (Cv.trans (BT (⟨Rf,[DB,(Dm r),(ZL r),(ZS r)]⟩) lr (.cons ⟨rfl,.refl _⟩ (.cons ⟨rfl,.refl _⟩ (.cons ⟨rfl,.cells _ (rr (.cons (.own _ _ au2) (rr .nil)))⟩ (.cons ⟨rfl,Ap 68 (BZ (BM 7 AG.c (([AG.mk 1 (AB.mk r.X0 r.Y0) (AB.mk r.X1 r.Y0) (AB.mk 0 0)]++[AG.mk 1 (AB.mk r.X1 r.Y0) (AB.mk r.X1 r.Y1) (AB.mk 0 0)])++[AG.mk 1 (AB.mk r.X1 r.Y1) (AB.mk r.X0 r.Y1) (AB.mk 0 0)])) (Aw (c:=AG.c) (xs:=([AG.mk 1 (AB.mk r.X0 r.Y1) (AB.mk r.X0 r.Y0) (AB.mk 0 0)]:List AG)) rfl kr))⟩ .nil))))) (Cv.refl _)) ?_
 refine rn ⟨[(2,tP 2 0),(3,tP 3 0),(4,tP 4 0),(28,tI 4)],[DB,(Dm r),(ZL r),(ZS r)]⟩ ?_
 refine DX ?_
 refine Ba (Cv.trans (BR (⟨[(2,tP 2 0),(3,tP 3 0),(4,tP 4 0),(28,tI 4)],[DB,(Dm r),(4,.cells (Ux r) 28),(Uy r)]⟩) 43 100003 (K:=[]) (fun k x h=>by cases h) rfl rfl kr kr) (Cv.refl _))<|AC ?_
 refine rn ⟨[(2,tP 2 0),(3,tP 3 0),(4,tP 4 0),(28,tI 4),(29,tB false)],[DB,(Dm r),(4,.cells (Ux r) 28),(Uy r)]⟩<|AC ?_
 refine E7 kr<|BV ?_
 refine BE<|BE ?_
 refine BW<|AJ<|AC ?_
 refine rn ⟨[(2,tP 2 0)],[(2,.cells (Ux r) 28),(Uy r)]⟩<|Ag ?_
 exact ⟨_,Cv.trans (Dn (⟨[(2,tP 2 0)],[(2,.cells [.i 2,lst 7 AG.c ((((DP r)++(Ej r))++(FL r))++(Kl r)),.i 0] 28)]⟩) 100003 7 ((([AG.mk 1 (AB.mk r.X0 r.Y0) (AB.mk r.X1 r.Y0) (AB.mk 0 0)]++[AG.mk 1 (AB.mk r.X1 r.Y0) (AB.mk r.X1 r.Y1) (AB.mk 0 0)])++[AG.mk 1 (AB.mk r.X1 r.Y1) (AB.mk r.X0 r.Y1) (AB.mk 0 0)])++[AG.mk 1 (AB.mk r.X0 r.Y1) (AB.mk r.X0 r.Y0) (AB.mk 0 0)]).length (AP AG.c ((([AG.mk 1 (AB.mk r.X0 r.Y0) (AB.mk r.X1 r.Y0) (AB.mk 0 0)]++[AG.mk 1 (AB.mk r.X1 r.Y0) (AB.mk r.X1 r.Y1) (AB.mk 0 0)])++[AG.mk 1 (AB.mk r.X1 r.Y1) (AB.mk r.X0 r.Y1) (AB.mk 0 0)])++[AG.mk 1 (AB.mk r.X0 r.Y1) (AB.mk r.X0 r.Y0) (AB.mk 0 0)])) 68 (K:=[]) (fun k x h=>by cases h) kr kr (.cons ⟨rfl,rfl⟩ .nil) kr) (Cv.refl _),.inl rfl,.av (.agg [.i 2,lst 7 AG.c ((([AG.mk 1 (AB.mk r.X0 r.Y0) (AB.mk r.X1 r.Y0) (AB.mk 0 0)]++[AG.mk 1 (AB.mk r.X1 r.Y0) (AB.mk r.X1 r.Y1) (AB.mk 0 0)])++[AG.mk 1 (AB.mk r.X1 r.Y1) (AB.mk r.X0 r.Y1) (AB.mk 0 0)])++[AG.mk 1 (AB.mk r.X0 r.Y1) (AB.mk r.X0 r.Y0) (AB.mk 0 0)]),.i 0]),by kernel_rfl,Al (by rfl)⟩
theorem N5 (r:Ad):Az Tryz.prog (GK r).1 (GK r).2.1 (GK r).2.2:=AW (fun _ _=>kr) fun _=>qX r
def Fi (p1:(List AG)) (p2:(List AG)):Nat->Int->Bool
 | 0,_=>default
 | n0+1,v13=>bif decide ((v13:Int)<(p1.length:Int)) then (bif !(decide ((p1.getD v13.toNat default).Kind=(p2.getD v13.toNat default).Kind)&&(decide ((p1.getD v13.toNat default).A.X=(p2.getD v13.toNat default).A.X)&&(decide ((p1.getD v13.toNat default).A.Y=(p2.getD v13.toNat default).A.Y)&&(decide ((p1.getD v13.toNat default).B.X=(p2.getD v13.toNat default).B.X)&&(decide ((p1.getD v13.toNat default).B.Y=(p2.getD v13.toNat default).B.Y)&&(decide ((p1.getD v13.toNat default).C.X=(p2.getD v13.toNat default).C.X)&&(decide ((p1.getD v13.toNat default).C.Y=(p2.getD v13.toNat default).C.Y)&&true))))))) then false else ((Fi p1 p2 n0) (v13+1))) else true
def HP (p1:(List AG)) (p2:(List AG)):Bool:=bif !decide (((p1.length:Int):Int)=(p2.length:Int)) then false else (Fi p1 p2 (((p1.length:Int)-0).toNat+1) 0)
def KA (p1:(List AG)) (p2:(List AG)):FuncId×List Av×Ef:=(81,[.one (lst 7 AG.c p1),.one (lst 7 AG.c p2)],.val [] (.av (.one (.b (HP p1 p2)))))
abbrev JG (p1:List AG):Nat×Tv:=(0,tO (lst 7 AG.c p1))
abbrev JF (p2:List AG):Nat×Tv:=(1,tO (lst 7 AG.c p2))
abbrev MI (p1:List AG):Nat×Tv:=(12,tI (p1.length:Int))
theorem fS (p1:(List AG)) (p2:(List AG)) (h0:(p1.length:Int)<=1000000):Bk Tryz.prog 81 (KA p1 p2).2.1 (tO (.b (HP p1 p2))):=by
 refine AV Tryz.func81 rfl kr kr fun W0 M0 => ?_
 refine AC<|rn ⟨[(JG p1),(JF p2)],[]⟩ ?_
 refine AC<|AC ?_
 refine rn ⟨[(JG p1),(JF p2),(10,tB (!decide (((p1.length:Int):Int)=(p2.length:Int))))],[]⟩ ?_
 refine Ab _ rfl (fun h1 => ?_) (fun h1 => ?_)
 ·have g1:=CF h1
  refine AC<|rn ⟨[(4,tB false)],[]⟩ ?_
  refine Ag<|Bd ?_
  exact ⟨_,Cv.refl _,.inl rfl,tO (.b false),by kernel_rfl,Al (by first | (simp only [HP,h1,cond_true,cond_false] <;> rfl))⟩
 ·have g1:=B6 h1
  refine Af<|AJ ?_
  refine AC<|AC ?_
  refine rn ⟨[(JG p1),(JF p2),(MI p1),(13,tI 0)],[]⟩<|AY ?_
  refine BS (ι:=Nat×Int) (fun x=>⟨[(JG p1),(JF p2),(MI p1),(13,tI x.2)],[]⟩) (fun x=>((p1.length:Int)-x.2).toNat<x.1/\(0<=x.2/\(x.2<=(p1.length:Int)\/x.2=0))/\Fi p1 p2 x.1 x.2=HP p1 p2) (fun x=>x.1) ?_ (((p1.length:Int)-0).toNat+1,0) ⟨Nat.lt_succ_self _,⟨ax0,ax0⟩,(by simp only [HP,h1,cond_true,cond_false])⟩
  rintro ⟨n0,v13⟩ ⟨hn,hinv,hF⟩
  have hm0:=hn;have hinv0:=hinv;have hF0:=hF;try dsimp only at hm0 hinv0 hF0
  clear hn hinv hF
  cases n0 with
  | zero=>exact absurd hm0 (Nat.not_lt_zero _)
  | succ n0 =>
   refine AC<|rn ⟨[(JG p1),(JF p2),(MI p1),(13,tI v13),(14,tB (decide ((v13:Int)<(p1.length:Int))))],[]⟩<|AC ?_
   refine Ab _ rfl (fun h2 => ?_) (fun h2 => ?_)
   ·have g2:=oT h2
    refine Af<|AJ ?_
    refine AC<|AY<|AC ?_
    refine rn ⟨[(JG p1),(JF p2),(5,tI v13),(MI p1),(13,tI v13)],[]⟩<|AC ?_
    refine dw [] [] [0<=(v13:Int)/\(v13:Int)<((p1.length:Nat):Int),0<=(v13:Int)/\(v13:Int)<((p2.length:Nat):Int)] ⟨[(JG p1),(JF p2),(MI p1),(13,tI v13),(24,tB (!(decide ((p1.getD v13.toNat default).Kind=(p2.getD v13.toNat default).Kind)&&(decide ((p1.getD v13.toNat default).A.X=(p2.getD v13.toNat default).A.X)&&(decide ((p1.getD v13.toNat default).A.Y=(p2.getD v13.toNat default).A.Y)&&(decide ((p1.getD v13.toNat default).B.X=(p2.getD v13.toNat default).B.X)&&(decide ((p1.getD v13.toNat default).B.Y=(p2.getD v13.toNat default).B.Y)&&(decide ((p1.getD v13.toNat default).C.X=(p2.getD v13.toNat default).C.X)&&(decide ((p1.getD v13.toNat default).C.Y=(p2.getD v13.toNat default).C.Y)&&true)))))))))],[]⟩ .nil (.cons au0 (.cons au0 .nil))<|AJ ?_
    refine Ab (!(decide ((p1.getD v13.toNat default).Kind=(p2.getD v13.toNat default).Kind)&&(decide ((p1.getD v13.toNat default).A.X=(p2.getD v13.toNat default).A.X)&&(decide ((p1.getD v13.toNat default).A.Y=(p2.getD v13.toNat default).A.Y)&&(decide ((p1.getD v13.toNat default).B.X=(p2.getD v13.toNat default).B.X)&&(decide ((p1.getD v13.toNat default).B.Y=(p2.getD v13.toNat default).B.Y)&&(decide ((p1.getD v13.toNat default).C.X=(p2.getD v13.toNat default).C.X)&&(decide ((p1.getD v13.toNat default).C.Y=(p2.getD v13.toNat default).C.Y)&&true)))))))) kr (fun h3 => ?_) (fun h3 => ?_)
    ·refine AC<|rn ⟨[(4,tB false)],[]⟩ ?_
     refine Ag<|CO ?_
     refine Bd<|Bd ?_
     refine CO<|Bd ?_
     exact ⟨_,Cv.refl _,.inl rfl,tO (.b false),by kernel_rfl,Al (by rw [<- hF0];first | (simp only [Fi,h2,h3,cond_true,cond_false] <;> rfl))⟩
    ·refine Af<|Be<|AJ ?_
     refine rg ⟨[(JG p1),(JF p2),(MI p1),(13,tI (W64 (v13+1)))],[]⟩ ?_
     (try rw [(show W64 (v13+1)=v13+1 from An (by omega) au6)])
     refine AJ ?_
     refine ⟨(n0,v13+1),⟨?_,?_,(by rw [<- hF0];simp only [Fi,h2,h3,cond_true,cond_false])⟩,Nat.lt_succ_self _,BB kr⟩
     ·show ((p1.length:Int)-(v13+1)).toNat<n0;omega
     ·exact ⟨ax0,ax0⟩
   ·have g2:=oF h2
    refine BV<|BE ?_
    refine BE<|BW ?_
    refine AJ<|AC ?_
    refine rn ⟨[(4,tB true)],[]⟩<|Ag ?_
    exact ⟨_,Cv.refl _,.inl rfl,tO (.b true),by kernel_rfl,Al (by rw [<- hF0];first | (simp only [Fi,h2,cond_true,cond_false] <;> rfl))⟩
theorem aJ (p1:(List AG)) (p2:(List AG)) (h0:(p1.length:Int)<=1000000):Az Tryz.prog (KA p1 p2).1 (KA p1 p2).2.1 (KA p1 p2).2.2:=AW (fun _ _=>kr) fun _=>fS p1 p2 h0
def NJ (a:AQ) (b:AQ):Bool:=bif bif decide ((a.Kind:Int)=b.Kind) then decide ((a.R:Int)=b.R) else false then HP a.Edges b.Edges else false
def Jp (a:AQ) (b:AQ):FuncId×List Av×Ef:=(31,[.agg (AQ.c a),.agg (AQ.c b)],.val [] (.av (.one (.b (NJ a b)))))
abbrev Mh (a:AQ) (b:AQ):=(bif decide ((a.Kind:Int)=b.Kind) then decide ((a.R:Int)=b.R) else false)
abbrev JV (a:AQ) (b:AQ):List (Nat×Blk):=[(2,.cells (AQ.c a) 28),(3,.cells (AQ.c b) 28)]
abbrev OM (a:AQ) (b:AQ):Bool:=(decide ((a.Kind:Int)=b.Kind))
theorem au14 {p:Prop} (h:p:=by first | (exact VJ hb _) | (exact VR hb _) | (exact hb.parts) | (exact hb.tracks) | (exact hb.vias) | (exact hb.slots) | (exact hb.nets) | (exact hb.pins) | (exact Hv hb.parts ht) | with_reducible assumption | omega | decide | (simp only [List.length_cons,List.length_nil,List.length_append];omega) | assumption):p:=h
theorem qU (a:AQ) (b:AQ) (h0:(a.Edges.length:Int)<=1000000) (h1:(b.Edges.length:Int)<=1000000):Bk Tryz.prog 31 (Jp a b).2.1 (tO (.b (NJ a b))):=by
 refine AV Tryz.func31 rfl kr kr fun W0 M0 => ?_
 refine AC<|rn ⟨IF,(JV a b)⟩<|AC ?_
 refine rc [(22,KA a.Edges b.Edges)] [gt (OM a b),gt (OM a b),gt (OM a b),gt (OM a b),gt (OM a b),gt (Mh a b),gt (Mh a b),gt (Mh a b),gt (Mh a b),gk (Mh a b) (Ak (KA a.Edges b.Edges).2.1),gt (Mh a b)] ⟨[(4,tB (bif bif decide ((a.Kind:Int)=b.Kind) then decide ((a.R:Int)=b.R) else false then HP a.Edges b.Edges else false))],[]⟩ (.cons (aJ a.Edges b.Edges au14) .nil) (ci (ci (ci (ci (ci (ci (ci (ci (ci (.cons (fun _=>rfl) (ci .nil)))))))))))<|AJ<|Ag ?_
 exact ⟨_,Cv.refl _,.inl rfl,tO (.b (bif bif decide ((a.Kind:Int)=b.Kind) then decide ((a.R:Int)=b.R) else false then HP a.Edges b.Edges else false)),by kernel_rfl,Al (by rfl)⟩
theorem Ws (a:AQ) (b:AQ) (h0:(a.Edges.length:Int)<=1000000) (h1:(b.Edges.length:Int)<=1000000):Az Tryz.prog (Jp a b).1 (Jp a b).2.1 (Jp a b).2.2:=AW (fun _ _=>kr) fun _=>qU a b h0 h1
theorem or3_f {p q r:Prop} [Decidable p] [Decidable q] [Decidable r] (h:(bif bif !decide p then true else !decide q then true else !decide r)=false):p/\q/\r:=by
 by_cases hp:p <;> by_cases hq:q <;> by_cases hr:r <;> simp_all
def Gf (a:AQ) (b:AQ):Nat->Int->Bool
 | 0,_=>default
 | n0+1,k=>bif decide ((k:Int)<(a.Edges.length:Int)) then (bif !(decide ((a.Edges.getD k.toNat default).Kind=(b.Edges.getD k.toNat default).Kind)&&(decide ((a.Edges.getD k.toNat default).A.X=(b.Edges.getD k.toNat default).A.X)&&(decide ((a.Edges.getD k.toNat default).A.Y=(b.Edges.getD k.toNat default).A.Y)&&(decide ((a.Edges.getD k.toNat default).B.X=(b.Edges.getD k.toNat default).B.X)&&(decide ((a.Edges.getD k.toNat default).B.Y=(b.Edges.getD k.toNat default).B.Y)&&(decide ((a.Edges.getD k.toNat default).C.X=(b.Edges.getD k.toNat default).C.X)&&(decide ((a.Edges.getD k.toNat default).C.Y=(b.Edges.getD k.toNat default).C.Y)&&true))))))) then false else ((Gf a b n0) (k+1))) else true
def LG (a:AQ) (b:AQ):Bool:=bif bif bif !decide ((a.Kind:Int)=b.Kind) then true else !decide ((a.R:Int)=b.R) then true else !decide (((a.Edges.length:Int):Int)=(b.Edges.length:Int)) then false else (Gf a b (((a.Edges.length:Int)-0).toNat+1) 0)
def Mz (a:AQ) (b:AQ):FuncId×List Av×Ef:=(59,[.agg (AQ.c a),.agg (AQ.c b)],.val [] (.av (.one (.b (LG a b)))))
abbrev OE (a:AQ) (b:AQ):=(bif !decide ((a.Kind:Int)=b.Kind) then true else !decide ((a.R:Int)=b.R))
abbrev OP (a:AQ) (b:AQ):Bool:=(!decide ((a.Kind:Int)=b.Kind))
theorem qV (a:AQ) (b:AQ) (h0:(a.Edges.length:Int)<=1000000) (h1:(b.Edges.length:Int)<=1000000):Bk Tryz.prog 59 (Mz a b).2.1 (tO (.b (LG a b))):=by
 refine AV Tryz.func59 rfl kr kr fun W0 M0 => ?_
 refine AC<|rn ⟨IF,(JV a b)⟩ ?_
 refine AC<|AC ?_
 refine rc [] [gi (OP a b),gi (OP a b),gi (OP a b),gi (OP a b),gi (OP a b),gi (OE a b),gi (OE a b),gi (OE a b),gi (OE a b),gi (OE a b),gi (OE a b),gi (OE a b)] ⟨[(2,tP 2 0),(3,tP 3 0),(26,tB (bif bif !decide ((a.Kind:Int)=b.Kind) then true else !decide ((a.R:Int)=b.R) then true else !decide (((a.Edges.length:Int):Int)=(b.Edges.length:Int))))],(JV a b)⟩ .nil (ci (ci (ci (ci (ci (ci (ci (ci (ci (ci (ci (ci .nil))))))))))))<|AJ ?_
 refine Ab _ rfl (fun h1 => ?_) (fun h1 => ?_)
 ·refine AC<|rn ⟨[(4,tB false)],[]⟩ ?_
  refine Ag<|Bd ?_
  exact ⟨_,Cv.refl _,.inl rfl,tO (.b false),by kernel_rfl,Al (by first | (simp only [LG,h1,cond_true,cond_false] <;> rfl))⟩
 ·refine Af<|AJ ?_
  refine AC<|AC ?_
  refine rn ⟨[(2,tP 2 0),(3,tP 3 0),(5,tI 0)],(JV a b)⟩<|AY ?_
  refine BS (ι:=Nat×Int) (fun x=>⟨[(2,tP 2 0),(3,tP 3 0),(5,tI x.2)],(JV a b)⟩) (fun x=>((a.Edges.length:Int)-x.2).toNat<x.1/\(0<=x.2/\(x.2<=(a.Edges.length:Int)\/x.2=0))/\Gf a b x.1 x.2=LG a b) (fun x=>x.1) ?_ (((a.Edges.length:Int)-0).toNat+1,0) ⟨Nat.lt_succ_self _,⟨ax0,ax0⟩,(by simp only [LG,h1,cond_true,cond_false])⟩
  rintro ⟨n0,k⟩ ⟨hn,hinv,hF⟩
  have hm0:=hn;have hinv0:=hinv;have hF0:=hF;try dsimp only at hm0 hinv0 hF0
  clear hn hinv hF
  cases n0 with
  | zero=>exact absurd hm0 (Nat.not_lt_zero _)
  | succ n0 =>
   have hE:=(or3_f h1).2.2
   refine AC<|AC ?_
   refine rn ⟨[(2,tP 2 0),(3,tP 3 0),(5,tI k),(31,tB (decide ((k:Int)<(a.Edges.length:Int))))],(JV a b)⟩ ?_
   refine Ab _ rfl (fun h2 => ?_) (fun h2 => ?_)
   ·have g2:=oT h2
    refine Af<|AJ ?_
    refine AC<|AY<|AC ?_
    refine dw [] [] [0<=(k:Int)/\(k:Int)<((a.Edges.length:Nat):Int),0<=(k:Int)/\(k:Int)<((b.Edges.length:Nat):Int)] ⟨[(2,tP 2 0),(3,tP 3 0),(5,tI k),(44,tB (!(decide ((a.Edges.getD k.toNat default).Kind=(b.Edges.getD k.toNat default).Kind)&&(decide ((a.Edges.getD k.toNat default).A.X=(b.Edges.getD k.toNat default).A.X)&&(decide ((a.Edges.getD k.toNat default).A.Y=(b.Edges.getD k.toNat default).A.Y)&&(decide ((a.Edges.getD k.toNat default).B.X=(b.Edges.getD k.toNat default).B.X)&&(decide ((a.Edges.getD k.toNat default).B.Y=(b.Edges.getD k.toNat default).B.Y)&&(decide ((a.Edges.getD k.toNat default).C.X=(b.Edges.getD k.toNat default).C.X)&&(decide ((a.Edges.getD k.toNat default).C.Y=(b.Edges.getD k.toNat default).C.Y)&&true)))))))))],(JV a b)⟩ .nil (.cons au0 (.cons au0 .nil))<|AJ ?_
    refine Ab (!(decide ((a.Edges.getD k.toNat default).Kind=(b.Edges.getD k.toNat default).Kind)&&(decide ((a.Edges.getD k.toNat default).A.X=(b.Edges.getD k.toNat default).A.X)&&(decide ((a.Edges.getD k.toNat default).A.Y=(b.Edges.getD k.toNat default).A.Y)&&(decide ((a.Edges.getD k.toNat default).B.X=(b.Edges.getD k.toNat default).B.X)&&(decide ((a.Edges.getD k.toNat default).B.Y=(b.Edges.getD k.toNat default).B.Y)&&(decide ((a.Edges.getD k.toNat default).C.X=(b.Edges.getD k.toNat default).C.X)&&(decide ((a.Edges.getD k.toNat default).C.Y=(b.Edges.getD k.toNat default).C.Y)&&true)))))))) kr (fun h3 => ?_) (fun h3 => ?_)
    ·refine AC<|rn ⟨[(4,tB false)],[]⟩ ?_
     refine Ag<|CO ?_
     refine Bd<|Bd ?_
     refine CO<|Bd ?_
     exact ⟨_,Cv.refl _,.inl rfl,tO (.b false),by kernel_rfl,Al (by rw [<- hF0];first | (simp only [Gf,h2,h3,cond_true,cond_false] <;> rfl))⟩
    ·refine Af<|Be<|AJ ?_
     refine rg ⟨[(2,tP 2 0),(3,tP 3 0),(5,tI (W64 (k+1)))],(JV a b)⟩ ?_
     (try rw [(show W64 (k+1)=k+1 from An (by omega) au6)])
     refine AJ ?_
     refine ⟨(n0,k+1),⟨?_,?_,(by rw [<- hF0];simp only [Gf,h2,h3,cond_true,cond_false])⟩,Nat.lt_succ_self _,BB kr⟩
     ·show ((a.Edges.length:Int)-(k+1)).toNat<n0;omega
     ·exact ⟨ax0,ax0⟩
   ·have g2:=oF h2
    refine BV<|BE ?_
    refine BE<|BW ?_
    refine AJ<|AC ?_
    refine rn ⟨[(4,tB true)],[]⟩<|Ag ?_
    exact ⟨_,Cv.refl _,.inl rfl,tO (.b true),by kernel_rfl,Al (by rw [<- hF0];first | (simp only [Gf,h2,cond_true,cond_false] <;> rfl))⟩
theorem gM (a:AQ) (b:AQ) (h0:(a.Edges.length:Int)<=1000000) (h1:(b.Edges.length:Int)<=1000000):Az Tryz.prog (Mz a b).1 (Mz a b).2.1 (Mz a b).2.2:=AW (fun _ _=>kr) fun _=>qV a b h0 h1
end
section
open Go.RowKit
abbrev D6 (b:AF):List Cl:=[.i b.Layers,.i b.Outline.Kind,lst 7 AG.c b.Outline.Edges,.i b.Outline.R,lst 7 AE.c b.Parts,lst 2 A1.c b.Nets,lst 6 AO.c b.Tracks,lst 8 As.c b.Vias,lst 8 A0.c b.Pours,lst 5 Bb.c b.Keeps,lst 4 Am.c b.Slots,lst 2 B8.c b.Classes,.any,lst 3 B4.c b.Waivers,lst 3 Dw.c b.Matches]
theorem Mm (b:AF):∀ y∈D6 b,NM y:=by
 intro y hy
 simp only [D6,List.mem_cons,List.not_mem_nil,or_false] at hy
 rcases hy with rfl | rfl | rfl | rfl | rfl | rfl | rfl | rfl | rfl | rfl | rfl | rfl | rfl | rfl | rfl <;> first | exact .val _ | exact .any | exact CG El | exact CG FX | exact CG SK | exact CG YF | exact CG iA | exact CG aW | exact CG aX | exact CG aU | exact CG YI | exact CG Vn | exact CG YH
def EG (types:List AM) (p:AE):List (AE×BF):=(Bt types p.Type').1.Pads.map fun q=>(p,q)
def Aj (b:AF) (types:List AM):List (AE×BF):=(CM b.Parts).flatMap (EG types)
def Hu (b:AF) (types:List AM) (k:Nat):Nat:=(((CM b.Parts).take k).flatMap (EG types)).length
theorem Ia (types:List AM) (p:AE):(EG types p).length=(Bt types p.Type').1.Pads.length:=List.length_map _
theorem X8 (b:AF) (types:List AM):Hu b types (CM b.Parts).length=(Aj b types).length:=by unfold Hu Aj;rw [List.take_length]
theorem Vc (b:AF) (types:List AM) {k:Nat} (h:k<(CM b.Parts).length):Hu b types (k+1)=Hu b types k+(Bt types ((CM b.Parts).getD k default).Type').1.Pads.length:=by
 unfold Hu
 rw [(EO _ k h).1,List.flatMap_append,List.length_append,List.flatMap_singleton,Ia]
theorem Z8 (b:AF) (types:List AM) {k j:Nat} (h:k<(CM b.Parts).length) (hj:j<(Bt types ((CM b.Parts).getD k default).Type').1.Pads.length) :
  Hu b types k+j<(Aj b types).length/\(Aj b types).getD (Hu b types k+j) default=((CM b.Parts).getD k default,(Bt types ((CM b.Parts).getD k default).Type').1.Pads.getD j default):=by
 have e:Aj b types=((CM b.Parts).take k).flatMap (EG types)++(EG types ((CM b.Parts).getD k default)++((CM b.Parts).drop (k+1)).flatMap (EG types)):=by
  unfold Aj
  rw [<- List.flatMap_cons,<- (EO _ k h).2,<- List.flatMap_append,List.take_append_drop]
 have hl:=Ia types ((CM b.Parts).getD k default)
 rw [e]
 unfold Hu
 constructor
 ·rw [List.length_append,List.length_append,hl];omega
 ·rw [List.getD_eq_getElem?_getD,List.getElem?_append_right (by omega),Nat.add_sub_cancel_left,List.getElem?_append_left (by rw [hl];exact hj)]
  unfold EG
  rw [List.getElem?_map,List.getElem?_eq_getElem hj,List.getD_eq_getElem?_getD (l:=(Bt types _).1.Pads),List.getElem?_eq_getElem hj]
  rfl
abbrev EN (types:List AM):Nat×Tv:=(2,.av (.one (.eptr 1 1 (gD [lst 3 AM.c types]) 0 0)))
abbrev FJ (b:AF):Nat×Tv:=(17,tI ((CM b.Parts).length:Int))
abbrev FI (b:AF):Nat×Tv:=(16,tO (lst 7 AE.c (CM b.Parts)))
abbrev Ur (b:AF):Blk:=.row 7 b.Parts.length (AP AE.c b.Parts) 78
theorem fV (b:AF) (types:List AM) (hb:b.Parts.length<20) (ht:Ck types):I9 Tryz.prog 147 2 (A6 [.eptr 15 1 (gD (D6 b)) 0 0,.eptr 1 1 (gD [lst 3 AM.c types]) 0 0]) (Aj b types).length (fun x=>[.agg (AE.c ((Aj b types).getD x.val default).1),.agg (BF.c ((Aj b types).getD x.val default).2)]):=by
 refine T4 Tryz.func147 rfl rfl kr (fun i hi => ?_) ?_
 ·match i,hi with
  | 0,_=>rfl
  | 1,_=>rfl
 intro Ow n0 ly JJ hO hJg hY
 have hd:∀ (x:List (Nat×Tv)),(∀ p∈x,p.2.dv=true)->∀ i u,get x i=some u->u.dv=true:=fun x h=>BX (p:=fun u=>Tv.dv u=true) h
 refine bL hO (BX (p:=fun u=>Tv.dv u=true) (by simp [D5,CD,Tv.dv,Av.dv,Cl.dv,List.range,List.range.loop,A6])) rfl fun W0 X1 M1 hX => ?_
 have hp1:(b.Parts.length:Int)<=1000000:=by omega
 refine rc [(13,Lm b.Parts)] [Ak (Lm b.Parts).2.1] ⟨[(0,.av (.one (.val (.func (.yield ly) #[] #[])))),(EN types),(4,tO (.own 13 7 b.Parts.length))],[(13,.row 7 b.Parts.length (AP AE.c b.Parts) 78)]⟩ (.cons (aK b.Parts au4) .nil) (.cons rfl .nil)<|AJ ?_
 refine rc [(15,(149,([.one (.own 1000 7 b.Parts.length),.one (.clo 150 0 (fun _=>default))]:List Av).map (Hd 1000 13),wrI 13 (Ur b) (.tup []) (.row 7 b.Parts.length (AP AE.c (CM b.Parts)) 78)))] [Ak (149,([.one (.own 1000 7 b.Parts.length),.one (.clo 150 0 (fun _=>default))]:List Av).map (Hd 1000 13),wrI 13 (Ur b) (.tup []) (.row 7 b.Parts.length (AP AE.c (CM b.Parts)) 78)).2.1,BJ (Ur b)] ⟨[(0,.av (.one (.val (.func (.yield ly) #[] #[])))),(EN types),(4,tO (.own 13 7 b.Parts.length))],[(13,.row 7 b.Parts.length (AP AE.c (CM b.Parts)) 78)]⟩ (.cons (Fd (fun _ _=>kr) kr (pSrtP b.Parts au4)) .nil) (.cons rfl (.cons rfl .nil)) ?_
 refine ⟨rfl,⟨[(0,.av (.one (.val (.func (.yield ly) #[] #[])))),(EN types),(4,tO (lst 7 AE.c (CM b.Parts)))],[]⟩,fun W2 M2=>Cv.trans (BT (⟨[(0,.av (.one (.val (.func (.yield ly) #[] #[])))),(EN types),(4,tO (.own 13 7 (CM b.Parts).length))],[(13,.row 7 (CM b.Parts).length (AP AE.c (CM b.Parts)) 78)]⟩) (.cons ⟨rfl,.refl _⟩ (.cons ⟨rfl,.refl _⟩ (.cons ⟨rfl,.av (.one (.own _ _ (KF b.Parts au4).symm))⟩ .nil))) (.cons ⟨rfl,Ap 78 (⟨(KF b.Parts au4).symm,fun _ _ _ _=>.refl _⟩)⟩ .nil)) (Cv.trans (Dn (⟨[(0,.av (.one (.val (.func (.yield ly) #[] #[])))),(EN types),(4,tO (lst 7 AE.c (CM b.Parts)))],[]⟩) 13 7 (CM b.Parts).length (AP AE.c (CM b.Parts)) 78 (K:=[]) (fun k x h=>by cases h) kr kr (.cons ⟨rfl,rfl⟩ .nil) kr) (Cv.refl _)),?_⟩
 have hps:=KF b.Parts hb
 refine CX ?_
 refine Cj hO (hd _ (by simp only [List.forall_mem_cons];exact ⟨rfl,rfl,rfl,fun x hx=>by cases hx⟩)) rfl fun W0 X1 M1 => ?_
 refine rg ⟨[(0,.av (.one (.val (.func (.yield ly) #[] #[])))),(EN types),(FI b),(FJ b),(18,tI 0)],[]⟩ ?_
 refine CV ?_
 refine Em ?_
 refine Lc (ι:=Nat) (fun k=>⟨[(0,.av (.one (.val (.func (.yield ly) #[] #[])))),(EN types),(FI b),(FJ b),(18,tI (k:Int))],[]⟩) (fun k=>JJ (Hu b types k)) (fun k=>k<=(CM b.Parts).length) (fun k=>(CM b.Parts).length-k) (fun k hk => ?_) 0 (Nat.zero_le _)
 refine CX ?_
 refine Cj hO (hd _ (by simp only [List.forall_mem_cons];exact ⟨rfl,rfl,rfl,rfl,rfl,fun x hx=>by cases hx⟩)) rfl fun W0 X1 M1 => ?_
 refine rg ⟨[(0,.av (.one (.val (.func (.yield ly) #[] #[])))),(EN types),(FI b),(FJ b),(18,tI (k:Int)),(19,tB (decide (((k:Int):Int)<((CM b.Parts).length:Int))))],[]⟩ ?_
 refine CV ?_
 refine CX ?_
 refine EI (decide (((k:Int):Int)<((CM b.Parts).length:Int))) kr (fun hc => ?_) (fun hc => ?_)
 ·have hlt:k<(CM b.Parts).length:=by have:=oT hc;omega
  refine FA ?_
  refine CV ?_
  refine CX ?_
  refine Em ?_
  refine CX ?_
  refine PF [0,2,16,17,18] ⟨[(0,.av (.one (.val (.func (.yield ly) #[] #[])))),(EN types),(FI b),(FJ b),(18,tI (k:Int))],[]⟩ kr ?_
  refine Cj hO (hd _ (by simp only [List.forall_mem_cons];exact ⟨rfl,rfl,rfl,rfl,rfl,fun x hx=>by cases hx⟩)) rfl fun W0 X1 M1 => ?_
  refine rc [] [0<=((k:Int):Int)/\((k:Int):Int)<(((CM b.Parts).length:Nat):Int)] ⟨[(0,.av (.one (.val (.func (.yield ly) #[] #[])))),(EN types),(6,tP 6 0),(FI b),(FJ b),(18,tI (k:Int))],[(6,.cells (AE.c ((CM b.Parts).getD (k:Int).toNat default)) 78)]⟩ .nil (.cons au0 .nil) ?_
  refine CV ?_
  refine XO (S:=⟨[(0,.av (.one (.val (.func (.yield ly) #[] #[])))),(EN types),(6,.av (.one (.eptr 7 1 (gD (AE.c ((CM b.Parts).getD (k:Int).toNat default))) 0 0))),(FI b),(FJ b),(18,tI (k:Int))],[]⟩) hO (fun W0 M1=>GI _ 6 (AE.c ((CM b.Parts).getD (k:Int).toNat default)) 78 (K:=[]) (fun k x h=>by cases h) kr kr kr kr) ?_
  have hns:=Vc b types hlt
  have hat:=fun j hj=>Z8 b types (j:=j) hlt hj
  rw [Int.toNat_natCast]
  generalize hp:(CM b.Parts).getD k default=p at *
  refine CX ?_
  have hgl:=MB types p.Type'
  have hpl:((Bt types p.Type').1.Pads.length:Int)<=1000000:=by rw [hgl];exact Ih ht _
  refine Cj hO (hd _ (by simp only [List.forall_mem_cons];exact ⟨rfl,rfl,rfl,rfl,rfl,rfl,fun x hx=>by cases hx⟩)) rfl fun W0 X1 M1 => ?_
  refine rc [(26,P5 types p.Type')] [Ak (P5 types p.Type').2.1] ⟨[(0,.av (.one (.val (.func (.yield ly) #[] #[])))),(EN types),(6,.av (.one (.eptr 7 1 (gD (AE.c p)) 0 0))),(7,tP 7 0),(FI b),(FJ b),(18,tI (k:Int))],[(7,.cells (AM.c (Bt types p.Type').1) 82)]⟩ (.cons (aO types p.Type' au4) .nil) (.cons rfl .nil) ?_
  refine CV ?_
  refine XO (S:=⟨[(0,.av (.one (.val (.func (.yield ly) #[] #[])))),(EN types),(6,.av (.one (.eptr 7 1 (gD (AE.c p)) 0 0))),(7,.av (.one (.eptr 3 1 (gD (AM.c (Bt types p.Type').1)) 0 0))),(FI b),(FJ b),(18,tI (k:Int))],[]⟩) hO (fun W0 M1=>GI _ 7 (AM.c (Bt types p.Type').1) 82 (K:=[]) (fun k x h=>by cases h) kr kr kr kr) ?_
  refine CX ?_
  refine Cj hO (hd _ (by simp only [List.forall_mem_cons];exact ⟨rfl,rfl,rfl,rfl,rfl,rfl,rfl,fun x hx=>by cases hx⟩)) rfl fun W0 X1 M1 => ?_
  refine rg ⟨[(0,.av (.one (.val (.func (.yield ly) #[] #[])))),(EN types),(6,.av (.one (.eptr 7 1 (gD (AE.c p)) 0 0))),(FI b),(FJ b),(18,tI (k:Int)),(30,tO (lst 7 BF.c (Bt types p.Type').1.Pads)),(31,tI ((Bt types p.Type').1.Pads.length:Int)),(32,tI 0)],[]⟩ ?_
  refine CV ?_
  refine Em ?_
  refine Lc (ι:=Nat) (fun j=>⟨[(0,.av (.one (.val (.func (.yield ly) #[] #[])))),(EN types),(6,.av (.one (.eptr 7 1 (gD (AE.c p)) 0 0))),(FI b),(FJ b),(18,tI (k:Int)),(30,tO (lst 7 BF.c (Bt types p.Type').1.Pads)),(31,tI ((Bt types p.Type').1.Pads.length:Int)),(32,tI (j:Int))],[]⟩) (fun j=>JJ (Hu b types k+j)) (fun j=>j<=(Bt types p.Type').1.Pads.length) (fun j=>(Bt types p.Type').1.Pads.length-j) (fun j hj => ?_) 0 (Nat.zero_le _)
  refine CX ?_
  refine Cj hO (hd _ (by simp only [List.forall_mem_cons];exact ⟨rfl,rfl,rfl,rfl,rfl,rfl,rfl,rfl,rfl,fun x hx=>by cases hx⟩)) rfl fun W0 X1 M1 => ?_
  refine rg ⟨[(0,.av (.one (.val (.func (.yield ly) #[] #[])))),(EN types),(6,.av (.one (.eptr 7 1 (gD (AE.c p)) 0 0))),(FI b),(FJ b),(18,tI (k:Int)),(30,tO (lst 7 BF.c (Bt types p.Type').1.Pads)),(31,tI ((Bt types p.Type').1.Pads.length:Int)),(32,tI (j:Int)),(33,tB (decide (((j:Int):Int)<((Bt types p.Type').1.Pads.length:Int))))],[]⟩ ?_
  refine CV ?_
  refine CX ?_
  refine EI (decide (((j:Int):Int)<((Bt types p.Type').1.Pads.length:Int))) kr (fun hc2 => ?_) (fun hc2 => ?_)
  ·have hlt2:j<(Bt types p.Type').1.Pads.length:=by have:=oT hc2;omega
   obtain ⟨hat1,hat2⟩:=hat j hlt2
   refine FA ?_
   refine CV ?_
   refine CX ?_
   refine Em ?_
   refine CX ?_
   refine PF [0,2,6,16,17,18,30,31,32] ⟨[(0,.av (.one (.val (.func (.yield ly) #[] #[])))),(EN types),(6,.av (.one (.eptr 7 1 (gD (AE.c p)) 0 0))),(FI b),(FJ b),(18,tI (k:Int)),(30,tO (lst 7 BF.c (Bt types p.Type').1.Pads)),(31,tI ((Bt types p.Type').1.Pads.length:Int)),(32,tI (j:Int))],[]⟩ kr ?_
   refine Cj hO (hd _ (by simp only [List.forall_mem_cons];exact ⟨rfl,rfl,rfl,rfl,rfl,rfl,rfl,rfl,rfl,fun x hx=>by cases hx⟩)) rfl fun W0 X1 M1 => ?_
   refine rc [] [0<=((j:Int):Int)/\((j:Int):Int)<(((Bt types p.Type').1.Pads.length:Nat):Int)] ⟨[(0,.av (.one (.val (.func (.yield ly) #[] #[])))),(EN types),(6,.av (.one (.eptr 7 1 (gD (AE.c p)) 0 0))),(10,tP 10 0),(FI b),(FJ b),(18,tI (k:Int)),(30,tO (lst 7 BF.c (Bt types p.Type').1.Pads)),(31,tI ((Bt types p.Type').1.Pads.length:Int)),(32,tI (j:Int))],[(10,.cells (BF.c ((Bt types p.Type').1.Pads.getD (j:Int).toNat default)) 102)]⟩ .nil (.cons au0 .nil) ?_
   refine CV ?_
   refine XO (S:=⟨[(0,.av (.one (.val (.func (.yield ly) #[] #[])))),(EN types),(6,.av (.one (.eptr 7 1 (gD (AE.c p)) 0 0))),(10,.av (.one (.eptr 7 1 (gD (BF.c ((Bt types p.Type').1.Pads.getD (j:Int).toNat default))) 0 0))),(FI b),(FJ b),(18,tI (k:Int)),(30,tO (lst 7 BF.c (Bt types p.Type').1.Pads)),(31,tI ((Bt types p.Type').1.Pads.length:Int)),(32,tI (j:Int))],[]⟩) hO (fun W0 M1=>GI _ 10 (BF.c ((Bt types p.Type').1.Pads.getD (j:Int).toNat default)) 102 (K:=[]) (fun k x h=>by cases h) kr kr kr kr) ?_
   rw [Int.toNat_natCast]
   generalize hq:(Bt types p.Type').1.Pads.getD j default=q at *
   refine CX ?_
   refine Ky ?_
   refine HC hO C4 3 [0,2,6,10,16,17,18,30,31,32,36,37,38] [] [(0,.av (.one (.val (.func (.yield ly) #[] #[])))),(2,.av (.one (.eptr 1 1 (gD [lst 3 AM.c types]) 0 0))),(6,.av (.one (.eptr 7 1 (gD (AE.c p)) 0 0))),(10,.av (.one (.eptr 7 1 (gD (BF.c q)) 0 0))),(16,tO (lst 7 AE.c (CM b.Parts))),(17,tI ((CM b.Parts).length:Int)),(18,tI (k:Int)),(30,tO (lst 7 BF.c (Bt types p.Type').1.Pads)),(31,tI ((Bt types p.Type').1.Pads.length:Int)),(32,tI (j:Int)),(36,.av (.one (.val (.func (.yield ly) #[] #[])))),(37,.av (.agg (AE.c p))),(38,.av (.agg (BF.c q)))] kr .nil (hd _ (by simp only [List.forall_mem_cons];exact ⟨rfl,rfl,rfl,rfl,rfl,rfl,rfl,rfl,rfl,rfl,fun x hx=>by cases hx⟩)) rfl ?_
   refine Vw (ly:=ly) (d:=39) hO rfl [.agg (AE.c p),.agg (BF.c q)] rfl rfl kr kr kr ?hvm rfl kr ?hT1 (fun A B=>hJg _ A B) (JJ (Hu b types k+j+1)) ?hY rfl ?ht
   case hvm =>
    intro x hx
    simp only [List.mem_cons,List.not_mem_nil,or_false] at hx
    rcases hx with rfl | rfl
    ·exact FX _
    ·exact Jy _
   case hT1=>exact BX (p:=fun u=>Tv.dv u=true/\TvM u) (by
    simp only [List.forall_mem_cons]
    exact ⟨⟨rfl,A8 (.val _)⟩,⟨rfl,A8 (De (by simp only [List.forall_mem_cons];exact ⟨(CG O4),fun x hx=>by cases hx⟩))⟩,⟨rfl,A8 (De (FX _))⟩,⟨rfl,A8 (De (Jy _))⟩,⟨rfl,A8 (CG FX)⟩,⟨rfl,A8 (.val _)⟩,⟨rfl,A8 (.val _)⟩,⟨rfl,A8 (CG Jy)⟩,⟨rfl,A8 (.val _)⟩,⟨rfl,A8 (.val _)⟩,⟨rfl,A8 (.val _)⟩,⟨rfl,(FX _)⟩,⟨rfl,(Jy _)⟩,fun x hx=>by cases hx⟩)
   case hY =>
    intro W v hW hv
    refine hY _ hat1 W v hW ?_
    show jU (fun _=>none) Ow [.agg (AE.c ((Aj b types).getD (Hu b types k+j) default).1),.agg (BF.c ((Aj b types).getD (Hu b types k+j) default).2)] v W
    rw [hat2]
    exact hv
   case ht =>
    refine Jj [0,2,6,16,17,18,30,31,32,39] ⟨[(0,.av (.one (.val (.func (.yield ly) #[] #[])))),(EN types),(6,.av (.one (.eptr 7 1 (gD (AE.c p)) 0 0))),(FI b),(FJ b),(18,tI (k:Int)),(30,tO (lst 7 BF.c (Bt types p.Type').1.Pads)),(31,tI ((Bt types p.Type').1.Pads.length:Int)),(32,tI (j:Int)),(39,tB true)],[]⟩ kr ?_
    refine HC hO C4 1 [0,2,6,16,17,18,30,31,32,40] [] [(0,.av (.one (.val (.func (.yield ly) #[] #[])))),(2,.av (.one (.eptr 1 1 (gD [lst 3 AM.c types]) 0 0))),(6,.av (.one (.eptr 7 1 (gD (AE.c p)) 0 0))),(16,tO (lst 7 AE.c (CM b.Parts))),(17,tI ((CM b.Parts).length:Int)),(18,tI (k:Int)),(30,tO (lst 7 BF.c (Bt types p.Type').1.Pads)),(31,tI ((Bt types p.Type').1.Pads.length:Int)),(32,tI (j:Int)),(40,tB false)] kr .nil (hd _ (by simp only [List.forall_mem_cons];exact ⟨rfl,rfl,rfl,rfl,rfl,rfl,rfl,rfl,rfl,rfl,fun x hx=>by cases hx⟩)) rfl ?_
    refine Lb ?_
    refine CV ?_
    refine EI false kr (fun h=>by cases h) (fun _ => ?_)
    refine FA ?_
    refine Qb ?_
    refine CV ?_
    refine Cj hO (hd _ (by simp only [List.forall_mem_cons];exact ⟨rfl,rfl,rfl,rfl,rfl,rfl,rfl,rfl,rfl,rfl,fun x hx=>by cases hx⟩)) rfl fun W0 X1 M1 => ?_
    refine rg ⟨[(0,.av (.one (.val (.func (.yield ly) #[] #[])))),(EN types),(6,.av (.one (.eptr 7 1 (gD (AE.c p)) 0 0))),(FI b),(FJ b),(18,tI (k:Int)),(30,tO (lst 7 BF.c (Bt types p.Type').1.Pads)),(31,tI ((Bt types p.Type').1.Pads.length:Int)),(32,tI (W64 ((j:Int)+1)))],[]⟩ ?_
    refine CV ?_
    refine ⟨j+1,by omega,by omega,?_,by rw [Nat.add_assoc],rfl⟩
    rw [An (by omega) (by omega)]
    rfl
  ·have hjl:j=(Bt types p.Type').1.Pads.length:=by have:=oF hc2;omega
   refine Ld ?_
   refine KQ ?_
   refine KQ ?_
   refine Lh ?_
   refine Qb ?_
   refine CV ?_
   refine PF [0,2,16,17,18] ⟨[(0,.av (.one (.val (.func (.yield ly) #[] #[])))),(EN types),(FI b),(FJ b),(18,tI (k:Int))],[]⟩ kr ?_
   refine Cj hO (hd _ (by simp only [List.forall_mem_cons];exact ⟨rfl,rfl,rfl,rfl,rfl,fun x hx=>by cases hx⟩)) rfl fun W0 X1 M1 => ?_
   refine rg ⟨[(0,.av (.one (.val (.func (.yield ly) #[] #[])))),(EN types),(FI b),(FJ b),(18,tI (W64 ((k:Int)+1)))],[]⟩ ?_
   refine CV ?_
   refine ⟨k+1,by omega,by omega,?_,by rw [hjl,hns],rfl⟩
   rw [An (by omega) (by omega)]
   rfl
 ·have hkl:k=(CM b.Parts).length:=by have:=oF hc;omega
  refine Ld ?_
  refine KQ ?_
  refine KQ ?_
  refine Lh ?_
  exact ⟨.inr rfl,by rw [hkl,X8]⟩
end
section
open Go.RowKit
section
variable (len:Nat) (g:Nat→Nat→Value)
abbrev Sk:Cl:=dD false 2 len (fun i j=>.val (g i j))
theorem hZ:NM (Sk len g):=De fun y hy=>by rw [List.mem_singleton.1 hy];exact .list _ _ _ _ fun i j=>.val _
abbrev ylB (ly:Nat):Tv:=.av (.one (.val (.func (.yield ly) #[] #[])))
abbrev tB1 (c:Cl):Tv:=.av (.one c)
abbrev avB (k:Nat):Av:=.agg [.val (g k 0),.val (g k 1)]
theorem dH (hl:(len:Int)<=1000000) (h1:∀ i j,i<len->j<2->(g i j).oneCell'=true):I9 Tryz.prog 146 1 (A6 [Sk len g]) len (fun x=>[.one (.i ((len:Int)-1-(x.val:Int))),avB g (len-1-x.val)]):=by
 refine QZ Tryz.func146 rfl rfl (fun x=>rfl) (fun x e he c hc => ?_) kr (fun i hi => ?_) ?_
 ·simp only [List.mem_cons,List.not_mem_nil,or_false] at he
  rcases he with rfl | rfl
  ·rw [List.mem_singleton.1 hc];rfl
  ·simp only [Av.cells,List.mem_cons,List.not_mem_nil,or_false] at hc
   have:=x.isLt
   rcases hc with rfl | rfl <;> exact h1 _ _ (by omega) (by decide)
 ·match i,hi with
  | 0,_=>rfl
 intro Ow n0 ly JJ Jx hO hJg hY
 have hd:∀ (x:List (Nat×Tv)),(∀ p∈x,p.2.dv=true)->∀ i u,get x i=some u->u.dv=true:=fun x h=>BX (p:=fun u=>Tv.dv u=true) h
 refine CX ?_
 refine Cj hO (BX (p:=fun u=>Tv.dv u=true) (by simp [D5,CD,Tv.dv,Av.dv,Cl.dv,List.range,List.range.loop,A6])) rfl fun W0 X1 M1 => ?_
 refine rg ⟨[(0,ylB ly),(1,tB1 (Sk len g)),(3,tI (W64 ((len:Int)-1)))],[]⟩ ?_
 refine CV ?_
 refine Em ?_
 rw [show W64 ((len:Int)-1)=(len:Int)-1-((0:Nat):Int) by rw [An (by omega) (by omega)];omega]
 refine Lc (ι:=Nat) (fun k=>⟨[(0,ylB ly),(1,tB1 (Sk len g)),(3,tI ((len:Int)-1-(k:Int)))],[]⟩) (fun k=>JJ k) (fun k=>k<=len) (fun k=>len-k) (fun k hk => ?_) 0 (Nat.zero_le _)
 refine CX ?_
 refine CX ?_
 refine Cj hO (hd _ (by simp only [List.forall_mem_cons];exact ⟨rfl,rfl,rfl,fun x hx=>by cases hx⟩)) rfl fun W0 X1 M1 => ?_
 refine rg ⟨[(0,ylB ly),(1,tB1 (Sk len g)),(3,tI ((len:Int)-1-(k:Int))),(8,tB (decide ((0:Int)<=((len:Int)-1-(k:Int)))))],[]⟩ ?_
 refine CV ?_
 refine EI (decide ((0:Int)<=((len:Int)-1-(k:Int)))) kr (fun hc => ?_) (fun hc => ?_)
 ·have hlt:k<len:=by have:=oT hc;omega
  obtain ⟨m,hm⟩:∃ m:Nat,(len:Int)-1-(k:Int)=(m:Int):=⟨len-1-k,by omega⟩
  have hm2:m=len-1-k:=by omega
  refine FA ?_
  refine CV ?_
  refine CX ?_
  refine Em ?_
  refine CX ?_
  refine Ky ?_
  rw [hm]
  refine HC hO C4 6 [0,1,3,11,12,16] [0<=(m:Int)/\(m:Int)<((len:Nat):Int)] [(0,ylB ly),(1,tB1 (Sk len g)),(3,tI (m:Int)),(11,ylB ly),(12,tI (m:Int)),(16,.av (avB g (m:Int).toNat))] kr (.cons ⟨by omega,by omega⟩ .nil) (hd _ (by simp only [List.forall_mem_cons];exact ⟨rfl,rfl,rfl,rfl,fun x hx=>by cases hx⟩)) rfl ?_
  rw [Int.toNat_natCast]
  refine Vx (ly:=ly) (d:=17) hO rfl [.one (.i (m:Int)),avB g m] rfl rfl kr kr rfl rfl kr ?hT1 (fun A B=>hJg _ A B) (JJ (k+1)) (Jx (k+1)) ?hY [] ?htf rfl ?ht ?hf
  case hT1=>exact BX (p:=fun u=>Tv.dv u=true/\TvM u) (by
   simp only [List.forall_mem_cons]
   exact ⟨⟨rfl,A8 (.val _)⟩,⟨rfl,A8 (hZ len g)⟩,⟨rfl,A8 (.val _)⟩,⟨rfl,A8 (.val _)⟩,⟨rfl,A8 (.val _)⟩,⟨rfl,fun c hc=>by
    simp only [Av.cells,List.mem_cons,List.not_mem_nil,or_false] at hc
    rcases hc with rfl | rfl <;> exact .val _⟩,fun x hx=>by cases hx⟩)
  case hY =>
   intro W hW
   have:=hY k hlt W hW
   simp only [hm,<- hm2] at this
   exact this
  case htf=>exact fun i v hv=>by cases hv
  case ht =>
   refine Jj [0,1,3,17] ⟨[(0,ylB ly),(1,tB1 (Sk len g)),(3,tI (m:Int)),(17,tB true)],[]⟩ kr ?_
   refine HC hO C4 1 [0,1,3,18] [] [(0,ylB ly),(1,tB1 (Sk len g)),(3,tI (m:Int)),(18,tB false)] kr .nil (hd _ (by simp only [List.forall_mem_cons];exact ⟨rfl,rfl,rfl,rfl,fun x hx=>by cases hx⟩)) rfl ?_
   refine Lb ?_
   refine CV ?_
   refine EI false kr (fun h=>by cases h) (fun _ => ?_)
   refine FA ?_
   refine Qb ?_
   refine CV ?_
   refine Cj hO (hd _ (by simp only [List.forall_mem_cons];exact ⟨rfl,rfl,rfl,rfl,fun x hx=>by cases hx⟩)) rfl fun W0 X1 M1 => ?_
   refine rg ⟨[(0,ylB ly),(1,tB1 (Sk len g)),(3,tI (W64 ((m:Int)-1)))],[]⟩ ?_
   refine CV ?_
   refine ⟨k+1,by omega,by omega,?_,rfl,rfl⟩
   rw [An (by omega) (by omega),show (m:Int)-1=(len:Int)-1-((k+1:Nat):Int) by omega]
  case hf =>
   refine Jj [17] ⟨[(17,tB false)],[]⟩ kr ?_
   refine HC hO C4 1 [18] [] [(18,tB true)] kr .nil (hd _ (by simp only [List.forall_mem_cons];exact ⟨rfl,fun x hx=>by cases hx⟩)) rfl ?_
   refine Lb ?_
   refine CV ?_
   refine EI true kr (fun _ => ?_) (fun h=>by cases h)
   refine Vy ?_
   exact ⟨.inl rfl,.inr ⟨_,hlt,rfl⟩⟩
 ·have hkl:k=len:=by have:=oF hc;omega
  refine Ld ?_
  refine KQ ?_
  refine KQ ?_
  refine Lh ?_
  exact ⟨.inr rfl,.inl (by rw [hkl])⟩
end
theorem jJ (l:List A1) (hl:(l.length:Int)<=1000000):I9 Tryz.prog 146 1 (A6 [.eptr 1 1 (fun _ j=>([lst 2 A1.c l]:List Cl).getD j default) 0 0]) l.length (fun x=>[.one (.i ((l.length:Int)-1-(x.val:Int))),.agg (A1.c (l.getD (l.length-1-x.val) default))]):=by
 refine Vz (t:=false) (sz:=2) (len:=l.length) (f:=fun i j=>(A1.c (l.getD i default)).getD j default) (fun g x=>[.one (.i ((l.length:Int)-1-(x.val:Int))),avB g (l.length-1-x.val)]) rfl (by decide) (fun g h1 => ?_) (fun g x=>rfl) (fun M g x vs h2 hL => ?_)
 ·refine V1 (fun i hi => ?_) (dH l.length g hl h1)
  match i,hi with
  | 0,_=>rfl
 ·cases hL with
  | cons a1 a2 =>
   cases a2 with
   | cons a3 a4 =>
    refine .cons a1 (.cons (fun σ => ?_) a4)
    obtain ⟨us,hu,hus⟩:=a3 σ
    refine ⟨us,hu,?_⟩
    have hx:l.length-1-x.val<l.length:=by have:=x.isLt;omega
    cases hus with
    | cons b1 b2 =>
     cases b2 with
     | cons b3 b4 =>
      cases b4
      have e1:=b1.1
      have e2:=b3.1
      subst e1 e2
      exact .cons ((JC rfl).2 (h2 _ 0 hx (by decide))) (.cons ((JC rfl).2 (h2 _ 1 hx (by decide))) .nil)
end
section
open Go.RowKit
theorem X7  (l:(List A1)):Bk Tryz.prog 104 [.one (lst 2 A1.c l)] (.av (.one (.clo 146 1 (A6 [.eptr 1 1 (gD [lst 2 A1.c l]) 0 0])))):=by
 refine AV Tryz.func104 rfl kr kr fun W0 M0 => ?_
 refine AC<|rn ⟨[(1,tP 1 0)],[(1,.cells [lst 2 A1.c l] 30)]⟩<|AC ?_
 refine rn ⟨[(2,tO (.clo 146 1 (A6 [.ptr 1 0])))],[(1,.cells [lst 2 A1.c l] 30)]⟩<|Ag ?_
 exact ⟨_,Cv.trans (GI (⟨[(2,.av (.one (.clo 146 1 (A6 [.eptr 1 1 (gD [lst 2 A1.c l]) 0 0]))))],[]⟩) 1 [lst 2 A1.c l] 30 (K:=[]) (fun k x h=>by cases h) kr kr kr kr) (Cv.refl _),.inl rfl,.av (.one (.clo 146 1 (A6 [.eptr 1 1 (gD [lst 2 A1.c l]) 0 0]))),by kernel_rfl,Al rfl⟩
def cpads (b:AF) (types:(List AM)):FuncId×List Av×Ef:=(105,[.agg (D6 b),.one (Fw types)],.val [] (.av (.one (.clo 147 2 (A6 [.eptr 15 1 (fun _ j_=>((D6 b):List Cl).getD j_ default) 0 0,.eptr 1 1 (fun _ j_=>([lst 3 AM.c types]:List Cl).getD j_ default) 0 0])))))
abbrev ZU (b:AF) (types:List AM):Cl:=.clo 147 2 (A6 [.eptr 15 1 (gD (D6 b)) 0 0,.eptr 1 1 (gD [lst 3 AM.c types]) 0 0])
abbrev kA (b:AF) (types:List AM):Av:=.one (ZU b types)
abbrev JE (b:AF):Nat×Blk:=(2,.cells (D6 b) 41)
theorem ppads (b:AF) (types:(List AM)):Bk Tryz.prog 105 (cpads b types).2.1 (.av (.one (.clo 147 2 (A6 [.eptr 15 1 (gD (D6 b)) 0 0,.eptr 1 1 (gD [lst 3 AM.c types]) 0 0])))):=by
 refine AV Tryz.func105 rfl kr kr fun W0 M0 => ?_
 refine AC<|rn ⟨IF,[(JE b),(3,.cells [lst 3 AM.c types] 43)]⟩<|AC ?_
 refine rn ⟨[(4,tO (.clo 147 2 (A6 [.ptr 2 0,.ptr 3 0])))],[(JE b),(3,.cells [lst 3 AM.c types] 43)]⟩<|Ag ?_
 exact ⟨_,Cv.trans (GI (⟨[(4,.av (.one (.clo 147 2 (A6 [.eptr 15 1 (gD (D6 b)) 0 0,.ptr 3 0]))))],[(3,.cells [lst 3 AM.c types] 43)]⟩) 2 (D6 b) 41 (K:=[]) (fun k x h=>by cases h) kr kr kr kr) (Cv.trans (GI (⟨[(4,.av (kA b types))],[]⟩) 3 [lst 3 AM.c types] 43 (K:=[]) (fun k x h=>by cases h) kr kr kr kr) (Cv.refl _)),.inl rfl,.av (kA b types),by kernel_rfl,Al rfl⟩
def Fl (s:AQ) (m:Ac):Nat->List AG->Int->AQ
 | 0,_,_=>default
 | n0+1,s_1,v13=>bif decide ((v13:Int)<((s.Edges.length:Nat):Int)) then ((Fl s m n0) (s_1.set v13.toNat (EB (s_1.getD v13.toNat default) m)) (v13+1)) else (AQ.mk s.Kind s_1 s.R)
def EH (s:AQ) (m:Ac):AQ:=Fl s m ((((s.Edges.length:Nat):Int)-0).toNat+1) s.Edges 0
def M6 (s:AQ) (m:Ac):FuncId×List Av×Ef:=(106,[.agg (AQ.c s),.agg (Ac.c m)],.val [] (.av (.agg (AQ.c (EH s m)))))
abbrev IR:Nat×Blk:=(4,.cells [.i 0,vN,.i 0] 28)
abbrev KX (m:Ac):Nat×Blk:=(3,.cells (Ac.c m) 74)
abbrev VA (s:AQ) (m:Ac):List (Nat×Blk):=[(2,.cells [.i s.Kind,.own 8 7 s.Edges.length,.i s.R] 28),(KX m),IR,(8,.row 7 s.Edges.length (AP AG.c s.Edges) 68)]
abbrev ZZ (s:AQ) (s_1:List AG) (v13:Int) (m:Ac):List (Nat×Blk):=[(2,.cells [.i s.Kind,.own 8 7 (s_1.set v13.toNat (EB (s_1.getD v13.toNat default) m)).length,.i s.R] 28),(KX m),IR,(8,.row 7 (s_1.set v13.toNat (EB (s_1.getD v13.toNat default) m)).length (AP AG.c (s_1.set v13.toNat (EB (s_1.getD v13.toNat default) m))) 68)]
abbrev Kb (s:AQ):Nat×Tv:=(12,tI ((s.Edges.length:Nat):Int))
abbrev RI (s:AQ) (s_1:List AG):List Cl:=[.i s.Kind,.own 8 7 s_1.length,.i s.R]
theorem qZ (s:AQ) (m:Ac) (h0:(s.Edges.length:Int)<=1000000):Bk Tryz.prog 106 (M6 s m).2.1 (.av (.agg (AQ.c (EH s m)))):=by
 refine AV Tryz.func106 rfl kr kr fun W0 M0 => ?_
 refine AC<|rn ⟨MZ,[(2,.cells (AQ.c s) 28),(KX m),IR]⟩<|AC ?_
 refine rc [(8,GU s.Edges)] [Ak (GU s.Edges).2.1] ⟨MZ,(VA s m)⟩ (.cons (O1 s.Edges au4) .nil) (.cons rfl .nil)<|AJ ?_
 refine Ba (Cv.trans (BT (⟨MZ,(VA s m)⟩) lr (.cons ⟨rfl,.cells _ (rr (.cons (.own _ _ au2) (rr .nil)))⟩ (.cons ⟨rfl,.refl _⟩ (.cons ⟨rfl,.refl _⟩ (.cons ⟨rfl,Ap 68 (BM 7 AG.c s.Edges)⟩ .nil))))) (Cv.refl _))<|AC<|AC ?_
 refine rn ⟨[(2,tP 2 0),(3,tP 3 0),(4,tP 4 0),(Kb s),(13,tI 0)],(VA s m)⟩<|AY ?_
 refine BS (ι:=Nat×List AG×Int) (fun x=>⟨[(2,tP 2 0),(3,tP 3 0),(4,tP 4 0),(Kb s),(13,tI x.2.2)],[(2,.cells [.i s.Kind,.own 8 7 x.2.1.length,.i s.R] 28),(KX m),IR,(8,.row 7 x.2.1.length (AP AG.c x.2.1) 68)]⟩) (fun x=>(((s.Edges.length:Nat):Int)-x.2.2).toNat<x.1/\(x.2.1.length=s.Edges.length/\0<=x.2.2/\(x.2.2<=((s.Edges.length:Nat):Int)\/x.2.2=0))/\Fl s m x.1 x.2.1 x.2.2=EH s m) (fun x=>x.1) ?_ ((((s.Edges.length:Nat):Int)-0).toNat+1,s.Edges,0) ⟨Nat.lt_succ_self _,⟨ax0,ax0,ax0⟩,(by simp only [EH,cond_true,cond_false])⟩
 rintro ⟨n0,s_1,v13⟩ ⟨hn,hinv,hF⟩
 have hm0:=hn;have hinv0:=hinv;have hF0:=hF;try dsimp only at hm0 hinv0 hF0
 clear hn hinv hF
 cases n0 with
 | zero=>exact absurd hm0 (Nat.not_lt_zero _)
 | succ n0 =>
  refine AC<|rn ⟨[(2,tP 2 0),(3,tP 3 0),(4,tP 4 0),(Kb s),(13,tI v13),(14,tB (decide ((v13:Int)<((s.Edges.length:Nat):Int))))],[(2,.cells (RI s s_1) 28),(KX m),IR,(8,.row 7 s_1.length (AP AG.c s_1) 68)]⟩<|AC ?_
  refine Ab _ rfl (fun h1 => ?_) (fun h1 => ?_)
  ·have g1:=oT h1
   refine Af<|AJ ?_
   refine AC<|AY<|AC ?_
   refine rn ⟨[(2,tP 2 0),(3,tP 3 0),(4,tP 4 0),(5,tI v13),(Kb s),(13,tI v13)],[(2,.cells (RI s s_1) 28),(KX m),IR,(8,.row 7 s_1.length (AP AG.c s_1) 68)]⟩ ?_
   refine dw [] [(25,Qx (s_1.getD v13.toNat default) m)] [0<=(v13:Int)/\(v13:Int)<((s_1.length:Nat):Int),v13.toNat<s_1.length,Ak (Qx (s_1.getD v13.toNat default) m).2.1,0<=(v13:Int)/\(v13:Int)<((s_1.length:Nat):Int),v13.toNat<s_1.length] ⟨[(2,tP 2 0),(3,tP 3 0),(4,tP 4 0),(Kb s),(13,tI v13)],[(2,.cells (RI s s_1) 28),(KX m),IR,(8,.row 7 s_1.length (fun i_ j_=>if i_=v13.toNat/\0<=j_/\j_<0+7 then ((AG.c (EB (s_1.getD v13.toNat default) m)):List Cl).getD (j_-0) default else (AP AG.c s_1) i_ j_) 68)]⟩ (.cons (rT (s_1.getD v13.toNat default) m) .nil) (.cons au0 (.cons au0 (.cons rfl (.cons au0 (.cons au0 .nil)))))<|Be<|AJ ?_
   refine Ba (Cv.trans (BT (⟨[(2,tP 2 0),(3,tP 3 0),(4,tP 4 0),(Kb s),(13,tI v13)],(ZZ s s_1 v13 m)⟩) lr (.cons ⟨rfl,.cells _ (rr (.cons (.own _ _ au2) (rr .nil)))⟩ (.cons ⟨rfl,.refl _⟩ (.cons ⟨rfl,.refl _⟩ (.cons ⟨rfl,Ap 68 (Ja (l:=(AG.c (EB (s_1.getD v13.toNat default) m))) (off:=0) (q:=7) (k:=v13.toNat) (BM 7 AG.c s_1) au0 (EB (s_1.getD v13.toNat default) m) (IU kr))⟩ .nil))))) (Cv.refl _)) ?_
   refine rg ⟨[(2,tP 2 0),(3,tP 3 0),(4,tP 4 0),(Kb s),(13,tI (W64 (v13+1)))],(ZZ s s_1 v13 m)⟩ ?_
   (try rw [(show W64 (v13+1)=v13+1 from An (by omega) au6)])
   refine AJ ?_
   refine ⟨(n0,s_1.set v13.toNat (EB (s_1.getD v13.toNat default) m),v13+1),⟨?_,?_,(by rw [<- hF0];simp only [Fl,h1,cond_true,cond_false])⟩,Nat.lt_succ_self _,BB kr⟩
   ·show (((s.Edges.length:Nat):Int)-(v13+1)).toNat<n0;omega
   ·exact ⟨ax0,ax0,ax0⟩
  ·have g1:=oF h1
   refine BV<|BE ?_
   refine BE<|BW ?_
   refine AJ<|AC ?_
   refine rn ⟨[(4,tP 4 0)],[(4,.cells (RI s s_1) 28),(8,.row 7 s_1.length (AP AG.c s_1) 68)]⟩<|Ag ?_
   exact ⟨_,Cv.trans (Dn (⟨[(4,tP 4 0)],[(4,.cells [.i s.Kind,lst 7 AG.c s_1,.i s.R] 28)]⟩) 8 7 s_1.length (AP AG.c s_1) 68 (K:=[]) (fun k x h=>by cases h) kr kr (.cons ⟨rfl,rfl⟩ .nil) kr) (Cv.refl _),.inl rfl,.av (.agg [.i s.Kind,lst 7 AG.c s_1,.i s.R]),by kernel_rfl,Al (by rw [<- hF0];first | (simp only [Fl,h1,cond_true,cond_false] <;> rfl))⟩
theorem gO (s:AQ) (m:Ac) (h0:(s.Edges.length:Int)<=1000000):Az Tryz.prog (M6 s m).1 (M6 s m).2.1 (M6 s m).2.2:=AW (fun _ _=>kr) fun _=>qZ s m h0
def Bl (p:Aq):Value:=.agg #[.string p.Ref,.string p.Pad]
def BL (a b:Aq):Bool:=eqS a.Ref b.Ref&&eqS a.Pad b.Pad
theorem Qo (a b:Aq):BL a b=true↔Bl a=Bl b:=by
 unfold BL Bl
 rw [Bool.and_eq_true,WC,WC]
 simp
theorem UK (k:Aq):FE Tryz.prog eqE 106 (Bl k):=.inr ⟨_,_,_,rfl,rfl,by kernel_rfl,rfl,rfl⟩
theorem X9 {b:AF} {types:List AM} (ht:Ck types) (k:Nat):(((Aj b types).getD k default).2.Shape.Edges.length:Int)<=1000000:=by
 refine GS (p:=fun x:AE×BF=>(x.2.Shape.Edges.length:Int)<=1000000) (by decide) (fun x hx => ?_) k
 unfold Aj at hx
 obtain ⟨p,_,hp⟩:=List.mem_flatMap.1 hx
 unfold EG at hp
 obtain ⟨q,hq,rfl⟩:=List.mem_map.1 hp
 rw [MB] at hq
 unfold YV at hq
 cases hf:types.find? (fun t=>HO t p.Type') with
 | none=>rw [hf] at hq;cases hq
 | some t=>rw [hf] at hq;exact (ht.2 t (List.mem_of_find?_eq_some hf)).2.2.1 q hq
theorem Hv {b:AF} {types:List AM} (hp:b.Parts.length<20) (ht:Ck types):((Aj b types).length:Int)<=20000000:=by
 have key:∀ l:List AE,((l.flatMap (EG types)).length:Int)<=1000000*(l.length:Int):=by
  intro l
  induction l with
  | nil=>simp
  | cons p l ih =>
   rw [List.flatMap_cons,List.length_append,Ia,MB,List.length_cons]
   have:=Ih ht p.Type'
   omega
 have h1:=key (CM b.Parts)
 have h2:=KF b.Parts hp
 unfold Aj
 omega
def Cc (x0:AE):Ac:=Ac.mk x0.At x0.Turn x0.Under
def HK (x0:AE):FuncId×List Av×Ef:=(63,[.agg (AE.c x0)],.val [] (.av (.agg (Ac.c (Cc x0)))))
abbrev RZ (x0:AE):List Cl:=[.i x0.At.X,.i x0.At.Y,.i x0.Turn,.b x0.Under]
theorem fX (x0:AE):Bk Tryz.prog 63 (HK x0).2.1 (.av (.agg (Ac.c (Cc x0)))):=by
 refine AV Tryz.func63 rfl kr kr fun W0 M0 => ?_
 refine AC<|rn ⟨Gn,[(1,.cells (AE.c x0) 78),(2,.cells [.i 0,.i 0,.i 0,.b false] 74)]⟩<|AC ?_
 refine rn ⟨[(2,tP 2 0)],[(2,.cells (RZ x0) 74)]⟩<|Ag ?_
 exact ⟨_,Cv.refl _,.inl rfl,.av (.agg (RZ x0)),by kernel_rfl,Al (by rfl)⟩
theorem Tc (x0:AE):Az Tryz.prog (HK x0).1 (HK x0).2.1 (HK x0).2.2:=AW (fun _ _=>kr) fun _=>fX x0
def Ed (b:AF) (p:AE):Int:=bif p.Under then b.Layers else 1
def Nd (b:AF) (p:AE):FuncId×List Av×Ef:=(86,[.agg (D6 b),.agg (AE.c p)],.val [] (.av (.one (.i (Ed b p)))))
theorem pside (b:AF) (p:AE):Bk Tryz.prog 86 (Nd b p).2.1 (tO (.i (Ed b p))):=by
 refine AV Tryz.func86 rfl kr kr fun W0 M0 => ?_
 refine AC<|rn ⟨IF,[(JE b),(3,.cells (AE.c p) 78)]⟩ ?_
 refine AC<|AC ?_
 refine rn ⟨[(2,tP 2 0),(6,tB p.Under)],[(JE b)]⟩ ?_
 refine Ab p.Under kr (fun h1 => ?_) (fun h1 => ?_)
 ·refine AC<|rn ⟨[(4,tI b.Layers)],[]⟩ ?_
  refine Ag<|Bd ?_
  exact ⟨_,Cv.refl _,.inl rfl,tO (.i b.Layers),by kernel_rfl,Al (by first | (simp only [Ed,h1,cond_true,cond_false] <;> rfl))⟩
 ·refine Af<|AJ<|AC ?_
  refine rn ⟨[(4,tI 1)],[]⟩<|Ag ?_
  exact ⟨_,Cv.refl _,.inl rfl,tO (.i 1),by kernel_rfl,Al (by first | (simp only [Ed,h1,cond_true,cond_false] <;> rfl))⟩
theorem aI (b:AF) (p:AE):Az Tryz.prog (Nd b p).1 (Nd b p).2.1 (Nd b p).2.2:=AW (fun _ _=>kr) fun _=>pside b p
end
section
open Go.RowKit
def Z0l (b:AF):FuncId×List Av×Ef:=(104,[.one (lst 2 A1.c b.Nets)],.val [] (.av (.one (.clo 146 1 (A6 [.eptr 1 1 (fun _ j_=>([lst 2 A1.c b.Nets]:List Cl).getD j_ default) 0 0])))))
def Z0m (b:AF) (types:(List AM)):FuncId×List Av×Ef:=(105,[.agg (D6 b),.one (Fw types)],.val [] (.av (.one (.clo 147 2 (A6 [.eptr 15 1 (fun _ j_=>((D6 b):List Cl).getD j_ default) 0 0,.eptr 1 1 (fun _ j_=>([lst 3 AM.c types]:List Cl).getD j_ default) 0 0])))))
def G6 (b:AF) (types:(List AM)) (AH:List (Aq×ByteArray)) (x0:Nat) (K0:List (Aq×ByteArray)->(List AZ)):Nat->List (Aq×ByteArray)->Int->(List AZ)
 | 0,_,_=>default
 | n1+1,A3,v23=>bif decide ((v23:Int)<((b.Nets.getD (b.Nets.length-1-x0) default).Pins.length:Int)) then ((G6 b types AH x0 K0 n1) (Ic BL A3 ((b.Nets.getD (b.Nets.length-1-x0) default).Pins.getD v23.toNat default) (b.Nets.getD (b.Nets.length-1-x0) default).Name) (v23+1)) else (K0 A3)
def Db (b:AF) (types:(List AM)) (AH:List (Aq×ByteArray)) (K0:List (Aq×ByteArray)->(List AZ)):Nat->Nat->List AZ->(List AZ)
 | 0,_,Au=>Au
 | m+1,x,Au=>(Db b types AH K0 m (x+1)) (Au++[AZ.mk ((Aj b types).getD x default).1.Id ((Aj b types).getD x default).2.Name 1 (bif Do BL AH (Aq.mk ((Aj b types).getD x default).1.Ref ((Aj b types).getD x default).2.Name) then (AH.getD (Cg BL AH (Aq.mk ((Aj b types).getD x default).1.Ref ((Aj b types).getD x default).2.Name)) default).2 else ⟨#[]⟩) (bif decide ((((Aj b types).getD x default).2.Drill:Int)=0) then (Ed b ((Aj b types).getD x default).1) else 1) (bif decide ((((Aj b types).getD x default).2.Drill:Int)=0) then (Ed b ((Aj b types).getD x default).1) else b.Layers) (EH ((Aj b types).getD x default).2.Shape (Cc ((Aj b types).getD x default).1))])
def C5 (b:AF) (types:(List AM)):Nat->Nat->List (Aq×ByteArray)->(List AZ)
 | 0,_,AH=>Db b types AH (fun _=>default) (Aj b types).length 0 ([]:List AZ)
 | m+1,x,AH=>G6 b types AH x (C5 b types m (x+1)) ((((b.Nets.getD (b.Nets.length-1-x) default).Pins.length:Int)-0).toNat+1) AH 0
def Dc (b:AF) (types:(List AM)):(List AZ):=C5 b types b.Nets.length 0 ([]:List (Aq×ByteArray))
abbrev Dl (b:AF) (types:List AM) (x2_:Nat):=Aq.mk ((Aj b types).getD x2_ default).1.Ref ((Aj b types).getD x2_ default).2.Name
abbrev BI (types:List AM):Nat×Tv:=(1,tO (lst 3 AM.c types))
abbrev LK (b:AF) (types:List AM):Nat×Tv:=(34,.av (.one (ZU b types)))
abbrev HA (b:AF):Nat×Tv:=(17,.av (.one (.clo 146 1 (A6 [.eptr 1 1 (gD [lst 2 A1.c b.Nets]) 0 0]))))
abbrev DQ:Nat×Blk:=(200005,.cells [.om 200014] 211)
abbrev I4 (b:AF) (types:List AM) (x2_:Nat):=EH ((Aj b types).getD x2_ default).2.Shape (Cc ((Aj b types).getD x2_ default).1)
abbrev DA (b:AF):Nat×Blk:=(200002,.cells (D6 b) 41)
abbrev NL (b:AF) (x0_:Nat):Nat×Tv:=(7,.av (.one (.eptr 2 1 (gD (A1.c (b.Nets.getD (b.Nets.length-1-x0_) default))) 0 0)))
abbrev E0 (b:AF) (types:List AM) (x2_:Nat):=Ed b ((Aj b types).getD x2_ default).1
abbrev Gt (Au:List AZ):Nat×Blk:=(100000,.row 9 Au.length (AP AZ.c Au) 61)
abbrev Kn (b:AF) (x0_:Nat):Nat×Tv:=(22,tI ((b.Nets.getD (b.Nets.length-1-x0_) default).Pins.length:Int))
abbrev Km (b:AF) (x0_:Nat):Nat×Tv:=(21,tO (lst 2 Aq.c (b.Nets.getD (b.Nets.length-1-x0_) default).Pins))
abbrev Rt (b:AF) (types:List AM) (x2_:Nat):Nat×Tv:=(11,.av (.one (.eptr 7 1 (gD (AE.c ((Aj b types).getD x2_ default).1)) 0 0)))
abbrev Rr (b:AF) (types:List AM) (x2_:Nat):List (Nat×Tv):=[(2,tP 200002 0),(5,tP 200005 0),(10,tP 200010 0),(Rt b types x2_),(12,.av (.one (.eptr 7 1 (gD (BF.c ((Aj b types).getD x2_ default).2)) 0 0))),(13,tP 13 0),(LK b types)]
abbrev HZ (Au:List AZ):Nat×Blk:=(200010,.cells [.own 100000 9 Au.length] 50)
abbrev Ki (b:AF) (types:List AM):List (Nat×Tv):=[(2,tP 200002 0),(5,tP 200005 0),(10,tP 200010 0),(LK b types)]
abbrev Za (b:AF) (types:List AM) (x2_:Nat):Nat×Tv:=(12,.av (.one (.eptr 7 1 (gD (BF.c ((Aj b types).getD x2_ default).2)) 0 0)))
abbrev RJ:Nat×Blk:=(5,.cells [.om 14] 211)
theorem qPads (b:AF) (types:(List AM)) (hn:(b.Nets.length:Int)<=1000000) (hp:b.Parts.length<20) (ht:Ck types) (hm:((Aj b types).length:Int)<=20000000) (hq:∀ n∈b.Nets,(n.Pins.length:Int)<=1000000):Fr Tryz.prog 51 [.agg (D6 b),.one (lst 3 AM.c types)] (.row 9 (Dc b types).length (AP AZ.c (Dc b types)) 61) (fun d=>tO (.own d 9 (Dc b types).length)):=by
 refine EC Tryz.func51 rfl kr (Ek _ _) fun W0 M0 => ?_
 refine AC<|rn ⟨[(BI types),(2,tP 2 0)],[(JE b)]⟩<|AC ?_
 refine rn ⟨[(BI types),(2,tP 2 0),(5,tP 5 0)],[(JE b),RJ,(14,.omap false 1 0 (fun _=>undef) (fun _ _=>default))]⟩ ?_
 refine Ba (Cv.trans (BT (⟨[(BI types),(2,tP 2 0),(5,tP 5 0)],[(JE b),RJ,(14,.omap false 1 ([]:List (Aq×ByteArray)).length (kfG Bl ([]:List (Aq×ByteArray))) (vfG (fun x=>[.s x]) ([]:List (Aq×ByteArray))))]⟩) lr (.cons ⟨rfl,.refl _⟩ (.cons ⟨rfl,.refl _⟩ (.cons ⟨rfl,dF (ck:=Bl) (cv:=(fun x=>[.s x]))⟩ .nil)))) (Cv.refl _))<|AC<|AC ?_
 refine rc [(17,(Z0l b))] [Ak (Z0l b).2.1] ⟨[(BI types),(2,tP 2 0),(5,tP 5 0),(HA b)],[(JE b),RJ,(14,.omap false 1 ([]:List (Aq×ByteArray)).length (kfG Bl ([]:List (Aq×ByteArray))) (vfG (fun x=>[.s x]) ([]:List (Aq×ByteArray))))]⟩ (.cons (AW (fun _ _=>kr) fun _=>X7 b.Nets) .nil) (.cons rfl .nil)<|AJ<|AY ?_
 refine Ba (Cv.trans (BR (⟨[(BI types),(2,tP 200002 0),(5,tP 5 0),(HA b)],[(DA b),RJ,(14,.omap false 1 ([]:List (Aq×ByteArray)).length (kfG Bl ([]:List (Aq×ByteArray))) (vfG (fun x=>[.s x]) ([]:List (Aq×ByteArray))))]⟩) 2 200002 (K:=[]) (fun k x h=>by cases h) rfl rfl kr kr) (Cv.trans (BR (⟨[(BI types),(2,tP 200002 0),(5,tP 200005 0),(HA b)],[(DA b),(200005,.cells [.om 14] 211),(14,.omap false 1 ([]:List (Aq×ByteArray)).length (kfG Bl ([]:List (Aq×ByteArray))) (vfG (fun x=>[.s x]) ([]:List (Aq×ByteArray))))]⟩) 5 200005 (K:=[]) (fun k x h=>by cases h) rfl rfl kr kr) (Cv.trans (BR (⟨[(BI types),(2,tP 200002 0),(5,tP 200005 0),(HA b)],[(DA b),DQ,(200014,.omap false 1 ([]:List (Aq×ByteArray)).length (kfG Bl ([]:List (Aq×ByteArray))) (vfG (fun x=>[.s x]) ([]:List (Aq×ByteArray))))]⟩) 14 200014 (K:=[]) (fun k x h=>by cases h) rfl rfl kr kr) (Cv.refl _)))) ?_
 refine K8 (ι:=List (Aq×ByteArray)) [200002,200005,200014] 299999 200002 9999 299998 (fun x=>[(200002,.cells (D6 b) 41),(200005,.cells [.om 200014] 211),(200014,.omap false 1 x.length (kfG Bl x) (vfG (fun x=>[.s x]) x))]) (fun x0=>[(1,tO (lst 3 AM.c types)),(2,tP 200002 0),(5,tP 200005 0),(7,.av (.one (.eptr 2 1 (gD (A1.c (b.Nets.getD (b.Nets.length-1-x0.val) default))) 0 0))),(17,.av (.one (.clo 146 1 (A6 [.eptr 1 1 (gD [lst 2 A1.c b.Nets]) 0 0]))))]) (fun j x=>True) (fun y x=>C5 b types (b.Nets.length-y) y x=Dc b types) ([]:List (Aq×ByteArray)) (fun _=>rfl) kr kr (fun _ _=>kr) (jJ b.Nets (by omega)) kr (fun _=>by kernel_rfl) (fun _=>rfl) (fun _=>rfl) (fun x=>(BX (p:=BkN) (by simp only [List.forall_mem_cons];exact ⟨Q0 (Mm _),Q0 (by simp only [List.forall_mem_cons];exact ⟨(.om _),fun x hx=>by cases hx⟩),kZ (fun x y hy=>by rw [List.mem_singleton.1 hy];exact (.val _)),fun x hx=>by cases hx⟩))) (fun x0=>(BX (p:=TvM) (by simp only [List.forall_mem_cons];exact ⟨A8 (CG O4),A8 (.ptr _ _),A8 (.ptr _ _),A8 (De (SK _)),A8 (SG (by simp only [List.forall_mem_cons];exact ⟨(De (by simp only [List.forall_mem_cons];exact ⟨(CG SK),fun x hx=>by cases hx⟩)),fun x hx=>by cases hx⟩)),fun x hx=>by cases hx⟩))) (fun _=>by kernel_rfl) ax0 (by simp only [Dc,Nat.sub_zero,cond_true,cond_false]) (fun l1 W1 M1 X1 x0 j AH hinv hPX => ?_) (fun l2 W2 M2 X2 x0 j AH hPX hj hinv => ?_) (fun AH hinv hF0 => ?_)
 ·have hinv0:True:=hinv;clear hinv
  refine DH ?_
  refine rg ⟨[(BI types),(2,tP 200002 0),(5,tP 200005 0),(7,tP 7 0),(HA b)],[(7,.cells (A1.c (b.Nets.getD (b.Nets.length-1-x0.val) default)) 120),(DA b),DQ,(200014,.omap false 1 AH.length (kfG Bl AH) (vfG (fun x=>[.s x]) AH))]⟩ ?_
  exact ⟨_,Cv.trans (PV (⟨[(BI types),(2,tP 200002 0),(5,tP 200005 0),(NL b x0.val),(HA b)],[(DA b),DQ,(200014,.omap false 1 AH.length (kfG Bl AH) (vfG (fun x=>[.s x]) AH))]⟩) 7 (A1.c (b.Nets.getD (b.Nets.length-1-x0.val) default)) 120 [200002,200005,200014] 299998 hPX kr (fun h=>by obtain ⟨_,h⟩:=h;cases h) kr kr kr) (Cv.refl _),rfl,rfl⟩
 ·have hinv0:True:=hinv;clear hinv
  obtain ⟨Xb0,hXb0⟩:∃ Xb,C5 b types (b.Nets.length-x0.val) x0.val AH=Xb:=⟨_,rfl⟩
  have hF0:=hXb0
  rw [show b.Nets.length-x0.val=(b.Nets.length-(x0.val+1))+1 by have:=x0.isLt;omega] at hF0
  have hqx:=GS (p:=fun n:A1=>(n.Pins.length:Int)<=1000000) (by decide) hq (b.Nets.length-1-x0.val)
  refine DH<|AY<|AC ?_
  refine rn ⟨[(BI types),(2,tP 200002 0),(5,tP 200005 0),(NL b x0.val),(HA b),(Km b x0.val),(Kn b x0.val),(23,tI 0)],[(DA b),DQ,(200014,.omap false 1 AH.length (kfG Bl AH) (vfG (fun x=>[.s x]) AH))]⟩<|AY ?_
  refine BS (ι:=Nat×List (Aq×ByteArray)×Int) (fun x=>⟨[(BI types),(2,tP 200002 0),(5,tP 200005 0),(NL b x0.val),(HA b),(Km b x0.val),(Kn b x0.val),(23,tI x.2.2)],[(DA b),DQ,(200014,.omap false 1 x.2.1.length (kfG Bl x.2.1) (vfG (fun x=>[.s x]) x.2.1))]⟩) (fun x=>(((b.Nets.getD (b.Nets.length-1-x0.val) default).Pins.length:Int)-x.2.2).toNat<x.1/\(0<=x.2.2/\(x.2.2<=((b.Nets.getD (b.Nets.length-1-x0.val) default).Pins.length:Int)\/x.2.2=0))/\G6 b types AH x0.val (C5 b types (b.Nets.length-(x0.val+1)) (x0.val+1)) x.1 x.2.1 x.2.2=Xb0) (fun x=>x.1) ?_ ((((b.Nets.getD (b.Nets.length-1-x0.val) default).Pins.length:Int)-0).toNat+1,AH,0) ⟨Nat.lt_succ_self _,⟨ax0,ax0⟩,(by rw [<- hF0];simp only [C5,cond_true,cond_false])⟩
  rintro ⟨n1,A3,v23⟩ ⟨hn,hinv,hF⟩
  have hm1:=hn;have hinv1:=hinv;have hF1:=hF;try dsimp only at hm1 hinv1 hF1
  clear hn hinv hF
  cases n1 with
  | zero=>exact absurd hm1 (Nat.not_lt_zero _)
  | succ n1 =>
   refine AC<|rn ⟨[(BI types),(2,tP 200002 0),(5,tP 200005 0),(NL b x0.val),(HA b),(Km b x0.val),(Kn b x0.val),(23,tI v23),(24,tB (decide ((v23:Int)<((b.Nets.getD (b.Nets.length-1-x0.val) default).Pins.length:Int))))],[(DA b),DQ,(200014,.omap false 1 A3.length (kfG Bl A3) (vfG (fun x=>[.s x]) A3))]⟩<|AC ?_
   refine Ab _ rfl (fun h1 => ?_) (fun h1 => ?_)
   ·have g1:=oT h1
    refine Af<|AJ ?_
    refine AC<|AY<|AC ?_
    refine rc [] [0<=(v23:Int)/\(v23:Int)<(((b.Nets.getD (b.Nets.length-1-x0.val) default).Pins.length:Nat):Int)] ⟨[(BI types),(2,tP 200002 0),(5,tP 200005 0),(NL b x0.val),(9,tP 9 0),(HA b),(Km b x0.val),(Kn b x0.val),(23,tI v23)],[(9,.cells (Aq.c ((b.Nets.getD (b.Nets.length-1-x0.val) default).Pins.getD v23.toNat default)) 106),(DA b),DQ,(200014,.omap false 1 A3.length (kfG Bl A3) (vfG (fun x=>[.s x]) A3))]⟩ .nil (.cons au0 .nil)<|AJ ?_
    refine Cz C4 [] [(999999,((Do BL A3 ((b.Nets.getD (b.Nets.length-1-x0.val) default).Pins.getD v23.toNat default)),(Cg BL A3 ((b.Nets.getD (b.Nets.length-1-x0.val) default).Pins.getD v23.toNat default))))] [] [1,2,5,7,17,21,22,23] [200002,200005,200014] [UZ Tryz.prog eqE 106 A3.length (kfG Bl A3) (Bl ((b.Nets.getD (b.Nets.length-1-x0.val) default).Pins.getD v23.toNat default)) (Do BL A3 ((b.Nets.getD (b.Nets.length-1-x0.val) default).Pins.getD v23.toNat default)) (Cg BL A3 ((b.Nets.getD (b.Nets.length-1-x0.val) default).Pins.getD v23.toNat default))] ⟨[(BI types),(2,tP 200002 0),(5,tP 200005 0),(NL b x0.val),(HA b),(Km b x0.val),(Kn b x0.val),(23,tI v23)],[(DA b),DQ,(200014,.omap false 1 (bif Do BL A3 ((b.Nets.getD (b.Nets.length-1-x0.val) default).Pins.getD v23.toNat default) then A3.length else A3.length+1) (fun j=>bif Nat.beq j (bif Do BL A3 ((b.Nets.getD (b.Nets.length-1-x0.val) default).Pins.getD v23.toNat default) then Cg BL A3 ((b.Nets.getD (b.Nets.length-1-x0.val) default).Pins.getD v23.toNat default) else A3.length) then Bl ((b.Nets.getD (b.Nets.length-1-x0.val) default).Pins.getD v23.toNat default) else kfG Bl A3 j) (fun j c=>bif Nat.beq j (bif Do BL A3 ((b.Nets.getD (b.Nets.length-1-x0.val) default).Pins.getD v23.toNat default) then Cg BL A3 ((b.Nets.getD (b.Nets.length-1-x0.val) default).Pins.getD v23.toNat default) else A3.length) then ([.s (b.Nets.getD (b.Nets.length-1-x0.val) default).Name]:List Cl).getD c default else vfG (fun x=>[.s x]) A3 j c))]⟩ .nil kr (.cons (Tz Qo UK _ _) .nil)<|Be<|AJ ?_
    refine Ba (Cv.trans (BT (⟨[(BI types),(2,tP 200002 0),(5,tP 200005 0),(NL b x0.val),(HA b),(Km b x0.val),(Kn b x0.val),(23,tI v23)],[(DA b),DQ,(200014,.omap false 1 (Ic BL A3 ((b.Nets.getD (b.Nets.length-1-x0.val) default).Pins.getD v23.toNat default) (b.Nets.getD (b.Nets.length-1-x0.val) default).Name).length (kfG Bl (Ic BL A3 ((b.Nets.getD (b.Nets.length-1-x0.val) default).Pins.getD v23.toNat default) (b.Nets.getD (b.Nets.length-1-x0.val) default).Name)) (vfG (fun x=>[.s x]) (Ic BL A3 ((b.Nets.getD (b.Nets.length-1-x0.val) default).Pins.getD v23.toNat default) (b.Nets.getD (b.Nets.length-1-x0.val) default).Name)))]⟩) lr (.cons ⟨rfl,.refl _⟩ (.cons ⟨rfl,.refl _⟩ (.cons ⟨rfl,dE (ck:=Bl) (cv:=(fun x=>[.s x])) (eq:=BL) A3 ((b.Nets.getD (b.Nets.length-1-x0.val) default).Pins.getD v23.toNat default) (b.Nets.getD (b.Nets.length-1-x0.val) default).Name [.s (b.Nets.getD (b.Nets.length-1-x0.val) default).Name] rfl⟩ .nil)))) (Cv.refl _)) ?_
    refine rg ⟨[(BI types),(2,tP 200002 0),(5,tP 200005 0),(NL b x0.val),(HA b),(Km b x0.val),(Kn b x0.val),(23,tI (W64 (v23+1)))],[(DA b),DQ,(200014,.omap false 1 (Ic BL A3 ((b.Nets.getD (b.Nets.length-1-x0.val) default).Pins.getD v23.toNat default) (b.Nets.getD (b.Nets.length-1-x0.val) default).Name).length (kfG Bl (Ic BL A3 ((b.Nets.getD (b.Nets.length-1-x0.val) default).Pins.getD v23.toNat default) (b.Nets.getD (b.Nets.length-1-x0.val) default).Name)) (vfG (fun x=>[.s x]) (Ic BL A3 ((b.Nets.getD (b.Nets.length-1-x0.val) default).Pins.getD v23.toNat default) (b.Nets.getD (b.Nets.length-1-x0.val) default).Name)))]⟩ ?_
    (try rw [(show W64 (v23+1)=v23+1 from An (by omega) au6)])
    refine AJ ?_
    refine ⟨(n1,Ic BL A3 ((b.Nets.getD (b.Nets.length-1-x0.val) default).Pins.getD v23.toNat default) (b.Nets.getD (b.Nets.length-1-x0.val) default).Name,v23+1),⟨?_,?_,(by rw [<- hF1];simp only [G6,h1,cond_true,cond_false])⟩,Nat.lt_succ_self _,BB kr⟩
    ·show (((b.Nets.getD (b.Nets.length-1-x0.val) default).Pins.length:Int)-(v23+1)).toNat<n1;omega
    ·exact ⟨ax0,ax0⟩
   ·have g1:=oF h1
    refine BV<|BE ?_
    refine BE<|BW<|Be ?_
    refine ⟨_,Cv.trans (BD [1,2,5,17] [200002,200005,200014] (⟨[(BI types),(2,tP 200002 0),(5,tP 200005 0),(HA b)],[(DA b),DQ,(200014,.omap false 1 A3.length (kfG Bl A3) (vfG (fun x=>[.s x]) A3))]⟩) kr) (Cv.refl _),rfl,A3,ax0,fun hk hF => ?_,fun _ _ h=>h⟩
    have e0:C5 b types (b.Nets.length-(x0.val+1)) (x0.val+1) A3=Xb0:=by
     rw [<- hF1]
     first | (simp only [G6,h1,cond_true,cond_false] <;> rfl)
    subst hk
    change C5 b types (b.Nets.length-x0.val) x0.val AH=Dc b types at hF
    show C5 b types (b.Nets.length-(x0.val+1)) (x0.val+1) A3=Dc b types
    exact e0.trans (hXb0.symm.trans hF)
 ·have hinv0:True:=hinv;clear hinv
  change C5 b types (b.Nets.length-b.Nets.length) b.Nets.length AH=Dc b types at hF0
  rw [Nat.sub_self] at hF0
  refine Be<|AJ<|AC ?_
  refine rn ⟨[(BI types),(2,tP 200002 0),(5,tP 200005 0),(10,tP 10 0)],[(10,.cells [vN] 50),(DA b),DQ,(200014,.omap false 1 AH.length (kfG Bl AH) (vfG (fun x=>[.s x]) AH))]⟩ ?_
  refine AC<|AC ?_
  refine rc [(34,(Z0m b types))] [Ak (Z0m b types).2.1] ⟨[(2,tP 200002 0),(5,tP 200005 0),(10,tP 10 0),(LK b types)],[(10,.cells [vN] 50),(DA b),DQ,(200014,.omap false 1 AH.length (kfG Bl AH) (vfG (fun x=>[.s x]) AH))]⟩ (.cons (AW (fun _ _=>kr) fun _=>ppads b types) .nil) (.cons rfl .nil)<|AJ<|AY ?_
  refine Ba (Cv.trans (BR (⟨(Ki b types),[(200010,.cells [vN] 50),(DA b),DQ,(200014,.omap false 1 AH.length (kfG Bl AH) (vfG (fun x=>[.s x]) AH))]⟩) 10 200010 (K:=[]) (fun k x h=>by cases h) rfl rfl kr kr) (Cv.trans (BD [2,5,10,34] [200002,200005,200010,200014] (⟨(Ki b types),[(DA b),DQ,(200010,.cells [vN] 50),(200014,.omap false 1 AH.length (kfG Bl AH) (vfG (fun x=>[.s x]) AH))]⟩) kr) (Cv.trans (Ca (⟨(Ki b types),[(100000,.row 9 0 (fun _ _=>default) 61),(DA b),DQ,(200010,.cells [.own 100000 9 0] 50),(200014,.omap false 1 AH.length (kfG Bl AH) (vfG (fun x=>[.s x]) AH))]⟩) 100000 9 (fun _ _=>default) 61 [] [(200010,[0])] (K:=[]) (fun k x h=>by cases h) rfl kr kr) (Cv.trans (BT (⟨(Ki b types),[(100000,.row 9 ([]:List AZ).length (AP AZ.c ([]:List AZ)) 61),(DA b),DQ,(200010,.cells [.own 100000 9 ([]:List AZ).length] 50),(200014,.omap false 1 AH.length (kfG Bl AH) (vfG (fun x=>[.s x]) AH))]⟩) lr (.cons ⟨rfl,Ap 61 (CZ 9 (fun _ _=>default) AZ.c)⟩ (.cons ⟨rfl,.refl _⟩ (.cons ⟨rfl,.refl _⟩ (.cons ⟨rfl,.cells _ (.cons (.own _ _ au2) .nil)⟩ lr))))) (Cv.refl _))))) ?_
  refine K8 (ι:=List AZ) [200002,200005,200010,200014] 299999 200010 0 100000 (fun x=>[(100000,.row 9 x.length (AP AZ.c x) 61),(200002,.cells (D6 b) 41),(200005,.cells [.om 200014] 211),(200010,.cells [.own 100000 9 x.length] 50),(200014,.omap false 1 AH.length (kfG Bl AH) (vfG (fun x=>[.s x]) AH))]) (fun x2=>[(2,tP 200002 0),(5,tP 200005 0),(10,tP 200010 0),(11,.av (.one (.eptr 7 1 (gD (AE.c ((Aj b types).getD x2.val default).1)) 0 0))),(12,.av (.one (.eptr 7 1 (gD (BF.c ((Aj b types).getD x2.val default).2)) 0 0))),(34,.av (.one (.clo 147 2 (A6 [.eptr 15 1 (gD (D6 b)) 0 0,.eptr 1 1 (gD [lst 3 AM.c types]) 0 0]))))]) (fun j x=>x.length<=j) (fun y x=>Db b types AH (fun _=>default) ((Aj b types).length-y) y x=Dc b types) ([]:List AZ) (fun _=>rfl) kr kr (fun _ _=>kr) (fV b types hp ht) kr (fun _=>by kernel_rfl) (fun _=>rfl) (fun _=>rfl) (fun x=>(BX (p:=BkN) (by simp only [List.forall_mem_cons];exact ⟨kY Jc,Q0 (Mm _),Q0 (by simp only [List.forall_mem_cons];exact ⟨(.om _),fun x hx=>by cases hx⟩),Q0 (by simp only [List.forall_mem_cons];exact ⟨(.own _ _ _),fun x hx=>by cases hx⟩),kZ (fun x y hy=>by rw [List.mem_singleton.1 hy];exact (.val _)),fun x hx=>by cases hx⟩))) (fun x2=>(BX (p:=TvM) (by simp only [List.forall_mem_cons];exact ⟨A8 (.ptr _ _),A8 (.ptr _ _),A8 (.ptr _ _),A8 (De (FX _)),A8 (De (Jy _)),A8 (SG (by simp only [List.forall_mem_cons];exact ⟨(De (Mm _)),(De (by simp only [List.forall_mem_cons];exact ⟨(CG O4),fun x hx=>by cases hx⟩)),fun x hx=>by cases hx⟩)),fun x hx=>by cases hx⟩))) (fun _=>by kernel_rfl) ax0 (by rw [<- hF0];simp only [C5,Nat.sub_zero,cond_true,cond_false]) (fun l1 W1 M1 X1 x2 j Au hinv hPX => ?_) (fun l2 W2 M2 X2 x2 j Au hPX hj hinv => ?_) (fun Au hinv hF2 => ?_)
  ·have hinv2:Au.length<=j:=hinv;clear hinv
   refine DH<|AC ?_
   refine rn ⟨[(2,tP 200002 0),(5,tP 200005 0),(10,tP 200010 0),(11,tP 11 0),(LK b types),(36,.av (.agg (BF.c ((Aj b types).getD x2.val default).2)))],[(11,.cells (AE.c ((Aj b types).getD x2.val default).1) 78),(Gt Au),(DA b),DQ,(HZ Au),(200014,.omap false 1 AH.length (kfG Bl AH) (vfG (fun x=>[.s x]) AH))]⟩ ?_
   refine rg ⟨[(2,tP 200002 0),(5,tP 200005 0),(10,tP 200010 0),(11,tP 11 0),(12,tP 12 0),(LK b types)],[(11,.cells (AE.c ((Aj b types).getD x2.val default).1) 78),(12,.cells (BF.c ((Aj b types).getD x2.val default).2) 102),(Gt Au),(DA b),DQ,(HZ Au),(200014,.omap false 1 AH.length (kfG Bl AH) (vfG (fun x=>[.s x]) AH))]⟩ ?_
   exact ⟨_,Cv.trans (PV (⟨[(2,tP 200002 0),(5,tP 200005 0),(10,tP 200010 0),(Rt b types x2.val),(12,tP 12 0),(LK b types)],[(12,.cells (BF.c ((Aj b types).getD x2.val default).2) 102),(Gt Au),(DA b),DQ,(HZ Au),(200014,.omap false 1 AH.length (kfG Bl AH) (vfG (fun x=>[.s x]) AH))]⟩) 11 (AE.c ((Aj b types).getD x2.val default).1) 78 [200002,200005,200010,200014] 100000 hPX kr (fun _=>⟨_,rfl⟩) kr kr kr) (Cv.trans (PV (⟨[(2,tP 200002 0),(5,tP 200005 0),(10,tP 200010 0),(Rt b types x2.val),(Za b types x2.val),(LK b types)],[(Gt Au),(DA b),DQ,(HZ Au),(200014,.omap false 1 AH.length (kfG Bl AH) (vfG (fun x=>[.s x]) AH))]⟩) 12 (BF.c ((Aj b types).getD x2.val default).2) 102 [200002,200005,200010,200014] 100000 hPX kr (fun _=>⟨_,rfl⟩) kr kr kr) (Cv.refl _)),rfl,rfl⟩
  ·have hinv2:Au.length<=j:=hinv;clear hinv
   obtain ⟨Xb2,hXb2⟩:∃ Xb,Db b types AH (fun _=>default) ((Aj b types).length-x2.val) x2.val Au=Xb:=⟨_,rfl⟩
   have hF2:=hXb2
   rw [show (Aj b types).length-x2.val=((Aj b types).length-(x2.val+1))+1 by have:=x2.isLt;omega] at hF2
   have hpe:=X9 (b:=b) ht x2.val
   refine DH<|AY<|AC ?_
   refine Xe Tm C4 [] [(47,((Do BL AH (Dl b types x2.val)),(Cg BL AH (Dl b types x2.val))))] [] [2,5,10,11,12,13,34] [13,100000,200002,200005,200010,200014] [UZ Tryz.prog eqE 106 AH.length (kfG Bl AH) (Bl (Aq.mk ((Aj b types).getD x2.val default).1.Ref ((Aj b types).getD x2.val default).2.Name)) (Do BL AH (Aq.mk ((Aj b types).getD x2.val default).1.Ref ((Aj b types).getD x2.val default).2.Name)) (Cg BL AH (Aq.mk ((Aj b types).getD x2.val default).1.Ref ((Aj b types).getD x2.val default).2.Name))] ⟨(Rr b types x2.val),[(13,.cells [.i ((Aj b types).getD x2.val default).1.Id,.s ((Aj b types).getD x2.val default).2.Name,.i 1,.s (bif Do BL AH (Dl b types x2.val) then (AH.getD (Cg BL AH (Dl b types x2.val)) default).2 else ⟨#[]⟩),.i 1,.i b.Layers,.i 0,vN,.i 0] 61),(Gt Au),(DA b),DQ,(HZ Au),(200014,.omap false 1 AH.length (kfG Bl AH) (vfG (fun x=>[.s x]) AH))]⟩ .nil kr kr (.cons (Tz Qo UK _ _) .nil)<|AJ ?_
   refine AC<|AC ?_
   refine rn ⟨[(2,tP 200002 0),(5,tP 200005 0),(10,tP 200010 0),(Rt b types x2.val),(Za b types x2.val),(13,tP 13 0),(LK b types),(53,tB (decide ((((Aj b types).getD x2.val default).2.Drill:Int)=0)))],[(13,.cells [.i ((Aj b types).getD x2.val default).1.Id,.s ((Aj b types).getD x2.val default).2.Name,.i 1,.s (bif Do BL AH (Dl b types x2.val) then (AH.getD (Cg BL AH (Dl b types x2.val)) default).2 else ⟨#[]⟩),.i 1,.i b.Layers,.i 0,vN,.i 0] 61),(Gt Au),(DA b),DQ,(HZ Au),(200014,.omap false 1 AH.length (kfG Bl AH) (vfG (fun x=>[.s x]) AH))]⟩ ?_
   refine Bu (⟨(Rr b types x2.val),[(13,.cells [.i ((Aj b types).getD x2.val default).1.Id,.s ((Aj b types).getD x2.val default).2.Name,.i 1,.s (bif Do BL AH (Dl b types x2.val) then (AH.getD (Cg BL AH (Dl b types x2.val)) default).2 else ⟨#[]⟩),.i (bif decide ((((Aj b types).getD x2.val default).2.Drill:Int)=0) then (E0 b types x2.val) else 1),.i (bif decide ((((Aj b types).getD x2.val default).2.Drill:Int)=0) then (E0 b types x2.val) else b.Layers),.i 0,vN,.i 0] 61),(Gt Au),(DA b),DQ,(HZ Au),(200014,.omap false 1 AH.length (kfG Bl AH) (vfG (fun x=>[.s x]) AH))]⟩) ?_ ?_
   ·refine Ab _ rfl (fun h1 => ?_) (fun h1 => ?_)
    ·have g1:=oT h1
     refine dw [] [(56,Nd b ((Aj b types).getD x2.val default).1),(59,Nd b ((Aj b types).getD x2.val default).1)] [Ak (Nd b ((Aj b types).getD x2.val default).1).2.1,Ak (Nd b ((Aj b types).getD x2.val default).1).2.1] ⟨(Rr b types x2.val),[(13,.cells [.i ((Aj b types).getD x2.val default).1.Id,.s ((Aj b types).getD x2.val default).2.Name,.i 1,.s (bif Do BL AH (Dl b types x2.val) then (AH.getD (Cg BL AH (Dl b types x2.val)) default).2 else ⟨#[]⟩),.i (E0 b types x2.val),.i (E0 b types x2.val),.i 0,vN,.i 0] 61),(Gt Au),(DA b),DQ,(HZ Au),(200014,.omap false 1 AH.length (kfG Bl AH) (vfG (fun x=>[.s x]) AH))]⟩ (.cons (aI b ((Aj b types).getD x2.val default).1) (.cons (aI b ((Aj b types).getD x2.val default).1) .nil)) (.cons rfl (.cons rfl .nil))<|AJ ?_
     refine BB ?_
     first | rfl | (simp only [h1,cond_true,cond_false] <;> rfl)
    ·have g1:=oF h1
     refine Af<|AJ ?_
     refine Cv.trans (BD [2,5,10,11,12,13,34] [13,100000,200002,200005,200010,200014] (⟨(Rr b types x2.val),[(13,.cells [.i ((Aj b types).getD x2.val default).1.Id,.s ((Aj b types).getD x2.val default).2.Name,.i 1,.s (bif Do BL AH (Dl b types x2.val) then (AH.getD (Cg BL AH (Dl b types x2.val)) default).2 else ⟨#[]⟩),.i 1,.i b.Layers,.i 0,vN,.i 0] 61),(Gt Au),(DA b),DQ,(HZ Au),(200014,.omap false 1 AH.length (kfG Bl AH) (vfG (fun x=>[.s x]) AH))]⟩) kr) (BB ?_)
     first | rfl | (simp only [h1,cond_true,cond_false] <;> rfl)
   refine AC<|dw [] [(65,HK ((Aj b types).getD x2.val default).1),(66,M6 ((Aj b types).getD x2.val default).2.Shape (Cc ((Aj b types).getD x2.val default).1))] [Ak (HK ((Aj b types).getD x2.val default).1).2.1,Ak (M6 ((Aj b types).getD x2.val default).2.Shape (Cc ((Aj b types).getD x2.val default).1)).2.1] ⟨[(2,tP 200002 0),(5,tP 200005 0),(10,tP 200010 0),(13,tP 13 0),(LK b types)],[(13,.cells [.i ((Aj b types).getD x2.val default).1.Id,.s ((Aj b types).getD x2.val default).2.Name,.i 1,.s (bif Do BL AH (Dl b types x2.val) then (AH.getD (Cg BL AH (Dl b types x2.val)) default).2 else ⟨#[]⟩),.i (bif decide ((((Aj b types).getD x2.val default).2.Drill:Int)=0) then (E0 b types x2.val) else 1),.i (bif decide ((((Aj b types).getD x2.val default).2.Drill:Int)=0) then (E0 b types x2.val) else b.Layers),.i (I4 b types x2.val).Kind,lst 7 AG.c (I4 b types x2.val).Edges,.i (I4 b types x2.val).R] 61),(Gt Au),(DA b),DQ,(HZ Au),(200014,.omap false 1 AH.length (kfG Bl AH) (vfG (fun x=>[.s x]) AH))]⟩ (.cons (Tc ((Aj b types).getD x2.val default).1) (.cons (gO ((Aj b types).getD x2.val default).2.Shape (Cc ((Aj b types).getD x2.val default).1) au4) .nil)) (.cons rfl (.cons rfl .nil))<|AJ ?_
   refine rc [] [Au.length=Au.length,Au.length+1<=maxLen,(Au.length+1)*104<=140737488355328] ⟨(Ki b types),[(71,.row 9 (Au.length+1) (fun i_ j_=>if i_<Au.length then (AP AZ.c Au) i_ j_ else (Ay 9 1 [.i ((Aj b types).getD x2.val default).1.Id,.s ((Aj b types).getD x2.val default).2.Name,.i 1,.s (bif Do BL AH (Dl b types x2.val) then (AH.getD (Cg BL AH (Dl b types x2.val)) default).2 else ⟨#[]⟩),.i (bif decide ((((Aj b types).getD x2.val default).2.Drill:Int)=0) then (E0 b types x2.val) else 1),.i (bif decide ((((Aj b types).getD x2.val default).2.Drill:Int)=0) then (E0 b types x2.val) else b.Layers),.i (I4 b types x2.val).Kind,lst 7 AG.c (I4 b types x2.val).Edges,.i (I4 b types x2.val).R]) (i_-Au.length) j_) 61),(DA b),DQ,(200010,.cells [.own 71 9 (Au.length+1)] 50),(200014,.omap false 1 AH.length (kfG Bl AH) (vfG (fun x=>[.s x]) AH))]⟩ .nil (.cons rfl (.cons au3 (.cons au3 .nil)))<|Be ?_
   refine ⟨_,Cv.trans (BT (⟨(Ki b types),[(71,.row 9 (Au++[AZ.mk ((Aj b types).getD x2.val default).1.Id ((Aj b types).getD x2.val default).2.Name 1 (bif Do BL AH (Dl b types x2.val) then (AH.getD (Cg BL AH (Dl b types x2.val)) default).2 else ⟨#[]⟩) (bif decide ((((Aj b types).getD x2.val default).2.Drill:Int)=0) then (E0 b types x2.val) else 1) (bif decide ((((Aj b types).getD x2.val default).2.Drill:Int)=0) then (E0 b types x2.val) else b.Layers) (I4 b types x2.val)]).length (AP AZ.c (Au++[AZ.mk ((Aj b types).getD x2.val default).1.Id ((Aj b types).getD x2.val default).2.Name 1 (bif Do BL AH (Dl b types x2.val) then (AH.getD (Cg BL AH (Dl b types x2.val)) default).2 else ⟨#[]⟩) (bif decide ((((Aj b types).getD x2.val default).2.Drill:Int)=0) then (E0 b types x2.val) else 1) (bif decide ((((Aj b types).getD x2.val default).2.Drill:Int)=0) then (E0 b types x2.val) else b.Layers) (I4 b types x2.val)])) 61),(DA b),DQ,(200010,.cells [.own 71 9 (Au++[AZ.mk ((Aj b types).getD x2.val default).1.Id ((Aj b types).getD x2.val default).2.Name 1 (bif Do BL AH (Dl b types x2.val) then (AH.getD (Cg BL AH (Dl b types x2.val)) default).2 else ⟨#[]⟩) (bif decide ((((Aj b types).getD x2.val default).2.Drill:Int)=0) then (E0 b types x2.val) else 1) (bif decide ((((Aj b types).getD x2.val default).2.Drill:Int)=0) then (E0 b types x2.val) else b.Layers) (I4 b types x2.val)]).length] 50),(200014,.omap false 1 AH.length (kfG Bl AH) (vfG (fun x=>[.s x]) AH))]⟩) lr (.cons ⟨rfl,Ap 61 (BZ (BM 9 AZ.c Au) (Aw (c:=AZ.c) (xs:=([AZ.mk ((Aj b types).getD x2.val default).1.Id ((Aj b types).getD x2.val default).2.Name 1 (bif Do BL AH (Aq.mk ((Aj b types).getD x2.val default).1.Ref ((Aj b types).getD x2.val default).2.Name) then (AH.getD (Cg BL AH (Aq.mk ((Aj b types).getD x2.val default).1.Ref ((Aj b types).getD x2.val default).2.Name)) default).2 else ⟨#[]⟩) (bif decide ((((Aj b types).getD x2.val default).2.Drill:Int)=0) then (Ed b ((Aj b types).getD x2.val default).1) else 1) (bif decide ((((Aj b types).getD x2.val default).2.Drill:Int)=0) then (Ed b ((Aj b types).getD x2.val default).1) else b.Layers) (EH ((Aj b types).getD x2.val default).2.Shape (Cc ((Aj b types).getD x2.val default).1))]:List AZ)) rfl kr))⟩ (.cons ⟨rfl,.refl _⟩ (.cons ⟨rfl,.refl _⟩ (.cons ⟨rfl,.cells _ (.cons (.own _ _ au2) .nil)⟩ lr))))) (Cv.trans (BR (⟨(Ki b types),[(100000,.row 9 (Au++[AZ.mk ((Aj b types).getD x2.val default).1.Id ((Aj b types).getD x2.val default).2.Name 1 (bif Do BL AH (Dl b types x2.val) then (AH.getD (Cg BL AH (Dl b types x2.val)) default).2 else ⟨#[]⟩) (bif decide ((((Aj b types).getD x2.val default).2.Drill:Int)=0) then (E0 b types x2.val) else 1) (bif decide ((((Aj b types).getD x2.val default).2.Drill:Int)=0) then (E0 b types x2.val) else b.Layers) (I4 b types x2.val)]).length (AP AZ.c (Au++[AZ.mk ((Aj b types).getD x2.val default).1.Id ((Aj b types).getD x2.val default).2.Name 1 (bif Do BL AH (Dl b types x2.val) then (AH.getD (Cg BL AH (Dl b types x2.val)) default).2 else ⟨#[]⟩) (bif decide ((((Aj b types).getD x2.val default).2.Drill:Int)=0) then (E0 b types x2.val) else 1) (bif decide ((((Aj b types).getD x2.val default).2.Drill:Int)=0) then (E0 b types x2.val) else b.Layers) (I4 b types x2.val)])) 61),(DA b),DQ,(200010,.cells [.own 100000 9 (Au++[AZ.mk ((Aj b types).getD x2.val default).1.Id ((Aj b types).getD x2.val default).2.Name 1 (bif Do BL AH (Dl b types x2.val) then (AH.getD (Cg BL AH (Dl b types x2.val)) default).2 else ⟨#[]⟩) (bif decide ((((Aj b types).getD x2.val default).2.Drill:Int)=0) then (E0 b types x2.val) else 1) (bif decide ((((Aj b types).getD x2.val default).2.Drill:Int)=0) then (E0 b types x2.val) else b.Layers) (I4 b types x2.val)]).length] 50),(200014,.omap false 1 AH.length (kfG Bl AH) (vfG (fun x=>[.s x]) AH))]⟩) 71 100000 (K:=[299999,200002,200005,200010,200014]) hPX rfl rfl kr kr) (Cv.refl _)),rfl,(Au++[AZ.mk ((Aj b types).getD x2.val default).1.Id ((Aj b types).getD x2.val default).2.Name 1 (bif Do BL AH (Aq.mk ((Aj b types).getD x2.val default).1.Ref ((Aj b types).getD x2.val default).2.Name) then (AH.getD (Cg BL AH (Aq.mk ((Aj b types).getD x2.val default).1.Ref ((Aj b types).getD x2.val default).2.Name)) default).2 else ⟨#[]⟩) (bif decide ((((Aj b types).getD x2.val default).2.Drill:Int)=0) then (Ed b ((Aj b types).getD x2.val default).1) else 1) (bif decide ((((Aj b types).getD x2.val default).2.Drill:Int)=0) then (Ed b ((Aj b types).getD x2.val default).1) else b.Layers) (EH ((Aj b types).getD x2.val default).2.Shape (Cc ((Aj b types).getD x2.val default).1))]),ax0,fun hk hF => ?_,fun _ _ h=>h⟩
   have e0:Db b types AH (fun _=>default) ((Aj b types).length-(x2.val+1)) (x2.val+1) (Au++[AZ.mk ((Aj b types).getD x2.val default).1.Id ((Aj b types).getD x2.val default).2.Name 1 (bif Do BL AH (Aq.mk ((Aj b types).getD x2.val default).1.Ref ((Aj b types).getD x2.val default).2.Name) then (AH.getD (Cg BL AH (Aq.mk ((Aj b types).getD x2.val default).1.Ref ((Aj b types).getD x2.val default).2.Name)) default).2 else ⟨#[]⟩) (bif decide ((((Aj b types).getD x2.val default).2.Drill:Int)=0) then (Ed b ((Aj b types).getD x2.val default).1) else 1) (bif decide ((((Aj b types).getD x2.val default).2.Drill:Int)=0) then (Ed b ((Aj b types).getD x2.val default).1) else b.Layers) (EH ((Aj b types).getD x2.val default).2.Shape (Cc ((Aj b types).getD x2.val default).1))])=Xb2:=by
    rw [<- hF2]
    first | (simp only [Db,cond_true,cond_false] <;> rfl)
   subst hk
   change Db b types AH (fun _=>default) ((Aj b types).length-x2.val) x2.val Au=Dc b types at hF
   show Db b types AH (fun _=>default) ((Aj b types).length-(x2.val+1)) (x2.val+1) (Au++[AZ.mk ((Aj b types).getD x2.val default).1.Id ((Aj b types).getD x2.val default).2.Name 1 (bif Do BL AH (Aq.mk ((Aj b types).getD x2.val default).1.Ref ((Aj b types).getD x2.val default).2.Name) then (AH.getD (Cg BL AH (Aq.mk ((Aj b types).getD x2.val default).1.Ref ((Aj b types).getD x2.val default).2.Name)) default).2 else ⟨#[]⟩) (bif decide ((((Aj b types).getD x2.val default).2.Drill:Int)=0) then (Ed b ((Aj b types).getD x2.val default).1) else 1) (bif decide ((((Aj b types).getD x2.val default).2.Drill:Int)=0) then (Ed b ((Aj b types).getD x2.val default).1) else b.Layers) (EH ((Aj b types).getD x2.val default).2.Shape (Cc ((Aj b types).getD x2.val default).1))])=Dc b types
   exact e0.trans (hXb2.symm.trans hF)
  ·have hinv2:Au.length<=(Aj b types).length:=hinv;clear hinv
   change Db b types AH (fun _=>default) ((Aj b types).length-(Aj b types).length) (Aj b types).length Au=Dc b types at hF2
   rw [Nat.sub_self] at hF2
   refine Be<|AJ<|AC ?_
   refine rn ⟨[(4,tO (.own 100000 9 Au.length))],[(Gt Au)]⟩<|Ag ?_
   exact ⟨_,Cv.refl _,.inl rfl,tO (.own 100000 9 Au.length),by kernel_rfl,frE (c:=AZ.c) (xs:=Au) (by rw [<- hF2];first | (simp only [Db,cond_true,cond_false] <;> rfl)) kr⟩
def US (b:AF) (types:(List AM)):FuncId×List Av×Ef:=(51,[.agg (D6 b),.one (Fw types)],.new [] (.row 9 (Dc b types).length (AP AZ.c (Dc b types)) 61) (fun d=>.av (.one (.own d 9 (Dc b types).length))))
theorem rR (b:AF) (types:(List AM)) (hn:(b.Nets.length:Int)<=1000000) (hp:b.Parts.length<20) (ht:Ck types) (hm:((Aj b types).length:Int)<=20000000) (hq:∀ n∈b.Nets,(n.Pins.length:Int)<=1000000):Az Tryz.prog (US b types).1 (US b types).2.1 (US b types).2.2:=Dv (fun _ _=>kr) (qPads b types hn hp ht hm hq)
end
section
open Go.RowKit
def jR (t:AO):AO:=t
def cZ (t:AO):FuncId×List Av×Ef:=(108,[.agg (AO.c t)],.val [] (.av (.agg (AO.c (jR t)))))
theorem pasT (t:AO):Bk Tryz.prog 108 (cZ t).2.1 (.av (.agg (AO.c (jR t)))):=by
 refine AV Tryz.func108 rfl kr kr fun W0 M0 => ?_
 refine AC<|rn ⟨Gn,[(1,.cells (AO.c t) 131),(2,.cells [.i 0,.s (⟨#[]⟩),.i 0,.i 0,vN,.i 0] 150)]⟩<|AC ?_
 refine rn ⟨[(2,tP 2 0)],[(2,.cells (AO.c t) 150)]⟩<|Ag ?_
 exact ⟨_,Cv.refl _,.inl rfl,.av (.agg (AO.c t)),by kernel_rfl,Al (by rfl)⟩
theorem okasT (t:AO):Az Tryz.prog (cZ t).1 (cZ t).2.1 (cZ t).2.2:=AW (fun _ _=>kr) fun _=>pasT t
def dY (t:AO):Int:=t.Id
def cU (t:AO):FuncId×List Av×Ef:=(109,[.agg (AO.c t)],.val [] (.av (.one (.i (dY t)))))
theorem pidT (t:AO):Bk Tryz.prog 109 (cU t).2.1 (tO (.i (dY t))):=by
 refine AV Tryz.func109 rfl kr kr fun W0 M0 => ?_
 refine AC<|rn ⟨[(1,tP 1 0)],[(1,.cells (AO.c t) 150)]⟩<|AC ?_
 refine rn ⟨[(2,tI t.Id)],[]⟩<|Ag ?_
 exact ⟨_,Cv.refl _,.inl rfl,tO (.i t.Id),by kernel_rfl,Al (by rfl)⟩
theorem okidT (t:AO):Az Tryz.prog (cU t).1 (cU t).2.1 (cU t).2.2:=AW (fun _ _=>kr) fun _=>pidT t
def Lz (a:AO) (b_:AO):Int:=CS (dY a) (dY b_)
theorem iL {p:Prop} (h:p:=by
 refine AV mp0 rfl kr kr fun W0 M0 => ?_
 refine AC<|rn ⟨[(2,.av (.one (.eptr 1 1 (gD [.clo mp1 0 (fun _=>default)]) 0 0))),(3,tP 3 0),(4,tP 4 0)],[(3,.cells (mp2 a) mp3),(4,.cells (mp2 b_) mp3)]⟩<|AC ?_
 refine dw [] [(8,mp4 a),(11,mp4 b_),(12,F5 (mp5 a) (mp5 b_))] [Ak (mp4 a).2.1,Ak (mp4 b_).2.1,Ak (F5 (mp5 a) (mp5 b_)).2.1] ⟨[(5,tI (CS (mp5 a) (mp5 b_)))],[]⟩ (.cons (mp6 a) (.cons (mp6 b_) (.cons (QN (mp5 a) (mp5 b_)) .nil))) (.cons rfl (.cons rfl (.cons rfl .nil)))<|AJ<|Ag ?_
 exact ⟨_,Cv.refl _,.inl rfl,tO (.i (CS (mp5 a) (mp5 b_))),by kernel_rfl,Al (by rfl)⟩):p:=h
section
 open Go.Proofs.YtheobjkgllmnmaaGreat renaming W3→mp1,AO.c→mp2,Tf→mp3,cU→mp4,dY→mp5,okidT→mp6
 open Go.Proofs.Tryz renaming func154→mp0
theorem pcmpT  (a:AO) (b_:AO):Bk Tryz.prog 154 [.agg (AO.c a),.agg (AO.c b_),.one (.eptr 1 1 (gD [.clo 109 0 (fun _=>default)]) 0 0)] (tO (.i (Lz a b_))):=iL
end
def Z0n (data':List AO) (j:Int):FuncId×List Av×Ef:=(154,[.agg (AO.c (data'.getD j.toNat default)),.agg (AO.c (data'.getD (W64 (j-1)).toNat default)),.one (.eptr 1 1 (fun _ j_=>([.clo 109 0 (fun _=>default)]:List Cl).getD j_ default) 0 0)],.val [] (tI (Lz (data'.getD j.toNat default) (data'.getD (W64 (j-1)).toNat default))))
def L5 (l:(List AO)) (n:Int) (data:List AO) (i:Int) (K0:List AO->Int->(List AO)):Nat->List AO->Int->(List AO)
 | 0,_,_=>default
 | n1+1,data',j=>bif bif decide ((0:Int)<j) then decide (((Lz (data'.getD j.toNat default) (data'.getD (j-1).toNat default)):Int)<0) else false then ((L5 l n data i K0 n1) ((data'.set j.toNat (data'.getD (j-1).toNat default)).set (j-1).toNat (data'.getD j.toNat default)) (j-1)) else (K0 data' (i+1))
def L6 (l:(List AO)) (n:Int):Nat->List AO->Int->(List AO)
 | 0,_,_=>default
 | n0+1,data,i=>bif decide ((i:Int)<n) then (L5 l n data i (L6 l n n0) (i.toNat+1) data i) else data
def Nm (l:(List AO)) (n:Int):(List AO):=L6 l n ((n-1).toNat+1) l 1
theorem iK {p:Prop} (h:p:=by
 refine FT mp0 rfl kr kr kr fun W0 M0 X hX => ?_
 refine AC<|rn ⟨[(0,tO (.own 1000 mp1 l.length)),(1,tI 0),(2,tI n),(3,.av (.one (.clo mp2 1 (A6 [.eptr 1 1 (gD [.clo mp3 0 (fun _=>default)]) 0 0])))),(8,tI 1)],[(1000,.row mp1 l.length (AP mp4 l) mp5)]⟩<|AY ?_
 refine BS (ι:=Nat×List mp6×Int) (fun x=>⟨[(0,tO (.own 1000 mp1 x.2.1.length)),(1,tI 0),(2,tI n),(3,.av (.one (.clo mp2 1 (A6 [.eptr 1 1 (gD [.clo mp3 0 (fun _=>default)]) 0 0])))),(8,tI x.2.2)],[(1000,.row mp1 x.2.1.length (AP mp4 x.2.1) mp5)]⟩) (fun x=>(n-x.2.2).toNat<x.1/\(1<=x.2.2/\x.2.1.length=l.length/\1<=x.2.2/\(x.2.2<=n\/x.2.2=1))/\mp7 l n x.1 x.2.1 x.2.2=mp8 l n) (fun x=>x.1) ?_ ((n-1).toNat+1,l,1) ⟨Nat.lt_succ_self _,⟨ax0,ax0,ax0,ax0⟩,(by simp only [mp8,cond_true,cond_false])⟩
 rintro ⟨n0,data,i⟩ ⟨hn,hinv,hF⟩
 have hm0:=hn;have hinv0:=hinv;have hF0:=hF;try dsimp only at hm0 hinv0 hF0
 clear hn hinv hF
 cases n0 with
 | zero=>exact absurd hm0 (Nat.not_lt_zero _)
 | succ n0 =>
  refine AC<|AC ?_
  refine rn ⟨[(0,tO (.own 1000 mp1 data.length)),(1,tI 0),(2,tI n),(3,.av (.one (.clo mp2 1 (A6 [.eptr 1 1 (gD [.clo mp3 0 (fun _=>default)]) 0 0])))),(8,tI i),(14,tB (decide ((i:Int)<n)))],[(1000,.row mp1 data.length (AP mp4 data) mp5)]⟩ ?_
  refine Ab _ rfl (fun h1 => ?_) (fun h1 => ?_)
  ·have g1:=oT h1
   refine Af<|AJ ?_
   refine AC<|AY<|AC ?_
   refine rn ⟨[(0,tO (.own 1000 mp1 data.length)),(1,tI 0),(2,tI n),(3,.av (.one (.clo mp2 1 (A6 [.eptr 1 1 (gD [.clo mp3 0 (fun _=>default)]) 0 0])))),(8,tI i),(9,tI i)],[(1000,.row mp1 data.length (AP mp4 data) mp5)]⟩<|AY ?_
   refine BS (ι:=Nat×List mp6×Int) (fun x=>⟨[(0,tO (.own 1000 mp1 x.2.1.length)),(1,tI 0),(2,tI n),(3,.av (.one (.clo mp2 1 (A6 [.eptr 1 1 (gD [.clo mp3 0 (fun _=>default)]) 0 0])))),(8,tI i),(9,tI x.2.2)],[(1000,.row mp1 x.2.1.length (AP mp4 x.2.1) mp5)]⟩) (fun x=>x.2.2.toNat<x.1/\(0<=x.2.2/\x.2.1.length=l.length/\x.2.2<n)/\mp9 l n data i (mp7 l n n0) x.1 x.2.1 x.2.2=mp8 l n) (fun x=>x.1) ?_ (i.toNat+1,data,i) ⟨Nat.lt_succ_self _,⟨ax0,ax0,ax0⟩,(by rw [<- hF0];simp only [mp7,h1,cond_true,cond_false])⟩
   rintro ⟨n1,data',j⟩ ⟨hn,hinv,hF⟩
   have hm1:=hn;have hinv1:=hinv;have hF1:=hF;try dsimp only at hm1 hinv1 hF1
   clear hn hinv hF
   cases n1 with
   | zero=>exact absurd hm1 (Nat.not_lt_zero _)
   | succ n1 =>
    refine AC<|AC ?_
    refine dw [] [(32,(mp10 data' j))] [gt (decide ((0:Int)<j)),gt (decide ((0:Int)<j)),gk (decide ((0:Int)<j)) (0<=(j:Int)/\(j:Int)<((data'.length:Nat):Int)),gt (decide ((0:Int)<j)),gk (decide ((0:Int)<j)) (j.toNat<data'.length),gt (decide ((0:Int)<j)),gt (decide ((0:Int)<j)),gt (decide ((0:Int)<j)),gk (decide ((0:Int)<j)) (0<=(W64 (j-1):Int)/\(W64 (j-1):Int)<((data'.length:Nat):Int)),gt (decide ((0:Int)<j)),gk (decide ((0:Int)<j)) ((W64 (j-1)).toNat<data'.length),gt (decide ((0:Int)<j)),gt (decide ((0:Int)<j)),gt (decide ((0:Int)<j)),gk (decide ((0:Int)<j)) (Ak (mp10 data' j).2.1),gt (decide ((0:Int)<j)),gt (decide ((0:Int)<j))] ⟨[(0,tO (.own 1000 mp1 data'.length)),(1,tI 0),(2,tI n),(3,.av (.one (.clo mp2 1 (A6 [.eptr 1 1 (gD [.clo mp3 0 (fun _=>default)]) 0 0])))),(8,tI i),(9,tI j),(34,tB (bif decide ((0:Int)<j) then decide (((mp11 (data'.getD j.toNat default) (data'.getD (W64 (j-1)).toNat default)):Int)<0) else false))],[(1000,.row mp1 data'.length (AP mp4 data') mp5)]⟩ (.cons (AW (fun _ _=>kr) fun _=>mp12 (data'.getD j.toNat default) (data'.getD (W64 (j-1)).toNat default)) .nil) (ci (ci (.cons (fun hG=>by first | exact au0 | (simp only [decide_eq_true_eq,decide_eq_false_iff_not,Bool.not_eq_true,Bool.and_eq_true] at hG <;> omega) | (simp at hG <;> omega) | (simp only [decide_eq_true_eq,decide_eq_false_iff_not] at hG;simp only [Bx];omega)) (ci (.cons (fun hG=>by first | exact au0 | (simp only [decide_eq_true_eq,decide_eq_false_iff_not,Bool.not_eq_true,Bool.and_eq_true] at hG <;> omega) | (simp at hG <;> omega) | (simp only [decide_eq_true_eq,decide_eq_false_iff_not] at hG;simp only [Bx];omega)) (ci (ci (ci (.cons (fun hG=>by first | exact au0 | (simp only [decide_eq_true_eq,decide_eq_false_iff_not,Bool.not_eq_true,Bool.and_eq_true] at hG <;> omega) | (simp at hG <;> omega) | (simp only [decide_eq_true_eq,decide_eq_false_iff_not] at hG;simp only [Bx];omega)) (ci (.cons (fun hG=>by first | exact au0 | (simp only [decide_eq_true_eq,decide_eq_false_iff_not,Bool.not_eq_true,Bool.and_eq_true] at hG <;> omega) | (simp at hG <;> omega) | (simp only [decide_eq_true_eq,decide_eq_false_iff_not] at hG;simp only [Bx];omega)) (ci (ci (ci (.cons (fun _=>rfl) (ci (ci .nil))))))))))))))))) ?_
    (try rw [(show W64 (j-1)=j-1 from An (by omega) (by omega))])
    refine AJ ?_
    refine Ab _ rfl (fun h2 => ?_) (fun h2 => ?_)
    ·have g2:=OA h2
     refine Af<|AJ ?_
     refine AC<|AY ?_
     refine dw [] [] [0<=(W64 (j-1):Int)/\(W64 (j-1):Int)<((data'.length:Nat):Int),(W64 (j-1)).toNat<data'.length,0<=(j:Int)/\(j:Int)<((data'.length:Nat):Int),j.toNat<data'.length,0<=(j:Int)/\(j:Int)<((data'.length:Nat):Int),j.toNat<data'.length,0<=(W64 (j-1):Int)/\(W64 (j-1):Int)<((data'.length:Nat):Int),(W64 (j-1)).toNat<data'.length] ⟨[(0,tO (.own 1000 mp1 data'.length)),(1,tI 0),(2,tI n),(3,.av (.one (.clo mp2 1 (A6 [.eptr 1 1 (gD [.clo mp3 0 (fun _=>default)]) 0 0])))),(8,tI i),(9,tI j)],[(1000,.row mp1 data'.length (fun i_ j_=>if i_=(W64 (j-1)).toNat/\0<=j_/\j_<0+mp1 then ((mp4 (data'.getD j.toNat default)):List Cl).getD (j_-0) default else (fun i_ j_=>if i_=j.toNat/\0<=j_/\j_<0+mp1 then ((mp4 (data'.getD (W64 (j-1)).toNat default)):List Cl).getD (j_-0) default else (AP mp4 data') i_ j_) i_ j_) mp5)]⟩ .nil (.cons au0 (.cons au0 (.cons au0 (.cons au0 (.cons au0 (.cons au0 (.cons au0 (.cons au0 .nil)))))))) ?_
     (try rw [(show W64 (j-1)=j-1 from An (by omega) (by omega))])
     refine Be<|AJ ?_
     refine Ba (Cv.trans (BT (⟨[(0,tO (.own 1000 mp1 ((data'.set j.toNat (data'.getD (j-1).toNat default)).set (j-1).toNat (data'.getD j.toNat default)).length)),(1,tI 0),(2,tI n),(3,.av (.one (.clo mp2 1 (A6 [.eptr 1 1 (gD [.clo mp3 0 (fun _=>default)]) 0 0])))),(8,tI i),(9,tI j)],[(1000,.row mp1 ((data'.set j.toNat (data'.getD (j-1).toNat default)).set (j-1).toNat (data'.getD j.toNat default)).length (AP mp4 ((data'.set j.toNat (data'.getD (j-1).toNat default)).set (j-1).toNat (data'.getD j.toNat default))) mp5)]⟩) (.cons ⟨rfl,.av (.one (.own _ _ au2))⟩ lr) (.cons ⟨rfl,Ap mp5 (Ja (l:=(mp4 (data'.getD j.toNat default))) (off:=0) (q:=mp1) (k:=(j-1).toNat) (Ja (l:=(mp4 (data'.getD (j-1).toNat default))) (off:=0) (q:=mp1) (k:=j.toNat) (BM mp1 mp4 data') au0 (data'.getD (j-1).toNat default) (IU kr)) au0 (data'.getD j.toNat default) (IU kr))⟩ .nil)) (Cv.refl _)) ?_
     refine rg ⟨[(0,tO (.own 1000 mp1 ((data'.set j.toNat (data'.getD (j-1).toNat default)).set (j-1).toNat (data'.getD j.toNat default)).length)),(1,tI 0),(2,tI n),(3,.av (.one (.clo mp2 1 (A6 [.eptr 1 1 (gD [.clo mp3 0 (fun _=>default)]) 0 0])))),(8,tI i),(9,tI (W64 (j-1)))],[(1000,.row mp1 ((data'.set j.toNat (data'.getD (j-1).toNat default)).set (j-1).toNat (data'.getD j.toNat default)).length (AP mp4 ((data'.set j.toNat (data'.getD (j-1).toNat default)).set (j-1).toNat (data'.getD j.toNat default))) mp5)]⟩ ?_
     (try rw [(show W64 (j-1)=j-1 from An (by omega) (by omega))])
     refine AJ ?_
     refine ⟨(n1,(data'.set j.toNat (data'.getD (j-1).toNat default)).set (j-1).toNat (data'.getD j.toNat default),j-1),⟨?_,?_,(by rw [<- hF1];simp only [mp9,h2,cond_true,cond_false])⟩,Nat.lt_succ_self _,BB kr⟩
     ·show (j-1).toNat<n1;omega
     ·exact ⟨ax0,ax0,ax0⟩
    ·refine BV<|BE ?_
     refine BE<|BW ?_
     refine Be<|AJ ?_
     refine rg ⟨[(0,tO (.own 1000 mp1 data'.length)),(1,tI 0),(2,tI n),(3,.av (.one (.clo mp2 1 (A6 [.eptr 1 1 (gD [.clo mp3 0 (fun _=>default)]) 0 0])))),(8,tI (W64 (i+1)))],[(1000,.row mp1 data'.length (AP mp4 data') mp5)]⟩ ?_
     (try rw [(show W64 (i+1)=i+1 from An (by omega) (by omega))])
     refine AJ ?_
     refine ⟨(n0,data',i+1),⟨?_,?_,(by rw [<- hF1];simp only [mp9,h2,cond_true,cond_false])⟩,Nat.lt_succ_self _,BB kr⟩
     ·show (n-(i+1)).toNat<n0;omega
     ·exact ⟨ax0,ax0,ax0,ax0⟩
  ·have g1:=oF h1
   refine BV<|BE ?_
   refine BE<|BW ?_
   exact ⟨_,Cv.refl _,.inr rfl,.tup [],by kernel_rfl,Al rfl,.row mp1 data.length (AP mp4 data) mp5,by kernel_rfl,Ff (c:=mp4) (xs:=data) (by rw [<- hF0];first | (simp only [mp7,h1,cond_true,cond_false] <;> rfl)) au18⟩):p:=h
section
 open Go.Proofs.YtheobjkgllmnmaaGreat renaming nn6→mp1,O3→mp2,W3→mp3,AO.c→mp4,Tf→mp5,AO→mp6,L6→mp7,Nm→mp8,L5→mp9,Z0n→mp10,Lz→mp11,pcmpT→mp12
 open Go.Proofs.Tryz renaming func181→mp0
theorem pInsT (l:(List AO)) (n:Int) (hn:n=(l.length:Int)) (hl:l.length<20):WrR Tryz.prog 181 1000 [.one (.own 1000 6 l.length),.one (.i 0),.one (.i n),.one (.clo 154 1 (A6 [.eptr 1 1 (gD [.clo 109 0 (fun _=>default)]) 0 0]))] 6 l.length (AP AO.c l) 150 (.tup []) (AP AO.c (Nm l n)):=iK
end
section
 open Go.Proofs.YtheobjkgllmnmaaGreat renaming Nm→mp0,Lz→mp1,L6→mp2,L5→mp3
theorem Uk (l:List AO) (n:Int) (hn:n=(l.length:Int)):Nm l n=Ci (fun x y=>decide (Lz x y<0)) l:=bB
end
theorem RF (l:List AO) (n:Int) (hn:n=(l.length:Int)) (hl:l.length<20):(Nm l n).length=l.length:=by rw [Uk l n hn,Dg]
def Z0o (l:(List AO)) (n:Int):FuncId×List Av×Ef:=(181,([.one (.own 1000 6 l.length),.one (.i 0),.one (.i n),.one (.clo 154 1 (A6 [.eptr 1 1 (fun _ j_=>([.clo 109 0 (fun _=>default)]:List Cl).getD j_ default) 0 0]))]:List Av).map (Hd 1000 1000),wrI 1000 (.row 6 l.length (AP AO.c l) 150) (.tup []) (.row 6 l.length (AP AO.c (Nm l n)) 150))
def Q6 (l:(List AO)) (n:Int):(List AO):=Nm l n
theorem iJ {p:Prop} (h:p:=by
 refine FT mp0 rfl kr kr kr fun W0 M0 X hX => ?_
 refine AC<|rn ⟨[(0,tO (.own 1000 mp1 l.length)),(1,tI n),(2,.av (.one (.clo mp2 1 (A6 [.eptr 1 1 (gD [.clo mp3 0 (fun _=>default)]) 0 0])))),(6,tI 20)],[(1000,.row mp1 l.length (AP mp4 l) mp5)]⟩<|AC ?_
 refine rn ⟨[(0,tO (.own 1000 mp1 l.length)),(1,tI n),(2,.av (.one (.clo mp2 1 (A6 [.eptr 1 1 (gD [.clo mp3 0 (fun _=>default)]) 0 0])))),(6,tI 20),(7,tI 0),(8,tI 20)],[(1000,.row mp1 l.length (AP mp4 l) mp5)]⟩ ?_
 refine AC<|AY ?_
 refine Gd 1 ?_
 refine DX<|AC<|AC ?_
 refine rn ⟨[(0,tO (.own 1000 mp1 l.length)),(1,tI n),(2,.av (.one (.clo mp2 1 (A6 [.eptr 1 1 (gD [.clo mp3 0 (fun _=>default)]) 0 0])))),(6,tI 20),(7,tI 0),(8,tI 20),(13,tB (decide ((20:Int)<=n)))],[(1000,.row mp1 l.length (AP mp4 l) mp5)]⟩ ?_
 have h1:(decide ((20:Int)<=n))=false:=decide_eq_false (by omega)
 have g1:=oF h1
 refine Ab _ rfl (fun h=>absurd (h1.symm.trans h) (by decide)) (fun _ => ?_)
 refine BV<|BE ?_
 refine BE<|BW ?_
 refine AJ<|AC ?_
 refine rc [(27,(mp6 l n))] [Ak (mp6 l n).2.1,BJ (.row mp1 l.length (AP mp4 l) mp5)] ⟨[(0,tO (.own 1000 mp1 l.length)),(1,tI n),(2,.av (.one (.clo mp2 1 (A6 [.eptr 1 1 (gD [.clo mp3 0 (fun _=>default)]) 0 0])))),(6,tI 20)],[(1000,.row mp1 l.length (AP mp4 (mp7 l n)) mp5)]⟩ (.cons (Fd (fun _ _=>kr) kr (mp8 l n au4 au4)) .nil) (.cons rfl (.cons rfl .nil))<|AJ ?_
 refine Ba (Cv.trans (BT (⟨[(0,tO (.own 1000 mp1 (mp7 l n).length)),(1,tI n),(2,.av (.one (.clo mp2 1 (A6 [.eptr 1 1 (gD [.clo mp3 0 (fun _=>default)]) 0 0])))),(6,tI 20)],[(1000,.row mp1 (mp7 l n).length (AP mp4 (mp7 l n)) mp5)]⟩) (.cons ⟨rfl,.av (.one (.own _ _ (mp9 l n au4 au4).symm))⟩ lr) (.cons ⟨rfl,Ap mp5 (⟨(mp9 l n au4 au4).symm,fun _ _ _ _=>.refl _⟩)⟩ .nil)) (Cv.refl _))<|AY ?_
 refine Gd 1 ?_
 refine DX<|AC<|AC ?_
 refine rn ⟨[(0,tO (.own 1000 mp1 (mp7 l n).length)),(1,tI n),(2,.av (.one (.clo mp2 1 (A6 [.eptr 1 1 (gD [.clo mp3 0 (fun _=>default)]) 0 0])))),(6,tI 20),(30,tB (decide ((20:Int)<n)))],[(1000,.row mp1 (mp7 l n).length (AP mp4 (mp7 l n)) mp5)]⟩ ?_
 have h2:(decide ((20:Int)<n))=false:=decide_eq_false (by omega)
 have g2:=oF h2
 refine Ab _ rfl (fun h=>absurd (h2.symm.trans h) (by decide)) (fun _ => ?_)
 refine BV<|BE ?_
 refine BE<|BW ?_
 exact ⟨_,Cv.refl _,.inr rfl,.tup [],by kernel_rfl,Al rfl,.row mp1 (mp7 l n).length (AP mp4 (mp7 l n)) mp5,by kernel_rfl,Ff (c:=mp4) (xs:=mp7 l n) (by first | (simp only [mp10,h1,h2,cond_true,cond_false] <;> rfl)) (mp9 l n hn hl)⟩):p:=h
section
 open Go.Proofs.YtheobjkgllmnmaaGreat renaming nn6→mp1,O3→mp2,W3→mp3,AO.c→mp4,Tf→mp5,Z0o→mp6,Nm→mp7,pInsT→mp8,RF→mp9,Q6→mp10
 open Go.Proofs.Tryz renaming func168→mp0
theorem pStaT (l:(List AO)) (n:Int) (hn:n=(l.length:Int)) (hl:l.length<20):WrR Tryz.prog 168 1000 [.one (.own 1000 6 l.length),.one (.i n),.one (.clo 154 1 (A6 [.eptr 1 1 (gD [.clo 109 0 (fun _=>default)]) 0 0]))] 6 l.length (AP AO.c l) 150 (.tup []) (AP AO.c (Q6 l n)):=iJ
end
theorem Q5 (l:List AO) (n:Int) (hn:n=(l.length:Int)) (hl:l.length<20):(Q6 l n).length=l.length:=RF l n hn hl
def Z0p (l:(List AO)):FuncId×List Av×Ef:=(168,([.one (.own 1000 6 l.length),.one (.i ((l.length:Nat):Int)),.one (.clo 154 1 (A6 [.eptr 1 1 (fun _ j_=>([.clo 109 0 (fun _=>default)]:List Cl).getD j_ default) 0 0]))]:List Av).map (Hd 1000 1000),wrI 1000 (.row 6 l.length (AP AO.c l) 150) (.tup []) (.row 6 l.length (AP AO.c (Q6 l ((l.length:Nat):Int))) 150))
def Pr (l:(List AO)):(List AO):=Q6 l ((l.length:Nat):Int)
theorem XJ {p:Prop} (h:p:=by
 refine FT mp0 rfl kr kr kr fun W0 M0 X hX => ?_
 refine rc [(8,(mp1 l))] [Ak (mp1 l).2.1,BJ (.row mp2 l.length (AP mp3 l) mp4)] ⟨[],[(1000,.row mp2 l.length (AP mp3 (mp5 l ((l.length:Nat):Int))) mp4)]⟩ (.cons (Fd (fun _ _=>kr) kr (mp6 l ((l.length:Nat):Int) au4 au4)) .nil) (.cons rfl (.cons rfl .nil)) ?_
 exact ⟨_,Cv.trans (BT (⟨[],[(1000,.row mp2 (mp5 l ((l.length:Nat):Int)).length (AP mp3 (mp5 l ((l.length:Nat):Int))) mp4)]⟩) .nil (.cons ⟨rfl,Ap mp4 (⟨(mp7 l ((l.length:Nat):Int) au4 au4).symm,fun _ _ _ _=>.refl _⟩)⟩ .nil)) (Cv.refl _),.inr rfl,.tup [],by kernel_rfl,Al rfl,.row mp2 (mp5 l ((l.length:Nat):Int)).length (AP mp3 (mp5 l ((l.length:Nat):Int))) mp4,by kernel_rfl,Ff (c:=mp3) (xs:=mp5 l ((l.length:Nat):Int)) (by rfl) (mp7 l _ rfl hl)⟩):p:=h
section
 open Go.Proofs.YtheobjkgllmnmaaGreat renaming Z0p→mp1,nn6→mp2,AO.c→mp3,Tf→mp4,Q6→mp5,pStaT→mp6,Q5→mp7
 open Go.Proofs.Tryz renaming func153→mp0
theorem pSrtT (l:(List AO)) (hl:l.length<20):WrR Tryz.prog 153 1000 [.one (.own 1000 6 l.length),.one (.clo 154 1 (A6 [.eptr 1 1 (gD [.clo 109 0 (fun _=>default)]) 0 0]))] 6 l.length (AP AO.c l) 150 (.tup []) (AP AO.c (Pr l)):=XJ
end
theorem Yt (l:List AO) (hl:l.length<20):(Pr l).length=l.length:=Q5 l _ rfl hl
theorem eD (l:List AO):Pr l=Ci (fun x y=>decide (Lz x y<0)) l:=Uk l _ rfl
def Z0q (out:List AO):FuncId×List Av×Ef:=(153,([.one (.own 1000 6 out.length),.one (.clo 154 1 (A6 [.eptr 1 1 (fun _ j_=>([.clo 109 0 (fun _=>default)]:List Cl).getD j_ default) 0 0]))]:List Av).map (Hd 1000 100000),wrI 100000 (.row 6 out.length (AP AO.c out) 150) (.tup []) (.row 6 out.length (AP AO.c (Pr out)) 150))
def F9 (l:(List AO)):Nat->List AO->Int->(List AO)
 | 0,_,_=>default
 | n0+1,out,v12=>bif decide ((v12:Int)<(l.length:Int)) then ((F9 l n0) (out++[jR (l.getD v12.toNat default)]) (v12+1)) else (Pr out)
def DJ (l:(List AO)):(List AO):=F9 l (((l.length:Int)-0).toNat+1) ([]:List AO) 0
theorem XI {p:Prop} (h:p:=by
 refine EC mp0 rfl kr (Ek _ _) fun W0 M0 => ?_
 refine AC<|rn ⟨[(0,tO (lst mp1 mp2 l)),(1,.av (.one (.clo mp3 0 (fun _=>default)))),(5,tP 5 0)],[(5,.cells [.clo mp4 0 (fun _=>default)] mp5)]⟩<|AC ?_
 refine rn ⟨[(0,tO (lst mp1 mp2 l)),(1,.av (.one (.clo mp3 0 (fun _=>default)))),(5,tP 5 0),(7,.av (.one vN))],[(5,.cells [.clo mp4 0 (fun _=>default)] mp5)]⟩ ?_
 refine AC<|AC ?_
 refine rn ⟨[(1,.av (.one (.clo mp3 0 (fun _=>default)))),(5,tP 5 0),(7,.av (.one vN)),(10,tO (lst mp1 mp2 l)),(11,tI (l.length:Int)),(12,tI 0)],[(5,.cells [.clo mp4 0 (fun _=>default)] mp5)]⟩<|AY ?_
 refine Ba (Cv.trans (Ca (⟨[(1,.av (.one (.clo mp3 0 (fun _=>default)))),(5,tP 5 0),(7,tO (.own 100000 mp1 0)),(10,tO (lst mp1 mp2 l)),(11,tI (l.length:Int)),(12,tI 0)],[(100000,.row mp1 0 (fun _ _=>default) mp6),(5,.cells [.clo mp4 0 (fun _=>default)] mp5)]⟩) 100000 mp1 (fun _ _=>default) mp6 [(7,[0])] [] (K:=[]) (fun k x h=>by cases h) rfl kr kr) (Cv.trans (BT (⟨[(1,.av (.one (.clo mp3 0 (fun _=>default)))),(5,tP 5 0),(7,tO (.own 100000 mp1 ([]:List mp7).length)),(10,tO (lst mp1 mp2 l)),(11,tI (l.length:Int)),(12,tI 0)],[(100000,.row mp1 ([]:List mp7).length (AP mp2 ([]:List mp7)) mp6),(5,.cells [.clo mp4 0 (fun _=>default)] mp5)]⟩) (.cons ⟨rfl,.refl _⟩ (.cons ⟨rfl,.refl _⟩ (.cons ⟨rfl,.av (.one (.own _ _ au2))⟩ lr))) (.cons ⟨rfl,Ap mp6 (CZ mp1 (fun _ _=>default) mp2)⟩ lr)) (Cv.trans (BD [1,5,7,10,11,12] [5,100000] (⟨[(1,.av (.one (.clo mp3 0 (fun _=>default)))),(5,tP 5 0),(7,tO (.own 100000 mp1 ([]:List mp7).length)),(10,tO (lst mp1 mp2 l)),(11,tI (l.length:Int)),(12,tI 0)],[(5,.cells [.clo mp4 0 (fun _=>default)] mp5),(100000,.row mp1 ([]:List mp7).length (AP mp2 ([]:List mp7)) mp6)]⟩) kr) (Cv.refl _)))) ?_
 refine BS (ι:=Nat×List mp7×Int) (fun x=>⟨[(1,.av (.one (.clo mp3 0 (fun _=>default)))),(5,tP 5 0),(7,tO (.own 100000 mp1 x.2.1.length)),(10,tO (lst mp1 mp2 l)),(11,tI (l.length:Int)),(12,tI x.2.2)],[(5,.cells [.clo mp4 0 (fun _=>default)] mp5),(100000,.row mp1 x.2.1.length (AP mp2 x.2.1) mp6)]⟩) (fun x=>((l.length:Int)-x.2.2).toNat<x.1/\(0<=x.2.2/\(x.2.2<=(l.length:Int)\/x.2.2=0)/\(x.2.1.length:Int)<=0+1*(x.2.2-0))/\mp8 l x.1 x.2.1 x.2.2=mp9 l) (fun x=>x.1) ?_ (((l.length:Int)-0).toNat+1,([]:List mp7),0) ⟨Nat.lt_succ_self _,⟨ax0,ax0,ax0⟩,(by simp only [mp9,cond_true,cond_false])⟩
 rintro ⟨n0,out,v12⟩ ⟨hn,hinv,hF⟩
 have hm0:=hn;have hinv0:=hinv;have hF0:=hF;try dsimp only at hm0 hinv0 hF0
 clear hn hinv hF
 cases n0 with
 | zero=>exact absurd hm0 (Nat.not_lt_zero _)
 | succ n0 =>
  refine AC<|rn ⟨[(1,.av (.one (.clo mp3 0 (fun _=>default)))),(5,tP 5 0),(7,tO (.own 100000 mp1 out.length)),(10,tO (lst mp1 mp2 l)),(11,tI (l.length:Int)),(12,tI v12),(13,tB (decide ((v12:Int)<(l.length:Int))))],[(5,.cells [.clo mp4 0 (fun _=>default)] mp5),(100000,.row mp1 out.length (AP mp2 out) mp6)]⟩<|AC ?_
  refine Ab _ rfl (fun h1 => ?_) (fun h1 => ?_)
  ·have g1:=oT h1
   refine Af<|AJ ?_
   refine AC<|AY<|AC ?_
   refine rc [] [0<=(v12:Int)/\(v12:Int)<((l.length:Nat):Int)] ⟨[(1,.av (.one (.clo mp3 0 (fun _=>default)))),(5,tP 5 0),(7,tO (.own 100000 mp1 out.length)),(9,tP 9 0),(10,tO (lst mp1 mp2 l)),(11,tI (l.length:Int)),(12,tI v12)],[(5,.cells [.clo mp4 0 (fun _=>default)] mp5),(9,.cells (mp2 (l.getD v12.toNat default)) mp10),(100000,.row mp1 out.length (AP mp2 out) mp6)]⟩ .nil (.cons au0 .nil)<|AJ ?_
   refine rc [(19,mp11 (l.getD v12.toNat default))] [Ak (mp11 (l.getD v12.toNat default)).2.1,out.length=out.length,out.length+1<=maxLen,(out.length+1)*mp12<=140737488355328] ⟨[(1,.av (.one (.clo mp3 0 (fun _=>default)))),(5,tP 5 0),(7,tO (.own 21 mp1 (out.length+1))),(10,tO (lst mp1 mp2 l)),(11,tI (l.length:Int)),(12,tI v12)],[(5,.cells [.clo mp4 0 (fun _=>default)] mp5),(21,.row mp1 (out.length+1) (fun i_ j_=>if i_<out.length then (AP mp2 out) i_ j_ else (Ay mp1 1 (mp2 (mp13 (l.getD v12.toNat default)))) (i_-out.length) j_) mp6)]⟩ (.cons (mp14 (l.getD v12.toNat default)) .nil) (.cons rfl (.cons rfl (.cons au3 (.cons au3 .nil))))<|Be<|AJ ?_
   refine Ba (Cv.trans (BT (⟨[(1,.av (.one (.clo mp3 0 (fun _=>default)))),(5,tP 5 0),(7,tO (.own 21 mp1 (out++[mp13 (l.getD v12.toNat default)]).length)),(10,tO (lst mp1 mp2 l)),(11,tI (l.length:Int)),(12,tI v12)],[(5,.cells [.clo mp4 0 (fun _=>default)] mp5),(21,.row mp1 (out++[mp13 (l.getD v12.toNat default)]).length (AP mp2 (out++[mp13 (l.getD v12.toNat default)])) mp6)]⟩) (.cons ⟨rfl,.refl _⟩ (.cons ⟨rfl,.refl _⟩ (.cons ⟨rfl,.av (.one (.own _ _ au2))⟩ lr))) (.cons ⟨rfl,.refl _⟩ (.cons ⟨rfl,Ap mp6 (BZ (BM mp1 mp2 out) (Aw (c:=mp2) (xs:=([mp13 (l.getD v12.toNat default)]:List mp7)) rfl kr))⟩ .nil))) (Cv.refl _)) ?_
   refine rg ⟨[(1,.av (.one (.clo mp3 0 (fun _=>default)))),(5,tP 5 0),(7,tO (.own 21 mp1 (out++[mp13 (l.getD v12.toNat default)]).length)),(10,tO (lst mp1 mp2 l)),(11,tI (l.length:Int)),(12,tI (W64 (v12+1)))],[(5,.cells [.clo mp4 0 (fun _=>default)] mp5),(21,.row mp1 (out++[mp13 (l.getD v12.toNat default)]).length (AP mp2 (out++[mp13 (l.getD v12.toNat default)])) mp6)]⟩ ?_
   (try rw [(show W64 (v12+1)=v12+1 from An (by omega) au6)])
   refine AJ ?_
   refine ⟨(n0,out++[mp13 (l.getD v12.toNat default)],v12+1),⟨?_,?_,(by rw [<- hF0];simp only [mp8,h1,cond_true,cond_false])⟩,Nat.lt_succ_self _,Cv.trans (BR (⟨[(1,.av (.one (.clo mp3 0 (fun _=>default)))),(5,tP 5 0),(7,tO (.own 100000 mp1 (out++[mp13 (l.getD v12.toNat default)]).length)),(10,tO (lst mp1 mp2 l)),(11,tI (l.length:Int)),(12,tI (v12+1))],[(5,.cells [.clo mp4 0 (fun _=>default)] mp5),(100000,.row mp1 (out++[mp13 (l.getD v12.toNat default)]).length (AP mp2 (out++[mp13 (l.getD v12.toNat default)])) mp6)]⟩) 21 100000 (K:=[]) (fun k x h=>by cases h) rfl rfl kr kr) (BB kr)⟩
   ·show ((l.length:Int)-(v12+1)).toNat<n0;omega
   ·exact ⟨ax0,ax0,ax0⟩
  ·have g1:=oF h1
   refine BV<|BE ?_
   refine BE<|BW ?_
   refine AJ<|AC ?_
   refine Ba (Cv.trans (GI (⟨[(1,.av (.one (.clo mp3 0 (fun _=>default)))),(5,.av (.one (.eptr 1 1 (gD [.clo mp4 0 (fun _=>default)]) 0 0))),(7,tO (.own 100000 mp1 out.length)),(10,tO (lst mp1 mp2 l)),(11,tI (l.length:Int)),(12,tI v12),(13,tB (decide ((v12:Int)<(l.length:Int))))],[(100000,.row mp1 out.length (AP mp2 out) mp6)]⟩) 5 [.clo mp4 0 (fun _=>default)] mp5 (K:=[]) (fun k x h=>by cases h) kr kr kr kr) (Cv.refl _)) ?_
   refine rc [(25,(mp15 out))] [Ak (mp15 out).2.1,BJ (.row mp1 out.length (AP mp2 out) mp6)] ⟨[(7,tO (.own 100000 mp1 out.length))],[(100000,.row mp1 out.length (AP mp2 (mp16 out)) mp6)]⟩ (.cons (Fd (fun _ _=>kr) kr (mp17 out au4)) .nil) (.cons rfl (.cons rfl .nil))<|AJ ?_
   refine Ba (Cv.trans (BT (⟨[(7,tO (.own 100000 mp1 (mp16 out).length))],[(100000,.row mp1 (mp16 out).length (AP mp2 (mp16 out)) mp6)]⟩) (.cons ⟨rfl,.av (.one (.own _ _ (mp18 out au4).symm))⟩ .nil) (.cons ⟨rfl,Ap mp6 (⟨(mp18 out au4).symm,fun _ _ _ _=>.refl _⟩)⟩ .nil)) (Cv.refl _))<|AC ?_
   refine rn ⟨[(6,tO (.own 100000 mp1 (mp16 out).length))],[(100000,.row mp1 (mp16 out).length (AP mp2 (mp16 out)) mp6)]⟩<|Ag ?_
   exact ⟨_,Cv.refl _,.inl rfl,tO (.own 100000 mp1 (mp16 out).length),by kernel_rfl,frE (c:=mp2) (xs:=mp16 out) (by rw [<- hF0];first | (simp only [mp8,h1,cond_true,cond_false] <;> rfl)) kr⟩):p:=h
section
 open Go.Proofs.YtheobjkgllmnmaaGreat renaming nn6→mp1,AO.c→mp2,nn108→mp3,W3→mp4,nn220→mp5,Tf→mp6,AO→mp7,F9→mp8,DJ→mp9,nn131→mp10,cZ→mp11,Vm→mp12,jR→mp13,okasT→mp14,Z0q→mp15,Pr→mp16,pSrtT→mp17,Yt→mp18
 open Go.Proofs.Tryz renaming func107→mp0
theorem Zu (l:(List AO)) (hl:l.length<20):Fr Tryz.prog 107 [.one (lst 6 AO.c l),.one (.clo 108 0 (fun _=>default)),.one (.clo 109 0 (fun _=>default))] (.row 6 (DJ l).length (AP AO.c (DJ l)) 150) (fun d=>tO (.own d 6 (DJ l).length)):=XI
end
def Z0r (b:AF):FuncId×List Av×Ef:=(107,[.one (lst 6 AO.c b.Tracks),.one (.clo 108 0 (fun _=>default)),.one (.clo 109 0 (fun _=>default))],.new [] (.row 6 (DJ b.Tracks).length (AP AO.c (DJ b.Tracks)) 150) (fun d=>.av (.one (.own d 6 (DJ b.Tracks).length))))
def BP (b:AF):(List AO):=DJ b.Tracks
theorem fI (b:AF) (hl:b.Tracks.length<20):Fr Tryz.prog 52 [.agg (AF.c b)] (.row 6 (BP b).length (AP AO.c (BP b)) 150) (fun d=>tO (.own d 6 (BP b).length)):=by
 refine EC Tryz.func52 rfl kr (Ek _ _) fun W0 M0 => ?_
 refine AC<|rn ⟨[(1,tP 1 0)],[(1,.cells (AF.c b) 41)]⟩<|AC ?_
 refine rc [(5,(Z0r b))] [Ak (Z0r b).2.1] ⟨[(2,tO (.own 5 6 (DJ b.Tracks).length))],[(5,.row 6 (DJ b.Tracks).length (AP AO.c (DJ b.Tracks)) 150)]⟩ (.cons (Dv (fun _ _=>kr) (Zu b.Tracks au4)) .nil) (.cons rfl .nil)<|AJ<|Ag ?_
 exact ⟨_,Cv.refl _,.inl rfl,tO (.own 5 6 (DJ b.Tracks).length),by kernel_rfl,frE (c:=AO.c) (xs:=DJ b.Tracks) (by rfl) kr⟩
def Ll (b:AF):FuncId×List Av×Ef:=(52,[.agg (AF.c b)],.new [] (.row 6 (BP b).length (AP AO.c (BP b)) 150) (fun d=>.av (.one (.own d 6 (BP b).length))))
theorem aH (b:AF) (hl:b.Tracks.length<20):Az Tryz.prog (Ll b).1 (Ll b).2.1 (Ll b).2.2:=Dv (fun _ _=>kr) (fI b hl)
theorem Ue (l:List AO):DJ l=Ci (fun x y=>decide (Lz x y<0)) l:=by
 unfold DJ
 have h:=Yc l (F9 l) (fun acc _=>Pr acc) (fun m acc v=>by
  rw [F9,Int.toNat_natCast]
  rfl) l.length 0 ((((l.length:Int))-0).toNat+1) [] rfl (Nat.zero_le _) (by omega)
 rw [List.drop_zero,List.nil_append] at h
 exact h.trans (eD l)
theorem LF (b:AF):BP b=Ci (fun x y=>decide (Lz x y<0)) b.Tracks:=Ue _
theorem Uc {b:AF} {x:AO}:x∈BP b↔x∈b.Tracks:=by rw [LF];exact PH _ _ _
theorem Nh (b:AF):(BP b).length=b.Tracks.length:=by rw [LF];exact Dg _ _
def jQ (t:As):As:=t
def cY (t:As):FuncId×List Av×Ef:=(111,[.agg (As.c t)],.val [] (.av (.agg (As.c (jQ t)))))
theorem pasV (t:As):Bk Tryz.prog 111 (cY t).2.1 (.av (.agg (As.c (jQ t)))):=by
 refine AV Tryz.func111 rfl kr kr fun W0 M0 => ?_
 refine AC<|rn ⟨Gn,[(1,.cells (As.c t) 133),(2,.cells [.i 0,.s (⟨#[]⟩),.i 0,.i 0,.i 0,.i 0,.i 0,.i 0] 154)]⟩<|AC ?_
 refine rn ⟨[(2,tP 2 0)],[(2,.cells (As.c t) 154)]⟩<|Ag ?_
 exact ⟨_,Cv.refl _,.inl rfl,.av (.agg (As.c t)),by kernel_rfl,Al (by rfl)⟩
theorem okasV (t:As):Az Tryz.prog (cY t).1 (cY t).2.1 (cY t).2.2:=AW (fun _ _=>kr) fun _=>pasV t
def dX (t:As):Int:=t.Id
def cT (t:As):FuncId×List Av×Ef:=(112,[.agg (As.c t)],.val [] (.av (.one (.i (dX t)))))
theorem pidV (t:As):Bk Tryz.prog 112 (cT t).2.1 (tO (.i (dX t))):=by
 refine AV Tryz.func112 rfl kr kr fun W0 M0 => ?_
 refine AC<|rn ⟨[(1,tP 1 0)],[(1,.cells (As.c t) 154)]⟩<|AC ?_
 refine rn ⟨[(2,tI t.Id)],[]⟩<|Ag ?_
 exact ⟨_,Cv.refl _,.inl rfl,tO (.i t.Id),by kernel_rfl,Al (by rfl)⟩
theorem okidV (t:As):Az Tryz.prog (cT t).1 (cT t).2.1 (cT t).2.2:=AW (fun _ _=>kr) fun _=>pidV t
def Ly (a:As) (b_:As):Int:=CS (dX a) (dX b_)
section
 open Go.Proofs.YtheobjkgllmnmaaGreat renaming Tg→mp1,As.c→mp2,O3→mp3,cT→mp4,dX→mp5,okidV→mp6
 open Go.Proofs.Tryz renaming func156→mp0
theorem pcmpV  (a:As) (b_:As):Bk Tryz.prog 156 [.agg (As.c a),.agg (As.c b_),.one (.eptr 1 1 (gD [.clo 112 0 (fun _=>default)]) 0 0)] (tO (.i (Ly a b_))):=iL
end
def Z0s (data':List As) (j:Int):FuncId×List Av×Ef:=(156,[.agg (As.c (data'.getD j.toNat default)),.agg (As.c (data'.getD (W64 (j-1)).toNat default)),.one (.eptr 1 1 (fun _ j_=>([.clo 112 0 (fun _=>default)]:List Cl).getD j_ default) 0 0)],.val [] (tI (Ly (data'.getD j.toNat default) (data'.getD (W64 (j-1)).toNat default))))
def L3 (l:(List As)) (n:Int) (data:List As) (i:Int) (K0:List As->Int->(List As)):Nat->List As->Int->(List As)
 | 0,_,_=>default
 | n1+1,data',j=>bif bif decide ((0:Int)<j) then decide (((Ly (data'.getD j.toNat default) (data'.getD (j-1).toNat default)):Int)<0) else false then ((L3 l n data i K0 n1) ((data'.set j.toNat (data'.getD (j-1).toNat default)).set (j-1).toNat (data'.getD j.toNat default)) (j-1)) else (K0 data' (i+1))
def L4 (l:(List As)) (n:Int):Nat->List As->Int->(List As)
 | 0,_,_=>default
 | n0+1,data,i=>bif decide ((i:Int)<n) then (L3 l n data i (L4 l n n0) (i.toNat+1) data i) else data
def Nl (l:(List As)) (n:Int):(List As):=L4 l n ((n-1).toNat+1) l 1
section
 open Go.Proofs.YtheobjkgllmnmaaGreat renaming nn8→mp1,kS→mp2,Tg→mp3,As.c→mp4,O3→mp5,As→mp6,L4→mp7,Nl→mp8,L3→mp9,Z0s→mp10,Ly→mp11,pcmpV→mp12
 open Go.Proofs.Tryz renaming func183→mp0
theorem pInsV (l:(List As)) (n:Int) (hn:n=(l.length:Int)) (hl:l.length<20):WrR Tryz.prog 183 1000 [.one (.own 1000 8 l.length),.one (.i 0),.one (.i n),.one (.clo 156 1 (A6 [.eptr 1 1 (gD [.clo 112 0 (fun _=>default)]) 0 0]))] 8 l.length (AP As.c l) 154 (.tup []) (AP As.c (Nl l n)):=iK
end
section
 open Go.Proofs.YtheobjkgllmnmaaGreat renaming Nl→mp0,Ly→mp1,L4→mp2,L3→mp3
theorem Uj (l:List As) (n:Int) (hn:n=(l.length:Int)):Nl l n=Ci (fun x y=>decide (Ly x y<0)) l:=bB
end
theorem RE (l:List As) (n:Int) (hn:n=(l.length:Int)) (hl:l.length<20):(Nl l n).length=l.length:=by rw [Uj l n hn,Dg]
def Z0t (l:(List As)) (n:Int):FuncId×List Av×Ef:=(183,([.one (.own 1000 8 l.length),.one (.i 0),.one (.i n),.one (.clo 156 1 (A6 [.eptr 1 1 (fun _ j_=>([.clo 112 0 (fun _=>default)]:List Cl).getD j_ default) 0 0]))]:List Av).map (Hd 1000 1000),wrI 1000 (.row 8 l.length (AP As.c l) 154) (.tup []) (.row 8 l.length (AP As.c (Nl l n)) 154))
def Q4 (l:(List As)) (n:Int):(List As):=Nl l n
section
 open Go.Proofs.YtheobjkgllmnmaaGreat renaming nn8→mp1,kS→mp2,Tg→mp3,As.c→mp4,O3→mp5,Z0t→mp6,Nl→mp7,pInsV→mp8,RE→mp9,Q4→mp10
 open Go.Proofs.Tryz renaming func169→mp0
theorem pStaV (l:(List As)) (n:Int) (hn:n=(l.length:Int)) (hl:l.length<20):WrR Tryz.prog 169 1000 [.one (.own 1000 8 l.length),.one (.i n),.one (.clo 156 1 (A6 [.eptr 1 1 (gD [.clo 112 0 (fun _=>default)]) 0 0]))] 8 l.length (AP As.c l) 154 (.tup []) (AP As.c (Q4 l n)):=iJ
end
theorem Q3 (l:List As) (n:Int) (hn:n=(l.length:Int)) (hl:l.length<20):(Q4 l n).length=l.length:=RE l n hn hl
def Z0u (l:(List As)):FuncId×List Av×Ef:=(169,([.one (.own 1000 8 l.length),.one (.i ((l.length:Nat):Int)),.one (.clo 156 1 (A6 [.eptr 1 1 (fun _ j_=>([.clo 112 0 (fun _=>default)]:List Cl).getD j_ default) 0 0]))]:List Av).map (Hd 1000 1000),wrI 1000 (.row 8 l.length (AP As.c l) 154) (.tup []) (.row 8 l.length (AP As.c (Q4 l ((l.length:Nat):Int))) 154))
def Pq (l:(List As)):(List As):=Q4 l ((l.length:Nat):Int)
section
 open Go.Proofs.YtheobjkgllmnmaaGreat renaming Z0u→mp1,nn8→mp2,As.c→mp3,O3→mp4,Q4→mp5,pStaV→mp6,Q3→mp7
 open Go.Proofs.Tryz renaming func155→mp0
theorem pSrtV (l:(List As)) (hl:l.length<20):WrR Tryz.prog 155 1000 [.one (.own 1000 8 l.length),.one (.clo 156 1 (A6 [.eptr 1 1 (gD [.clo 112 0 (fun _=>default)]) 0 0]))] 8 l.length (AP As.c l) 154 (.tup []) (AP As.c (Pq l)):=XJ
end
theorem Ys (l:List As) (hl:l.length<20):(Pq l).length=l.length:=Q3 l _ rfl hl
theorem eC (l:List As):Pq l=Ci (fun x y=>decide (Ly x y<0)) l:=Uj l _ rfl
def Z0v (out:List As):FuncId×List Av×Ef:=(155,([.one (.own 1000 8 out.length),.one (.clo 156 1 (A6 [.eptr 1 1 (fun _ j_=>([.clo 112 0 (fun _=>default)]:List Cl).getD j_ default) 0 0]))]:List Av).map (Hd 1000 100000),wrI 100000 (.row 8 out.length (AP As.c out) 154) (.tup []) (.row 8 out.length (AP As.c (Pq out)) 154))
def F8 (l:(List As)):Nat->List As->Int->(List As)
 | 0,_,_=>default
 | n0+1,out,v12=>bif decide ((v12:Int)<(l.length:Int)) then ((F8 l n0) (out++[jQ (l.getD v12.toNat default)]) (v12+1)) else (Pq out)
def DI (l:(List As)):(List As):=F8 l (((l.length:Int)-0).toNat+1) ([]:List As) 0
section
 open Go.Proofs.YtheobjkgllmnmaaGreat renaming nn8→mp1,As.c→mp2,nn111→mp3,Tg→mp4,nn224→mp5,O3→mp6,As→mp7,F8→mp8,DI→mp9,nn133→mp10,cY→mp11,Vm→mp12,jQ→mp13,okasV→mp14,Z0v→mp15,Pq→mp16,pSrtV→mp17,Ys→mp18
 open Go.Proofs.Tryz renaming func110→mp0
theorem Zt (l:(List As)) (hl:l.length<20):Fr Tryz.prog 110 [.one (lst 8 As.c l),.one (.clo 111 0 (fun _=>default)),.one (.clo 112 0 (fun _=>default))] (.row 8 (DI l).length (AP As.c (DI l)) 154) (fun d=>tO (.own d 8 (DI l).length)):=XI
end
def Z0w (b:AF):FuncId×List Av×Ef:=(110,[.one (lst 8 As.c b.Vias),.one (.clo 111 0 (fun _=>default)),.one (.clo 112 0 (fun _=>default))],.new [] (.row 8 (DI b.Vias).length (AP As.c (DI b.Vias)) 154) (fun d=>.av (.one (.own d 8 (DI b.Vias).length))))
def A7 (b:AF):(List As):=DI b.Vias
theorem qvias (b:AF) (hl:b.Vias.length<20):Fr Tryz.prog 54 [.agg (AF.c b)] (.row 8 (A7 b).length (AP As.c (A7 b)) 154) (fun d=>tO (.own d 8 (A7 b).length)):=by
 refine EC Tryz.func54 rfl kr (Ek _ _) fun W0 M0 => ?_
 refine AC<|rn ⟨[(1,tP 1 0)],[(1,.cells (AF.c b) 41)]⟩<|AC ?_
 refine rc [(5,(Z0w b))] [Ak (Z0w b).2.1] ⟨[(2,tO (.own 5 8 (DI b.Vias).length))],[(5,.row 8 (DI b.Vias).length (AP As.c (DI b.Vias)) 154)]⟩ (.cons (Dv (fun _ _=>kr) (Zt b.Vias au4)) .nil) (.cons rfl .nil)<|AJ<|Ag ?_
 exact ⟨_,Cv.refl _,.inl rfl,tO (.own 5 8 (DI b.Vias).length),by kernel_rfl,frE (c:=As.c) (xs:=DI b.Vias) (by rfl) kr⟩
def PU (b:AF):FuncId×List Av×Ef:=(54,[.agg (AF.c b)],.new [] (.row 8 (A7 b).length (AP As.c (A7 b)) 154) (fun d=>.av (.one (.own d 8 (A7 b).length))))
theorem aF (b:AF) (hl:b.Vias.length<20):Az Tryz.prog (PU b).1 (PU b).2.1 (PU b).2.2:=Dv (fun _ _=>kr) (qvias b hl)
theorem Ud (l:List As):DI l=Ci (fun x y=>decide (Ly x y<0)) l:=by
 unfold DI
 have h:=Yc l (F8 l) (fun acc _=>Pq acc) (fun m acc v=>by
  rw [F8,Int.toNat_natCast]
  rfl) l.length 0 ((((l.length:Int))-0).toNat+1) [] rfl (Nat.zero_le _) (by omega)
 rw [List.drop_zero,List.nil_append] at h
 exact h.trans (eC l)
theorem Ub (b:AF):A7 b=Ci (fun x y=>decide (Ly x y<0)) b.Vias:=Ud _
theorem NH (b:AF):(A7 b).length=b.Vias.length:=by rw [Ub];exact Dg _ _
def jT (t:AE):AE:=t
def dB (t:AE):FuncId×List Av×Ef:=(116,[.agg (AE.c t)],.val [] (.av (.agg (AE.c (jT t)))))
theorem pasQ (t:AE):Bk Tryz.prog 116 (dB t).2.1 (.av (.agg (AE.c (jT t)))):=by
 refine AV Tryz.func116 rfl kr kr fun W0 M0 => ?_
 refine AC<|rn ⟨Gn,[(1,.cells (AE.c t) 78),(2,.cells [.i 0,.s (⟨#[]⟩),.s (⟨#[]⟩),.i 0,.i 0,.i 0,.b false] 160)]⟩<|AC ?_
 refine rn ⟨[(2,tP 2 0)],[(2,.cells (AE.c t) 160)]⟩<|Ag ?_
 exact ⟨_,Cv.refl _,.inl rfl,.av (.agg (AE.c t)),by kernel_rfl,Al (by rfl)⟩
theorem okasQ (t:AE):Az Tryz.prog (dB t).1 (dB t).2.1 (dB t).2.2:=AW (fun _ _=>kr) fun _=>pasQ t
def eB (t:AE):Int:=t.Id
def cW (t:AE):FuncId×List Av×Ef:=(117,[.agg (AE.c t)],.val [] (.av (.one (.i (eB t)))))
theorem pidQ (t:AE):Bk Tryz.prog 117 (cW t).2.1 (tO (.i (eB t))):=by
 refine AV Tryz.func117 rfl kr kr fun W0 M0 => ?_
 refine AC<|rn ⟨[(1,tP 1 0)],[(1,.cells (AE.c t) 160)]⟩<|AC ?_
 refine rn ⟨[(2,tI t.Id)],[]⟩<|Ag ?_
 exact ⟨_,Cv.refl _,.inl rfl,tO (.i t.Id),by kernel_rfl,Al (by rfl)⟩
theorem okidQ (t:AE):Az Tryz.prog (cW t).1 (cW t).2.1 (cW t).2.2:=AW (fun _ _=>kr) fun _=>pidQ t
def L1 (a:AE) (b_:AE):Int:=CS (eB a) (eB b_)
section
 open Go.Proofs.YtheobjkgllmnmaaGreat renaming Wz→mp1,AE.c→mp2,O2→mp3,cW→mp4,eB→mp5,okidQ→mp6
 open Go.Proofs.Tryz renaming func160→mp0
theorem pcmpQ  (a:AE) (b_:AE):Bk Tryz.prog 160 [.agg (AE.c a),.agg (AE.c b_),.one (.eptr 1 1 (gD [.clo 117 0 (fun _=>default)]) 0 0)] (tO (.i (L1 a b_))):=iL
end
def Z0x (data':List AE) (j:Int):FuncId×List Av×Ef:=(160,[.agg (AE.c (data'.getD j.toNat default)),.agg (AE.c (data'.getD (W64 (j-1)).toNat default)),.one (.eptr 1 1 (fun _ j_=>([.clo 117 0 (fun _=>default)]:List Cl).getD j_ default) 0 0)],.val [] (tI (L1 (data'.getD j.toNat default) (data'.getD (W64 (j-1)).toNat default))))
def L9 (l:(List AE)) (n:Int) (data:List AE) (i:Int) (K0:List AE->Int->(List AE)):Nat->List AE->Int->(List AE)
 | 0,_,_=>default
 | n1+1,data',j=>bif bif decide ((0:Int)<j) then decide (((L1 (data'.getD j.toNat default) (data'.getD (j-1).toNat default)):Int)<0) else false then ((L9 l n data i K0 n1) ((data'.set j.toNat (data'.getD (j-1).toNat default)).set (j-1).toNat (data'.getD j.toNat default)) (j-1)) else (K0 data' (i+1))
def MA (l:(List AE)) (n:Int):Nat->List AE->Int->(List AE)
 | 0,_,_=>default
 | n0+1,data,i=>bif decide ((i:Int)<n) then (L9 l n data i (MA l n n0) (i.toNat+1) data i) else data
def Np (l:(List AE)) (n:Int):(List AE):=MA l n ((n-1).toNat+1) l 1
section
 open Go.Proofs.YtheobjkgllmnmaaGreat renaming nn7→mp1,O2→mp2,Wz→mp3,AE.c→mp4,O2→mp5,AE→mp6,MA→mp7,Np→mp8,L9→mp9,Z0x→mp10,L1→mp11,pcmpQ→mp12
 open Go.Proofs.Tryz renaming func185→mp0
theorem pInsQ (l:(List AE)) (n:Int) (hn:n=(l.length:Int)) (hl:l.length<20):WrR Tryz.prog 185 1000 [.one (.own 1000 7 l.length),.one (.i 0),.one (.i n),.one (.clo 160 1 (A6 [.eptr 1 1 (gD [.clo 117 0 (fun _=>default)]) 0 0]))] 7 l.length (AP AE.c l) 160 (.tup []) (AP AE.c (Np l n)):=iK
end
section
 open Go.Proofs.YtheobjkgllmnmaaGreat renaming Np→mp0,L1→mp1,MA→mp2,L9→mp3
theorem Um (l:List AE) (n:Int) (hn:n=(l.length:Int)):Np l n=Ci (fun x y=>decide (L1 x y<0)) l:=bB
end
theorem RH (l:List AE) (n:Int) (hn:n=(l.length:Int)) (hl:l.length<20):(Np l n).length=l.length:=by rw [Um l n hn,Dg]
def Z0y (l:(List AE)) (n:Int):FuncId×List Av×Ef:=(185,([.one (JH l),.one (.i 0),.one (.i n),.one (.clo 160 1 (A6 [.eptr 1 1 (fun _ j_=>([.clo 117 0 (fun _=>default)]:List Cl).getD j_ default) 0 0]))]:List Av).map (Hd 1000 1000),wrI 1000 (.row 7 l.length (AP AE.c l) 160) (.tup []) (.row 7 l.length (AP AE.c (Np l n)) 160))
def RB (l:(List AE)) (n:Int):(List AE):=Np l n
section
 open Go.Proofs.YtheobjkgllmnmaaGreat renaming nn7→mp1,O2→mp2,Wz→mp3,AE.c→mp4,O2→mp5,Z0y→mp6,Np→mp7,pInsQ→mp8,RH→mp9,RB→mp10
 open Go.Proofs.Tryz renaming func170→mp0
theorem pStaQ (l:(List AE)) (n:Int) (hn:n=(l.length:Int)) (hl:l.length<20):WrR Tryz.prog 170 1000 [.one (.own 1000 7 l.length),.one (.i n),.one (.clo 160 1 (A6 [.eptr 1 1 (gD [.clo 117 0 (fun _=>default)]) 0 0]))] 7 l.length (AP AE.c l) 160 (.tup []) (AP AE.c (RB l n)):=iJ
end
theorem Q9 (l:List AE) (n:Int) (hn:n=(l.length:Int)) (hl:l.length<20):(RB l n).length=l.length:=RH l n hn hl
def Z0z (l:(List AE)):FuncId×List Av×Ef:=(170,([.one (JH l),.one (.i ((l.length:Nat):Int)),.one (.clo 160 1 (A6 [.eptr 1 1 (fun _ j_=>([.clo 117 0 (fun _=>default)]:List Cl).getD j_ default) 0 0]))]:List Av).map (Hd 1000 1000),wrI 1000 (.row 7 l.length (AP AE.c l) 160) (.tup []) (.row 7 l.length (AP AE.c (RB l ((l.length:Nat):Int))) 160))
def Pt (l:(List AE)):(List AE):=RB l ((l.length:Nat):Int)
section
 open Go.Proofs.YtheobjkgllmnmaaGreat renaming Z0z→mp1,nn7→mp2,AE.c→mp3,O2→mp4,RB→mp5,pStaQ→mp6,Q9→mp7
 open Go.Proofs.Tryz renaming func159→mp0
theorem pSrtQ (l:(List AE)) (hl:l.length<20):WrR Tryz.prog 159 1000 [.one (.own 1000 7 l.length),.one (.clo 160 1 (A6 [.eptr 1 1 (gD [.clo 117 0 (fun _=>default)]) 0 0]))] 7 l.length (AP AE.c l) 160 (.tup []) (AP AE.c (Pt l)):=XJ
end
theorem Yv (l:List AE) (hl:l.length<20):(Pt l).length=l.length:=Q9 l _ rfl hl
theorem eF (l:List AE):Pt l=Ci (fun x y=>decide (L1 x y<0)) l:=Um l _ rfl
def Z0A (out:List AE):FuncId×List Av×Ef:=(159,([.one (.own 1000 7 out.length),.one (.clo 160 1 (A6 [.eptr 1 1 (fun _ j_=>([.clo 117 0 (fun _=>default)]:List Cl).getD j_ default) 0 0]))]:List Av).map (Hd 1000 100000),wrI 100000 (.row 7 out.length (AP AE.c out) 160) (.tup []) (.row 7 out.length (AP AE.c (Pt out)) 160))
def GB (l:(List AE)):Nat->List AE->Int->(List AE)
 | 0,_,_=>default
 | n0+1,out,v12=>bif decide ((v12:Int)<(l.length:Int)) then ((GB l n0) (out++[jT (l.getD v12.toNat default)]) (v12+1)) else (Pt out)
def DL (l:(List AE)):(List AE):=GB l (((l.length:Int)-0).toNat+1) ([]:List AE) 0
section
 open Go.Proofs.YtheobjkgllmnmaaGreat renaming nn7→mp1,AE.c→mp2,nn116→mp3,Wz→mp4,nn228→mp5,O2→mp6,AE→mp7,GB→mp8,DL→mp9,rW→mp10,dB→mp11,Vm→mp12,jT→mp13,okasQ→mp14,Z0A→mp15,Pt→mp16,pSrtQ→mp17,Yv→mp18
 open Go.Proofs.Tryz renaming func115→mp0
theorem Zw (l:(List AE)) (hl:l.length<20):Fr Tryz.prog 115 [.one (lst 7 AE.c l),.one (.clo 116 0 (fun _=>default)),.one (.clo 117 0 (fun _=>default))] (.row 7 (DL l).length (AP AE.c (DL l)) 160) (fun d=>tO (.own d 7 (DL l).length)):=XI
end
def Z0B (b:AF):FuncId×List Av×Ef:=(115,[.one (lst 7 AE.c b.Parts),.one (.clo 116 0 (fun _=>default)),.one (.clo 117 0 (fun _=>default))],.new [] (.row 7 (DL b.Parts).length (AP AE.c (DL b.Parts)) 160) (fun d=>.av (.one (.own d 7 (DL b.Parts).length))))
def BG (b:AF):(List AE):=DL b.Parts
theorem qP (b:AF) (hl:b.Parts.length<20):Fr Tryz.prog 61 [.agg (AF.c b)] (.row 7 (BG b).length (AP AE.c (BG b)) 160) (fun d=>tO (.own d 7 (BG b).length)):=by
 refine EC Tryz.func61 rfl kr (Ek _ _) fun W0 M0 => ?_
 refine AC<|rn ⟨[(1,tP 1 0)],[(1,.cells (AF.c b) 41)]⟩<|AC ?_
 refine rc [(5,(Z0B b))] [Ak (Z0B b).2.1] ⟨[(2,tO (.own 5 7 (DL b.Parts).length))],[(5,.row 7 (DL b.Parts).length (AP AE.c (DL b.Parts)) 160)]⟩ (.cons (Dv (fun _ _=>kr) (Zw b.Parts au4)) .nil) (.cons rfl .nil)<|AJ<|Ag ?_
 exact ⟨_,Cv.refl _,.inl rfl,tO (.own 5 7 (DL b.Parts).length),by kernel_rfl,frE (c:=AE.c) (xs:=DL b.Parts) (by rfl) kr⟩
def PZ (b:AF):FuncId×List Av×Ef:=(61,[.agg (AF.c b)],.new [] (.row 7 (BG b).length (AP AE.c (BG b)) 160) (fun d=>.av (.one (.own d 7 (BG b).length))))
theorem gL (b:AF) (hl:b.Parts.length<20):Az Tryz.prog (PZ b).1 (PZ b).2.1 (PZ b).2.2:=Dv (fun _ _=>kr) (qP b hl)
theorem Ug (l:List AE):DL l=Ci (fun x y=>decide (L1 x y<0)) l:=by
 unfold DL
 have h:=Yc l (GB l) (fun acc _=>Pt acc) (fun m acc v=>by
  rw [GB,Int.toNat_natCast]
  rfl) l.length 0 ((((l.length:Int))-0).toNat+1) [] rfl (Nat.zero_le _) (by omega)
 rw [List.drop_zero,List.nil_append] at h
 exact h.trans (eF l)
theorem Yq (b:AF):BG b=Ci (fun x y=>decide (L1 x y<0)) b.Parts:=Ug _
theorem WT (b:AF):(BG b).length=b.Parts.length:=by rw [Yq];exact Dg _ _
def jS (t:Am):Am:=t
def dA (t:Am):FuncId×List Av×Ef:=(121,[.agg (Am.c t)],.val [] (.av (.agg (Am.c (jS t)))))
theorem pasS (t:Am):Bk Tryz.prog 121 (dA t).2.1 (.av (.agg (Am.c (jS t)))):=by
 refine AV Tryz.func121 rfl kr kr fun W0 M0 => ?_
 refine AC<|rn ⟨Gn,[(1,.cells (Am.c t) 112),(2,.cells [.i 0,.i 0,vN,.i 0] 165)]⟩<|AC ?_
 refine rn ⟨[(2,tP 2 0)],[(2,.cells (Am.c t) 165)]⟩<|Ag ?_
 exact ⟨_,Cv.refl _,.inl rfl,.av (.agg (Am.c t)),by kernel_rfl,Al (by rfl)⟩
theorem okasS (t:Am):Az Tryz.prog (dA t).1 (dA t).2.1 (dA t).2.2:=AW (fun _ _=>kr) fun _=>pasS t
def dZ (t:Am):Int:=t.Id
def cV (t:Am):FuncId×List Av×Ef:=(122,[.agg (Am.c t)],.val [] (.av (.one (.i (dZ t)))))
theorem pidS (t:Am):Bk Tryz.prog 122 (cV t).2.1 (tO (.i (dZ t))):=by
 refine AV Tryz.func122 rfl kr kr fun W0 M0 => ?_
 refine AC<|rn ⟨[(1,tP 1 0)],[(1,.cells (Am.c t) 165)]⟩<|AC ?_
 refine rn ⟨[(2,tI t.Id)],[]⟩<|Ag ?_
 exact ⟨_,Cv.refl _,.inl rfl,tO (.i t.Id),by kernel_rfl,Al (by rfl)⟩
theorem okidS (t:Am):Az Tryz.prog (cV t).1 (cV t).2.1 (cV t).2.2:=AW (fun _ _=>kr) fun _=>pidS t
def L0 (a:Am) (b_:Am):Int:=CS (dZ a) (dZ b_)
section
 open Go.Proofs.YtheobjkgllmnmaaGreat renaming Wy→mp1,Am.c→mp2,Te→mp3,cV→mp4,dZ→mp5,okidS→mp6
 open Go.Proofs.Tryz renaming func162→mp0
theorem pcmpS  (a:Am) (b_:Am):Bk Tryz.prog 162 [.agg (Am.c a),.agg (Am.c b_),.one (.eptr 1 1 (gD [.clo 122 0 (fun _=>default)]) 0 0)] (tO (.i (L0 a b_))):=iL
end
def Z0C (data':List Am) (j:Int):FuncId×List Av×Ef:=(162,[.agg (Am.c (data'.getD j.toNat default)),.agg (Am.c (data'.getD (W64 (j-1)).toNat default)),.one (.eptr 1 1 (fun _ j_=>([.clo 122 0 (fun _=>default)]:List Cl).getD j_ default) 0 0)],.val [] (tI (L0 (data'.getD j.toNat default) (data'.getD (W64 (j-1)).toNat default))))
def L7 (l:(List Am)) (n:Int) (data:List Am) (i:Int) (K0:List Am->Int->(List Am)):Nat->List Am->Int->(List Am)
 | 0,_,_=>default
 | n1+1,data',j=>bif bif decide ((0:Int)<j) then decide (((L0 (data'.getD j.toNat default) (data'.getD (j-1).toNat default)):Int)<0) else false then ((L7 l n data i K0 n1) ((data'.set j.toNat (data'.getD (j-1).toNat default)).set (j-1).toNat (data'.getD j.toNat default)) (j-1)) else (K0 data' (i+1))
def L8 (l:(List Am)) (n:Int):Nat->List Am->Int->(List Am)
 | 0,_,_=>default
 | n0+1,data,i=>bif decide ((i:Int)<n) then (L7 l n data i (L8 l n n0) (i.toNat+1) data i) else data
def Nn (l:(List Am)) (n:Int):(List Am):=L8 l n ((n-1).toNat+1) l 1
section
 open Go.Proofs.YtheobjkgllmnmaaGreat renaming nn4→mp1,kR→mp2,Wy→mp3,Am.c→mp4,Te→mp5,Am→mp6,L8→mp7,Nn→mp8,L7→mp9,Z0C→mp10,L0→mp11,pcmpS→mp12
 open Go.Proofs.Tryz renaming func187→mp0
theorem pInsS (l:(List Am)) (n:Int) (hn:n=(l.length:Int)) (hl:l.length<20):WrR Tryz.prog 187 1000 [.one (.own 1000 4 l.length),.one (.i 0),.one (.i n),.one (.clo 162 1 (A6 [.eptr 1 1 (gD [.clo 122 0 (fun _=>default)]) 0 0]))] 4 l.length (AP Am.c l) 165 (.tup []) (AP Am.c (Nn l n)):=iK
end
section
 open Go.Proofs.YtheobjkgllmnmaaGreat renaming Nn→mp0,L0→mp1,L8→mp2,L7→mp3
theorem Ul (l:List Am) (n:Int) (hn:n=(l.length:Int)):Nn l n=Ci (fun x y=>decide (L0 x y<0)) l:=bB
end
theorem RG (l:List Am) (n:Int) (hn:n=(l.length:Int)) (hl:l.length<20):(Nn l n).length=l.length:=by rw [Ul l n hn,Dg]
def Z0D (l:(List Am)) (n:Int):FuncId×List Av×Ef:=(187,([.one (.own 1000 4 l.length),.one (.i 0),.one (.i n),.one (.clo 162 1 (A6 [.eptr 1 1 (fun _ j_=>([.clo 122 0 (fun _=>default)]:List Cl).getD j_ default) 0 0]))]:List Av).map (Hd 1000 1000),wrI 1000 (.row 4 l.length (AP Am.c l) 165) (.tup []) (.row 4 l.length (AP Am.c (Nn l n)) 165))
def Q8 (l:(List Am)) (n:Int):(List Am):=Nn l n
section
 open Go.Proofs.YtheobjkgllmnmaaGreat renaming nn4→mp1,kR→mp2,Wy→mp3,Am.c→mp4,Te→mp5,Z0D→mp6,Nn→mp7,pInsS→mp8,RG→mp9,Q8→mp10
 open Go.Proofs.Tryz renaming func171→mp0
theorem pStaS (l:(List Am)) (n:Int) (hn:n=(l.length:Int)) (hl:l.length<20):WrR Tryz.prog 171 1000 [.one (.own 1000 4 l.length),.one (.i n),.one (.clo 162 1 (A6 [.eptr 1 1 (gD [.clo 122 0 (fun _=>default)]) 0 0]))] 4 l.length (AP Am.c l) 165 (.tup []) (AP Am.c (Q8 l n)):=iJ
end
theorem Q7 (l:List Am) (n:Int) (hn:n=(l.length:Int)) (hl:l.length<20):(Q8 l n).length=l.length:=RG l n hn hl
def Z0E (l:(List Am)):FuncId×List Av×Ef:=(171,([.one (.own 1000 4 l.length),.one (.i ((l.length:Nat):Int)),.one (.clo 162 1 (A6 [.eptr 1 1 (fun _ j_=>([.clo 122 0 (fun _=>default)]:List Cl).getD j_ default) 0 0]))]:List Av).map (Hd 1000 1000),wrI 1000 (.row 4 l.length (AP Am.c l) 165) (.tup []) (.row 4 l.length (AP Am.c (Q8 l ((l.length:Nat):Int))) 165))
def Ps (l:(List Am)):(List Am):=Q8 l ((l.length:Nat):Int)
section
 open Go.Proofs.YtheobjkgllmnmaaGreat renaming Z0E→mp1,nn4→mp2,Am.c→mp3,Te→mp4,Q8→mp5,pStaS→mp6,Q7→mp7
 open Go.Proofs.Tryz renaming func161→mp0
theorem pSrtS (l:(List Am)) (hl:l.length<20):WrR Tryz.prog 161 1000 [.one (.own 1000 4 l.length),.one (.clo 162 1 (A6 [.eptr 1 1 (gD [.clo 122 0 (fun _=>default)]) 0 0]))] 4 l.length (AP Am.c l) 165 (.tup []) (AP Am.c (Ps l)):=XJ
end
theorem Yu (l:List Am) (hl:l.length<20):(Ps l).length=l.length:=Q7 l _ rfl hl
theorem eE (l:List Am):Ps l=Ci (fun x y=>decide (L0 x y<0)) l:=Ul l _ rfl
def Z0F (out:List Am):FuncId×List Av×Ef:=(161,([.one (.own 1000 4 out.length),.one (.clo 162 1 (A6 [.eptr 1 1 (fun _ j_=>([.clo 122 0 (fun _=>default)]:List Cl).getD j_ default) 0 0]))]:List Av).map (Hd 1000 100000),wrI 100000 (.row 4 out.length (AP Am.c out) 165) (.tup []) (.row 4 out.length (AP Am.c (Ps out)) 165))
def GA (l:(List Am)):Nat->List Am->Int->(List Am)
 | 0,_,_=>default
 | n0+1,out,v12=>bif decide ((v12:Int)<(l.length:Int)) then ((GA l n0) (out++[jS (l.getD v12.toNat default)]) (v12+1)) else (Ps out)
def DK (l:(List Am)):(List Am):=GA l (((l.length:Int)-0).toNat+1) ([]:List Am) 0
section
 open Go.Proofs.YtheobjkgllmnmaaGreat renaming nn4→mp1,Am.c→mp2,nn121→mp3,Wy→mp4,nn233→mp5,Te→mp6,Am→mp7,GA→mp8,DK→mp9,Tg→mp10,dA→mp11,gW→mp12,jS→mp13,okasS→mp14,Z0F→mp15,Ps→mp16,pSrtS→mp17,Yu→mp18
 open Go.Proofs.Tryz renaming func120→mp0
theorem Zv (l:(List Am)) (hl:l.length<20):Fr Tryz.prog 120 [.one (lst 4 Am.c l),.one (.clo 121 0 (fun _=>default)),.one (.clo 122 0 (fun _=>default))] (.row 4 (DK l).length (AP Am.c (DK l)) 165) (fun d=>tO (.own d 4 (DK l).length)):=XI
end
def Z0G (b:AF):FuncId×List Av×Ef:=(120,[.one (lst 4 Am.c b.Slots),.one (.clo 121 0 (fun _=>default)),.one (.clo 122 0 (fun _=>default))],.new [] (.row 4 (DK b.Slots).length (AP Am.c (DK b.Slots)) 165) (fun d=>.av (.one (.own d 4 (DK b.Slots).length))))
def CK (b:AF):(List Am):=DK b.Slots
theorem qO (b:AF) (hl:b.Slots.length<20):Fr Tryz.prog 64 [.agg (AF.c b)] (.row 4 (CK b).length (AP Am.c (CK b)) 165) (fun d=>tO (.own d 4 (CK b).length)):=by
 refine EC Tryz.func64 rfl kr (Ek _ _) fun W0 M0 => ?_
 refine AC<|rn ⟨[(1,tP 1 0)],[(1,.cells (AF.c b) 41)]⟩<|AC ?_
 refine rc [(5,(Z0G b))] [Ak (Z0G b).2.1] ⟨[(2,tO (.own 5 4 (DK b.Slots).length))],[(5,.row 4 (DK b.Slots).length (AP Am.c (DK b.Slots)) 165)]⟩ (.cons (Dv (fun _ _=>kr) (Zv b.Slots au4)) .nil) (.cons rfl .nil)<|AJ<|Ag ?_
 exact ⟨_,Cv.refl _,.inl rfl,tO (.own 5 4 (DK b.Slots).length),by kernel_rfl,frE (c:=Am.c) (xs:=DK b.Slots) (by rfl) kr⟩
def PY (b:AF):FuncId×List Av×Ef:=(64,[.agg (AF.c b)],.new [] (.row 4 (CK b).length (AP Am.c (CK b)) 165) (fun d=>.av (.one (.own d 4 (CK b).length))))
theorem gK (b:AF) (hl:b.Slots.length<20):Az Tryz.prog (PY b).1 (PY b).2.1 (PY b).2.2:=Dv (fun _ _=>kr) (qO b hl)
theorem Uf (l:List Am):DK l=Ci (fun x y=>decide (L0 x y<0)) l:=by
 unfold DK
 have h:=Yc l (GA l) (fun acc _=>Ps acc) (fun m acc v=>by
  rw [GA,Int.toNat_natCast]
  rfl) l.length 0 ((((l.length:Int))-0).toNat+1) [] rfl (Nat.zero_le _) (by omega)
 rw [List.drop_zero,List.nil_append] at h
 exact h.trans (eE l)
theorem Q2 (b:AF):CK b=Ci (fun x y=>decide (L0 x y<0)) b.Slots:=Uf _
theorem WR {b:AF} {x:Am}:x∈CK b↔x∈b.Slots:=by rw [Q2];exact PH _ _ _
theorem WS (b:AF):(CK b).length=b.Slots.length:=by rw [Q2];exact Dg _ _
end
section
open Go.RowKit
def eS (q r:Loc) (b:Nat):Prop:=only q b\/only r b
def WrA (P:Program) (f:FuncId) (vs:List Av) (sz len:Nat) (F:Nat->Nat->Cl) (tyr tyq:TypeId) (len':Nat) (F':Nat->Nat->Cl):Prop :=
 ∀ (M:Nat->Option Obj) (σ:Nat->Loc) (w:World) (args:List Value),(∀ b o,M b=some o->w.heap[b]? = some o)->Bj M σ w (σ 1000) (.cells [.own 1001 sz len] tyq)->M (σ 1000).b=none->Bj M σ w (σ 1001) (.row sz len F tyr)->((σ 1001).nil=true\/M (σ 1001).b=none)->((σ 1001).nil=true\/(σ 1000).b≠(σ 1001).b)->L2 (RA M σ) (vs++[.one (.ptr 1000 0)]) args ->
  Calls P f args.toArray w fun en w'=>∃ U,en=.returned U/\∃ M' x,GL w w' M M' (eS (σ 1000) (σ 1001))/\(x.nil=true\/((only (σ 1001) x.b\/w.heap.size<=x.b)/\M' x.b=none/\x.b≠(σ 1000).b)) /\
   (∀ (σ':Nat->Loc) d,σ' d=x->Bj M' σ' w' (σ 1000) (.cells [.own d sz len'] tyq))/\∀ σ',Bj M' σ' w' x (.row sz len' F' tyr)
section
variable {P:Program}
theorem N7 {q r:Nat} {bq br:Blk} (hqr:q≠r) {n:Nat} {b:Blk} (h:get [(q,bq),(r,br)] n=some b):(n=q/\b=bq)\/(n=r/\b=br):=by
 simp only [get,CT] at h
 by_cases h1:q=n
 ·simp [h1] at h;exact .inl ⟨h1.symm,h.symm⟩
 ·by_cases h2:r=n
  ·simp [h1,h2] at h;exact .inr ⟨h2.symm,h.symm⟩
  ·simp [h1,h2] at h
theorem VG {f:FuncId} {fn:Func} {c:Code} (hf:P.funcs[f]? = some fn) (hb:fn.body=some c) {vs:List Av} {sz len len':Nat} {F F':Nat->Nat->Cl} {tyr tyq:TypeId} (hN:Nat.ble (vs.length+1) fn.ntmps=true) (hK:Nat.ble fn.ntmps 1000=true)
  (h:∀ (W0:World) (M0:Nat->Option Obj) (X:Nat->Option Loc),(∀ k x,X k=some x->A2 [1000,1001] k=true)->AWp P none fn.ntmps W0 X M0 c (Yx P fn.ntmps W0 X M0 fn fun r' s'=>∃ d b,Nat.beq d 1000=false/\get s'.h 1000=some (.cells [.own d sz len'] tyq)/\get s'.h d=some b/\Hj b (.row sz len' F' tyr)) ⟨D5 0 (vs++[.one (.ptr 1000 0)]),[(1000,.cells [.own 1001 sz len] tyq),(1001,.row sz len F tyr)]⟩):WrA P f vs sz len F tyr tyq len' F':=by
 intro M σ w args himm hbq hMq hbr hMr hne hargs
 have hK':=Nat.le_of_ble_eq_true hK
 have hN':(vs++[Av.one (.ptr 1000 0)]).length<=fn.ntmps:=by have:=Nat.le_of_ble_eq_true hN;simpa using this
 have hqn:(σ 1000).nil=false:=hbq.1
 obtain ⟨X,hX⟩:∃ X:Nat->Option Loc,X=fun k=>bif Nat.beq k 1000 then some (σ 1000) else bif Nat.beq k 1001 && !(σ 1001).nil then some (σ 1001) else none:=⟨_,rfl⟩
 have hX0:X 1000=some (σ 1000):=by rw [hX];rfl
 have pins:∀ n x,X n=some x->(n=1000/\x=σ 1000)\/(n=1001/\(σ 1001).nil=false/\x=σ 1001):=fun n x hx=>by
  rw [hX] at hx
  simp only at hx
  cases h1:Nat.beq n 1000 with
  | true=>rw [h1] at hx;simp at hx;exact .inl ⟨Nat.eq_of_beq_eq_true h1,hx.symm⟩
  | false =>
   rw [h1] at hx
   cases h2:Nat.beq n 1001 with
   | false=>rw [h2] at hx;simp at hx
   | true =>
    rw [h2] at hx
    cases h3:(σ 1001).nil with
    | true=>rw [h3] at hx;simp at hx
    | false=>rw [h3] at hx;simp at hx;exact .inr ⟨Nat.eq_of_beq_eq_true h2,rfl,hx.symm⟩
 have hX1:(σ 1001).nil=false->X 1001=some (σ 1001):=fun h3=>by rw [hX];simp [h3];rfl
 have hXK:∀ k x,X k=some x->A2 [1000,1001] k=true:=fun k x hk=>by
  rcases pins k x hk with ⟨rfl,_⟩ | ⟨rfl,_⟩ <;> rfl
 have hin:∀ b,inX X b->eS (σ 1000) (σ 1001) b:=fun b ⟨n,x,h1,h2⟩=>by
  rcases pins n x h1 with ⟨_,rfl⟩ | ⟨_,h3,rfl⟩
  ·exact .inl ⟨hqn,h2.symm⟩
  ·exact .inr ⟨h3,h2.symm⟩
 refine ET (X:=X) (σ:=σ) (h0:=[(1000,.cells [.own 1001 sz len] tyq),(1001,.row sz len F tyr)]) hf hb hN' himm hargs (fun n b hn => ?_) (fun n b hn => ?_) (fun n x hx => ?_) (fun n m b c hn hm hnm => ?_) (DH (h w M X hXK)) ?_
 ·rcases N7 (by decide) hn with ⟨rfl,rfl⟩ | ⟨rfl,rfl⟩
  ·exact hbq
  ·exact hbr
 ·rcases N7 (by decide) hn with ⟨rfl,rfl⟩ | ⟨rfl,rfl⟩
  ·exact .inr ⟨hMq,1000,_,hX0,rfl⟩
  ·cases h3:(σ 1001).nil with
   | true=>exact .inl rfl
   | false =>
    rcases hMr with h4 | h4
    ·rw [h3] at h4;cases h4
    ·exact .inr ⟨h4,1001,_,hX1 h3,rfl⟩
 ·rcases pins n x hx with ⟨rfl,rfl⟩ | ⟨rfl,_,rfl⟩
  ·exact ⟨hK',rfl⟩
  ·exact ⟨by omega,rfl⟩
 ·rcases N7 (by decide) hn with ⟨rfl,rfl⟩ | ⟨rfl,rfl⟩ <;> rcases N7 (by decide) hm with ⟨rfl,rfl⟩ | ⟨rfl,rfl⟩
  ·exact absurd rfl hnm
  ·rcases hne with h4 | h4
   ·exact .inr (.inl h4)
   ·exact .inr (.inr h4)
  ·rcases hne with h4 | h4
   ·exact .inl h4
   ·exact .inr (.inr (Ne.symm h4))
  ·exact absurd rfl hnm
 ·rintro r' s' M' σ' a' w' U ⟨d,b,hd,h1,h2,h3⟩ hs hR
  have hdn:d≠1000:=fun e=>by subst e;rw [Nat.beq_refl] at hd;cases hd
  have hp:=(hs.pin 1000 _ hX0).2
  refine ⟨U,rfl,M',σ' d,⟨hs.os,hs.tape,hs.output,hs.size,fun b hb hx=>hs.old b hb fun h4=>hx (hin b h4),hs.sub,hs.new,hs.imm⟩,?_,fun σ2 d2 e2 => ?_,fun σ2=>(I2 h3 (hs.blk d b h2):Bj M' σ' w' (σ' d) (.row sz len' F' tyr))⟩
  ·cases hnil:(σ' d).nil with
   | true=>exact .inl rfl
   | false =>
    have hq:(σ' d).b≠(σ 1000).b:=by
     rcases hs.inj d 1000 b _ h2 h1 hdn with h4 | h4 | h4
     ·rw [hnil] at h4;cases h4
     ·rw [hp,hqn] at h4;cases h4
     ·rw [hp] at h4;exact h4
    rcases hs.loc d b h2 with h4 | ⟨h4,h5⟩
    ·rw [hnil] at h4;cases h4
    ·refine .inr ⟨?_,h4,hq⟩
     rcases h5 with h5 | h5
     ·exact .inr h5
     ·rcases hin _ h5 with h6 | h6
      ·exact absurd h6.2 hq
      ·exact .inl h6
  ·have hb1:=hs.blk 1000 _ h1
   rw [hp] at hb1
   obtain ⟨g0,cc,g1,g2⟩:=hb1
   refine ⟨g0,cc,g1,?_⟩
   cases g2 with
   | cons g3 g4 =>
    cases g4
    refine .cons ?_ .nil
    unfold R at g3 ⊢
    rw [e2];exact g3
section
variable {V:Env P} {rd:Option Nat} {N:Nat} {W0:World} {X:Nat→Option Loc} {M0 M:Nat→Option Obj} {σ:Nat→Loc} {w:World} {a:Act} {Q:Exit→AS→Prop} {s:AS}
def N9 (q r:Nat) (dst:Option Nat) (s:AS):Bool := !Nat.beq q r&&s.t.all (fun p=>p.2.no r&&(match dst with | some d => !Nat.beq p.1 d | none=>true))&&s.h.all fun p=>Nat.beq p.1 q||p.2.no r
def TD (q r:Nat) (bq br:Blk) (s:AS):AS:=⟨s.t,put (put s.h q bq) r br⟩
theorem Xq {K:List Nat} {q r:Nat} {dst:Option Nat} {sz len len':Nat} {F F':Nat->Nat->Cl} {tyr tyq:TypeId} {x:Loc} {M':Nat->Option Obj} {w':World} {U:Value} (hX:∀ k x,X k=some x->A2 K k=true) (hK:Vl K r=true) (hok:N9 q r dst s=true) (hq:get s.h q=some (.cells [.own r sz len] tyq)) (hr:get s.h r=some (.row sz len F tyr))
  (hs:Sim N W0 X M0 M σ (get s.t) (get s.h) a w) (hk:GL w w' M M' (eS (σ q) (σ r))) (hx:x.nil=true\/((only (σ r) x.b\/w.heap.size<=x.b)/\M' x.b=none/\x.b≠(σ q).b)) (hbq:∀ (σ':Nat->Loc) d,σ' d=x->Bj M' σ' w' (σ q) (.cells [.own d sz len'] tyq)) (hbr:∀ σ',Bj M' σ' w' x (.row sz len' F' tyr)) :
  Sim N W0 X M0 M' (upd σ r x) (get (TD q r (.cells [.own r sz len'] tyq) (.row sz len' F' tyr) s).t) (get (TD q r (.cells [.own r sz len'] tyq) (.row sz len' F' tyr) s).h) (a.put dst U) w':=by
 unfold N9 at hok
 simp only [Bool.and_eq_true,Bool.not_eq_true'] at hok
 obtain ⟨⟨hqr',ht⟩,hh⟩:=hok
 have hqr:q≠r:=fun e=>by subst e;rw [Nat.beq_refl] at hqr';cases hqr'
 have hqn:(σ q).nil=false:=(hs.blk q _ hq).1
 have ht':∀ i v,get s.t i=some v->v.no r=true/\(∀ d,dst=some d->i≠d):=fun i v hv=>by
  have h1:=List.all_eq_true.1 ht (i,v) (C8 hv)
  simp only [Bool.and_eq_true] at h1
  refine ⟨h1.1,fun d hd e => ?_⟩
  subst hd e
  have:=h1.2
  simp [Nat.beq_refl] at this
 have hh':∀ n b,get s.h n=some b->n≠q->b.no r=true:=fun n b hb hn=>by
  have h1:=List.all_eq_true.1 hh (n,b) (C8 hb)
  simp only [Bool.or_eq_true] at h1
  rcases h1 with h1 | h1
  ·exact absurd (Nat.eq_of_beq_eq_true h1) hn
  ·exact h1
 have hXr:∀ k u,X k=some u->k≠r:=fun k u hk' e=>by
  subst e
  have h1:=List.all_eq_true.1 hK k (DF (hX k u hk'))
  simp [Nat.beq_refl] at h1
 have hg:∀ n,get (TD q r (.cells [.own r sz len'] tyq) (.row sz len' F' tyr) s).h n=if r=n then some (.row sz len' F' tyr) else if q=n then some (.cells [.own r sz len'] tyq) else get s.h n:=fun n=>by
  show get (put (put s.h q _) r _) n=_
  rw [Ig,Ig]
 have hlt:∀ n b,get s.h n=some b->(σ n).nil=false->(σ n).b<w.heap.size:=fun n b hb hn=>(hs.blk n b hb).lt hn
 have hup:∀ n,n≠r->upd σ r x n=σ n:=fun n hn=>CN _ _ hn
 have hMn:∀ b,b<w.heap.size->M b=none->M' b=none:=fun b hb h0=>by
  cases h1:M' b with
  | none=>rfl
  | some o=>have:=hk.new b o h1 h0;omega
 have hsame:∀ n b,get s.h n=some b->n≠q->n≠r->(σ n).nil=false->w'.heap[(σ n).b]? = w.heap[(σ n).b]? := fun n b hb h1 h2 hn=>hk.old _ (hlt n b hb hn) fun h3=>by
  rcases h3 with h3 | h3
  ·rcases hs.inj n q b _ hb hq h1 with h4 | h4 | h4
   ·rw [hn] at h4;cases h4
   ·rw [hqn] at h4;cases h4
   ·exact h4 h3.2
  ·rcases hs.inj n r b _ hb hr h2 with h4 | h4 | h4
   ·rw [hn] at h4;cases h4
   ·rw [h3.1] at h4;cases h4
   ·exact h4 h3.2
 refine ⟨hk.os.trans hs.os,hk.tape.trans hs.tape,hk.output.trans hs.output,Nat.le_trans hs.size hk.size,fun b hb hnx => ?_,fun b o h=>hk.sub b o (hs.sub b o h),fun b o h h0 => ?_,fun n u hu=>⟨(hs.pin n u hu).1,by rw [hup n (hXr n u hu)];exact (hs.pin n u hu).2⟩,?_,?_,fun i v hv => ?_,hk.imm,fun n b hb => ?_,fun n b hb => ?_,fun n m b c hb hc hnm => ?_⟩
 ·refine (hk.old b (Nat.lt_of_lt_of_le hb hs.size) fun h3 => ?_).trans (hs.old b hb hnx)
  rcases h3 with h3 | h3
  ·rcases hs.loc q _ hq with h4 | ⟨_,h4 | h4⟩
   ·rw [hqn] at h4;cases h4
   ·rw [<- h3.2] at h4;omega
   ·rw [<- h3.2] at h4;exact hnx h4
  ·rcases hs.loc r _ hr with h4 | ⟨_,h4 | h4⟩
   ·rw [h3.1] at h4;cases h4
   ·rw [<- h3.2] at h4;omega
   ·rw [<- h3.2] at h4;exact hnx h4
 ·cases h1:M b with
  | some o'=>exact hs.new b o' h1 h0
  | none=>exact Nat.le_trans hs.size (hk.new b o h h1)
 ·have:=hs.defers.mono hk.sub
  cases dst <;> exact this
 ·cases dst with
  | none=>exact hs.room
  | some d=>simpa [Act.put] using hs.room
 ·have h1:=ht' i v hv
  have h2:(a.put dst U).tmps.getD i undef=a.tmps.getD i undef:=by
   cases dst with
   | none=>rfl
   | some d=>simp [Act.put,Array.getD_eq_getD_getElem?,Array.getElem?_setIfInBounds,Ne.symm (h1.2 d rfl)]
  rw [h2]
  exact DY hk.sub (fun d hd=>hup d fun e=>by subst e;rw [h1.1] at hd;cases hd) (hs.tmps i v hv)
 ·rw [hg] at hb
  by_cases h1:r=n
  ·subst h1
   simp only [if_true,Option.some.injEq] at hb
   subst hb
   rw [BK]
   exact hbr _
  ·simp only [if_neg h1] at hb
   rw [hup n (Ne.symm h1)]
   by_cases h2:q=n
   ·subst h2
    simp only [if_true,Option.some.injEq] at hb
    subst hb
    exact hbq _ r (BK _ _ _)
   ·simp only [if_neg h2] at hb
    exact (hs.blk n b hb).mono hk.sub (fun d hd=>hup d fun e=>by subst e;rw [hh' n b hb (Ne.symm h2)] at hd;cases hd) (hsame n b hb (Ne.symm h2) (Ne.symm h1))
 ·rw [hg] at hb
  by_cases h1:r=n
  ·subst h1
   rw [BK]
   rcases hx with h3 | ⟨h3,h4,h5⟩
   ·exact .inl h3
   ·refine .inr ⟨h4,?_⟩
    rcases h3 with h3 | h3
    ·rcases hs.loc r _ hr with h6 | ⟨_,h6⟩
     ·rw [h3.1] at h6;cases h6
     ·rw [h3.2];exact h6
    ·exact .inl (Nat.le_trans hs.size h3)
  ·rw [hup n (Ne.symm h1)]
   obtain ⟨b0,hb0⟩:∃ b0,get s.h n=some b0:=by
    simp only [if_neg h1] at hb
    by_cases h2:q=n
    ·subst h2;exact ⟨_,hq⟩
    ·simp only [if_neg h2] at hb;exact ⟨_,hb⟩
   cases hn:(σ n).nil with
   | true=>exact .inl rfl
   | false =>
    rcases hs.loc n b0 hb0 with h6 | ⟨h6,h7⟩
    ·rw [hn] at h6;cases h6
    ·exact .inr ⟨hMn _ (hlt n b0 hb0 hn) h6,h7⟩
 ·have hold:∀ n b,get (TD q r (.cells [.own r sz len'] tyq) (.row sz len' F' tyr) s).h n=some b->n≠r->∃ b0,get s.h n=some b0:=fun n b hb h1=>by
   rw [hg] at hb
   simp only [if_neg (Ne.symm h1)] at hb
   by_cases h2:q=n
   ·subst h2;exact ⟨_,hq⟩
   ·simp only [if_neg h2] at hb;exact ⟨_,hb⟩
  have hrm:∀ m b0,get s.h m=some b0->m≠r->x.nil=true\/(σ m).nil=true\/x.b≠(σ m).b:=fun m b0 hb0 hm=>by
   rcases hx with h3 | ⟨h3,h4,h5⟩
   ·exact .inl h3
   ·cases hn:(σ m).nil with
    | true=>exact .inr (.inl rfl)
    | false =>
     refine .inr (.inr ?_)
     rcases h3 with h3 | h3
     ·rcases hs.inj m r b0 _ hb0 hr hm with h6 | h6 | h6
      ·rw [hn] at h6;cases h6
      ·rw [h3.1] at h6;cases h6
      ·rw [h3.2];exact Ne.symm h6
     ·have:=hlt m b0 hb0 hn
      omega
  by_cases h1:n=r
  ·subst h1
   obtain ⟨c0,hc0⟩:=hold m c hc (Ne.symm hnm)
   rw [BK,hup m (Ne.symm hnm)]
   exact hrm m c0 hc0 (Ne.symm hnm)
  ·obtain ⟨b0,hb0⟩:=hold n b hb h1
   rw [hup n h1]
   by_cases h2:m=r
   ·subst h2
    rw [BK]
    rcases hrm n b0 hb0 h1 with h3 | h3 | h3
    ·exact .inr (.inl h3)
    ·exact .inl h3
    ·exact .inr (.inr (Ne.symm h3))
   ·obtain ⟨c0,hc0⟩:=hold m c hc h2
    rw [hup m h2]
    exact hs.inj n m b0 c0 hb0 hc0 hnm
end
end
end
section
open Go.RowKit Go.MapKept
section
variable {P:Program} {V:Env P} {rd:Option Nat} {N:Nat} {W0:World} {X:Nat→Option Loc} {M0 M:Nat→Option Obj} {σ:Nat→Loc} {w:World} {a:Act} {Q:Exit→AS→Prop} {s:AS}
structure eI (P:Program) (o:Oper) (s:AS) (q r sz len:Nat) (F:Nat->Nat->Cl) (tyr tyq:TypeId) (len':Nat) (F':Nat->Nat->Cl):Prop where
 op:∃ c f g k caps vs,o.op=.call c/\c.callee=.value f/\evT (get s.t) f=some (.av (.one (.clo g k caps)))/\CD k caps=[.one (.ptr q 0)]/\EA (evT (get s.t)) c.args.toList=some vs/\vs.all Av.dv=true/\(∀ args w,(callFunc g args).run P w=.ok (.enter g args) w)/\WrA P g vs sz len F tyr tyq len' F'
 gd:o.guard=none
 ok:N9 q r o.dst s=true
 hq:get s.h q=some (.cells [.own r sz len] tyq)
 hr:get s.h r=some (.row sz len F tyr)
theorem UR {K:List Nat} {o:Oper} {q r sz len len':Nat} {F F':Nat->Nat->Cl} {tyr tyq:TypeId} (hX:∀ k x,X k=some x->A2 K k=true) (hK:Vl K r=true) (hc:eI P o s q r sz len F tyr tyq len' F') (hs:Sim N W0 X M0 M σ (get s.t) (get s.h) a w) {Kk:Act->World->Prop} {Q':Exit->Act->World->Prop}
  (h:∀ M' σ' a' w',Sim N W0 X M0 M' σ' (get (TD q r (.cells [.own r sz len'] tyq) (.row sz len' F' tyr) s).t) (get (TD q r (.cells [.own r sz len'] tyq) (.row sz len' F' tyr) s).h) a' w'->Kk a' w'):o.wpIn (FW rd) 0 P a w Kk Q':=by
 obtain ⟨⟨c,f,g,k,caps,vs,ho,hcf,hf,hcl,hxs,hdv,heg,hW⟩,hgd,hok,hq,hr⟩:=hc
 have hqn:(σ q).nil=false:=(hs.blk q _ hq).1
 have hqr:q≠r:=fun e=>by
  unfold N9 at hok
  subst e
  simp [Nat.beq_refl] at hok
 have hev:∀ x v,evT (get s.t) x=some v->RT M σ v (a.eval x):=fun x v hv=>Fa hs.tmps hv
 obtain ⟨caps',hfv,hsz,hcaps⟩:=hev f _ hf
 have hargs:=Iy hev _ _ hxs
 have hcl2:L2 (RA M σ) (CD k caps) caps'.toList:=by
  refine L2.of (by simp [CD,hsz]) fun i x y hx hy => ?_
  have hi:i<k:=by have:=(List.getElem?_eq_some_iff.1 hx).1;simpa [CD] using this
  have:=hcaps i hi
  simp only [CD,List.getElem?_map,List.getElem?_range hi,Option.map_some,Option.some.injEq] at hx
  subst hx
  have hy':caps'.getD i undef=y:=by
   simp only [Array.getD_eq_getD_getElem?]
   rw [<- Array.getElem?_toList,hy];rfl
  rw [hy'] at this
  exact this
 rw [hcl] at hcl2
 have hmap:c.args.map a.eval=(c.args.toList.map a.eval).toArray:=by apply Array.ext';simp
 have happ:(c.args.toList.map a.eval).toArray++caps'=(c.args.toList.map a.eval++caps'.toList).toArray:=by apply Array.ext';simp
 have hres:(resolve a.eval c o.type).run P w=.ok { target:=.fn (.func g) caps',args:=(c.args.toList.map a.eval).toArray } w:=by
  simp only [resolve,hcf,hfv,Deferred.ofValue,hmap]
  simp
 let σ2:Nat->Loc:=upd (upd σ 1000 (σ q)) 1001 (σ r)
 have e0:σ2 1000=σ q:=by show upd (upd σ 1000 (σ q)) 1001 (σ r) 1000=_;rw [CN _ _ (by decide),BK]
 have e1:σ2 1001=σ r:=BK _ _ _
 have hbq:=hs.blk q _ hq
 have hbq2:Bj M σ2 w (σ2 1000) (.cells [.own 1001 sz len] tyq):=by
  rw [e0]
  obtain ⟨g0,cc,g1,g2⟩:=hbq
  refine ⟨g0,cc,g1,?_⟩
  cases g2 with
  | cons g3 g4 =>
   cases g4
   refine .cons ?_ .nil
   unfold R at g3 ⊢
   rw [e1];exact g3
 have hMq:M (σ2 1000).b=none:=by
  rw [e0]
  rcases hs.loc q _ hq with h1 | h1
  ·rw [hqn] at h1;cases h1
  ·exact h1.1
 have hMr:(σ2 1001).nil=true\/M (σ2 1001).b=none:=by
  rw [e1]
  exact (hs.loc r _ hr).imp id And.left
 have hne:(σ2 1001).nil=true\/(σ2 1000).b≠(σ2 1001).b:=by
  rw [e0,e1]
  rcases hs.inj q r _ _ hq hr hqr with h1 | h1 | h1
  ·rw [hqn] at h1;cases h1
  ·exact .inl h1
  ·exact .inr h1
 have hL:L2 (RA M σ2) (vs++[.one (.ptr 1000 0)]) (c.args.toList.map a.eval++caps'.toList):=by
  refine L2.append (hargs.mono fun x hx u hu=>G4 (r:=.av x) (List.all_eq_true.1 hdv x hx) hu) ?_
  generalize caps'.toList=cl at hcl2
  cases hcl2 with
  | cons h1 h2 =>
   cases h2
   refine .cons ?_ .nil
   have h1:_=Value.pointer (some ⟨(σ q).b,0,none⟩):=h1
   subst h1
   show Value.pointer (some ⟨(σ q).b,0,none⟩)=Value.pointer (some ⟨(σ2 1000).b,0,none⟩)
   rw [e0]
 have hd:WV P o a w fun U w'=>∃ M' x,GL w w' M M' (eS (σ q) (σ r))/\(x.nil=true\/((only (σ r) x.b\/w.heap.size<=x.b)/\M' x.b=none/\x.b≠(σ q).b))/\(∀ (σ':Nat->Loc) d,σ' d=x->Bj M' σ' w' (σ q) (.cells [.own d sz len'] tyq))/\∀ σ',Bj M' σ' w' x (.row sz len' F' tyr):=by
  refine .inr (.inr ⟨g,(c.args.toList.map a.eval++caps'.toList).toArray,?_,?_⟩)
  ·simp only [execOp,ho,Sem.run_bind,hres,Result.andThen_ok,invoke,happ]
   exact heg _ _
  ·refine (hW M σ2 w _ hs.imm hbq2 hMq (by rw [e1];exact hs.blk r _ hr) hMr hne hL).mono ?_
   rintro en w' ⟨U,rfl,M',x,h1,h2,h3,h4⟩
   rw [e0,e1] at h1 h2
   rw [e0] at h3
   exact ⟨U,rfl,M',x,h1,h2,h3,h4⟩
 refine hd.wp (fun U w' ⟨M',x,h1,h2,h3,h4⟩=>h M' _ _ w' (Xq hX hK hok hq hr hs h1 h2 h3 h4)) (fun c' hc'=>by rw [ho] at hc';cases hc')
theorem Yl {K:List Nat} {ops:Array Oper} {o:Oper} {l:List Oper} {Kk:AS->Prop} {q r sz len len':Nat} {F F':Nat->Nat->Cl} {tyr tyq:TypeId} (S:AS) (hX:∀ k x,X k=some x->A2 K k=true) (hK:Vl K r=true) (hc:eI P o s q r sz len F tyr tyq len' F') (hS:TD q r (.cells [.own r sz len'] tyq) (.row sz len' F' tyr) s=S)
  (h:AWL P rd N W0 X M0 ops l Kk S):AWL P rd N W0 X M0 ops (o::l) Kk s:=by
 subst hS
 intro M σ a w hs Q' hQ'
 refine wpListIn_step fun K0 hK' => ?_
 rw [if_pos (by simp [Region.wanted,hc.gd])]
 exact UR hX hK hc hs fun M' σ' a' w' h1=>hK' _ _ (h M' σ' a' w' h1 Q' hQ')
theorem So {K:List Nat} (hm:P.follows .mixedOrders=true) {E:TypeId->Option (List Kd)} (hE:IC P ⟨fun _=>none,E,fun _=>false,fun _=>none⟩) {id:Nat} {l:List Oper} (k:Nat) {o:Oper} (ho1:l[k]? = some o) (hk1:Nat.beq (k+1) l.length=true) (ow:List Nat) (qs:List (Nat×(Bool×Nat))) (tbl:List (Nat×FuncId×List Av×Ef)) (ts ns:List Nat) (cs:List Prop) (S1 S:AS) (htbl:GP P tbl)
  (hr1:IW P ⟨ER tbl,E,A2 ow,get qs⟩ N (l.take k) ts ns s=some (cs,S1)) (hd:PT P ⟨ER tbl,E,A2 ow,get qs⟩ N (l.take k) s=true) (hc:B2 cs) (hms:Tq (l.take k) o []=true) {q r sz len len':Nat} {F F':Nat->Nat->Cl} {tyr tyq:TypeId} (hX:∀ k x,X k=some x->A2 K k=true) (hK:Vl K r=true) (hca:eI P o S1 q r sz len F tyr tyq len' F')
  (hS:TD q r (.cells [.own r sz len'] tyq) (.row sz len' F' tyr) S1=S) (h:Q .normal S):AWp P rd N W0 X M0 (.region id l.toArray true) Q s:=by
 have hl:l=l.take k++[o]:=by
  obtain ⟨hk,ho2⟩:=List.getElem?_eq_some_iff.1 ho1
  have hk2:=Nat.eq_of_beq_eq_true hk1
  have h3:l.drop (k+1)=[]:=List.drop_eq_nil_of_le (by omega)
  have h4:=List.take_append_drop k l
  rw [List.drop_eq_getElem_cons hk,h3,ho2] at h4
  exact h4.symm
 clear ho1 hk1
 generalize hl1:l.take k=l1 at *
 subst hl hS
 have hV:=htbl.env (O:=A2 ow) (q:=get qs) hE
 simp only [Tq,Bool.and_eq_true] at hms
 obtain ⟨⟨⟨hback,hk⟩,hlt⟩,hgs⟩:=hms
 have hguard:∀ x∈l1++[o],x.guard=none:=fun x hx=>by
  have:=List.all_eq_true.1 hgs x hx
  cases hg:x.guard with
  | none=>rfl
  | some _=>rw [hg] at this;cases this
 intro M σ a w hs
 unfold IW at hr1
 split at hr1
 ·rename_i cs1 s1 h1
  simp only [Option.some.injEq,Prod.mk.injEq] at hr1
  obtain ⟨rfl,rfl⟩:=hr1
  obtain ⟨e1,hruns⟩:=IV (s0:=s) l1 0 s s1 cs1 (fun j=>by rw [Nat.zero_add]) rfl h1 hc
  simp only [Nat.zero_add] at e1 hruns
  obtain ⟨hback1,hord⟩:=Ku hd
  have hrep:∀ (n j:Nat),(Array.replicate n false).getD j false=false:=fun n j=>by
   by_cases hj':j<n
   ·simp [hj']
   ·simp [hj']
  have hs0:Sim N W0 X M0 M σ (get s.t) (get s.h) a { w with drawn:=w.drawn+1 }:=⟨hs.os,hs.tape,hs.output,hs.size,hs.old,hs.sub,hs.new,hs.pin,hs.defers,hs.room,hs.tmps,hs.imm,fun n b hb=>(hs.blk n b hb).mono (fun _ _ h=>h) (fun _ _=>rfl) (fun _=>rfl),hs.loc,hs.inj⟩
  have hinv:Ua P ⟨ER tbl,E,A2 ow,get qs⟩ N W0 X M0 l1 s (Array.replicate (l1++[o]).toArray.size false) a { w with drawn:=w.drawn+1 } :=
   ⟨M,σ,get s.t,get s.h,hs0,fun x=>⟨0,Nat.zero_le _,fun j o hj hd=>⟨fun hh=>(by rw [hrep] at hh;cases hh),fun hh=>absurd hh (by omega)⟩,rfl⟩,fun m=>⟨0,Nat.zero_le _,fun j o hj hd=>⟨fun hh=>(by rw [hrep] at hh;cases hh),fun hh=>absurd hh (by omega)⟩,rfl⟩⟩
  refine wpIn_region_any hm (T9 (l2:=[]) hV hruns hback1 hord hback (fun j hj=>List.all_eq_true.1 hk j (List.mem_range.2 hj)) (fun i h3 h4=>by simp at h4;omega) (fun x hx=>hguard x (List.mem_append_left _ hx)) (fun f L a1 w1 hsz hall hcnt hsim => ?_) _ _ a _ (by simp) (fun j oj _ hd=>by rw [hrep] at hd;cases hd) (fun j _=>hrep _ j) (Nat.le_trans List.countP_le_length (by simp)) hinv)
  obtain ⟨M1,σ1,hs2⟩:=hsim
  rw [<- e1] at hs2
  have hs2:=D8 hs2 ts ns
  have hok:(l1++[o]).toArray[l1.length]? = some o:=by simp
  unfold wpOpIn
  rw [hok]
  have hw:∀ ys,Region.wanted o ys=true:=fun ys=>by simp [Region.wanted,hguard o (by simp)]
  simp only [hw,if_true]
  refine UR hX hK hca hs2 fun M' σ' a' w' h5 => ?_
  exact S8 hback (by simp) hsz hall hcnt (fun x hx=>by cases hx) (fun _=>⟨_,M',σ',h,h5⟩) (fun u hu=>by cases hu)
 ·cases hr1
end
end
end Go.Proofs.YtheobjkgllmnmaaGreat
