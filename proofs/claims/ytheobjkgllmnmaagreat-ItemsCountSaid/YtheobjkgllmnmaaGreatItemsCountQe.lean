/-
  No statement is proved in this text. It holds a part of what the proof of ItemsCount needs.
-/
import Derived.Test.YtheobjkgllmnmaaGreatItemsCountQd
namespace Go.Proofs.YtheobjkgllmnmaaGreat
set_option maxRecDepth 100000
set_option linter.unusedVariables false
set_option linter.unusedSimpArgs false
section
open Go.RowKit
structure MC (b:AF):Prop where
 parts:b.Parts.length<20
 tracks:b.Tracks.length<20
 vias:b.Vias.length<20
 slots:b.Slots.length<20
 nets:(b.Nets.length:Int)<=1000000
 pins:∀ n∈b.Nets,(n.Pins.length:Int)<=1000000
 ted:∀ t∈b.Tracks,(t.Shape.Edges.length:Int)<=1000000
 sed:∀ s∈b.Slots,(s.Shape.Edges.length:Int)<=1000000
theorem VJ {b:AF} (h:MC b) (k:Nat):(((BP b).getD k default).Shape.Edges.length:Int)<=1000000:=GS (p:=fun t:AO=>(t.Shape.Edges.length:Int)<=1000000) (by decide) (fun x hx=>h.ted x (Uc.1 hx)) k
theorem VR {b:AF} (h:MC b) (k:Nat):(((CK b).getD k default).Shape.Edges.length:Int)<=1000000:=GS (p:=fun t:Am=>(t.Shape.Edges.length:Int)<=1000000) (by decide) (fun x hx=>h.sed x (WR.1 hx)) k
theorem P2 {types:List AM} (h:Ck types) (name:ByteArray):((Bt types name).1.Pads.length:Int)<=1000000:=by rw [MB];exact Ih h name
def PG (b:AF) (v:List (Aq×ByteArray)) (x:AE×BF):AZ:=AZ.mk x.1.Id x.2.Name 1 (bif Do BL v (Aq.mk x.1.Ref x.2.Name) then (v.getD (Cg BL v (Aq.mk x.1.Ref x.2.Name)) default).2 else ⟨#[]⟩) (bif decide (x.2.Drill=0) then Ed b x.1 else 1) (bif decide (x.2.Drill=0) then Ed b x.1 else b.Layers) (EH x.2.Shape (Cc x.1))
def kT (v:List (Aq×ByteArray)) (n:A1):List (Aq×ByteArray):=n.Pins.foldl (fun v p=>Ic BL v p n.Name) v
def kU (b:AF):List (Aq×ByteArray):=b.Nets.reverse.foldl kT []
theorem Ui (b:AF) (types:List AM):Dc b types=(Aj b types).map (PG b (kU b)):=by
 have h2:∀ v K0,Db b types v K0 (Aj b types).length 0 []=(Aj b types).map (PG b v):=fun v K0=>by
  have:=cD (Aj b types) (fun acc x=>acc++[PG b v x]) (Db b types v K0) id (fun x acc=>by rw [Db];rfl) (fun m x acc hx=>by rw [Db];rfl) (Aj b types).length 0 [] (by omega)
  rw [this,List.drop_zero,J7,List.nil_append];rfl
 have hrev:∀ x,x<b.Nets.reverse.length->b.Nets.getD (b.Nets.length-1-x) default=b.Nets.reverse.getD x default:=fun x hx=>by
  rw [List.length_reverse] at hx
  rw [List.getD_eq_getElem?_getD,List.getD_eq_getElem?_getD,List.getElem?_reverse hx]
 unfold Dc
 have:=cD b.Nets.reverse kT (C5 b types) (fun v=>(Aj b types).map (PG b v)) (fun x acc=>by rw [C5];exact h2 _ _) (fun m x acc hx=>by
  rw [C5,hrev x hx]
  have h1:=V6 (b.Nets.reverse.getD x default).Pins (fun v p=>Ic BL v p (b.Nets.reverse.getD x default).Name) (G6 b types acc x (C5 b types m (x+1))) (fun v _=>C5 b types m (x+1) v) (fun m v k=>by rw [G6,hrev x hx,Int.toNat_natCast]) (b.Nets.reverse.getD x default).Pins.length 0 ((((b.Nets.reverse.getD x default).Pins.length:Int)-0).toNat+1) acc rfl (Nat.zero_le _) (by omega)
  rw [List.drop_zero] at h1
  exact h1) b.Nets.length 0 [] (by rw [List.length_reverse];omega)
 rw [this,List.drop_zero];rfl
theorem RD (b:AF) (types:List AM):(Dc b types).length=(Aj b types).length:=by rw [Ui,List.length_map]
def Dq (s:AQ):AQ:=s
def HJ (s:AQ):FuncId×List Av×Ef:=(53,[.agg (AQ.c s)],.val [] (.av (.agg (AQ.c (Dq s)))))
abbrev ZP (s:AQ):List (Nat×Blk):=[(1,.cells [.i s.Kind,.own 5 7 s.Edges.length,.i s.R] 28),DB,(5,.row 7 s.Edges.length (AP AG.c s.Edges) 68)]
theorem fT (s:AQ) (h0:(s.Edges.length:Int)<=1000000):Bk Tryz.prog 53 (HJ s).2.1 (.av (.agg (AQ.c (Dq s)))):=by
 refine AV Tryz.func53 rfl kr kr fun W0 M0 => ?_
 refine AC<|rn ⟨Gn,[(1,.cells (AQ.c s) 28),DB]⟩<|AC ?_
 refine rc [(5,GU s.Edges)] [Ak (GU s.Edges).2.1] ⟨Gn,(ZP s)⟩ (.cons (O1 s.Edges au4) .nil) (.cons rfl .nil)<|AJ ?_
 refine Ba (Cv.trans (BT (⟨Gn,(ZP s)⟩) lr (.cons ⟨rfl,.cells _ (rr (.cons (.own _ _ au2) (rr .nil)))⟩ (.cons ⟨rfl,.refl _⟩ (.cons ⟨rfl,Ap 68 (BM 7 AG.c s.Edges)⟩ .nil)))) (Cv.refl _))<|AC ?_
 refine rn ⟨[(2,tP 2 0)],[(2,.cells [.i s.Kind,.own 5 7 s.Edges.length,.i s.R] 28),(5,.row 7 s.Edges.length (AP AG.c s.Edges) 68)]⟩<|Ag ?_
 exact ⟨_,Cv.trans (Dn (⟨[(2,tP 2 0)],[(2,.cells (AQ.c s) 28)]⟩) 5 7 s.Edges.length (AP AG.c s.Edges) 68 (K:=[]) (fun k x h=>by cases h) kr kr (.cons ⟨rfl,rfl⟩ .nil) kr) (Cv.refl _),.inl rfl,.av (.agg (AQ.c s)),by kernel_rfl,Al (by rfl)⟩
theorem Ta (s:AQ) (h0:(s.Edges.length:Int)<=1000000):Az Tryz.prog (HJ s).1 (HJ s).2.1 (HJ s).2.2:=AW (fun _ _=>kr) fun _=>fT s h0
def B9 (p:AB) (r:Int):AQ:=AQ.mk 1 [AG.mk 1 p p (AB.mk 0 0)] r
def Eh (p:AB) (r:Int):FuncId×List Av×Ef:=(38,[.agg (AB.c p),.one (.i r)],.val [] (.av (.agg (AQ.c (B9 p r)))))
abbrev Y8 (p:AB) (r:Int):List Cl:=[.i 1,.list true 7 1 (Ay 7 1 [.i 1,.i p.X,.i p.Y,.i p.X,.i p.Y,.i 0,.i 0]),.i r]
theorem rG (p:AB) (r:Int):Bk Tryz.prog 38 (Eh p r).2.1 (.av (.agg (AQ.c (B9 p r)))):=by
 refine AV Tryz.func38 rfl kr kr fun W0 M0 => ?_
 refine AC<|rn ⟨[(1,tI r),(2,tP 2 0),(4,tP 4 0)],[(2,.cells (AB.c p) 66),IR]⟩<|AC ?_
 refine rn ⟨[(4,tP 4 0)],[(4,.cells (Y8 p r) 28)]⟩<|Ag ?_
 exact ⟨_,Cv.refl _,.inl rfl,.av (.agg (Y8 p r)),by kernel_rfl,D3 (y:=.av (.agg [.i 1,lst 7 AG.c [AG.mk 1 p p (AB.mk 0 0)],.i r])) (.av (.agg (rr (.cons (Bm true (Aw (c:=AG.c) (xs:=([AG.mk 1 p p (AB.mk 0 0)]:List AG)) rfl kr)) (rr .nil))))) (by rfl)⟩
theorem Jw (p:AB) (r:Int):Az Tryz.prog (Eh p r).1 (Eh p r).2.1 (Eh p r).2.2:=AW (fun _ _=>kr) fun _=>rG p r
def Z0H (b:AF) (v39:Int):AQ:=B9 ((A7 b).getD v39.toNat default).At ((A7 b).getD v39.toNat default).R
def Z0I (b:AF) (v16:Int):AQ:=((BP b).getD v16.toNat default).Shape
def HQ (b:AF) (types:(List AM)) (out:List AZ) (v16:Int) (K0:List AZ->Int->(List AZ)):Nat->List AZ->Int->(List AZ)
 | 0,_,_=>default
 | n1+1,out',v39=>bif decide ((v39:Int)<(((A7 b).length:Nat):Int)) then ((HQ b types out v16 K0 n1) (out'++[AZ.mk ((A7 b).getD v39.toNat default).Id (⟨#[]⟩) 3 ((A7 b).getD v39.toNat default).Net ((A7 b).getD v39.toNat default).From ((A7 b).getD v39.toNat default).To (Z0H b v39)]) (v39+1)) else out'
def GX (b:AF) (types:(List AM)):Nat->List AZ->Int->(List AZ)
 | 0,_,_=>default
 | n0+1,out,v16=>bif decide ((v16:Int)<(((BP b).length:Nat):Int)) then ((GX b types n0) (out++[AZ.mk ((BP b).getD v16.toNat default).Id (⟨#[]⟩) 2 ((BP b).getD v16.toNat default).Net ((BP b).getD v16.toNat default).Layer ((BP b).getD v16.toNat default).Layer (Dq (Z0I b v16))]) (v16+1)) else (HQ b types out v16 (GX b types n0) (((((A7 b).length:Nat):Int)-0).toNat+1) out 0)
def Cw (b:AF) (types:(List AM)):(List AZ):=GX b types (((((BP b).length:Nat):Int)-0).toNat+1) (Dc b types) 0
abbrev I6 (out:List AZ) (b:AF) (v16:Int):=out++[AZ.mk ((BP b).getD v16.toNat default).Id (⟨#[]⟩) 2 ((BP b).getD v16.toNat default).Net ((BP b).getD v16.toNat default).Layer ((BP b).getD v16.toNat default).Layer (Dq (Z0I b v16))]
abbrev I5 (out':List AZ) (b:AF) (v39:Int):=out'++[AZ.mk ((A7 b).getD v39.toNat default).Id (⟨#[]⟩) 3 ((A7 b).getD v39.toNat default).Net ((A7 b).getD v39.toNat default).From ((A7 b).getD v39.toNat default).To (Z0H b v39)]
abbrev CE (b:AF):Nat×Blk:=(2,.cells (AF.c b) 41)
abbrev IP (b:AF):Nat×Blk:=(14,.row 6 (BP b).length (AP AO.c (BP b)) 150)
abbrev pT (b:AF):Nat×Blk:=(37,.row 8 (A7 b).length (AP As.c (A7 b)) 154)
abbrev IM (b:AF):Nat×Blk:=(pT b)
abbrev IJ (b:AF):Nat×Tv:=(15,tI (((BP b).length:Nat):Int))
abbrev II (b:AF):Nat×Tv:=(38,tI (((A7 b).length:Nat):Int))
abbrev IH (b:AF):Nat×Tv:=(14,tO (.own 14 6 (BP b).length))
abbrev IG (b:AF):Nat×Tv:=(37,tO (.own 37 8 (A7 b).length))
theorem qAll (b:AF) (types:(List AM)) (hb:MC b) (ht:Ck types):Fr Tryz.prog 14 [.agg (AF.c b),.one (lst 3 AM.c types)] (.row 9 (Cw b types).length (AP AZ.c (Cw b types)) 61) (fun d=>tO (.own d 9 (Cw b types).length)):=by
 refine EC Tryz.func14 rfl kr (Ek _ _) fun W0 M0 => ?_
 have hpl:=Hv hb.parts ht
 have hp1:=RD b types
 have ht1:=Nh b
 have hv1:=NH b
 have hb1:=hb.tracks
 have hb2:=hb.vias
 refine AC<|rn ⟨[(BI types),(2,tP 2 0)],[(CE b)]⟩<|AC ?_
 refine rc [(12,ceI [.agg (AF.c b),.one (Fw types)] (US b types))] [Ak (ceI [.agg (AF.c b),.one (lst 3 AM.c types)] (US b types)).2.1] ⟨[(2,tP 2 0),(5,tO (.own 12 9 (Dc b types).length))],[(CE b),(12,.row 9 (Dc b types).length (AP AZ.c (Dc b types)) 61)]⟩ (.cons (DE (rR b types au14 au14 au14 au14 au14) (.cons (.agg (rr (rr (rr (rr (rr (rr (rr (rr (rr (rr (rr (rr (.cons (.any _) (rr (rr .nil)))))))))))))))) (.cons (AvE.refl _) .nil))) .nil) (.cons rfl .nil)<|AJ ?_
 refine AC<|AC ?_
 refine rc [(14,Ll b)] [Ak (Ll b).2.1] ⟨[(2,tP 2 0),(5,tO (.own 12 9 (Dc b types).length)),(IH b),(IJ b),(16,tI 0)],[(CE b),(12,.row 9 (Dc b types).length (AP AZ.c (Dc b types)) 61),(IP b)]⟩ (.cons (aH b au14) .nil) (.cons rfl .nil)<|AJ<|AY ?_
 refine BS (ι:=Nat×List AZ×Int) (fun x=>⟨[(2,tP 2 0),(5,tO (.own 12 9 x.2.1.length)),(IH b),(IJ b),(16,tI x.2.2)],[(CE b),(12,.row 9 x.2.1.length (AP AZ.c x.2.1) 61),(IP b)]⟩) (fun x=>((((BP b).length:Nat):Int)-x.2.2).toNat<x.1/\(0<=x.2.2/\(x.2.2<=(((BP b).length:Nat):Int)\/x.2.2=0)/\(x.2.1.length:Int)<=((Dc b types).length:Int)+1*(x.2.2-0))/\GX b types x.1 x.2.1 x.2.2=Cw b types) (fun x=>x.1) ?_ (((((BP b).length:Nat):Int)-0).toNat+1,Dc b types,0) ⟨Nat.lt_succ_self _,⟨ax0,ax0,ax0⟩,(by simp only [Cw,cond_true,cond_false])⟩
 rintro ⟨n0,out,v16⟩ ⟨hn,hinv,hF⟩
 have hm0:=hn;have hinv0:=hinv;have hF0:=hF;try dsimp only at hm0 hinv0 hF0
 clear hn hinv hF
 cases n0 with
 | zero=>exact absurd hm0 (Nat.not_lt_zero _)
 | succ n0 =>
  refine AC<|rn ⟨[(2,tP 2 0),(5,tO (.own 12 9 out.length)),(IH b),(IJ b),(16,tI v16),(17,tB (decide ((v16:Int)<(((BP b).length:Nat):Int))))],[(CE b),(12,.row 9 out.length (AP AZ.c out) 61),(IP b)]⟩<|AC ?_
  refine Ab _ rfl (fun h1 => ?_) (fun h1 => ?_)
  ·have g1:=oT h1
   refine Af<|AJ ?_
   refine AC<|AY<|AC ?_
   refine rc [] [0<=(v16:Int)/\(v16:Int)<(((BP b).length:Nat):Int),v16.toNat<(BP b).length] ⟨[(2,tP 2 0),(5,tO (.own 12 9 out.length)),(7,tP 7 0),(IH b),(IJ b),(16,tI v16)],[(CE b),(7,.cells (AO.c ((BP b).getD v16.toNat default)) 150),(12,.row 9 out.length (AP AZ.c out) 61),(IP b)]⟩ .nil (.cons au0 (.cons au0 .nil))<|AJ ?_
   refine dw [] [(31,HJ (Z0I b v16))] [Ak (HJ (Z0I b v16)).2.1,out.length=out.length,out.length+1<=maxLen,(out.length+1)*104<=140737488355328] ⟨[(2,tP 2 0),(5,tO (.own 34 9 (out.length+1))),(IH b),(IJ b),(16,tI v16)],[(CE b),(IP b),(34,.row 9 (out.length+1) (fun i_ j_=>if i_<out.length then (AP AZ.c out) i_ j_ else (Ay 9 1 [.i ((BP b).getD v16.toNat default).Id,.s (⟨#[]⟩),.i 2,.s ((BP b).getD v16.toNat default).Net,.i ((BP b).getD v16.toNat default).Layer,.i ((BP b).getD v16.toNat default).Layer,.i (Dq (Z0I b v16)).Kind,lst 7 AG.c (Dq (Z0I b v16)).Edges,.i (Dq (Z0I b v16)).R]) (i_-out.length) j_) 61)]⟩ (.cons (Ta (Z0I b v16) au14) .nil) (.cons rfl (.cons rfl (.cons au3 (.cons au3 .nil))))<|Be<|AJ ?_
   refine Ba (Cv.trans (BT (⟨[(2,tP 2 0),(5,tO (.own 34 9 (I6 out b v16).length)),(IH b),(IJ b),(16,tI v16)],[(CE b),(IP b),(34,.row 9 (I6 out b v16).length (AP AZ.c (I6 out b v16)) 61)]⟩) (.cons ⟨rfl,.refl _⟩ (.cons ⟨rfl,.av (.one (.own _ _ au2))⟩ lr)) (.cons ⟨rfl,.refl _⟩ (.cons ⟨rfl,.refl _⟩ (.cons ⟨rfl,Ap 61 (BZ (BM 9 AZ.c out) (Aw (c:=AZ.c) (xs:=([AZ.mk ((BP b).getD v16.toNat default).Id (⟨#[]⟩) 2 ((BP b).getD v16.toNat default).Net ((BP b).getD v16.toNat default).Layer ((BP b).getD v16.toNat default).Layer (Dq (Z0I b v16))]:List AZ)) rfl kr))⟩ .nil)))) (Cv.refl _)) ?_
   refine rg ⟨[(2,tP 2 0),(5,tO (.own 34 9 (I6 out b v16).length)),(IH b),(IJ b),(16,tI (W64 (v16+1)))],[(CE b),(IP b),(34,.row 9 (I6 out b v16).length (AP AZ.c (I6 out b v16)) 61)]⟩ ?_
   (try rw [(show W64 (v16+1)=v16+1 from An (by omega) au6)])
   refine AJ ?_
   refine ⟨(n0,out++[AZ.mk ((BP b).getD v16.toNat default).Id (⟨#[]⟩) 2 ((BP b).getD v16.toNat default).Net ((BP b).getD v16.toNat default).Layer ((BP b).getD v16.toNat default).Layer (Dq (Z0I b v16))],v16+1),⟨?_,?_,(by rw [<- hF0];simp only [GX,h1,cond_true,cond_false])⟩,Nat.lt_succ_self _,Cv.trans (BR (⟨[(2,tP 2 0),(5,tO (.own 12 9 (I6 out b v16).length)),(IH b),(IJ b),(16,tI (v16+1))],[(CE b),(IP b),(12,.row 9 (I6 out b v16).length (AP AZ.c (I6 out b v16)) 61)]⟩) 34 12 (K:=[]) (fun k x h=>by cases h) rfl rfl kr kr) (Cv.trans (BD [2,5,14,15,16] [2,12,14] (⟨[(2,tP 2 0),(5,tO (.own 12 9 (I6 out b v16).length)),(IH b),(IJ b),(16,tI (v16+1))],[(CE b),(12,.row 9 (I6 out b v16).length (AP AZ.c (I6 out b v16)) 61),(IP b)]⟩) kr) (BB kr))⟩
   ·show ((((BP b).length:Nat):Int)-(v16+1)).toNat<n0;omega
   ·exact ⟨ax0,ax0,ax0⟩
  ·have g1:=oF h1
   refine BV<|BE ?_
   refine BE<|BW ?_
   refine AJ<|AC<|AC ?_
   refine rc [(37,PU b)] [Ak (PU b).2.1] ⟨[(5,tO (.own 12 9 out.length)),(IG b),(II b),(39,tI 0)],[(12,.row 9 out.length (AP AZ.c out) 61),(IM b)]⟩ (.cons (aF b au14) .nil) (.cons rfl .nil)<|AJ<|AY ?_
   refine BS (ι:=Nat×List AZ×Int) (fun x=>⟨[(5,tO (.own 12 9 x.2.1.length)),(IG b),(II b),(39,tI x.2.2)],[(12,.row 9 x.2.1.length (AP AZ.c x.2.1) 61),(IM b)]⟩) (fun x=>((((A7 b).length:Nat):Int)-x.2.2).toNat<x.1/\(0<=x.2.2/\(x.2.2<=(((A7 b).length:Nat):Int)\/x.2.2=0)/\(x.2.1.length:Int)<=(out.length:Int)+1*(x.2.2-0))/\HQ b types out v16 (GX b types n0) x.1 x.2.1 x.2.2=Cw b types) (fun x=>x.1) ?_ (((((A7 b).length:Nat):Int)-0).toNat+1,out,0) ⟨Nat.lt_succ_self _,⟨ax0,ax0,ax0⟩,(by rw [<- hF0];simp only [GX,h1,cond_true,cond_false])⟩
   rintro ⟨n1,out',v39⟩ ⟨hn,hinv,hF⟩
   have hm1:=hn;have hinv1:=hinv;have hF1:=hF;try dsimp only at hm1 hinv1 hF1
   clear hn hinv hF
   cases n1 with
   | zero=>exact absurd hm1 (Nat.not_lt_zero _)
   | succ n1 =>
    refine AC<|rn ⟨[(5,tO (.own 12 9 out'.length)),(IG b),(II b),(39,tI v39),(40,tB (decide ((v39:Int)<(((A7 b).length:Nat):Int))))],[(12,.row 9 out'.length (AP AZ.c out') 61),(IM b)]⟩<|AC ?_
    refine Ab _ rfl (fun h2 => ?_) (fun h2 => ?_)
    ·have g2:=oT h2
     refine Af<|AJ ?_
     refine AC<|AY<|AC ?_
     refine rc [] [0<=(v39:Int)/\(v39:Int)<(((A7 b).length:Nat):Int),v39.toNat<(A7 b).length] ⟨[(5,tO (.own 12 9 out'.length)),(9,tP 9 0),(IG b),(II b),(39,tI v39)],[(9,.cells (As.c ((A7 b).getD v39.toNat default)) 154),(12,.row 9 out'.length (AP AZ.c out') 61),(IM b)]⟩ .nil (.cons au0 (.cons au0 .nil))<|AJ ?_
     refine dw [] [(56,Eh ((A7 b).getD v39.toNat default).At ((A7 b).getD v39.toNat default).R)] [Ak (Eh ((A7 b).getD v39.toNat default).At ((A7 b).getD v39.toNat default).R).2.1,out'.length=out'.length,out'.length+1<=maxLen,(out'.length+1)*104<=140737488355328] ⟨[(5,tO (.own 59 9 (out'.length+1))),(IG b),(II b),(39,tI v39)],[(IM b),(59,.row 9 (out'.length+1) (fun i_ j_=>if i_<out'.length then (AP AZ.c out') i_ j_ else (Ay 9 1 [.i ((A7 b).getD v39.toNat default).Id,.s (⟨#[]⟩),.i 3,.s ((A7 b).getD v39.toNat default).Net,.i ((A7 b).getD v39.toNat default).From,.i ((A7 b).getD v39.toNat default).To,.i (Z0H b v39).Kind,lst 7 AG.c (Z0H b v39).Edges,.i (Z0H b v39).R]) (i_-out'.length) j_) 61)]⟩ (.cons (Jw ((A7 b).getD v39.toNat default).At ((A7 b).getD v39.toNat default).R) .nil) (.cons rfl (.cons rfl (.cons au3 (.cons au3 .nil))))<|Be<|AJ ?_
     refine Ba (Cv.trans (BT (⟨[(5,tO (.own 59 9 (I5 out' b v39).length)),(IG b),(II b),(39,tI v39)],[(IM b),(59,.row 9 (I5 out' b v39).length (AP AZ.c (I5 out' b v39)) 61)]⟩) (.cons ⟨rfl,.av (.one (.own _ _ au2))⟩ lr) (.cons ⟨rfl,.refl _⟩ (.cons ⟨rfl,Ap 61 (BZ (BM 9 AZ.c out') (Aw (c:=AZ.c) (xs:=([AZ.mk ((A7 b).getD v39.toNat default).Id (⟨#[]⟩) 3 ((A7 b).getD v39.toNat default).Net ((A7 b).getD v39.toNat default).From ((A7 b).getD v39.toNat default).To (Z0H b v39)]:List AZ)) rfl kr))⟩ .nil))) (Cv.refl _)) ?_
     refine rg ⟨[(5,tO (.own 59 9 (I5 out' b v39).length)),(IG b),(II b),(39,tI (W64 (v39+1)))],[(IM b),(59,.row 9 (I5 out' b v39).length (AP AZ.c (I5 out' b v39)) 61)]⟩ ?_
     (try rw [(show W64 (v39+1)=v39+1 from An (by omega) au6)])
     refine AJ ?_
     refine ⟨(n1,out'++[AZ.mk ((A7 b).getD v39.toNat default).Id (⟨#[]⟩) 3 ((A7 b).getD v39.toNat default).Net ((A7 b).getD v39.toNat default).From ((A7 b).getD v39.toNat default).To (Z0H b v39)],v39+1),⟨?_,?_,(by rw [<- hF1];simp only [HQ,h2,cond_true,cond_false])⟩,Nat.lt_succ_self _,Cv.trans (BR (⟨[(5,tO (.own 12 9 (I5 out' b v39).length)),(IG b),(II b),(39,tI (v39+1))],[(IM b),(12,.row 9 (I5 out' b v39).length (AP AZ.c (I5 out' b v39)) 61)]⟩) 59 12 (K:=[]) (fun k x h=>by cases h) rfl rfl kr kr) (Cv.trans (BD [5,37,38,39] [12,37] (⟨[(5,tO (.own 12 9 (I5 out' b v39).length)),(IG b),(II b),(39,tI (v39+1))],[(12,.row 9 (I5 out' b v39).length (AP AZ.c (I5 out' b v39)) 61),(IM b)]⟩) kr) (BB kr))⟩
     ·show ((((A7 b).length:Nat):Int)-(v39+1)).toNat<n1;omega
     ·exact ⟨ax0,ax0,ax0⟩
    ·have g2:=oF h2
     refine BV<|BE ?_
     refine BE<|BW ?_
     refine AJ<|AC ?_
     refine rn ⟨[(4,tO (.own 12 9 out'.length))],[(12,.row 9 out'.length (AP AZ.c out') 61)]⟩<|Ag ?_
     exact ⟨_,Cv.refl _,.inl rfl,tO (.own 12 9 out'.length),by kernel_rfl,frE (c:=AZ.c) (xs:=out') (by rw [<- hF1];first | (simp only [HQ,h2,cond_true,cond_false] <;> rfl)) kr⟩
def EK (l:(List Ar)) (at_:AB) (drill:Int) (from_:Int) (to_:Int):(List Ar):=l++[Ar.mk (B9 at_ (W64 (Int.tdiv drill 2))) from_ to_ true]
abbrev MF (at_:AB) (drill:Int):=B9 at_ (W64 (Int.tdiv drill 2))
theorem Wl (l:(List Ar)) (at_:AB) (drill:Int) (from_:Int) (to_:Int) (hl:l.length<30000000):WrA Tryz.prog 60 [.agg (AB.c at_),.one (.i drill),.one (.i from_),.one (.i to_)] 6 l.length (AP Ar.c l) 70 53 (EK l at_ drill from_ to_).length (AP Ar.c (EK l at_ drill from_ to_)):=by
 refine VG Tryz.func60 rfl kr kr fun W0 M0 X hX => ?_
 refine AC<|rn ⟨[(1,tI drill),(2,tI from_),(3,tI to_),(4,tP 1000 0),(5,tP 5 0)],[(5,.cells (AB.c at_) 66),(1000,.cells [.own 1001 6 l.length] 53),(1001,.row 6 l.length (AP Ar.c l) 70)]⟩ ?_
 refine dw [] [(13,Eh at_ (W64 (Int.tdiv drill 2)))] [(2:Int)≠0,Ak (Eh at_ (W64 (Int.tdiv drill 2))).2.1,l.length=l.length,l.length+1<=maxLen,(l.length+1)*64<=140737488355328] ⟨[],[(18,.row 6 (l.length+1) (fun i_ j_=>if i_<l.length then (AP Ar.c l) i_ j_ else (Ay 6 1 [.i (MF at_ drill).Kind,lst 7 AG.c (MF at_ drill).Edges,.i (MF at_ drill).R,.i from_,.i to_,.b true]) (i_-l.length) j_) 70),(1000,.cells [.own 18 6 (l.length+1)] 53)]⟩ (.cons (Jw at_ (W64 (Int.tdiv drill 2))) .nil) (.cons au15 (.cons rfl (.cons rfl (.cons au3 (.cons au3 .nil))))) ?_
 exact ⟨_,Cv.trans (BT (⟨[],[(18,.row 6 (l++[Ar.mk (MF at_ drill) from_ to_ true]).length (AP Ar.c (l++[Ar.mk (MF at_ drill) from_ to_ true])) 70),(1000,.cells [.own 18 6 (l++[Ar.mk (MF at_ drill) from_ to_ true]).length] 53)]⟩) .nil (.cons ⟨rfl,Ap 70 (BZ (BM 6 Ar.c l) (Aw (c:=Ar.c) (xs:=([Ar.mk (B9 at_ (W64 (Int.tdiv drill 2))) from_ to_ true]:List Ar)) rfl kr))⟩ (.cons ⟨rfl,.cells _ (.cons (.own _ _ au2) .nil)⟩ .nil))) (Cv.refl _),.inr rfl,.tup [],by kernel_rfl,18,.row 6 (l++[Ar.mk (B9 at_ (W64 (Int.tdiv drill 2))) from_ to_ true]).length (AP Ar.c (l++[Ar.mk (B9 at_ (W64 (Int.tdiv drill 2))) from_ to_ true])) 70,by kernel_rfl,by kernel_rfl,by kernel_rfl,Dh (by rfl)⟩
theorem Ni (l:List Ar) (a:AB) (x f t:Int):(EK l a x f t).length=l.length+1:=by unfold EK;rw [List.length_append];rfl
theorem IX (c:Bool) (l:List Ar) (a:AB) (x f t:Int):((bif c then EK l a x f t else l).length:Int)<=(l.length:Int)+1:=by
 cases c with
 | true=>rw [cond_true,Ni];omega
 | false=>rw [cond_false];omega
theorem Jv (l:List Ar) (a:AB) (x f t:Int):((EK l a x f t).length:Int)<=(l.length:Int)+1:=by rw [Ni];omega
def IA (b:AF) (types:(List AM)) (v5_0:List Ar) (v21:Int) (K0:List Ar->Int->(List Ar)):Nat->List Ar->Int->(List Ar)
 | 0,_,_=>default
 | n1+1,v5_0',v35=>bif decide ((v35:Int)<((Bt types ((BG b).getD v21.toNat default).Type').1.Pads.length:Int)) then ((IA b types v5_0 v21 K0 n1) (bif !decide ((((Bt types ((BG b).getD v21.toNat default).Type').1.Pads.getD v35.toNat default).Drill:Int)=0) then (EK v5_0' (Aa (Cc ((BG b).getD v21.toNat default)) ((Bt types ((BG b).getD v21.toNat default).Type').1.Pads.getD v35.toNat default).At) ((Bt types ((BG b).getD v21.toNat default).Type').1.Pads.getD v35.toNat default).Drill 1 b.Layers) else v5_0') (v35+1)) else (K0 v5_0' (v21+1))
def H9 (b:AF) (types:(List AM)) (v5_0:List Ar) (v21:Int) (v5_0':List Ar) (v58:Int) (K0:List Ar->Int->(List Ar)) (K1:List Ar->Int->(List Ar)):Nat->List Ar->Int->(List Ar)
 | 0,_,_=>default
 | n3+1,v5_0'',v76=>bif decide ((v76:Int)<(((CK b).length:Nat):Int)) then ((H9 b types v5_0 v21 v5_0' v58 K0 K1 n3) (v5_0''++[Ar.mk (Dq ((CK b).getD v76.toNat default).Shape) 1 b.Layers false]) (v76+1)) else v5_0''
def Fp (b:AF) (types:(List AM)) (v5_0:List Ar) (v21:Int) (K0:List Ar->Int->(List Ar)):Nat->List Ar->Int->(List Ar)
 | 0,_,_=>default
 | n2+1,v5_0',v58=>bif decide ((v58:Int)<(((A7 b).length:Nat):Int)) then ((Fp b types v5_0 v21 K0 n2) (EK v5_0' ((A7 b).getD v58.toNat default).At ((A7 b).getD v58.toNat default).Drill ((A7 b).getD v58.toNat default).From ((A7 b).getD v58.toNat default).To) (v58+1)) else (H9 b types v5_0 v21 v5_0' v58 K0 (Fp b types v5_0 v21 K0 n2) (((((CK b).length:Nat):Int)-0).toNat+1) v5_0' 0)
def EF (b:AF) (types:(List AM)):Nat->List Ar->Int->(List Ar)
 | 0,_,_=>default
 | n0+1,v5_0,v21=>bif decide ((v21:Int)<(((BG b).length:Nat):Int)) then (IA b types v5_0 v21 (EF b types n0) ((((Bt types ((BG b).getD v21.toNat default).Type').1.Pads.length:Int)-0).toNat+1) v5_0 0) else (Fp b types v5_0 v21 (EF b types n0) (((((A7 b).length:Nat):Int)-0).toNat+1) v5_0 0)
def FG (b:AF) (types:(List AM)):(List Ar):=EF b types (((((BG b).length:Nat):Int)-0).toNat+1) ([]:List Ar) 0
abbrev Nq (v5_0':List Ar) (b:AF) (v21:Int) (types:List AM) (v35:Int):=EK v5_0' (Aa (Cc ((BG b).getD v21.toNat default)) ((Bt types ((BG b).getD v21.toNat default).Type').1.Pads.getD v35.toNat default).At) ((Bt types ((BG b).getD v21.toNat default).Type').1.Pads.getD v35.toNat default).Drill 1 b.Layers
abbrev GO (types:List AM) (b:AF) (v21:Int):=Bt types ((BG b).getD v21.toNat default).Type'
abbrev VB (v5_0':List Ar) (b:AF) (v58:Int):=EK v5_0' ((A7 b).getD v58.toNat default).At ((A7 b).getD v58.toNat default).Drill ((A7 b).getD v58.toNat default).From ((A7 b).getD v58.toNat default).To
abbrev Me (b:AF):Nat×Blk:=(56,.row 8 (A7 b).length (AP As.c (A7 b)) 154)
abbrev ZR (b:AF) (v5_0':List Ar) (v58:Int):List (Nat×Blk):=[(2,.cells (AF.c b) 41),(5,.cells [.own 100000 6 (VB v5_0' b v58).length] 53),(Me b),(100000,.row 6 (VB v5_0' b v58).length (AP Ar.c (VB v5_0' b v58)) 70)]
abbrev Dk:Nat×Tv:=(6,tO (.clo 60 1 (A6 [.ptr 5 0])))
abbrev Y7:Cl:=.clo 60 1 (A6 [.ptr 5 0])
abbrev E4 (b:AF):Nat×Blk:=(19,.row 7 (BG b).length (AP AE.c (BG b)) 160)
abbrev E3 (b:AF):Nat×Tv:=(20,tI (((BG b).length:Nat):Int))
abbrev E1 (b:AF):Nat×Tv:=(19,tO (.own 19 7 (BG b).length))
abbrev Hk (b:AF) (v21:Int):Nat×Blk:=(8,.cells (AE.c ((BG b).getD v21.toNat default)) 160)
abbrev RR (b:AF) (v76:Int):=Dq ((CK b).getD v76.toNat default).Shape
abbrev LI (v5_0'':List Ar) (b:AF) (v76:Int):=v5_0''++[Ar.mk (RR b v76) 1 b.Layers false]
abbrev Ha (v5_0':List Ar):Nat×Blk:=(100000,.row 6 v5_0'.length (AP Ar.c v5_0') 70)
abbrev Zb (b:AF) (v58:Int):List (Nat×Tv):=[(2,tP 2 0),(5,tP 5 0),Dk,(56,tO (.own 56 8 (A7 b).length)),(57,tI (((A7 b).length:Nat):Int)),(58,tI v58),(62,tO Y7),(64,.av (.agg (AB.c ((A7 b).getD v58.toNat default).At))),(66,tI ((A7 b).getD v58.toNat default).Drill),(68,tI ((A7 b).getD v58.toNat default).From),(70,tI ((A7 b).getD v58.toNat default).To)]
abbrev JW (b:AF):Nat×Blk:=(74,.row 4 (CK b).length (AP Am.c (CK b)) 165)
abbrev HX (v5_0':List Ar):Nat×Blk:=(5,.cells [.own 100000 6 v5_0'.length] 53)
abbrev Gr (types:List AM) (b:AF) (v21:Int):Nat×Tv:=(34,tI ((GO types b v21).1.Pads.length:Int))
abbrev Gq (types:List AM) (b:AF) (v21:Int):Nat×Tv:=(33,tO (lst 7 BF.c (GO types b v21).1.Pads))
abbrev Mf (b:AF):Nat×Tv:=(57,tI (((A7 b).length:Nat):Int))
abbrev JQ (b:AF):Nat×Tv:=(75,tI (((CK b).length:Nat):Int))
abbrev Ma (b:AF):Nat×Tv:=(56,tO (.own 56 8 (A7 b).length))
abbrev JP (b:AF):Nat×Tv:=(74,tO (.own 74 4 (CK b).length))
abbrev OX (v5_0:List Ar):Nat×Blk:=(100000,.row 6 v5_0.length (AP Ar.c v5_0) 70)
abbrev OU (v5_0:List Ar):Nat×Blk:=(5,.cells [.own 100000 6 v5_0.length] 53)
abbrev ZD:Nat×Blk:=(100000,.row 6 ([]:List Ar).length (AP Ar.c ([]:List Ar)) 70)
theorem qQ (b:AF) (types:(List AM)) (hb:MC b) (ht:Ck types):Fr Tryz.prog 17 [.agg (AF.c b),.one (lst 3 AM.c types)] (.row 6 (FG b types).length (AP Ar.c (FG b types)) 70) (fun d=>tO (.own d 6 (FG b types).length)):=by
 refine EC Tryz.func17 rfl kr (Ek _ _) fun W0 M0 => ?_
 have ht1:=WT b
 have hv1:=NH b
 have hs1:=WS b
 have hb1:=hb.parts
 have hb2:=hb.vias
 have hb3:=hb.slots
 refine AC<|rn ⟨[(BI types),(2,tP 2 0)],[(CE b)]⟩<|AC ?_
 refine rn ⟨[(BI types),(2,tP 2 0),(5,tP 5 0)],[(CE b),(5,.cells [vN] 53)]⟩<|AC ?_
 refine rn ⟨[(BI types),(2,tP 2 0),(5,tP 5 0),Dk],[(CE b),(5,.cells [vN] 53)]⟩ ?_
 refine AC<|AC ?_
 refine rc [(19,PZ b)] [Ak (PZ b).2.1] ⟨[(BI types),(2,tP 2 0),(5,tP 5 0),Dk,(E1 b),(E3 b),(21,tI 0)],[(CE b),(5,.cells [vN] 53),(E4 b)]⟩ (.cons (gL b au14) .nil) (.cons rfl .nil)<|AJ<|AY ?_
 refine Ba (Cv.trans (Ca (⟨[(BI types),(2,tP 2 0),(5,tP 5 0),Dk,(E1 b),(E3 b),(21,tI 0)],[(100000,.row 6 0 (fun _ _=>default) 70),(CE b),(5,.cells [.own 100000 6 0] 53),(E4 b)]⟩) 100000 6 (fun _ _=>default) 70 [] [(5,[0])] (K:=[]) (fun k x h=>by cases h) rfl kr kr) (Cv.trans (BT (⟨[(BI types),(2,tP 2 0),(5,tP 5 0),Dk,(E1 b),(E3 b),(21,tI 0)],[ZD,(CE b),(5,.cells [.own 100000 6 ([]:List Ar).length] 53),(E4 b)]⟩) lr (.cons ⟨rfl,Ap 70 (CZ 6 (fun _ _=>default) Ar.c)⟩ (.cons ⟨rfl,.refl _⟩ (.cons ⟨rfl,.cells _ (.cons (.own _ _ au2) .nil)⟩ lr)))) (Cv.trans (BD [1,2,5,6,19,20,21] [2,5,19,100000] (⟨[(BI types),(2,tP 2 0),(5,tP 5 0),Dk,(E1 b),(E3 b),(21,tI 0)],[(CE b),(5,.cells [.own 100000 6 ([]:List Ar).length] 53),(E4 b),ZD]⟩) kr) (Cv.refl _)))) ?_
 refine BS (ι:=Nat×List Ar×Int) (fun x=>⟨[(BI types),(2,tP 2 0),(5,tP 5 0),Dk,(E1 b),(E3 b),(21,tI x.2.2)],[(CE b),(5,.cells [.own 100000 6 x.2.1.length] 53),(E4 b),(100000,.row 6 x.2.1.length (AP Ar.c x.2.1) 70)]⟩) (fun x=>((((BG b).length:Nat):Int)-x.2.2).toNat<x.1/\((x.2.1.length:Int)<=1000000*x.2.2/\0<=x.2.2/\(x.2.2<=(((BG b).length:Nat):Int)\/x.2.2=0))/\EF b types x.1 x.2.1 x.2.2=FG b types) (fun x=>x.1) ?_ (((((BG b).length:Nat):Int)-0).toNat+1,([]:List Ar),0) ⟨Nat.lt_succ_self _,⟨ax0,ax0,ax0⟩,(by simp only [FG,cond_true,cond_false])⟩
 rintro ⟨n0,v5_0,v21⟩ ⟨hn,hinv,hF⟩
 have hm0:=hn;have hinv0:=hinv;have hF0:=hF;try dsimp only at hm0 hinv0 hF0
 clear hn hinv hF
 cases n0 with
 | zero=>exact absurd hm0 (Nat.not_lt_zero _)
 | succ n0 =>
  refine AC<|rn ⟨[(BI types),(2,tP 2 0),(5,tP 5 0),Dk,(E1 b),(E3 b),(21,tI v21),(22,tB (decide ((v21:Int)<(((BG b).length:Nat):Int))))],[(CE b),(OU v5_0),(E4 b),(OX v5_0)]⟩<|AC ?_
  refine Ab _ rfl (fun h1 => ?_) (fun h1 => ?_)
  ·have g1:=oT h1
   refine Af<|AJ ?_
   refine AC<|AY<|AC ?_
   refine rc [] [0<=(v21:Int)/\(v21:Int)<(((BG b).length:Nat):Int),v21.toNat<(BG b).length] ⟨[(BI types),(2,tP 2 0),(5,tP 5 0),Dk,(8,tP 8 0),(E1 b),(E3 b),(21,tI v21)],[(CE b),(OU v5_0),(Hk b v21),(E4 b),(OX v5_0)]⟩ .nil (.cons au0 (.cons au0 .nil))<|AJ<|AC ?_
   refine rc [(29,P5 types ((BG b).getD v21.toNat default).Type')] [Ak (P5 types ((BG b).getD v21.toNat default).Type').2.1] ⟨[(BI types),(2,tP 2 0),(5,tP 5 0),Dk,(8,tP 8 0),(9,tP 9 0),(E1 b),(E3 b),(21,tI v21)],[(CE b),(OU v5_0),(Hk b v21),(9,.cells (AM.c (GO types b v21).1) 82),(E4 b),(OX v5_0)]⟩ (.cons (aO types ((BG b).getD v21.toNat default).Type' au14) .nil) (.cons rfl .nil)<|AJ<|AC ?_
   refine rn ⟨[(BI types),(2,tP 2 0),(5,tP 5 0),Dk,(8,tP 8 0),(E1 b),(E3 b),(21,tI v21),(Gq types b v21),(Gr types b v21),(35,tI 0)],[(CE b),(OU v5_0),(Hk b v21),(E4 b),(OX v5_0)]⟩<|AY ?_
   refine BS (ι:=Nat×List Ar×Int) (fun x=>⟨[(BI types),(2,tP 2 0),(5,tP 5 0),Dk,(8,tP 8 0),(E1 b),(E3 b),(21,tI v21),(Gq types b v21),(Gr types b v21),(35,tI x.2.2)],[(CE b),(5,.cells [.own 100000 6 x.2.1.length] 53),(Hk b v21),(E4 b),(100000,.row 6 x.2.1.length (AP Ar.c x.2.1) 70)]⟩) (fun x=>(((Bt types ((BG b).getD v21.toNat default).Type').1.Pads.length:Int)-x.2.2).toNat<x.1/\((x.2.1.length:Int)<=1000000*v21+x.2.2/\0<=x.2.2/\(x.2.2<=((Bt types ((BG b).getD v21.toNat default).Type').1.Pads.length:Int)\/x.2.2=0))/\IA b types v5_0 v21 (EF b types n0) x.1 x.2.1 x.2.2=FG b types) (fun x=>x.1) ?_ ((((Bt types ((BG b).getD v21.toNat default).Type').1.Pads.length:Int)-0).toNat+1,v5_0,0) ⟨Nat.lt_succ_self _,⟨ax0,ax0,ax0⟩,(by rw [<- hF0];simp only [EF,h1,cond_true,cond_false])⟩
   rintro ⟨n1,v5_0',v35⟩ ⟨hn,hinv,hF⟩
   have hm1:=hn;have hinv1:=hinv;have hF1:=hF;try dsimp only at hm1 hinv1 hF1
   clear hn hinv hF
   cases n1 with
   | zero=>exact absurd hm1 (Nat.not_lt_zero _)
   | succ n1 =>
    have hpp:=P2 ht ((BG b).getD v21.toNat default).Type'
    refine AC<|rn ⟨[(BI types),(2,tP 2 0),(5,tP 5 0),Dk,(8,tP 8 0),(E1 b),(E3 b),(21,tI v21),(Gq types b v21),(Gr types b v21),(35,tI v35),(36,tB (decide ((v35:Int)<((Bt types ((BG b).getD v21.toNat default).Type').1.Pads.length:Int))))],[(CE b),(HX v5_0'),(Hk b v21),(E4 b),(Ha v5_0')]⟩<|AC ?_
    refine Ab _ rfl (fun h2 => ?_) (fun h2 => ?_)
    ·have g2:=oT h2
     refine Af<|AJ<|AC ?_
     refine Bu (⟨[(BI types),(2,tP 2 0),(5,tP 5 0),Dk,(8,tP 8 0),(E1 b),(E3 b),(21,tI v21),(Gq types b v21),(Gr types b v21),(35,tI v35)],[(CE b),(5,.cells [.own 100000 6 (bif !decide ((((GO types b v21).1.Pads.getD v35.toNat default).Drill:Int)=0) then (Nq v5_0' b v21 types v35) else v5_0').length] 53),(Hk b v21),(E4 b),(100000,.row 6 (bif !decide ((((GO types b v21).1.Pads.getD v35.toNat default).Drill:Int)=0) then (Nq v5_0' b v21 types v35) else v5_0').length (AP Ar.c (bif !decide ((((GO types b v21).1.Pads.getD v35.toNat default).Drill:Int)=0) then (Nq v5_0' b v21 types v35) else v5_0')) 70)]⟩) ?_ ?_
     ·refine AY<|AC ?_
      refine rc [] [0<=(v35:Int)/\(v35:Int)<(((Bt types ((BG b).getD v21.toNat default).Type').1.Pads.length:Nat):Int)] ⟨[(BI types),(2,tP 2 0),(5,tP 5 0),Dk,(8,tP 8 0),(12,tP 12 0),(E1 b),(E3 b),(21,tI v21),(Gq types b v21),(Gr types b v21),(35,tI v35)],[(CE b),(HX v5_0'),(Hk b v21),(12,.cells (BF.c ((GO types b v21).1.Pads.getD v35.toNat default)) 102),(E4 b),(Ha v5_0')]⟩ .nil (.cons au0 .nil)<|AJ<|AC ?_
      refine rn ⟨[(BI types),(2,tP 2 0),(5,tP 5 0),Dk,(8,tP 8 0),(12,tP 12 0),(E1 b),(E3 b),(21,tI v21),(Gq types b v21),(Gr types b v21),(35,tI v35),(41,tB (!decide ((((Bt types ((BG b).getD v21.toNat default).Type').1.Pads.getD v35.toNat default).Drill:Int)=0)))],[(CE b),(HX v5_0'),(Hk b v21),(12,.cells (BF.c ((GO types b v21).1.Pads.getD v35.toNat default)) 102),(E4 b),(Ha v5_0')]⟩ ?_
      refine Ab (!decide ((((Bt types ((BG b).getD v21.toNat default).Type').1.Pads.getD v35.toNat default).Drill:Int)=0)) kr (fun h3 => ?_) (fun h3 => ?_)
      ·have g3:=CF h3
       refine So (q:=5) (r:=100000) Tm C4 10 rfl kr [] [] [(44,HK ((BG b).getD v21.toNat default)),(47,Bp (Cc ((BG b).getD v21.toNat default)) ((GO types b v21).1.Pads.getD v35.toNat default).At)] [1,2,5,6,8,19,20,21,33,34,35,42,47,49,51] [2,5,8,19,100000] [Ak (HK ((BG b).getD v21.toNat default)).2.1,Ak (Bp (Cc ((BG b).getD v21.toNat default)) ((Bt types ((BG b).getD v21.toNat default).Type').1.Pads.getD v35.toNat default).At).2.1] ⟨[(BI types),(2,tP 2 0),(5,tP 5 0),Dk,(8,tP 8 0),(E1 b),(E3 b),(21,tI v21),(Gq types b v21),(Gr types b v21),(35,tI v35),(42,tO Y7),(47,.av (.agg (AB.c (Aa (Cc ((BG b).getD v21.toNat default)) ((GO types b v21).1.Pads.getD v35.toNat default).At)))),(49,tI ((GO types b v21).1.Pads.getD v35.toNat default).Drill),(51,tI b.Layers)],[(CE b),(HX v5_0'),(Hk b v21),(E4 b),(Ha v5_0')]⟩ ⟨[(BI types),(2,tP 2 0),(5,tP 5 0),Dk,(8,tP 8 0),(E1 b),(E3 b),(21,tI v21),(Gq types b v21),(Gr types b v21),(35,tI v35),(42,tO Y7),(47,.av (.agg (AB.c (Aa (Cc ((BG b).getD v21.toNat default)) ((GO types b v21).1.Pads.getD v35.toNat default).At)))),(49,tI ((GO types b v21).1.Pads.getD v35.toNat default).Drill),(51,tI b.Layers)],[(CE b),(5,.cells [.own 100000 6 (Nq v5_0' b v21 types v35).length] 53),(Hk b v21),(E4 b),(100000,.row 6 (Nq v5_0' b v21 types v35).length (AP Ar.c (Nq v5_0' b v21 types v35)) 70)]⟩ (.cons (Tc ((BG b).getD v21.toNat default)) (.cons (Dd (Cc ((BG b).getD v21.toNat default)) ((Bt types ((BG b).getD v21.toNat default).Type').1.Pads.getD v35.toNat default).At) .nil)) kr kr (.cons rfl (.cons rfl .nil)) kr (K:=[]) (fun k x h=>by cases h) kr ⟨⟨_,_,60,1,A6 [.ptr 5 0],[.agg (AB.c (Aa (Cc ((BG b).getD v21.toNat default)) ((Bt types ((BG b).getD v21.toNat default).Type').1.Pads.getD v35.toNat default).At)),.one (.i ((Bt types ((BG b).getD v21.toNat default).Type').1.Pads.getD v35.toNat default).Drill),.one (.i 1),.one (.i b.Layers)],rfl,rfl,by kernel_rfl,rfl,by kernel_rfl,by kernel_rfl,fun _ _=>by kernel_rfl,Wl v5_0' (Aa (Cc ((BG b).getD v21.toNat default)) ((Bt types ((BG b).getD v21.toNat default).Type').1.Pads.getD v35.toNat default).At) ((Bt types ((BG b).getD v21.toNat default).Type').1.Pads.getD v35.toNat default).Drill 1 b.Layers au14⟩,rfl,by kernel_rfl,by kernel_rfl,by kernel_rfl⟩ kr<|Be<|AJ ?_
       refine Cv.trans (BD [1,2,5,6,8,19,20,21,33,34,35] [2,5,8,19,100000] (⟨[(BI types),(2,tP 2 0),(5,tP 5 0),Dk,(8,tP 8 0),(E1 b),(E3 b),(21,tI v21),(Gq types b v21),(Gr types b v21),(35,tI v35)],[(CE b),(5,.cells [.own 100000 6 (Nq v5_0' b v21 types v35).length] 53),(Hk b v21),(E4 b),(100000,.row 6 (Nq v5_0' b v21 types v35).length (AP Ar.c (Nq v5_0' b v21 types v35)) 70)]⟩) kr) (BB ?_)
       first | rfl | (simp only [h3,cond_true,cond_false] <;> rfl)
      ·have g3:=B6 h3
       refine Af<|Be<|AJ ?_
       refine Cv.trans (BD [1,2,5,6,8,19,20,21,33,34,35] [2,5,8,19,100000] (⟨[(BI types),(2,tP 2 0),(5,tP 5 0),Dk,(8,tP 8 0),(E1 b),(E3 b),(21,tI v21),(Gq types b v21),(Gr types b v21),(35,tI v35)],[(CE b),(HX v5_0'),(Hk b v21),(E4 b),(Ha v5_0')]⟩) kr) (BB ?_)
       first | rfl | (simp only [h3,cond_true,cond_false] <;> rfl)
     refine rg ⟨[(BI types),(2,tP 2 0),(5,tP 5 0),Dk,(8,tP 8 0),(E1 b),(E3 b),(21,tI v21),(Gq types b v21),(Gr types b v21),(35,tI (W64 (v35+1)))],[(CE b),(5,.cells [.own 100000 6 (bif !decide ((((GO types b v21).1.Pads.getD v35.toNat default).Drill:Int)=0) then (Nq v5_0' b v21 types v35) else v5_0').length] 53),(Hk b v21),(E4 b),(100000,.row 6 (bif !decide ((((GO types b v21).1.Pads.getD v35.toNat default).Drill:Int)=0) then (Nq v5_0' b v21 types v35) else v5_0').length (AP Ar.c (bif !decide ((((GO types b v21).1.Pads.getD v35.toNat default).Drill:Int)=0) then (Nq v5_0' b v21 types v35) else v5_0')) 70)]⟩ ?_
     (try rw [(show W64 (v35+1)=v35+1 from An (by omega) au6)])
     refine AJ ?_
     refine ⟨(n1,bif !decide ((((Bt types ((BG b).getD v21.toNat default).Type').1.Pads.getD v35.toNat default).Drill:Int)=0) then (EK v5_0' (Aa (Cc ((BG b).getD v21.toNat default)) ((Bt types ((BG b).getD v21.toNat default).Type').1.Pads.getD v35.toNat default).At) ((Bt types ((BG b).getD v21.toNat default).Type').1.Pads.getD v35.toNat default).Drill 1 b.Layers) else v5_0',v35+1),⟨?_,?_,(by rw [<- hF1];simp only [IA,h2,cond_true,cond_false])⟩,Nat.lt_succ_self _,BB kr⟩
     ·show (((Bt types ((BG b).getD v21.toNat default).Type').1.Pads.length:Int)-(v35+1)).toNat<n1;omega
     ·exact (by show ((bif !decide ((((Bt types ((BG b).getD v21.toNat default).Type').1.Pads.getD v35.toNat default).Drill:Int)=0) then (EK v5_0' (Aa (Cc ((BG b).getD v21.toNat default)) ((Bt types ((BG b).getD v21.toNat default).Type').1.Pads.getD v35.toNat default).At) ((Bt types ((BG b).getD v21.toNat default).Type').1.Pads.getD v35.toNat default).Drill 1 b.Layers) else v5_0').length:Int)<=1000000*v21+(v35+1)/\0<=(v35+1)/\((v35+1)<=((Bt types ((BG b).getD v21.toNat default).Type').1.Pads.length:Int)\/(v35+1)=0);(first | (refine ⟨?_,by omega,by omega⟩) | skip);first | omega | (refine Int.le_trans (IX _ _ _ _ _ _) ?_;omega) | (refine Int.le_trans (Jv _ _ _ _ _) ?_;omega) | exact at0)
    ·have g2:=oF h2
     refine BV<|BE ?_
     refine BE<|BW ?_
     refine Be<|AJ ?_
     refine rg ⟨[(BI types),(2,tP 2 0),(5,tP 5 0),Dk,(E1 b),(E3 b),(21,tI (W64 (v21+1)))],[(CE b),(HX v5_0'),(E4 b),(Ha v5_0')]⟩ ?_
     (try rw [(show W64 (v21+1)=v21+1 from An (by omega) au6)])
     refine AJ ?_
     refine ⟨(n0,v5_0',v21+1),⟨?_,?_,(by rw [<- hF1];simp only [IA,h2,cond_true,cond_false])⟩,Nat.lt_succ_self _,BB kr⟩
     ·show ((((BG b).length:Nat):Int)-(v21+1)).toNat<n0;omega
     ·exact (by show (v5_0'.length:Int)<=1000000*(v21+1)/\0<=(v21+1)/\((v21+1)<=(((BG b).length:Nat):Int)\/(v21+1)=0);(first | (refine ⟨?_,by omega,by omega⟩) | skip);first | omega | (refine Int.le_trans (IX _ _ _ _ _ _) ?_;omega) | (refine Int.le_trans (Jv _ _ _ _ _) ?_;omega) | exact at0)
  ·have g1:=oF h1
   refine BV<|BE ?_
   refine BE<|BW ?_
   refine AJ<|AC<|AC ?_
   refine rc [(56,PU b)] [Ak (PU b).2.1] ⟨[(2,tP 2 0),(5,tP 5 0),Dk,(Ma b),(Mf b),(58,tI 0)],[(CE b),(OU v5_0),(Me b),(OX v5_0)]⟩ (.cons (aF b au14) .nil) (.cons rfl .nil)<|AJ<|AY ?_
   refine BS (ι:=Nat×List Ar×Int) (fun x=>⟨[(2,tP 2 0),(5,tP 5 0),Dk,(Ma b),(Mf b),(58,tI x.2.2)],[(CE b),(5,.cells [.own 100000 6 x.2.1.length] 53),(Me b),(100000,.row 6 x.2.1.length (AP Ar.c x.2.1) 70)]⟩) (fun x=>((((A7 b).length:Nat):Int)-x.2.2).toNat<x.1/\((x.2.1.length:Int)<=20000000+x.2.2/\0<=x.2.2/\(x.2.2<=(((A7 b).length:Nat):Int)\/x.2.2=0))/\Fp b types v5_0 v21 (EF b types n0) x.1 x.2.1 x.2.2=FG b types) (fun x=>x.1) ?_ (((((A7 b).length:Nat):Int)-0).toNat+1,v5_0,0) ⟨Nat.lt_succ_self _,⟨ax0,ax0,ax0⟩,(by rw [<- hF0];simp only [EF,h1,cond_true,cond_false])⟩
   rintro ⟨n2,v5_0',v58⟩ ⟨hn,hinv,hF⟩
   have hm2:=hn;have hinv2:=hinv;have hF2:=hF;try dsimp only at hm2 hinv2 hF2
   clear hn hinv hF
   cases n2 with
   | zero=>exact absurd hm2 (Nat.not_lt_zero _)
   | succ n2 =>
    refine AC<|rn ⟨[(2,tP 2 0),(5,tP 5 0),Dk,(Ma b),(Mf b),(58,tI v58),(59,tB (decide ((v58:Int)<(((A7 b).length:Nat):Int))))],[(CE b),(HX v5_0'),(Me b),(Ha v5_0')]⟩<|AC ?_
    refine Ab _ rfl (fun h2 => ?_) (fun h2 => ?_)
    ·have g2:=oT h2
     refine Af<|AJ ?_
     refine AC<|AY<|AC ?_
     refine rc [] [0<=(v58:Int)/\(v58:Int)<(((A7 b).length:Nat):Int),v58.toNat<(A7 b).length] ⟨[(2,tP 2 0),(5,tP 5 0),Dk,(14,tP 14 0),(Ma b),(Mf b),(58,tI v58)],[(CE b),(HX v5_0'),(14,.cells (As.c ((A7 b).getD v58.toNat default)) 154),(Me b),(Ha v5_0')]⟩ .nil (.cons au0 (.cons au0 .nil))<|AJ ?_
     refine EU ?_
     refine HM C4 9 [] [] [] [2,5,6,56,57,58,62,64,66,68,70] [2,5,56,100000] [] ⟨(Zb b v58),[(CE b),(HX v5_0'),(Me b),(Ha v5_0')]⟩ .nil kr .nil ?_
     refine Yl (q:=5) (r:=100000) (⟨(Zb b v58),(ZR b v5_0' v58)⟩) (K:=[]) (fun k x h=>by cases h) kr ⟨⟨_,_,60,1,A6 [.ptr 5 0],[.agg (AB.c ((A7 b).getD v58.toNat default).At),.one (.i ((A7 b).getD v58.toNat default).Drill),.one (.i ((A7 b).getD v58.toNat default).From),.one (.i ((A7 b).getD v58.toNat default).To)],rfl,rfl,by kernel_rfl,rfl,by kernel_rfl,by kernel_rfl,fun _ _=>by kernel_rfl,Wl v5_0' ((A7 b).getD v58.toNat default).At ((A7 b).getD v58.toNat default).Drill ((A7 b).getD v58.toNat default).From ((A7 b).getD v58.toNat default).To au14⟩,rfl,by kernel_rfl,by kernel_rfl,by kernel_rfl⟩ kr ?_
     refine F6 C4 [] [] [] [2,5,6,56,57,58] [2,5,56,100000] [] ⟨[(2,tP 2 0),(5,tP 5 0),Dk,(Ma b),(Mf b),(58,tI v58)],(ZR b v5_0' v58)⟩ .nil kr .nil<|Be<|AJ ?_
     refine rg ⟨[(2,tP 2 0),(5,tP 5 0),Dk,(Ma b),(Mf b),(58,tI (W64 (v58+1)))],(ZR b v5_0' v58)⟩ ?_
     (try rw [(show W64 (v58+1)=v58+1 from An (by omega) au6)])
     refine AJ ?_
     refine ⟨(n2,EK v5_0' ((A7 b).getD v58.toNat default).At ((A7 b).getD v58.toNat default).Drill ((A7 b).getD v58.toNat default).From ((A7 b).getD v58.toNat default).To,v58+1),⟨?_,?_,(by rw [<- hF2];simp only [Fp,h2,cond_true,cond_false])⟩,Nat.lt_succ_self _,BB kr⟩
     ·show ((((A7 b).length:Nat):Int)-(v58+1)).toNat<n2;omega
     ·exact (by show ((EK v5_0' ((A7 b).getD v58.toNat default).At ((A7 b).getD v58.toNat default).Drill ((A7 b).getD v58.toNat default).From ((A7 b).getD v58.toNat default).To).length:Int)<=20000000+(v58+1)/\0<=(v58+1)/\((v58+1)<=(((A7 b).length:Nat):Int)\/(v58+1)=0);(first | (refine ⟨?_,by omega,by omega⟩) | skip);first | omega | (refine Int.le_trans (IX _ _ _ _ _ _) ?_;omega) | (refine Int.le_trans (Jv _ _ _ _ _) ?_;omega) | exact at0)
    ·have g2:=oF h2
     refine BV<|BE ?_
     refine BE<|BW ?_
     refine AJ<|AC<|AC ?_
     refine rc [(74,PY b)] [Ak (PY b).2.1] ⟨[(2,tP 2 0),(5,tP 5 0),(JP b),(JQ b),(76,tI 0)],[(CE b),(HX v5_0'),(JW b),(Ha v5_0')]⟩ (.cons (gK b au14) .nil) (.cons rfl .nil)<|AJ<|AY ?_
     refine BS (ι:=Nat×List Ar×Int) (fun x=>⟨[(2,tP 2 0),(5,tP 5 0),(JP b),(JQ b),(76,tI x.2.2)],[(CE b),(5,.cells [.own 100000 6 x.2.1.length] 53),(JW b),(100000,.row 6 x.2.1.length (AP Ar.c x.2.1) 70)]⟩) (fun x=>((((CK b).length:Nat):Int)-x.2.2).toNat<x.1/\((x.2.1.length:Int)<=20000020+x.2.2/\0<=x.2.2/\(x.2.2<=(((CK b).length:Nat):Int)\/x.2.2=0)/\(x.2.1.length:Int)<=(v5_0'.length:Int)+1*(x.2.2-0))/\H9 b types v5_0 v21 v5_0' v58 (EF b types n0) (Fp b types v5_0 v21 (EF b types n0) n2) x.1 x.2.1 x.2.2=FG b types) (fun x=>x.1) ?_ (((((CK b).length:Nat):Int)-0).toNat+1,v5_0',0) ⟨Nat.lt_succ_self _,⟨ax0,ax0,ax0,ax0⟩,(by rw [<- hF2];simp only [Fp,h2,cond_true,cond_false])⟩
     rintro ⟨n3,v5_0'',v76⟩ ⟨hn,hinv,hF⟩
     have hm3:=hn;have hinv3:=hinv;have hF3:=hF;try dsimp only at hm3 hinv3 hF3
     clear hn hinv hF
     cases n3 with
     | zero=>exact absurd hm3 (Nat.not_lt_zero _)
     | succ n3 =>
      refine AC<|rn ⟨[(2,tP 2 0),(5,tP 5 0),(JP b),(JQ b),(76,tI v76),(77,tB (decide ((v76:Int)<(((CK b).length:Nat):Int))))],[(CE b),(5,.cells [.own 100000 6 v5_0''.length] 53),(JW b),(100000,.row 6 v5_0''.length (AP Ar.c v5_0'') 70)]⟩<|AC ?_
      refine Ab _ rfl (fun h3 => ?_) (fun h3 => ?_)
      ·have g3:=oT h3
       refine Af<|AJ ?_
       refine AC<|AY<|AC ?_
       refine rc [] [0<=(v76:Int)/\(v76:Int)<(((CK b).length:Nat):Int),v76.toNat<(CK b).length] ⟨[(2,tP 2 0),(5,tP 5 0),(16,tP 16 0),(JP b),(JQ b),(76,tI v76)],[(CE b),(5,.cells [.own 100000 6 v5_0''.length] 53),(16,.cells (Am.c ((CK b).getD v76.toNat default)) 165),(JW b),(100000,.row 6 v5_0''.length (AP Ar.c v5_0'') 70)]⟩ .nil (.cons au0 (.cons au0 .nil))<|AJ ?_
       refine dw [] [(83,HJ ((CK b).getD v76.toNat default).Shape)] [Ak (HJ ((CK b).getD v76.toNat default).Shape).2.1,v5_0''.length=v5_0''.length,v5_0''.length+1<=maxLen,(v5_0''.length+1)*64<=140737488355328] ⟨[(2,tP 2 0),(5,tP 5 0),(JP b),(JQ b),(76,tI v76)],[(CE b),(5,.cells [.own 88 6 (v5_0''.length+1)] 53),(JW b),(88,.row 6 (v5_0''.length+1) (fun i_ j_=>if i_<v5_0''.length then (AP Ar.c v5_0'') i_ j_ else (Ay 6 1 [.i (RR b v76).Kind,lst 7 AG.c (RR b v76).Edges,.i (RR b v76).R,.i 1,.i b.Layers,.b false]) (i_-v5_0''.length) j_) 70)]⟩ (.cons (Ta ((CK b).getD v76.toNat default).Shape au14) .nil) (.cons rfl (.cons rfl (.cons au3 (.cons au3 .nil))))<|Be<|AJ ?_
       refine Ba (Cv.trans (BT (⟨[(2,tP 2 0),(5,tP 5 0),(JP b),(JQ b),(76,tI v76)],[(CE b),(5,.cells [.own 88 6 (LI v5_0'' b v76).length] 53),(JW b),(88,.row 6 (LI v5_0'' b v76).length (AP Ar.c (LI v5_0'' b v76)) 70)]⟩) lr (.cons ⟨rfl,.refl _⟩ (.cons ⟨rfl,.cells _ (.cons (.own _ _ au2) .nil)⟩ (.cons ⟨rfl,.refl _⟩ (.cons ⟨rfl,Ap 70 (BZ (BM 6 Ar.c v5_0'') (Aw (c:=Ar.c) (xs:=([Ar.mk (Dq ((CK b).getD v76.toNat default).Shape) 1 b.Layers false]:List Ar)) rfl kr))⟩ .nil))))) (Cv.refl _)) ?_
       refine rg ⟨[(2,tP 2 0),(5,tP 5 0),(JP b),(JQ b),(76,tI (W64 (v76+1)))],[(CE b),(5,.cells [.own 88 6 (LI v5_0'' b v76).length] 53),(JW b),(88,.row 6 (LI v5_0'' b v76).length (AP Ar.c (LI v5_0'' b v76)) 70)]⟩ ?_
       (try rw [(show W64 (v76+1)=v76+1 from An (by omega) au6)])
       refine AJ ?_
       refine ⟨(n3,v5_0''++[Ar.mk (Dq ((CK b).getD v76.toNat default).Shape) 1 b.Layers false],v76+1),⟨?_,?_,(by rw [<- hF3];simp only [H9,h3,cond_true,cond_false])⟩,Nat.lt_succ_self _,Cv.trans (BR (⟨[(2,tP 2 0),(5,tP 5 0),(JP b),(JQ b),(76,tI (v76+1))],[(CE b),(5,.cells [.own 100000 6 (LI v5_0'' b v76).length] 53),(JW b),(100000,.row 6 (LI v5_0'' b v76).length (AP Ar.c (LI v5_0'' b v76)) 70)]⟩) 88 100000 (K:=[]) (fun k x h=>by cases h) rfl rfl kr kr) (BB kr)⟩
       ·show ((((CK b).length:Nat):Int)-(v76+1)).toNat<n3;omega
       ·exact (by show ((v5_0''++[Ar.mk (Dq ((CK b).getD v76.toNat default).Shape) 1 b.Layers false]).length:Int)<=20000020+(v76+1)/\0<=(v76+1)/\((v76+1)<=(((CK b).length:Nat):Int)\/(v76+1)=0)/\((v5_0''++[Ar.mk (Dq ((CK b).getD v76.toNat default).Shape) 1 b.Layers false]).length:Int)<=(v5_0'.length:Int)+1*((v76+1)-0);(first | (refine ⟨?_,by omega,by omega⟩) | skip);first | omega | (refine Int.le_trans (IX _ _ _ _ _ _) ?_;omega) | (refine Int.le_trans (Jv _ _ _ _ _) ?_;omega) | exact at0)
      ·have g3:=oF h3
       refine BV<|BE ?_
       refine BE<|BW ?_
       refine AJ<|AC ?_
       refine rn ⟨[(4,tO (.own 100000 6 v5_0''.length))],[(100000,.row 6 v5_0''.length (AP Ar.c v5_0'') 70)]⟩<|Ag ?_
       exact ⟨_,Cv.refl _,.inl rfl,tO (.own 100000 6 v5_0''.length),by kernel_rfl,frE (c:=Ar.c) (xs:=v5_0'') (by rw [<- hF3];first | (simp only [H9,h3,cond_true,cond_false] <;> rfl)) kr⟩
end
section
open Go.RowKit
def lyP (l:List AZ) (layer:Int) (k:Nat):Bool:=bif decide ((l.getD k default).From<=layer) then decide (layer<=(l.getD k default).To) else false
def lyC (l:List AZ) (layer:Int) (k:Nat):Nat:=((List.range k).filter (lyP l layer)).length
def lyL (l:List AZ) (layer:Int):List Int:=((List.range l.length).filter (lyP l layer)).map Int.ofNat
theorem iM (l:List AZ) (layer:Int):(lyL l layer).length<=l.length:=by
 unfold lyL
 rw [List.length_map]
 exact Nat.le_trans (List.length_filter_le _ _) (by rw [List.length_range];exact Nat.le_refl _)
theorem iO (l:List AZ) (layer:Int):lyC l layer l.length=(lyL l layer).length:=by unfold lyC lyL;rw [List.length_map]
theorem bD (p:Nat->Bool) (k n:Nat) (h:k<n) (hp:p k=true):∃ r,(List.range n).filter p=(List.range k).filter p++k::r:=by
 obtain ⟨m,rfl⟩:∃ m,n=k+(m+1):=⟨n-k-1,by omega⟩
 rw [List.range_add,List.filter_append,List.range_succ_eq_map,List.map_cons,Nat.add_zero,List.filter_cons_of_pos hp]
 exact ⟨_,rfl⟩
theorem iN {l:List AZ} {layer:Int} {k:Nat} (hp:lyP l layer k=true):lyC l layer (k+1)=lyC l layer k+1:=by
 unfold lyC
 rw [List.range_succ,List.filter_append,List.filter_cons_of_pos hp]
 simp
theorem sG {l:List AZ} {layer:Int} {k:Nat} (hp:lyP l layer k=false):lyC l layer (k+1)=lyC l layer k:=by
 unfold lyC
 rw [List.range_succ,List.filter_append,List.filter_cons_of_neg (by rw [hp];decide)]
 simp
theorem ly_at {l:List AZ} {layer:Int} {k:Nat} (h:k<l.length) (hp:lyP l layer k=true):lyC l layer k<(lyL l layer).length/\(lyL l layer).getD (lyC l layer k) 0=k:=by
 obtain ⟨r,hr⟩:=bD (lyP l layer) k l.length h hp
 unfold lyL lyC
 rw [hr]
 constructor
 ·simp
 ·rw [List.getD_eq_getElem?_getD,List.map_append,List.getElem?_append_right (by simp)]
  simp
abbrev Ep (l:List AZ):Cl:=.eptr 1 1 (fun _ j=>([lst 9 AZ.c l]:List Cl).getD j default) 0 0
abbrev Eo (n:Int):Cl:=.eptr 1 1 (fun _ j=>([.i n]:List Cl).getD j default) 0 0
abbrev Xa (x:AZ):Cl:=.eptr 9 1 (fun _ j=>(AZ.c x:List Cl).getD j default) 0 0
abbrev ylY (ly:Nat):Tv:=.av (.one (.val (.func (.yield ly) #[] #[])))
abbrev tOY (c:Cl):Tv:=.av (.one c)
theorem gZ (l:List AZ):NM (Ep l):=De fun y hy=>by rw [List.mem_singleton.1 hy];exact CG Jc
theorem gY (n:Int):NM (Eo n):=De fun y hy=>by rw [List.mem_singleton.1 hy];exact .val _
section
variable (l:List AZ) (layer:Int)
theorem bC (hl:(l.length:Int)<=1000000):I9 Tryz.prog 126 2 (A6 [Ep l,Eo layer]) (lyL l layer).length (fun x=>[.one (.i ((lyL l layer).getD x.val 0))]):=by
 refine QZ Tryz.func126 rfl rfl (fun x=>rfl) (fun x e he c hc => ?_) kr (fun i hi => ?_) ?_
 ·rw [List.mem_singleton.1 he] at hc
  rw [List.mem_singleton.1 hc]
  rfl
 ·match i,hi with
  | 0,_=>rfl
  | 1,_=>rfl
 intro Ow n0 ly JJ Jx hO hJg hY
 refine CX ?_
 refine Cj hO (BX (p:=fun u=>Tv.dv u=true) (by simp [D5,CD,Tv.dv,Av.dv,Cl.dv,List.range,List.range.loop,A6])) rfl fun W0 X1 M1 => ?_
 refine rg ⟨[(0,ylY ly),(1,tOY (Ep l)),(2,tOY (Eo layer)),(6,tOY (lst 9 AZ.c l)),(7,tI (l.length:Int)),(8,tI 0)],[]⟩ ?_
 refine CV ?_
 refine Em ?_
 refine Lc (ι:=Nat) (fun k=>⟨[(0,ylY ly),(1,tOY (Ep l)),(2,tOY (Eo layer)),(6,tOY (lst 9 AZ.c l)),(7,tI (l.length:Int)),(8,tI (k:Int))],[]⟩) (fun k=>JJ (lyC l layer k)) (fun k=>k<=l.length) (fun k=>l.length-k) (fun k hk => ?_) 0 (Nat.zero_le _)
 have hd:∀ (x:List (Nat×Tv)),(∀ p∈x,p.2.dv=true)->∀ i u,get x i=some u->u.dv=true:=fun x h=>BX (p:=fun u=>Tv.dv u=true) h
 refine CX ?_
 refine Cj hO (hd _ (by simp only [List.forall_mem_cons];exact ⟨rfl,rfl,rfl,rfl,rfl,rfl,fun x hx=>by cases hx⟩)) rfl fun W0 X1 M1 => ?_
 refine rg ⟨[(0,ylY ly),(1,tOY (Ep l)),(2,tOY (Eo layer)),(6,tOY (lst 9 AZ.c l)),(7,tI (l.length:Int)),(8,tI (k:Int)),(9,tB (decide ((k:Int)<(l.length:Int))))],[]⟩ ?_
 refine CV ?_
 refine CX ?_
 refine EI (decide ((k:Int)<(l.length:Int))) kr (fun hc => ?_) (fun hc => ?_)
 ·have hlt:k<l.length:=by have:=oT hc;omega
  refine FA ?_
  refine CV ?_
  refine CX ?_
  refine Em ?_
  refine CX ?_
  refine Cj hO (hd _ (by simp only [List.forall_mem_cons];exact ⟨rfl,rfl,rfl,rfl,rfl,rfl,rfl,fun x hx=>by cases hx⟩)) rfl fun W0 X1 M1 => ?_
  refine rc [] [0<=(k:Int)/\(k:Int)<((l.length:Nat):Int)] ⟨[(0,ylY ly),(1,tOY (Ep l)),(2,tOY (Eo layer)),(4,tI (k:Int)),(5,tP 5 0),(6,tOY (lst 9 AZ.c l)),(7,tI (l.length:Int)),(8,tI (k:Int))],[(5,.cells (AZ.c (l.getD (k:Int).toNat default)) 61)]⟩ .nil (.cons ⟨by omega,by omega⟩ .nil) ?_
  refine CV ?_
  rw [Int.toNat_natCast]
  generalize hx:l.getD k default=x
  refine XO (S:=⟨[(0,ylY ly),(1,tOY (Ep l)),(2,tOY (Eo layer)),(4,tI (k:Int)),(5,tOY (Xa x)),(6,tOY (lst 9 AZ.c l)),(7,tI (l.length:Int)),(8,tI (k:Int))],[]⟩) hO (fun W0 M1=>GI _ 5 (AZ.c x) 61 (K:=[]) (fun k x h=>by cases h) kr kr kr kr) ?_
  refine CX ?_
  cases hp:lyP l layer k with
  | true =>
   have hG:((bif decide (x.From<=layer) then decide (layer<=x.To) else false)=true):=by unfold lyP at hp;rw [hx] at hp;exact hp
   obtain ⟨hc1,hc2⟩:=ly_at hlt hp
   refine Ky ?_
   refine HC hO C4 11 [0,1,2,4,5,6,7,8,23] [(decide (x.From<=layer)=true)->(decide (x.From<=layer)=true),(decide (x.From<=layer)=true)->(decide (x.From<=layer)=true),(decide (x.From<=layer)=true)->(decide (x.From<=layer)=true),(decide (x.From<=layer)=true)->(decide (x.From<=layer)=true)] [(0,ylY ly),(1,tOY (Ep l)),(2,tOY (Eo layer)),(4,tI (k:Int)),(5,tOY (Xa x)),(6,tOY (lst 9 AZ.c l)),(7,tI (l.length:Int)),(8,tI (k:Int)),(23,tB (bif decide (x.From<=layer) then decide (layer<=x.To) else false))] kr (.cons id (.cons id (.cons id (.cons id .nil)))) (hd _ (by simp only [List.forall_mem_cons];exact ⟨rfl,rfl,rfl,rfl,rfl,rfl,rfl,rfl,fun x hx=>by cases hx⟩)) rfl ?_
   refine La hO C4 10 true ((bif decide (x.From<=layer) then decide (layer<=x.To) else false)=true) [] ([(0,ylY ly),(1,tOY (Ep l)),(2,tOY (Eo layer)),(4,tI (k:Int)),(5,tOY (Xa x)),(6,tOY (lst 9 AZ.c l)),(7,tI (l.length:Int)),(8,tI (k:Int)),(23,tB (bif decide (x.From<=layer) then decide (layer<=x.To) else false))]++[(24,ylY ly)]) rfl rfl hG kr .nil (hd _ (by simp only [List.forall_mem_cons];exact ⟨rfl,rfl,rfl,rfl,rfl,rfl,rfl,rfl,rfl,fun x hx=>by cases hx⟩)) rfl ?_
   refine La hO C4 10 true ((bif decide (x.From<=layer) then decide (layer<=x.To) else false)=true) [] ([(0,ylY ly),(1,tOY (Ep l)),(2,tOY (Eo layer)),(4,tI (k:Int)),(5,tOY (Xa x)),(6,tOY (lst 9 AZ.c l)),(7,tI (l.length:Int)),(8,tI (k:Int)),(23,tB (bif decide (x.From<=layer) then decide (layer<=x.To) else false))]++[(24,ylY ly),(25,tI (k:Int))]) rfl rfl hG kr .nil (hd _ (by simp only [List.cons_append,List.nil_append,List.forall_mem_cons];exact ⟨rfl,rfl,rfl,rfl,rfl,rfl,rfl,rfl,rfl,rfl,fun x hx=>by cases hx⟩)) rfl ?_
   refine YS (ly:=ly) (d:=26) hO 10 true ((bif decide (x.From<=layer) then decide (layer<=x.To) else false)=true) rfl rfl hG [.one (.i (k:Int))] rfl rfl kr kr rfl rfl kr ?hT1 (fun A B=>hJg _ A B) (JJ (lyC l layer k+1)) (Jx (lyC l layer k+1)) ?hY [23] ?htf rfl ?ht ?hf
   case hT1=>exact BX (p:=fun u=>Tv.dv u=true/\TvM u) (by
    simp only [List.cons_append,List.nil_append,List.forall_mem_cons]
    exact ⟨⟨rfl,A8 (.val _)⟩,⟨rfl,A8 (gZ l)⟩,⟨rfl,A8 (gY layer)⟩,⟨rfl,A8 (.val _)⟩,⟨rfl,A8 (De (Jc x))⟩,⟨rfl,A8 (CG Jc)⟩,⟨rfl,A8 (.val _)⟩,⟨rfl,A8 (.val _)⟩,⟨rfl,A8 (.val _)⟩,⟨rfl,A8 (.val _)⟩,⟨rfl,A8 (.val _)⟩,fun x hx=>by cases hx⟩)
   case hY =>
    intro W hW
    have:=hY (lyC l layer k) hc1 W hW
    simp only [hc2] at this
    exact this
   case htf =>
    show ∀ i v,get [(23,tB (bif decide (x.From<=layer) then decide (layer<=x.To) else false))] i=some v->_
    exact BX (p:=fun v=>∃ u,v=Tv.av (.one (.val u))) (by simp only [List.forall_mem_cons];exact ⟨⟨_,rfl⟩,fun x hx=>by cases hx⟩)
   case ht =>
    refine Jj [0,1,2,6,7,8,23,26] ⟨[(0,ylY ly),(1,tOY (Ep l)),(2,tOY (Eo layer)),(6,tOY (lst 9 AZ.c l)),(7,tI (l.length:Int)),(8,tI (k:Int)),(23,tB (bif decide (x.From<=layer) then decide (layer<=x.To) else false)),(26,tB true)],[]⟩ kr ?_
    refine La hO C4 10 true ((bif decide (x.From<=layer) then decide (layer<=x.To) else false)=true) [] [(0,ylY ly),(1,tOY (Ep l)),(2,tOY (Eo layer)),(6,tOY (lst 9 AZ.c l)),(7,tI (l.length:Int)),(8,tI (k:Int)),(23,tB (bif decide (x.From<=layer) then decide (layer<=x.To) else false)),(26,tB true),(27,tB false)] rfl rfl hG kr .nil (hd _ (by simp only [List.forall_mem_cons];exact ⟨rfl,rfl,rfl,rfl,rfl,rfl,rfl,rfl,fun x hx=>by cases hx⟩)) rfl ?_
    refine HC hO C4 1 [0,1,2,6,7,8,28] [] [(0,ylY ly),(1,tOY (Ep l)),(2,tOY (Eo layer)),(6,tOY (lst 9 AZ.c l)),(7,tI (l.length:Int)),(8,tI (k:Int)),(28,tB (bif (bif decide (x.From<=layer) then decide (layer<=x.To) else false) then false else false))] kr .nil (hd _ (by simp only [List.forall_mem_cons];exact ⟨rfl,rfl,rfl,rfl,rfl,rfl,rfl,rfl,rfl,fun x hx=>by cases hx⟩)) rfl ?_
    refine Lb ?_
    refine CV ?_
    refine EI (bif (bif decide (x.From<=layer) then decide (layer<=x.To) else false) then false else false) kr (fun h=>by rw [hG] at h;cases h) (fun _ => ?_)
    refine FA ?_
    refine Qb ?_
    refine CV ?_
    refine Cj hO (hd _ (by simp only [List.forall_mem_cons];exact ⟨rfl,rfl,rfl,rfl,rfl,rfl,rfl,fun x hx=>by cases hx⟩)) rfl fun W0 X1 M1 => ?_
    refine rg ⟨[(0,ylY ly),(1,tOY (Ep l)),(2,tOY (Eo layer)),(6,tOY (lst 9 AZ.c l)),(7,tI (l.length:Int)),(8,tI (W64 ((k:Int)+1)))],[]⟩ ?_
    refine CV ?_
    refine ⟨k+1,by omega,by omega,?_,by rw [iN hp],rfl⟩
    rw [An (by omega) (by omega)]
    rfl
   case hf =>
    refine Jj [23,26] ⟨[(23,tB (bif decide (x.From<=layer) then decide (layer<=x.To) else false)),(26,tB false)],[]⟩ kr ?_
    refine La hO C4 10 true ((bif decide (x.From<=layer) then decide (layer<=x.To) else false)=true) [] [(23,tB (bif decide (x.From<=layer) then decide (layer<=x.To) else false)),(26,tB false),(27,tB true)] rfl rfl hG kr .nil (hd _ (by simp only [List.forall_mem_cons];exact ⟨rfl,rfl,fun x hx=>by cases hx⟩)) rfl ?_
    refine HC hO C4 1 [28] [] [(28,tB (bif (bif decide (x.From<=layer) then decide (layer<=x.To) else false) then true else false))] kr .nil (hd _ (by simp only [List.forall_mem_cons];exact ⟨rfl,rfl,rfl,fun x hx=>by cases hx⟩)) rfl ?_
    refine Lb ?_
    refine CV ?_
    refine EI (bif (bif decide (x.From<=layer) then decide (layer<=x.To) else false) then true else false) kr (fun _ => ?_) (fun h=>by rw [hG] at h;cases h)
    refine Vy ?_
    exact ⟨.inl rfl,.inr ⟨_,hc1,rfl⟩⟩
  | false =>
   have hG:(bif decide (x.From<=layer) then decide (layer<=x.To) else false)=false:=by unfold lyP at hp;rw [hx] at hp;exact hp
   refine Cj hO (hd _ (by simp only [List.forall_mem_cons];exact ⟨rfl,rfl,rfl,rfl,rfl,rfl,rfl,rfl,fun x hx=>by cases hx⟩)) rfl fun W0 X1 M1 => ?_
   refine EU ?_
   refine HM C4 11 [] [] [] [0,1,2,6,7,8,23] [] [(decide (x.From<=layer)=true)->(decide (x.From<=layer)=true),(decide (x.From<=layer)=true)->(decide (x.From<=layer)=true),(decide (x.From<=layer)=true)->(decide (x.From<=layer)=true),(decide (x.From<=layer)=true)->(decide (x.From<=layer)=true)] ⟨[(0,ylY ly),(1,tOY (Ep l)),(2,tOY (Eo layer)),(6,tOY (lst 9 AZ.c l)),(7,tI (l.length:Int)),(8,tI (k:Int)),(23,tB (bif decide (x.From<=layer) then decide (layer<=x.To) else false))],[]⟩ .nil kr (.cons id (.cons id (.cons id (.cons id .nil)))) ?_
   refine G3 10 true ((bif decide (x.From<=layer) then decide (layer<=x.To) else false)=true) ⟨[(0,ylY ly),(1,tOY (Ep l)),(2,tOY (Eo layer)),(6,tOY (lst 9 AZ.c l)),(7,tI (l.length:Int)),(8,tI (k:Int)),(23,tB (bif decide (x.From<=layer) then decide (layer<=x.To) else false)),(24,.grd ((bif decide (x.From<=layer) then decide (layer<=x.To) else false)=true) (.one (.val (.bool false))))],[]⟩ rfl rfl (fun e=>by rw [hG] at e;cases e) kr kr ?_
   refine G3 10 true ((bif decide (x.From<=layer) then decide (layer<=x.To) else false)=true) ⟨[(0,ylY ly),(1,tOY (Ep l)),(2,tOY (Eo layer)),(6,tOY (lst 9 AZ.c l)),(7,tI (l.length:Int)),(8,tI (k:Int)),(23,tB (bif decide (x.From<=layer) then decide (layer<=x.To) else false)),(24,.grd ((bif decide (x.From<=layer) then decide (layer<=x.To) else false)=true) (.one (.val (.bool false)))),(25,.grd ((bif decide (x.From<=layer) then decide (layer<=x.To) else false)=true) (.one (.val (.bool false))))],[]⟩ rfl rfl (fun e=>by rw [hG] at e;cases e) kr kr ?_
   refine G3 10 true ((bif decide (x.From<=layer) then decide (layer<=x.To) else false)=true) ⟨[(0,ylY ly),(1,tOY (Ep l)),(2,tOY (Eo layer)),(6,tOY (lst 9 AZ.c l)),(7,tI (l.length:Int)),(8,tI (k:Int)),(23,tB (bif decide (x.From<=layer) then decide (layer<=x.To) else false)),(24,.grd ((bif decide (x.From<=layer) then decide (layer<=x.To) else false)=true) (.one (.val (.bool false)))),(25,.grd ((bif decide (x.From<=layer) then decide (layer<=x.To) else false)=true) (.one (.val (.bool false)))),(26,.grd ((bif decide (x.From<=layer) then decide (layer<=x.To) else false)=true) (.one (.val (.bool false))))],[]⟩ rfl rfl (fun e=>by rw [hG] at e;cases e) kr kr ?_
   refine G3 10 true ((bif decide (x.From<=layer) then decide (layer<=x.To) else false)=true) ⟨[(0,ylY ly),(1,tOY (Ep l)),(2,tOY (Eo layer)),(6,tOY (lst 9 AZ.c l)),(7,tI (l.length:Int)),(8,tI (k:Int)),(23,tB (bif decide (x.From<=layer) then decide (layer<=x.To) else false)),(24,.grd ((bif decide (x.From<=layer) then decide (layer<=x.To) else false)=true) (.one (.val (.bool false)))),(25,.grd ((bif decide (x.From<=layer) then decide (layer<=x.To) else false)=true) (.one (.val (.bool false)))),(26,.grd ((bif decide (x.From<=layer) then decide (layer<=x.To) else false)=true) (.one (.val (.bool false)))),(27,.grd ((bif decide (x.From<=layer) then decide (layer<=x.To) else false)=true) (.one (.val (.bool false))))],[]⟩ rfl rfl (fun e=>by rw [hG] at e;cases e) kr kr ?_
   refine F6 C4 [] [] [] [0,1,2,6,7,8,28] [] [((bif decide (x.From<=layer) then decide (layer<=x.To) else false)=true)->((bif decide (x.From<=layer) then decide (layer<=x.To) else false)=true)] ⟨[(0,ylY ly),(1,tOY (Ep l)),(2,tOY (Eo layer)),(6,tOY (lst 9 AZ.c l)),(7,tI (l.length:Int)),(8,tI (k:Int)),(28,tB (bif (bif decide (x.From<=layer) then decide (layer<=x.To) else false) then false else false))],[]⟩ .nil kr (.cons id .nil) ?_
   refine CV ?_
   refine EI (bif (bif decide (x.From<=layer) then decide (layer<=x.To) else false) then false else false) kr (fun h=>by rw [hG] at h;cases h) (fun _ => ?_)
   refine FA ?_
   refine Qb ?_
   refine CV ?_
   refine Cj hO (hd _ (by simp only [List.forall_mem_cons];exact ⟨rfl,rfl,rfl,rfl,rfl,rfl,rfl,fun x hx=>by cases hx⟩)) rfl fun W0 X1 M1 => ?_
   refine rg ⟨[(0,ylY ly),(1,tOY (Ep l)),(2,tOY (Eo layer)),(6,tOY (lst 9 AZ.c l)),(7,tI (l.length:Int)),(8,tI (W64 ((k:Int)+1)))],[]⟩ ?_
   refine CV ?_
   refine ⟨k+1,by omega,by omega,?_,by rw [sG hp],rfl⟩
   rw [An (by omega) (by omega)]
   rfl
 ·have hge:¬ k<l.length:=by have:=oF hc;omega
  have hkl:k=l.length:=by omega
  refine Ld ?_
  refine KQ ?_
  refine KQ ?_
  refine Lh ?_
  exact ⟨.inr rfl,.inl (by rw [hkl,iO])⟩
end
end
section
open Go.RowKit
def Z0J (l:(List AZ)) (layer:Int):FuncId×List Av×Ef:=(69,[.one (lst 9 AZ.c l),.one (.i layer)],.val [] (.av (.one (.clo 126 2 (A6 [.eptr 1 1 (fun _ j_=>([lst 9 AZ.c l]:List Cl).getD j_ default) 0 0,.eptr 1 1 (fun _ j_=>([.i layer]:List Cl).getD j_ default) 0 0])))))
def Hi (l:(List AZ)) (layer:Int):Nat->Nat->List Int->(List Int)
 | 0,_,AH=>AH
 | m+1,x,AH=>(Hi l layer m (x+1)) (AH++[((lyL l layer).getD x 0)])
def FOn (l:(List AZ)) (layer:Int):(List Int):=Hi l layer (lyL l layer).length 0 ([]:List Int)
def cOn (l:(List AZ)) (layer:Int):FuncId×List Av×Ef:=(20,[.one (lst 9 AZ.c l),.one (.i layer)],.val [] (.av (.one (lst 1 (fun x=>[.i x]) (FOn l layer)))))
abbrev NN (l:List AZ) (layer:Int):Nat×Tv:=(9,.av (.one (.clo 126 2 (A6 [.eptr 1 1 (gD [lst 9 AZ.c l]) 0 0,.eptr 1 1 (gD [.i layer]) 0 0]))))
theorem pOn (l:(List AZ)) (layer:Int) (hl:(l.length:Int)<=1000000):Bk Tryz.prog 20 (cOn l layer).2.1 (tO (lst 1 (fun x=>[.i x]) (FOn l layer))):=by
 refine AV Tryz.func20 rfl kr kr fun W0 M0 => ?_
 refine AC<|rn ⟨[(0,tO (lst 9 AZ.c l)),(1,tI layer)],[]⟩<|AC ?_
 refine rn ⟨[(0,tO (lst 9 AZ.c l)),(1,tI layer),(5,tP 5 0)],[(5,.cells [vN] 57)]⟩ ?_
 refine AC<|AC ?_
 refine rc [(9,(Z0J l layer))] [Ak (Z0J l layer).2.1] ⟨[(5,tP 5 0),(NN l layer)],[(5,.cells [vN] 57)]⟩ (.cons (AW (fun _ _=>kr) fun _=>qR l layer) .nil) (.cons rfl .nil)<|AJ<|AY ?_
 refine Ba (Cv.trans (BR (⟨[(5,tP 200005 0),(NN l layer)],[(200005,.cells [vN] 57)]⟩) 5 200005 (K:=[]) (fun k x h=>by cases h) rfl rfl kr kr) (Cv.trans (Ca (⟨[(5,tP 200005 0),(NN l layer)],[(100000,.row 1 0 (fun _ _=>default) 3),(200005,.cells [.own 100000 1 0] 57)]⟩) 100000 1 (fun _ _=>default) 3 [] [(200005,[0])] (K:=[]) (fun k x h=>by cases h) rfl kr kr) (Cv.trans (BT (⟨[(5,tP 200005 0),(NN l layer)],[(100000,.row 1 ([]:List Int).length (AP (fun x=>[.i x]) ([]:List Int)) 3),(200005,.cells [.own 100000 1 ([]:List Int).length] 57)]⟩) lr (.cons ⟨rfl,Ap 3 (CZ 1 (fun _ _=>default) (fun x=>[.i x]))⟩ (.cons ⟨rfl,.cells _ (.cons (.own _ _ au2) .nil)⟩ .nil))) (Cv.refl _)))) ?_
 refine K8 (ι:=List Int) [200005] 299999 200005 0 100000 (fun x=>[(100000,.row 1 x.length (AP (fun x=>[.i x]) x) 3),(200005,.cells [.own 100000 1 x.length] 57)]) (fun x0=>[(5,tP 200005 0),(6,tI ((lyL l layer).getD x0.val 0)),(9,.av (.one (.clo 126 2 (A6 [.eptr 1 1 (gD [lst 9 AZ.c l]) 0 0,.eptr 1 1 (gD [.i layer]) 0 0]))))]) (fun j x=>x.length<=j) (fun y x=>Hi l layer ((lyL l layer).length-y) y x=FOn l layer) ([]:List Int) (fun _=>rfl) kr kr (fun _ _=>kr) (bC l layer (by omega)) kr (fun _=>by kernel_rfl) (fun _=>rfl) (fun _=>rfl) (fun x=>(BX (p:=BkN) (by simp only [List.forall_mem_cons];exact ⟨kY (fun x y hy=>by rw [List.mem_singleton.1 hy];exact (.val _)),Q0 (by simp only [List.forall_mem_cons];exact ⟨(.own _ _ _),fun x hx=>by cases hx⟩),fun x hx=>by cases hx⟩))) (fun x0=>(BX (p:=TvM) (by simp only [List.forall_mem_cons];exact ⟨A8 (.ptr _ _),A8 (.val _),A8 (SG (by simp only [List.forall_mem_cons];exact ⟨(De (by simp only [List.forall_mem_cons];exact ⟨(CG Jc),fun x hx=>by cases hx⟩)),(De (by simp only [List.forall_mem_cons];exact ⟨(.val _),fun x hx=>by cases hx⟩)),fun x hx=>by cases hx⟩)),fun x hx=>by cases hx⟩))) (fun _=>by kernel_rfl) ax0 (by simp only [FOn,Nat.sub_zero,cond_true,cond_false]) (fun l1 W1 M1 X1 x0 j AH hinv hPX => ?_) (fun l2 W2 M2 X2 x0 j AH hPX hj hinv => ?_) (fun AH hinv hF0 => ?_)
 ·have hinv0:AH.length<=j:=hinv;clear hinv
  refine DH ?_
  refine rg ⟨[(5,tP 200005 0),(6,tI ((lyL l layer).getD x0.val 0)),(NN l layer)],[(100000,.row 1 AH.length (AP (fun x=>[.i x]) AH) 3),(200005,.cells [.own 100000 1 AH.length] 57)]⟩ ?_
  exact ⟨_,Cv.refl _,rfl,rfl⟩
 ·have hinv0:AH.length<=j:=hinv;clear hinv
  obtain ⟨Xb0,hXb0⟩:∃ Xb,Hi l layer ((lyL l layer).length-x0.val) x0.val AH=Xb:=⟨_,rfl⟩
  have hF0:=hXb0
  rw [show (lyL l layer).length-x0.val=((lyL l layer).length-(x0.val+1))+1 by have:=x0.isLt;omega] at hF0
  have hly:=iM l layer
  refine DH<|AY ?_
  refine rc [] [AH.length=AH.length,AH.length+1<=maxLen,(AH.length+1)*8<=140737488355328] ⟨[(5,tP 200005 0),(NN l layer)],[(14,.row 1 (AH.length+1) (fun i_ j_=>if i_<AH.length then (AP (fun x=>[.i x]) AH) i_ j_ else (Ay 1 1 [.i ((lyL l layer).getD x0.val 0)]) (i_-AH.length) j_) 3),(200005,.cells [.own 14 1 (AH.length+1)] 57)]⟩ .nil (.cons rfl (.cons au3 (.cons au3 .nil)))<|Be ?_
  refine ⟨_,Cv.trans (BT (⟨[(5,tP 200005 0),(NN l layer)],[(14,.row 1 (AH++[((lyL l layer).getD x0.val 0)]).length (AP (fun x=>[.i x]) (AH++[((lyL l layer).getD x0.val 0)])) 3),(200005,.cells [.own 14 1 (AH++[((lyL l layer).getD x0.val 0)]).length] 57)]⟩) lr (.cons ⟨rfl,Ap 3 (BZ (BM 1 (fun x=>[.i x]) AH) (Aw (c:=(fun x=>[.i x])) (xs:=([((lyL l layer).getD x0.val 0)]:List Int)) rfl kr))⟩ (.cons ⟨rfl,.cells _ (.cons (.own _ _ au2) .nil)⟩ .nil))) (Cv.trans (BR (⟨[(5,tP 200005 0),(NN l layer)],[(100000,.row 1 (AH++[((lyL l layer).getD x0.val 0)]).length (AP (fun x=>[.i x]) (AH++[((lyL l layer).getD x0.val 0)])) 3),(200005,.cells [.own 100000 1 (AH++[((lyL l layer).getD x0.val 0)]).length] 57)]⟩) 14 100000 (K:=[299999,200005]) hPX rfl rfl kr kr) (Cv.refl _)),rfl,(AH++[((lyL l layer).getD x0.val 0)]),ax0,fun hk hF => ?_,fun _ _ h=>h⟩
  have e0:Hi l layer ((lyL l layer).length-(x0.val+1)) (x0.val+1) (AH++[((lyL l layer).getD x0.val 0)])=Xb0:=by
   rw [<- hF0]
   first | (simp only [Hi,cond_true,cond_false] <;> rfl)
  subst hk
  change Hi l layer ((lyL l layer).length-x0.val) x0.val AH=FOn l layer at hF
  show Hi l layer ((lyL l layer).length-(x0.val+1)) (x0.val+1) (AH++[((lyL l layer).getD x0.val 0)])=FOn l layer
  exact e0.trans (hXb0.symm.trans hF)
 ·have hinv0:AH.length<=(lyL l layer).length:=hinv;clear hinv
  change Hi l layer ((lyL l layer).length-(lyL l layer).length) (lyL l layer).length AH=FOn l layer at hF0
  rw [Nat.sub_self] at hF0
  refine Be<|AJ<|AC ?_
  refine rn ⟨[(4,tO (.own 100000 1 AH.length))],[(100000,.row 1 AH.length (AP (fun x=>[.i x]) AH) 3)]⟩<|Ag ?_
  exact ⟨_,Cv.trans (Dn (⟨[(4,tO (lst 1 (fun x=>[.i x]) AH))],[]⟩) 100000 1 AH.length (AP (fun x=>[.i x]) AH) 3 (K:=[]) (fun k x h=>by cases h) kr kr (.cons ⟨rfl,rfl⟩ .nil) kr) (Cv.refl _),.inl rfl,tO (lst 1 (fun x=>[.i x]) AH),by kernel_rfl,Al (by rw [<- hF0];first | (simp only [Hi,cond_true,cond_false] <;> rfl))⟩
theorem rS (l:(List AZ)) (layer:Int) (hl:(l.length:Int)<=1000000):Az Tryz.prog (cOn l layer).1 (cOn l layer).2.1 (cOn l layer).2.2:=AW (fun _ _=>kr) fun _=>pOn l layer hl
end
section
open Go.RowKit
def Da (a:AZ) (b:AZ):(Int×Int×Bool):=bif decide (((min a.To b.To):Int)<(max a.From b.From)) then (0,0,false) else (max a.From b.From,min a.To b.To,true)
def KB (a:AZ) (b:AZ):FuncId×List Av×Ef:=(22,[.agg (AZ.c a),.agg (AZ.c b)],.val [] (.tup [.one (.i (Da a b).1),.one (.i (Da a b).2.1),.one (.b (Da a b).2.2)]))
theorem fW (a:AZ) (b:AZ):Bk Tryz.prog 22 (KB a b).2.1 (.tup [.one (.i (Da a b).1),.one (.i (Da a b).2.1),.one (.b (Da a b).2.2)]):=by
 refine AV Tryz.func22 rfl kr kr fun W0 M0 => ?_
 refine AC<|rn ⟨IF,[(2,.cells (AZ.c a) 61),(3,.cells (AZ.c b) 61)]⟩<|AC ?_
 refine dw [] [] [] ⟨[(7,tI (max a.From b.From)),(8,tI (min a.To b.To))],[]⟩ .nil .nil<|AJ ?_
 refine AC<|AC ?_
 refine rn ⟨[(7,tI (max a.From b.From)),(8,tI (min a.To b.To)),(21,tB (decide (((min a.To b.To):Int)<(max a.From b.From))))],[]⟩ ?_
 refine Ab _ rfl (fun h1 => ?_) (fun h1 => ?_)
 ·have g1:=oT h1
  refine AC<|rn ⟨[(4,tI 0),(5,tI 0),(6,tB false)],[]⟩ ?_
  refine Ag<|Bd ?_
  exact ⟨_,Cv.refl _,.inl rfl,.tup [.one (.i 0),.one (.i 0),.one (.b false)],by kernel_rfl,Al (by first | (simp only [Da,h1,cond_true,cond_false] <;> rfl))⟩
 ·have g1:=oF h1
  refine Af<|AJ<|AC ?_
  refine rn ⟨[(4,tI (max a.From b.From)),(5,tI (min a.To b.To)),(6,tB true)],[]⟩<|Ag ?_
  exact ⟨_,Cv.refl _,.inl rfl,.tup [.one (.i (max a.From b.From)),.one (.i (min a.To b.To)),.one (.b true)],by kernel_rfl,Al (by first | (simp only [Da,h1,cond_true,cond_false] <;> rfl))⟩
theorem aL (a:AZ) (b:AZ):Az Tryz.prog (KB a b).1 (KB a b).2.1 (KB a b).2.2:=AW (fun _ _=>kr) fun _=>fW a b
def WU (a:AZ) (b:AZ):Bool:=bif bif bif bif bif bif decide ((a.Id:Int)=b.Id) then (a.Pad.toList==b.Pad.toList) else false then decide ((a.Kind:Int)=b.Kind) else false then (a.Net.toList==b.Net.toList) else false then decide ((a.From:Int)=b.From) else false then decide ((a.To:Int)=b.To) else false then NJ a.Shape b.Shape else false
def M5 (a:AZ) (b:AZ):FuncId×List Av×Ef:=(26,[.agg (AZ.c a),.agg (AZ.c b)],.val [] (.av (.one (.b (WU a b)))))
abbrev QB (a:AZ) (b:AZ):=(bif bif bif bif bif decide ((a.Id:Int)=b.Id) then (a.Pad.toList==b.Pad.toList) else false then decide ((a.Kind:Int)=b.Kind) else false then (a.Net.toList==b.Net.toList) else false then decide ((a.From:Int)=b.From) else false then decide ((a.To:Int)=b.To) else false)
abbrev S3 (a:AZ) (b:AZ):=(bif bif bif bif decide ((a.Id:Int)=b.Id) then (a.Pad.toList==b.Pad.toList) else false then decide ((a.Kind:Int)=b.Kind) else false then (a.Net.toList==b.Net.toList) else false then decide ((a.From:Int)=b.From) else false)
abbrev qB (a:AZ) (b:AZ):=(bif bif bif decide ((a.Id:Int)=b.Id) then (a.Pad.toList==b.Pad.toList) else false then decide ((a.Kind:Int)=b.Kind) else false then (a.Net.toList==b.Net.toList) else false)
abbrev P9 (a:AZ) (b:AZ):=(qB a b)
abbrev Y6 (a:AZ) (b:AZ):=a.Pad.toList==b.Pad.toList
abbrev oI (a:AZ) (b:AZ):=(bif bif decide ((a.Id:Int)=b.Id) then (Y6 a b) else false then decide ((a.Kind:Int)=b.Kind) else false)
abbrev pB (a:AZ) (b:AZ):=(oI a b)
abbrev pS (a:AZ) (b:AZ):=(pB a b)
abbrev Od (a:AZ) (b:AZ):=(pS a b)
abbrev Oa (a:AZ) (b:AZ):=(bif decide ((a.Id:Int)=b.Id) then (Y6 a b) else false)
abbrev OH (a:AZ) (b:AZ):Bool:=(decide ((a.Id:Int)=b.Id))
theorem qW (a:AZ) (b:AZ) (h0:(a.Shape.Edges.length:Int)<=1000000) (h1:(b.Shape.Edges.length:Int)<=1000000):Bk Tryz.prog 26 (M5 a b).2.1 (tO (.b (WU a b))):=by
 refine AV Tryz.func26 rfl kr kr fun W0 M0 => ?_
 refine AC<|rn ⟨IF,[(2,.cells (AZ.c a) 61),(3,.cells (AZ.c b) 61)]⟩<|AC ?_
 refine rc [] [gt (OH a b),gt (OH a b),gt (OH a b),gt (OH a b),gt (OH a b),gt (Oa a b),gt (Oa a b),gt (Oa a b),gt (Oa a b),gt (Oa a b),gt (Od a b),gt (Od a b),gt (Od a b),gt (Od a b),gt (Od a b)] ⟨[(2,tP 2 0),(3,tP 3 0),(5,tB (P9 a b))],[(2,.cells (AZ.c a) 61),(3,.cells (AZ.c b) 61)]⟩ .nil (ci (ci (ci (ci (ci (ci (ci (ci (ci (ci (ci (ci (ci (ci (ci .nil)))))))))))))))<|AJ<|AC ?_
 refine rc [(52,Jp a.Shape b.Shape)] [gt (P9 a b),gt (P9 a b),gt (P9 a b),gt (P9 a b),gt (P9 a b),gt (S3 a b),gt (S3 a b),gt (S3 a b),gt (S3 a b),gt (S3 a b),gt (QB a b),gt (QB a b),gt (QB a b),gt (QB a b),gk (QB a b) (Ak (Jp a.Shape b.Shape).2.1),gt (QB a b)] ⟨[(4,tB (bif bif bif bif bif bif decide ((a.Id:Int)=b.Id) then (Y6 a b) else false then decide ((a.Kind:Int)=b.Kind) else false then (a.Net.toList==b.Net.toList) else false then decide ((a.From:Int)=b.From) else false then decide ((a.To:Int)=b.To) else false then NJ a.Shape b.Shape else false))],[]⟩ (.cons (Ws a.Shape b.Shape au14 au14) .nil) (ci (ci (ci (ci (ci (ci (ci (ci (ci (ci (ci (ci (ci (ci (.cons (fun _=>rfl) (ci .nil))))))))))))))))<|AJ<|Ag ?_
 exact ⟨_,Cv.refl _,.inl rfl,tO (.b (bif bif bif bif bif bif decide ((a.Id:Int)=b.Id) then (a.Pad.toList==b.Pad.toList) else false then decide ((a.Kind:Int)=b.Kind) else false then (a.Net.toList==b.Net.toList) else false then decide ((a.From:Int)=b.From) else false then decide ((a.To:Int)=b.To) else false then NJ a.Shape b.Shape else false)),by kernel_rfl,Al (by rfl)⟩
theorem gN (a:AZ) (b:AZ) (h0:(a.Shape.Edges.length:Int)<=1000000) (h1:(b.Shape.Edges.length:Int)<=1000000):Az Tryz.prog (M5 a b).1 (M5 a b).2.1 (M5 a b).2.2:=AW (fun _ _=>kr) fun _=>qW a b h0 h1
def Z0K (p:A0) (l:(List Ad)) (v10:Int):AQ:=DM (Ad.mk (W64 (p.Pitch*(l.getD v10.toNat default).X0)) (W64 (p.Pitch*(l.getD v10.toNat default).Y0)) (W64 (p.Pitch*(l.getD v10.toNat default).X1)) (W64 (p.Pitch*(l.getD v10.toNat default).Y1)))
def IB (p:A0) (l:(List Ad)):Nat->List AQ->Int->(List AQ)
 | 0,_,_=>default
 | n0+1,out,v10=>bif decide ((v10:Int)<(l.length:Int)) then ((IB p l n0) (out++[Z0K p l v10]) (v10+1)) else out
def Px (p:A0) (l:(List Ad)):(List AQ):=IB p l (((l.length:Int)-0).toNat+1) ([]:List AQ) 0
def NA (p:A0) (l:(List Ad)):FuncId×List Av×Ef:=(30,[.agg (A0.c p),.one (lst 4 Ad.c l)],.val [] (.av (.one (lst 3 AQ.c (Px p l)))))
abbrev FP (p:A0):Nat×Blk:=(2,.cells (A0.c p) 97)
abbrev HV (l:List Ad):Nat×Tv:=(9,tI (l.length:Int))
abbrev HT (l:List Ad):Nat×Tv:=(8,tO (lst 4 Ad.c l))
abbrev ZE:Nat×Blk:=(100000,.row 3 ([]:List AQ).length (AP AQ.c ([]:List AQ)) 28)
abbrev ZA (l:List Ad):List (Nat×Tv):=[(2,tP 2 0),(5,tO (.own 100000 3 ([]:List AQ).length)),(HT l),(HV l),(10,tI 0)]
theorem rJ (p:A0) (l:(List Ad)) (h0:(l.length:Int)<=1000000):Bk Tryz.prog 30 (NA p l).2.1 (tO (lst 3 AQ.c (Px p l))):=by
 refine AV Tryz.func30 rfl kr kr fun W0 M0 => ?_
 refine AC<|rn ⟨[(1,tO (lst 4 Ad.c l)),(2,tP 2 0)],[(FP p)]⟩<|AC ?_
 refine rn ⟨[(1,tO (lst 4 Ad.c l)),(2,tP 2 0),(5,.av (.one vN))],[(FP p)]⟩ ?_
 refine AC<|AC ?_
 refine rn ⟨[(2,tP 2 0),(5,.av (.one vN)),(HT l),(HV l),(10,tI 0)],[(FP p)]⟩<|AY ?_
 refine Ba (Cv.trans (Ca (⟨[(2,tP 2 0),(5,tO (.own 100000 3 0)),(HT l),(HV l),(10,tI 0)],[(100000,.row 3 0 (fun _ _=>default) 28),(FP p)]⟩) 100000 3 (fun _ _=>default) 28 [(5,[0])] [] (K:=[]) (fun k x h=>by cases h) rfl kr kr) (Cv.trans (BT (⟨(ZA l),[ZE,(FP p)]⟩) (.cons ⟨rfl,.refl _⟩ (.cons ⟨rfl,.av (.one (.own _ _ au2))⟩ lr)) (.cons ⟨rfl,Ap 28 (CZ 3 (fun _ _=>default) AQ.c)⟩ lr)) (Cv.trans (BD [2,5,8,9,10] [2,100000] (⟨(ZA l),[(FP p),ZE]⟩) kr) (Cv.refl _)))) ?_
 refine BS (ι:=Nat×List AQ×Int) (fun x=>⟨[(2,tP 2 0),(5,tO (.own 100000 3 x.2.1.length)),(HT l),(HV l),(10,tI x.2.2)],[(FP p),(100000,.row 3 x.2.1.length (AP AQ.c x.2.1) 28)]⟩) (fun x=>((l.length:Int)-x.2.2).toNat<x.1/\(0<=x.2.2/\(x.2.2<=(l.length:Int)\/x.2.2=0)/\(x.2.1.length:Int)<=0+1*(x.2.2-0))/\IB p l x.1 x.2.1 x.2.2=Px p l) (fun x=>x.1) ?_ (((l.length:Int)-0).toNat+1,([]:List AQ),0) ⟨Nat.lt_succ_self _,⟨ax0,ax0,ax0⟩,(by simp only [Px,cond_true,cond_false])⟩
 rintro ⟨n0,out,v10⟩ ⟨hn,hinv,hF⟩
 have hm0:=hn;have hinv0:=hinv;have hF0:=hF;try dsimp only at hm0 hinv0 hF0
 clear hn hinv hF
 cases n0 with
 | zero=>exact absurd hm0 (Nat.not_lt_zero _)
 | succ n0 =>
  refine AC<|rn ⟨[(2,tP 2 0),(5,tO (.own 100000 3 out.length)),(HT l),(HV l),(10,tI v10),(11,tB (decide ((v10:Int)<(l.length:Int))))],[(FP p),(100000,.row 3 out.length (AP AQ.c out) 28)]⟩<|AC ?_
  refine Ab _ rfl (fun h1 => ?_) (fun h1 => ?_)
  ·have g1:=oT h1
   refine Af<|AJ ?_
   refine AC<|AY<|AC ?_
   refine rc [] [0<=(v10:Int)/\(v10:Int)<((l.length:Nat):Int)] ⟨[(2,tP 2 0),(5,tO (.own 100000 3 out.length)),(7,tP 7 0),(HT l),(HV l),(10,tI v10)],[(FP p),(7,.cells (Ad.c (l.getD v10.toNat default)) 90),(100000,.row 3 out.length (AP AQ.c out) 28)]⟩ .nil (.cons au0 .nil)<|AJ ?_
   refine rc [(36,GK (Ad.mk (W64 (p.Pitch*(l.getD v10.toNat default).X0)) (W64 (p.Pitch*(l.getD v10.toNat default).Y0)) (W64 (p.Pitch*(l.getD v10.toNat default).X1)) (W64 (p.Pitch*(l.getD v10.toNat default).Y1))))] [Ak (GK (Ad.mk (W64 (p.Pitch*(l.getD v10.toNat default).X0)) (W64 (p.Pitch*(l.getD v10.toNat default).Y0)) (W64 (p.Pitch*(l.getD v10.toNat default).X1)) (W64 (p.Pitch*(l.getD v10.toNat default).Y1)))).2.1,out.length=out.length,out.length+1<=maxLen,(out.length+1)*40<=140737488355328] ⟨[(2,tP 2 0),(5,tO (.own 38 3 (out.length+1))),(HT l),(HV l),(10,tI v10)],[(FP p),(38,.row 3 (out.length+1) (fun i_ j_=>if i_<out.length then (AP AQ.c out) i_ j_ else (Ay 3 1 (AQ.c (Z0K p l v10))) (i_-out.length) j_) 28)]⟩ (.cons (N5 (Ad.mk (W64 (p.Pitch*(l.getD v10.toNat default).X0)) (W64 (p.Pitch*(l.getD v10.toNat default).Y0)) (W64 (p.Pitch*(l.getD v10.toNat default).X1)) (W64 (p.Pitch*(l.getD v10.toNat default).Y1)))) .nil) (.cons rfl (.cons rfl (.cons au3 (.cons au3 .nil))))<|Be<|AJ ?_
   refine Ba (Cv.trans (BT (⟨[(2,tP 2 0),(5,tO (.own 38 3 (out++[Z0K p l v10]).length)),(HT l),(HV l),(10,tI v10)],[(FP p),(38,.row 3 (out++[Z0K p l v10]).length (AP AQ.c (out++[Z0K p l v10])) 28)]⟩) (.cons ⟨rfl,.refl _⟩ (.cons ⟨rfl,.av (.one (.own _ _ au2))⟩ lr)) (.cons ⟨rfl,.refl _⟩ (.cons ⟨rfl,Ap 28 (BZ (BM 3 AQ.c out) (Aw (c:=AQ.c) (xs:=([Z0K p l v10]:List AQ)) rfl kr))⟩ .nil))) (Cv.refl _)) ?_
   refine rg ⟨[(2,tP 2 0),(5,tO (.own 38 3 (out++[Z0K p l v10]).length)),(HT l),(HV l),(10,tI (W64 (v10+1)))],[(FP p),(38,.row 3 (out++[Z0K p l v10]).length (AP AQ.c (out++[Z0K p l v10])) 28)]⟩ ?_
   (try rw [(show W64 (v10+1)=v10+1 from An (by omega) au6)])
   refine AJ ?_
   refine ⟨(n0,out++[Z0K p l v10],v10+1),⟨?_,?_,(by rw [<- hF0];simp only [IB,h1,cond_true,cond_false])⟩,Nat.lt_succ_self _,Cv.trans (BR (⟨[(2,tP 2 0),(5,tO (.own 100000 3 (out++[Z0K p l v10]).length)),(HT l),(HV l),(10,tI (v10+1))],[(FP p),(100000,.row 3 (out++[Z0K p l v10]).length (AP AQ.c (out++[Z0K p l v10])) 28)]⟩) 38 100000 (K:=[]) (fun k x h=>by cases h) rfl rfl kr kr) (BB kr)⟩
   ·show ((l.length:Int)-(v10+1)).toNat<n0;omega
   ·exact ⟨ax0,ax0,ax0⟩
  ·have g1:=oF h1
   refine BV<|BE ?_
   refine BE<|BW ?_
   refine AJ<|AC ?_
   refine rn ⟨[(4,tO (.own 100000 3 out.length))],[(100000,.row 3 out.length (AP AQ.c out) 28)]⟩<|Ag ?_
   exact ⟨_,Cv.trans (Dn (⟨[(4,tO (lst 3 AQ.c out))],[]⟩) 100000 3 out.length (AP AQ.c out) 28 (K:=[]) (fun k x h=>by cases h) kr kr (.cons ⟨rfl,rfl⟩ .nil) kr) (Cv.refl _),.inl rfl,tO (lst 3 AQ.c out),by kernel_rfl,Al (by rw [<- hF0];first | (simp only [IB,h1,cond_true,cond_false] <;> rfl))⟩
theorem gS (p:A0) (l:(List Ad)) (h0:(l.length:Int)<=1000000):Az Tryz.prog (NA p l).1 (NA p l).2.1 (NA p l).2.2:=AW (fun _ _=>kr) fun _=>rJ p l h0
def EE (a:(List Ar)) (b:(List Ar)):Nat->Int->Bool
 | 0,_=>default
 | n0+1,v5=>bif decide ((v5:Int)<(a.length:Int)) then (bif bif bif bif !decide (((a.getD v5.toNat default).From:Int)=(b.getD v5.toNat default).From) then true else !decide (((a.getD v5.toNat default).To:Int)=(b.getD v5.toNat default).To) then true else !((a.getD v5.toNat default).Plated==(b.getD v5.toNat default).Plated) then true else !(LG (a.getD v5.toNat default).Shape (b.getD v5.toNat default).Shape) then false else ((EE a b n0) (v5+1))) else true
def Fj (a:(List Ar)) (b:(List Ar)):Bool:=bif !decide (((a.length:Int):Int)=(b.length:Int)) then false else (EE a b (((a.length:Int)-0).toNat+1) 0)
def Fe (a:(List Ar)) (b:(List Ar)):FuncId×List Av×Ef:=(16,[.one (lst 6 Ar.c a),.one (lst 6 Ar.c b)],.val [] (.av (.one (.b (Fj a b)))))
abbrev pP (a:List Ar) (v5:Int) (b:List Ar):=(bif bif !decide (((a.getD v5.toNat default).From:Int)=(b.getD v5.toNat default).From) then true else !decide (((a.getD v5.toNat default).To:Int)=(b.getD v5.toNat default).To) then true else !((a.getD v5.toNat default).Plated==(b.getD v5.toNat default).Plated))
abbrev qG (a:List Ar) (v5:Int) (b:List Ar):=(pP a v5 b)
abbrev Ko (a:List Ar) (v5:Int) (b:List Ar):=(qG a v5 b)
abbrev Hn (a:List Ar) (v5:Int) (b:List Ar):=(bif !decide (((a.getD v5.toNat default).From:Int)=(b.getD v5.toNat default).From) then true else !decide (((a.getD v5.toNat default).To:Int)=(b.getD v5.toNat default).To))
abbrev jZ (a:List Ar) (v5:Int):=a.getD v5.toNat default
abbrev jY (b:List Ar) (v5:Int):=b.getD v5.toNat default
abbrev FR (a:List Ar) (v5:Int) (b:List Ar):Bool:=(!decide (((jZ a v5).From:Int)=(jY b v5).From))
abbrev KW (a:List Ar):Nat×Tv:=(0,tO (lst 6 Ar.c a))
abbrev KV (b:List Ar):Nat×Tv:=(1,tO (lst 6 Ar.c b))
theorem Ve (a:(List Ar)) (b:(List Ar)) (h0:(a.length:Int)<=1000000000) (ha:∀ k,(((a.getD k default).Shape.Edges.length:Int)<=1000000)) (hbb:∀ k,(((b.getD k default).Shape.Edges.length:Int)<=1000000)):Bk Tryz.prog 16 (Fe a b).2.1 (tO (.b (Fj a b))):=by
 refine AV Tryz.func16 rfl kr kr fun W0 M0 => ?_
 refine AC<|rn ⟨[(KW a),(KV b)],[]⟩ ?_
 refine AC<|AC ?_
 refine rn ⟨[(KW a),(KV b),(10,tB (!decide (((a.length:Int):Int)=(b.length:Int))))],[]⟩ ?_
 refine Ab _ rfl (fun h1 => ?_) (fun h1 => ?_)
 ·have g1:=CF h1
  refine AC<|rn ⟨[(4,tB false)],[]⟩ ?_
  refine Ag<|Bd ?_
  exact ⟨_,Cv.refl _,.inl rfl,tO (.b false),by kernel_rfl,Al (by first | (simp only [Fj,h1,cond_true,cond_false] <;> rfl))⟩
 ·have g1:=B6 h1
  refine Af<|AJ ?_
  refine AC<|AC ?_
  refine rn ⟨[(KW a),(KV b),(5,tI 0)],[]⟩<|AY ?_
  refine BS (ι:=Nat×Int) (fun x=>⟨[(KW a),(KV b),(5,tI x.2)],[]⟩) (fun x=>((a.length:Int)-x.2).toNat<x.1/\(0<=x.2/\(x.2<=(a.length:Int)\/x.2=0))/\EE a b x.1 x.2=Fj a b) (fun x=>x.1) ?_ (((a.length:Int)-0).toNat+1,0) ⟨Nat.lt_succ_self _,⟨ax0,ax0⟩,(by simp only [Fj,h1,cond_true,cond_false])⟩
  rintro ⟨n0,v5⟩ ⟨hn,hinv,hF⟩
  have hm0:=hn;have hinv0:=hinv;have hF0:=hF;try dsimp only at hm0 hinv0 hF0
  clear hn hinv hF
  cases n0 with
  | zero=>exact absurd hm0 (Nat.not_lt_zero _)
  | succ n0 =>
   refine AC<|AC ?_
   refine rn ⟨[(KW a),(KV b),(5,tI v5),(14,tB (decide ((v5:Int)<(a.length:Int))))],[]⟩ ?_
   refine Ab _ rfl (fun h2 => ?_) (fun h2 => ?_)
   ·have g2:=oT h2
    refine Af<|AJ ?_
    refine AC<|AY<|AC ?_
    refine dw [] [(65,Mz (jZ a v5).Shape (jY b v5).Shape)] [0<=(v5:Int)/\(v5:Int)<((a.length:Nat):Int),0<=(v5:Int)/\(v5:Int)<((b.length:Nat):Int),gi (FR a v5 b),gi (FR a v5 b),gj (FR a v5 b) (0<=(v5:Int)/\(v5:Int)<((a.length:Nat):Int)),gi (FR a v5 b),gi (FR a v5 b),gi (FR a v5 b),gi (FR a v5 b),gj (FR a v5 b) (0<=(v5:Int)/\(v5:Int)<((b.length:Nat):Int)),gi (FR a v5 b),gi (FR a v5 b),gi (FR a v5 b),gi (FR a v5 b),gi (FR a v5 b),gi (Hn a v5 b),gi (Hn a v5 b),gj (Hn a v5 b) (0<=(v5:Int)/\(v5:Int)<((a.length:Nat):Int)),gi (Hn a v5 b),gi (Hn a v5 b),gi (Hn a v5 b),gi (Hn a v5 b),gj (Hn a v5 b) (0<=(v5:Int)/\(v5:Int)<((b.length:Nat):Int)),gi (Hn a v5 b),gi (Hn a v5 b),gi (Hn a v5 b),gi (Hn a v5 b),gi (Hn a v5 b),gi (Ko a v5 b),gi (Ko a v5 b),gj (Ko a v5 b) (0<=(v5:Int)/\(v5:Int)<((a.length:Nat):Int)),gi (Ko a v5 b),gi (Ko a v5 b),gi (Ko a v5 b),gi (Ko a v5 b),gj (Ko a v5 b) (0<=(v5:Int)/\(v5:Int)<((b.length:Nat):Int)),gi (Ko a v5 b),gi (Ko a v5 b),gi (Ko a v5 b),gi (Ko a v5 b),gj (Ko a v5 b) (Ak (Mz (a.getD v5.toNat default).Shape (b.getD v5.toNat default).Shape).2.1),gi (Ko a v5 b),gi (Ko a v5 b)] ⟨[(KW a),(KV b),(5,tI v5),(67,tB (bif bif bif !decide (((a.getD v5.toNat default).From:Int)=(b.getD v5.toNat default).From) then true else !decide (((a.getD v5.toNat default).To:Int)=(b.getD v5.toNat default).To) then true else !((a.getD v5.toNat default).Plated==(b.getD v5.toNat default).Plated) then true else !(LG (a.getD v5.toNat default).Shape (b.getD v5.toNat default).Shape)))],[]⟩ (.cons (gM (a.getD v5.toNat default).Shape (b.getD v5.toNat default).Shape (by first | (exact VJ hb _) | (exact VR hb _) | (exact hb.parts) | (exact hb.tracks) | (exact hb.vias) | (exact hb.slots) | (exact hb.nets) | (exact hb.pins) | (exact Hv hb.parts ht) | (exact ha _) | (exact hbb _) | with_reducible assumption | omega | decide | (simp only [List.length_cons,List.length_nil,List.length_append];omega) | assumption) (by first | (exact VJ hb _) | (exact VR hb _) | (exact hb.parts) | (exact hb.tracks) | (exact hb.vias) | (exact hb.slots) | (exact hb.nets) | (exact hb.pins) | (exact Hv hb.parts ht) | (exact ha _) | (exact hbb _) | with_reducible assumption | omega | decide | (simp only [List.length_cons,List.length_nil,List.length_append];omega) | assumption)) .nil) (.cons au0 (.cons au0 (ci (ci (.cons (fun hG=>by first | exact au0 | (simp only [decide_eq_true_eq,decide_eq_false_iff_not,Bool.not_eq_true,Bool.and_eq_true] at hG <;> omega) | (simp at hG <;> omega) | (simp only [decide_eq_true_eq,decide_eq_false_iff_not] at hG;simp only [Bx];omega)) (ci (ci (ci (ci (.cons (fun hG=>by first | exact au0 | (simp only [decide_eq_true_eq,decide_eq_false_iff_not,Bool.not_eq_true,Bool.and_eq_true] at hG <;> omega) | (simp at hG <;> omega) | (simp only [decide_eq_true_eq,decide_eq_false_iff_not] at hG;simp only [Bx];omega)) (ci (ci (ci (ci (ci (ci (ci (.cons (fun hG=>by first | exact au0 | (simp only [decide_eq_true_eq,decide_eq_false_iff_not,Bool.not_eq_true,Bool.and_eq_true] at hG <;> omega) | (simp at hG <;> omega) | (simp only [decide_eq_true_eq,decide_eq_false_iff_not] at hG;simp only [Bx];omega)) (ci (ci (ci (ci (.cons (fun hG=>by first | exact au0 | (simp only [decide_eq_true_eq,decide_eq_false_iff_not,Bool.not_eq_true,Bool.and_eq_true] at hG <;> omega) | (simp at hG <;> omega) | (simp only [decide_eq_true_eq,decide_eq_false_iff_not] at hG;simp only [Bx];omega)) (ci (ci (ci (ci (ci (ci (ci (.cons (fun hG=>by first | exact au0 | (simp only [decide_eq_true_eq,decide_eq_false_iff_not,Bool.not_eq_true,Bool.and_eq_true] at hG <;> omega) | (simp at hG <;> omega) | (simp only [decide_eq_true_eq,decide_eq_false_iff_not] at hG;simp only [Bx];omega)) (ci (ci (ci (ci (.cons (fun hG=>by first | exact au0 | (simp only [decide_eq_true_eq,decide_eq_false_iff_not,Bool.not_eq_true,Bool.and_eq_true] at hG <;> omega) | (simp at hG <;> omega) | (simp only [decide_eq_true_eq,decide_eq_false_iff_not] at hG;simp only [Bx];omega)) (ci (ci (ci (ci (.cons (fun _=>rfl) (ci (ci .nil)))))))))))))))))))))))))))))))))))))))))))<|AJ ?_
    refine Ab _ rfl (fun h3 => ?_) (fun h3 => ?_)
    ·refine AC<|rn ⟨[(4,tB false)],[]⟩ ?_
     refine Ag<|CO ?_
     refine Bd<|Bd ?_
     refine CO<|Bd ?_
     exact ⟨_,Cv.refl _,.inl rfl,tO (.b false),by kernel_rfl,Al (by rw [<- hF0];first | (simp only [EE,h2,h3,cond_true,cond_false] <;> rfl))⟩
    ·refine Af<|Be<|AJ ?_
     refine rg ⟨[(KW a),(KV b),(5,tI (W64 (v5+1)))],[]⟩ ?_
     (try rw [(show W64 (v5+1)=v5+1 from An (by omega) au6)])
     refine AJ ?_
     refine ⟨(n0,v5+1),⟨?_,?_,(by rw [<- hF0];simp only [EE,h2,h3,cond_true,cond_false])⟩,Nat.lt_succ_self _,BB kr⟩
     ·show ((a.length:Int)-(v5+1)).toNat<n0;omega
     ·exact ⟨ax0,ax0⟩
   ·have g2:=oF h2
    refine BV<|BE ?_
    refine BE<|BW ?_
    refine AJ<|AC ?_
    refine rn ⟨[(4,tB true)],[]⟩<|Ag ?_
    exact ⟨_,Cv.refl _,.inl rfl,tO (.b true),by kernel_rfl,Al (by rw [<- hF0];first | (simp only [EE,h2,cond_true,cond_false] <;> rfl))⟩
theorem Tb (a:(List Ar)) (b:(List Ar)) (h0:(a.length:Int)<=1000000000) (ha:∀ k,(((a.getD k default).Shape.Edges.length:Int)<=1000000)) (hbb:∀ k,(((b.getD k default).Shape.Edges.length:Int)<=1000000)):Az Tryz.prog (Fe a b).1 (Fe a b).2.1 (Fe a b).2.2:=AW (fun _ _=>kr) fun _=>Ve a b h0 ha hbb
def Fg (l:(List Int)) (want:(List Int)):Nat->Int->Bool
 | 0,_=>default
 | n0+1,v13=>bif decide ((v13:Int)<(l.length:Int)) then (bif !decide (((l.getD v13.toNat default):Int)=(want.getD v13.toNat default)) then false else ((Fg l want n0) (v13+1))) else true
def GW (l:(List Int)) (want:(List Int)):Bool:=bif !decide (((l.length:Int):Int)=(want.length:Int)) then false else (Fg l want (((l.length:Int)-0).toNat+1) 0)
def Ft (l:(List Int)) (want:(List Int)):FuncId×List Av×Ef:=(19,[.one (lst 1 (fun x=>[.i x]) l),.one (lst 1 (fun x=>[.i x]) want)],.val [] (.av (.one (.b (GW l want)))))
abbrev MK (l:List Int):Nat×Tv:=(12,tI (l.length:Int))
theorem fO (l:(List Int)) (want:(List Int)) (h0:(l.length:Int)<=1000000000):Bk Tryz.prog 19 (Ft l want).2.1 (tO (.b (GW l want))):=by
 refine AV Tryz.func19 rfl kr kr fun W0 M0 => ?_
 refine AC<|rn ⟨[(0,tO (lst 1 (fun x=>[.i x]) l)),(1,tO (lst 1 (fun x=>[.i x]) want))],[]⟩ ?_
 refine AC<|AC ?_
 refine rn ⟨[(0,tO (lst 1 (fun x=>[.i x]) l)),(1,tO (lst 1 (fun x=>[.i x]) want)),(10,tB (!decide (((l.length:Int):Int)=(want.length:Int))))],[]⟩ ?_
 refine Ab _ rfl (fun h1 => ?_) (fun h1 => ?_)
 ·have g1:=CF h1
  refine AC<|rn ⟨[(4,tB false)],[]⟩ ?_
  refine Ag<|Bd ?_
  exact ⟨_,Cv.refl _,.inl rfl,tO (.b false),by kernel_rfl,Al (by first | (simp only [GW,h1,cond_true,cond_false] <;> rfl))⟩
 ·have g1:=B6 h1
  refine Af<|AJ ?_
  refine AC<|AC ?_
  refine rn ⟨[(0,tO (lst 1 (fun x=>[.i x]) l)),(1,tO (lst 1 (fun x=>[.i x]) want)),(MK l),(13,tI 0)],[]⟩<|AY ?_
  refine BS (ι:=Nat×Int) (fun x=>⟨[(0,tO (lst 1 (fun x=>[.i x]) l)),(1,tO (lst 1 (fun x=>[.i x]) want)),(MK l),(13,tI x.2)],[]⟩) (fun x=>((l.length:Int)-x.2).toNat<x.1/\(0<=x.2/\(x.2<=(l.length:Int)\/x.2=0))/\Fg l want x.1 x.2=GW l want) (fun x=>x.1) ?_ (((l.length:Int)-0).toNat+1,0) ⟨Nat.lt_succ_self _,⟨ax0,ax0⟩,(by simp only [GW,h1,cond_true,cond_false])⟩
  rintro ⟨n0,v13⟩ ⟨hn,hinv,hF⟩
  have hm0:=hn;have hinv0:=hinv;have hF0:=hF;try dsimp only at hm0 hinv0 hF0
  clear hn hinv hF
  cases n0 with
  | zero=>exact absurd hm0 (Nat.not_lt_zero _)
  | succ n0 =>
   refine AC<|rn ⟨[(0,tO (lst 1 (fun x=>[.i x]) l)),(1,tO (lst 1 (fun x=>[.i x]) want)),(MK l),(13,tI v13),(14,tB (decide ((v13:Int)<(l.length:Int))))],[]⟩<|AC ?_
   refine Ab _ rfl (fun h2 => ?_) (fun h2 => ?_)
   ·have g2:=oT h2
    refine Af<|AJ ?_
    refine AC<|AY<|AC ?_
    refine rn ⟨[(0,tO (lst 1 (fun x=>[.i x]) l)),(1,tO (lst 1 (fun x=>[.i x]) want)),(5,tI v13),(MK l),(13,tI v13)],[]⟩<|AC ?_
    refine dw [] [] [0<=(v13:Int)/\(v13:Int)<((l.length:Nat):Int),0<=(v13:Int)/\(v13:Int)<((want.length:Nat):Int)] ⟨[(0,tO (lst 1 (fun x=>[.i x]) l)),(1,tO (lst 1 (fun x=>[.i x]) want)),(MK l),(13,tI v13),(24,tB (!decide (((l.getD v13.toNat default):Int)=(want.getD v13.toNat default))))],[]⟩ .nil (.cons au0 (.cons au0 .nil))<|AJ ?_
    refine Ab _ rfl (fun h3 => ?_) (fun h3 => ?_)
    ·have g3:=CF h3
     refine AC<|rn ⟨[(4,tB false)],[]⟩ ?_
     refine Ag<|CO ?_
     refine Bd<|Bd ?_
     refine CO<|Bd ?_
     exact ⟨_,Cv.refl _,.inl rfl,tO (.b false),by kernel_rfl,Al (by rw [<- hF0];first | (simp only [Fg,h2,h3,cond_true,cond_false] <;> rfl))⟩
    ·have g3:=B6 h3
     refine Af<|Be<|AJ ?_
     refine rg ⟨[(0,tO (lst 1 (fun x=>[.i x]) l)),(1,tO (lst 1 (fun x=>[.i x]) want)),(MK l),(13,tI (W64 (v13+1)))],[]⟩ ?_
     (try rw [(show W64 (v13+1)=v13+1 from An (by omega) au6)])
     refine AJ ?_
     refine ⟨(n0,v13+1),⟨?_,?_,(by rw [<- hF0];simp only [Fg,h2,h3,cond_true,cond_false])⟩,Nat.lt_succ_self _,BB kr⟩
     ·show ((l.length:Int)-(v13+1)).toNat<n0;omega
     ·exact ⟨ax0,ax0⟩
   ·have g2:=oF h2
    refine BV<|BE ?_
    refine BE<|BW ?_
    refine AJ<|AC ?_
    refine rn ⟨[(4,tB true)],[]⟩<|Ag ?_
    exact ⟨_,Cv.refl _,.inl rfl,tO (.b true),by kernel_rfl,Al (by rw [<- hF0];first | (simp only [Fg,h2,cond_true,cond_false] <;> rfl))⟩
theorem O0 (l:(List Int)) (want:(List Int)) (h0:(l.length:Int)<=1000000000):Az Tryz.prog (Ft l want).1 (Ft l want).2.1 (Ft l want).2.2:=AW (fun _ _=>kr) fun _=>fO l want h0
def AR:(AF×(List AM)):=(AF.mk 2 (AQ.mk 0 [] 0) [AE.mk 7 ({ data := #[85,49] }:ByteArray) ({ data := #[111,110,101] }:ByteArray) (AB.mk 100 50) 0 false] [] [AO.mk 3 (⟨#[]⟩) 2 (B9 (AB.mk 1 0) 2)] [As.mk 2 (⟨#[]⟩) (AB.mk 20 20) 6 4 1 2] [] [] [Am.mk 9 (B9 (AB.mk 0 5) 3)] [] [] [] [],[AM.mk ({ data := #[111,110,101] }:ByteArray) [BF.mk ({ data := #[80,49] }:ByteArray) (DM (Ad.mk (-4) (-4) 4 4)) (AB.mk 0 0) 4] []])
def Fc:FuncId×List Av×Ef:=(36,[],.val [] (.tup [.agg (AF.c AR.1),.one (lst 3 AM.c AR.2)]))
abbrev Wa:List Cl:=[.i 0,.i 0,vN,.i 0,vN,vN,vN,vN,vN,vN,vN,vN,vN,vN,vN]
abbrev Sx:List Cl:=[.i 3,.s (⟨#[]⟩),.i 2,.i (B9 (AB.mk 1 0) 2).Kind,lst 7 AG.c (B9 (AB.mk 1 0) 2).Edges,.i (B9 (AB.mk 1 0) 2).R]
abbrev FH:=DM (Ad.mk (-4) (-4) 4 4)
abbrev U9:List Cl:=[.i 9,.i (B9 (AB.mk 0 5) 3).Kind,lst 7 AG.c (B9 (AB.mk 0 5) 3).Edges,.i (B9 (AB.mk 0 5) 3).R]
abbrev Rl:List Cl:=[.i 2,.s (⟨#[]⟩),.i 20,.i 20,.i 6,.i 4,.i 1,.i 2]
abbrev RX:List (Nat×Tv):=[(0,tP 0 0),(2,tP 2 0),(3,tP 3 0)]
abbrev MH:Nat×Blk:=(0,.cells Wa 41)
theorem Vb  : Bk Tryz.prog 36 (Fc ).2.1 (.tup [.agg (AF.c AR.1),.one (lst 3 AM.c AR.2)]):=by
 refine AV Tryz.func36 rfl kr kr fun W0 M0 => ?_
 refine AC<|rn ⟨[(0,tP 0 0)],[MH]⟩<|AC ?_
 refine rc [(5,GK (Ad.mk (-4) (-4) 4 4))] [Ak (GK (Ad.mk (-4) (-4) 4 4)).2.1] ⟨[(0,tP 0 0),(2,tP 2 0)],[MH,(2,.cells [.s ({ data := #[111,110,101] }:ByteArray),.list true 7 1 (Ay 7 1 [.s ({ data := #[80,49] }:ByteArray),.i FH.Kind,lst 7 AG.c FH.Edges,.i FH.R,.i 0,.i 0,.i 4]),vN] 82)]⟩ (.cons (N5 (Ad.mk (-4) (-4) 4 4)) .nil) (.cons rfl .nil)<|AJ<|AC ?_
 refine rn ⟨RX,[MH,(2,.cells [.s ({ data := #[111,110,101] }:ByteArray),.list true 7 1 (Ay 7 1 [.s ({ data := #[80,49] }:ByteArray),.i FH.Kind,lst 7 AG.c FH.Edges,.i FH.R,.i 0,.i 0,.i 4]),vN] 82),(3,.cells [.i 2,.i 0,vN,.i 0,.list true 7 1 (Ay 7 1 [.i 7,.s ({ data := #[85,49] }:ByteArray),.s ({ data := #[111,110,101] }:ByteArray),.i 100,.i 50,.i 0,.b false]),vN,vN,vN,vN,vN,vN,vN,vN,vN,vN] 41)]⟩<|AC ?_
 refine rc [(14,Eh (AB.mk 1 0) 2)] [Ak (Eh (AB.mk 1 0) 2).2.1] ⟨RX,[MH,(2,.cells [.s ({ data := #[111,110,101] }:ByteArray),.list true 7 1 (Ay 7 1 [.s ({ data := #[80,49] }:ByteArray),.i FH.Kind,lst 7 AG.c FH.Edges,.i FH.R,.i 0,.i 0,.i 4]),vN] 82),(3,.cells [.i 2,.i 0,vN,.i 0,.list true 7 1 (Ay 7 1 [.i 7,.s ({ data := #[85,49] }:ByteArray),.s ({ data := #[111,110,101] }:ByteArray),.i 100,.i 50,.i 0,.b false]),vN,.list true 6 1 (Ay 6 1 Sx),vN,vN,vN,vN,vN,vN,vN,vN] 41)]⟩ (.cons (Jw (AB.mk 1 0) 2) .nil) (.cons rfl .nil)<|AJ<|AC ?_
 refine rn ⟨RX,[MH,(2,.cells [.s ({ data := #[111,110,101] }:ByteArray),.list true 7 1 (Ay 7 1 [.s ({ data := #[80,49] }:ByteArray),.i FH.Kind,lst 7 AG.c FH.Edges,.i FH.R,.i 0,.i 0,.i 4]),vN] 82),(3,.cells [.i 2,.i 0,vN,.i 0,.list true 7 1 (Ay 7 1 [.i 7,.s ({ data := #[85,49] }:ByteArray),.s ({ data := #[111,110,101] }:ByteArray),.i 100,.i 50,.i 0,.b false]),vN,.list true 6 1 (Ay 6 1 Sx),.list true 8 1 (Ay 8 1 Rl),vN,vN,vN,vN,vN,vN,vN] 41)]⟩<|AC ?_
 refine rc [(23,Eh (AB.mk 0 5) 3)] [Ak (Eh (AB.mk 0 5) 3).2.1] ⟨RX,[MH,(2,.cells [.s ({ data := #[111,110,101] }:ByteArray),.list true 7 1 (Ay 7 1 [.s ({ data := #[80,49] }:ByteArray),.i FH.Kind,lst 7 AG.c FH.Edges,.i FH.R,.i 0,.i 0,.i 4]),vN] 82),(3,.cells [.i 2,.i 0,vN,.i 0,.list true 7 1 (Ay 7 1 [.i 7,.s ({ data := #[85,49] }:ByteArray),.s ({ data := #[111,110,101] }:ByteArray),.i 100,.i 50,.i 0,.b false]),vN,.list true 6 1 (Ay 6 1 Sx),.list true 8 1 (Ay 8 1 Rl),vN,vN,.list true 4 1 (Ay 4 1 U9),vN,vN,vN,vN] 41)]⟩ (.cons (Jw (AB.mk 0 5) 3) .nil) (.cons rfl .nil)<|AJ<|AC ?_
 refine dw [] [] [] ⟨[(0,tP 0 0),(1,.av (.one (.list true 3 1 (Ay 3 1 [.s ({ data := #[111,110,101] }:ByteArray),.list true 7 1 (Ay 7 1 [.s ({ data := #[80,49] }:ByteArray),.i FH.Kind,lst 7 AG.c FH.Edges,.i FH.R,.i 0,.i 0,.i 4]),vN]))))],[(0,.cells [.i 2,.i 0,vN,.i 0,.list true 7 1 (Ay 7 1 [.i 7,.s ({ data := #[85,49] }:ByteArray),.s ({ data := #[111,110,101] }:ByteArray),.i 100,.i 50,.i 0,.b false]),vN,.list true 6 1 (Ay 6 1 Sx),.list true 8 1 (Ay 8 1 Rl),vN,vN,.list true 4 1 (Ay 4 1 U9),vN,vN,vN,vN] 41)]⟩ .nil .nil<|AJ<|Ag ?_
 exact ⟨_,Cv.refl _,.inl rfl,.tup [.agg [.i 2,.i 0,vN,.i 0,.list true 7 1 (Ay 7 1 [.i 7,.s ({ data := #[85,49] }:ByteArray),.s ({ data := #[111,110,101] }:ByteArray),.i 100,.i 50,.i 0,.b false]),vN,.list true 6 1 (Ay 6 1 Sx),.list true 8 1 (Ay 8 1 Rl),vN,vN,.list true 4 1 (Ay 4 1 U9),vN,vN,vN,vN],.one (.list true 3 1 (Ay 3 1 [.s ({ data := #[111,110,101] }:ByteArray),.list true 7 1 (Ay 7 1 [.s ({ data := #[80,49] }:ByteArray),.i (DM (Ad.mk (-4) (-4) 4 4)).Kind,lst 7 AG.c (DM (Ad.mk (-4) (-4) 4 4)).Edges,.i (DM (Ad.mk (-4) (-4) 4 4)).R,.i 0,.i 0,.i 4]),vN]))],by kernel_rfl,D3 (y:=.tup [.agg [.i 2,.i 0,lst 7 AG.c [],.i 0,lst 7 AE.c [AE.mk 7 ({ data := #[85,49] }:ByteArray) ({ data := #[111,110,101] }:ByteArray) (AB.mk 100 50) 0 false],lst 2 A1.c [],lst 6 AO.c [AO.mk 3 (⟨#[]⟩) 2 (B9 (AB.mk 1 0) 2)],lst 8 As.c [As.mk 2 (⟨#[]⟩) (AB.mk 20 20) 6 4 1 2],lst 8 A0.c [],lst 5 Bb.c [],lst 4 Am.c [Am.mk 9 (B9 (AB.mk 0 5) 3)],lst 2 B8.c [],lst 20 BC.c [],lst 3 B4.c [],lst 3 Dw.c []],.one (lst 3 AM.c [AM.mk ({ data := #[111,110,101] }:ByteArray) [BF.mk ({ data := #[80,49] }:ByteArray) (DM (Ad.mk (-4) (-4) 4 4)) (AB.mk 0 0) 4] []])]) (.tup (.cons (.agg (rr (rr (.cons (Cr 7 AG.c) (rr (.cons (Bm true (Aw (c:=AE.c) (xs:=([AE.mk 7 ({ data := #[85,49] }:ByteArray) ({ data := #[111,110,101] }:ByteArray) (AB.mk 100 50) 0 false]:List AE)) rfl kr)) (.cons (Cr 2 A1.c) (.cons (Bm true (Aw (c:=AO.c) (xs:=([AO.mk 3 (⟨#[]⟩) 2 (B9 (AB.mk 1 0) 2)]:List AO)) rfl kr)) (.cons (Bm true (Aw (c:=As.c) (xs:=([As.mk 2 (⟨#[]⟩) (AB.mk 20 20) 6 4 1 2]:List As)) rfl kr)) (.cons (Cr 8 A0.c) (.cons (Cr 5 Bb.c) (.cons (Bm true (Aw (c:=Am.c) (xs:=([Am.mk 9 (B9 (AB.mk 0 5) 3)]:List Am)) rfl kr)) (.cons (Cr 2 B8.c) (.cons (Cr 20 BC.c) (.cons (Cr 3 B4.c) (.cons (Cr 3 Dw.c) .nil)))))))))))))))) (.cons (.one (Bm true (FU (c:=AM.c) (xs:=([AM.mk ({ data := #[111,110,101] }:ByteArray) [BF.mk ({ data := #[80,49] }:ByteArray) (DM (Ad.mk (-4) (-4) 4 4)) (AB.mk 0 0) 4] []]:List AM)) (y:=[[.s ({ data := #[111,110,101] }:ByteArray),.list true 7 1 (Ay 7 1 [.s ({ data := #[80,49] }:ByteArray),.i (DM (Ad.mk (-4) (-4) 4 4)).Kind,lst 7 AG.c (DM (Ad.mk (-4) (-4) 4 4)).Edges,.i (DM (Ad.mk (-4) (-4) 4 4)).R,.i 0,.i 0,.i 4]),vN]]) (z:=[[.s ({ data := #[111,110,101] }:ByteArray),lst 7 BF.c [BF.mk ({ data := #[80,49] }:ByteArray) (DM (Ad.mk (-4) (-4) 4 4)) (AB.mk 0 0) 4],lst 2 A4.c []]]) rfl kr kr (.cons (rr (.cons (Bm true (Aw (c:=BF.c) (xs:=([BF.mk ({ data := #[80,49] }:ByteArray) (DM (Ad.mk (-4) (-4) 4 4)) (AB.mk 0 0) 4]:List BF)) rfl kr)) (.cons (Cr 2 A4.c) .nil))) .nil)))) .nil))) (by rfl)⟩
theorem TZ  : Az Tryz.prog (Fc ).1 (Fc ).2.1 (Fc ).2.2:=AW (fun _ _=>kr) fun _=>Vb
def Pd (b:AF) (types:(List AM)):FuncId×List Av×Ef:=(14,[.agg (AF.c b),.one (Fw types)],.val [] (.av (.one (lst 9 AZ.c (Cw b types)))))
theorem aQ (b:AF) (types:(List AM)) (hb:MC b) (ht:Ck types):Az Tryz.prog (Pd b types).1 (Pd b types).2.1 (Pd b types).2.2:=AW (fun _ _=>kr) fun _=>Kt (qAll b types hb ht)
def Ln (b:AF) (types:(List AM)):FuncId×List Av×Ef:=(17,[.agg (AF.c b),.one (Fw types)],.val [] (.av (.one (lst 6 Ar.c (FG b types)))))
theorem aN (b:AF) (types:(List AM)) (hb:MC b) (ht:Ck types):Az Tryz.prog (Ln b types).1 (Ln b types).2.1 (Ln b types).2.2:=AW (fun _ _=>kr) fun _=>Kt (qQ b types hb ht)
end
section
open Go.RowKit
theorem sO:MC AR.1:=by
 constructor <;> decide
theorem cH:Ck AR.2:=by
 refine ⟨by decide,fun t ht => ?_⟩
 rw [show AR.2=[AR.2.getD 0 default] from rfl,List.mem_singleton] at ht
 subst ht
 refine ⟨by decide,by decide,fun p hp => ?_,fun g hg=>by cases hg⟩
 rw [show (AR.2.getD 0 default).Pads=[(AR.2.getD 0 default).Pads.getD 0 default] from rfl,List.mem_singleton] at hp
 subst hp
 unfold UY
 decide
theorem bX {α:Type} [Inhabited α] {p:α->Bool} {l:List α} (hd:p default=true) (h:l.all p=true) (k:Nat):p (l.getD k default)=true:=GS (p:=fun x=>p x=true) hd (List.all_eq_true.1 h) k
theorem bV {l:List Ar} (h:(l.all fun x=>decide ((x.Shape.Edges.length:Int)<=1000000))=true):∀ k,(((l.getD k default).Shape.Edges.length:Int)<=1000000):=fun k=>oT (bX (p:=fun x:Ar=>decide ((x.Shape.Edges.length:Int)<=1000000)) (by decide) h k)
def Z0L:Bool := !decide ((((Cw AR.1 AR.2).length:Int):Int)=3)
def Z0M:AZ:=(Cw AR.1 AR.2).getD 0 default
def Z0N:Bool:=WU Z0M (AZ.mk 7 ({ data := #[80,49] }:ByteArray) 1 (⟨#[]⟩) 1 2 (DM (Ad.mk 96 46 104 54)))
def Z0O:Bool:=bif Z0N then decide ((((Cw AR.1 AR.2).getD 1 default).Id:Int)=3) else false
def Z0P:Bool:=bif Z0O then decide ((((Cw AR.1 AR.2).getD 1 default).From:Int)=2) else false
def Z0Q:Bool:=bif Z0P then decide ((((Cw AR.1 AR.2).getD 2 default).Id:Int)=2) else false
def Z0R:Bool:=bif Z0Q then decide ((((Cw AR.1 AR.2).getD 2 default).Kind:Int)=3) else false
def Z0S:(List Int):=FOn (Cw AR.1 AR.2) 1
def Z0T:Bool:=bif GW Z0S [0,2] then GW (FOn (Cw AR.1 AR.2) 2) [0,1,2] else false
def Z0U:Bool:=bif Z0T then GW (FOn (Cw AR.1 AR.2) 3) [] else false
def Z0V:AQ:=(AR.1.Slots.getD 0 default).Shape
def Z0W:(Nat->Nat->Cl):=Ay 6 3 [.i (B9 (AB.mk 100 50) 2).Kind,lst 7 AG.c (B9 (AB.mk 100 50) 2).Edges,.i (B9 (AB.mk 100 50) 2).R,.i 1,.i 2,.b true,.i (B9 (AB.mk 20 20) 2).Kind,lst 7 AG.c (B9 (AB.mk 20 20) 2).Edges,.i (B9 (AB.mk 20 20) 2).R,.i 1,.i 2,.b true,.i Z0V.Kind,lst 7 AG.c Z0V.Edges,.i Z0V.R,.i 1,.i 2,.b false]
def Z0X:AZ:=(Cw AR.1 AR.2).getD 1 default
def Z0Y:AZ:=(Cw AR.1 AR.2).getD 2 default
def Z0Z:(List AQ):=Px (A0.mk 0 (⟨#[]⟩) 0 10 0 0 0 []) [Ad.mk 1 2 3 4]
def Z10:Bool:=bif Z0R then Z0U else false
def Z11:Bool:=bif Z10 then Fj (FG AR.1 AR.2) [Ar.mk (B9 (AB.mk 100 50) 2) 1 2 true,Ar.mk (B9 (AB.mk 20 20) 2) 1 2 true,Ar.mk Z0V 1 2 false] else false
def Z12:Bool:=bif Z11 then (Da Z0X Z0Y).2.2 else false
def Z13:Bool:=bif Z12 then decide (((Da Z0X Z0Y).1:Int)=2) else false
def Z14:Bool:=bif Z13 then decide (((Da Z0X Z0Y).2.1:Int)=2) else false
def Z15:Bool:=bif Z14 then decide (((Z0Z.length:Int):Int)=1) else false
def Z16:Bool:=bif Z15 then NJ (Z0Z.getD 0 default) (DM (Ad.mk 10 20 30 40)) else false
def A9:Bool:=bif Z0L then false else Z16
def Ga:FuncId×List Av×Ef:=(9,[],.val [] (.av (.one (.b A9))))
abbrev JO:List (Nat×Blk):=[(1,.cells (AF.c AR.1) 41)]
abbrev JN:Nat×Tv:=(2,tO (lst 3 AM.c AR.2))
abbrev JM:=Cw AR.1 AR.2
abbrev ZV:List Av:=[.agg [.i 0,.s (⟨#[]⟩),.i 0,.i 10,.i 0,.i 0,.i 0,vN],.one (.list true 4 1 (Ay 4 1 [.i 1,.i 2,.i 3,.i 4]))]
abbrev ON:Nat×Tv:=(3,tO (lst 9 AZ.c JM))
abbrev MJ:=GW Z0S [0,2]
abbrev Uq:Nat×Tv:=(6,.av (.one (.list true 6 3 Z0W)))
abbrev ZB:List Av:=[.one (lst 6 Ar.c (FG AR.1 AR.2)),.one (.list true 6 3 Z0W)]
theorem au13 {p:Prop} (h:p:=by first | (exact sO) | (exact cH) | (decide +kernel) | (exact bV (by decide +kernel)) | with_reducible assumption | omega | decide | (simp only [List.length_cons,List.length_nil,List.length_append];omega) | assumption):p:=h
theorem Xz  : Bk Tryz.prog 9 (Ga ).2.1 (tO (.b A9)):=by
 refine AV Tryz.func9 rfl kr kr fun W0 M0 => ?_
 refine AC<|rn ⟨[],[]⟩<|AC ?_
 refine rc [(12,Fc)] [Ak Fc.2.1] ⟨[(1,tP 1 0),JN],JO⟩ (.cons TZ .nil) (.cons rfl .nil)<|AJ<|AC ?_
 refine rc [(17,Pd AR.1 AR.2)] [Ak (Pd AR.1 AR.2).2.1] ⟨[(1,tP 1 0),JN,ON],JO⟩ (.cons (aQ AR.1 AR.2 au13 au13) .nil) (.cons rfl .nil)<|AJ ?_
 refine AC<|AC ?_
 refine rn ⟨[(1,tP 1 0),JN,ON,(20,tB Z0L)],JO⟩ ?_
 refine Ab _ rfl (fun h1 => ?_) (fun h1 => ?_)
 ·refine AC<|rn ⟨[(0,tB false)],[]⟩ ?_
  refine Ag<|Bd ?_
  exact ⟨_,Cv.refl _,.inl rfl,tO (.b false),by kernel_rfl,Al (by first | (simp only [A9,h1,cond_true,cond_false] <;> rfl))⟩
 ·refine Af<|AJ<|AC ?_
  refine dw [] [(25,GK (Ad.mk 96 46 104 54)),(27,M5 Z0M (AZ.mk 7 ({ data := #[80,49] }:ByteArray) 1 (⟨#[]⟩) 1 2 (DM (Ad.mk 96 46 104 54))))] [0<=(0:Int)/\(0:Int)<(((Cw AR.1 AR.2).length:Nat):Int),Ak (GK (Ad.mk 96 46 104 54)).2.1,Ak (M5 Z0M (AZ.mk 7 ({ data := #[80,49] }:ByteArray) 1 (⟨#[]⟩) 1 2 (DM (Ad.mk 96 46 104 54)))).2.1,(Z0N=true)->(Z0N=true),(Z0N=true)->(0<=(1:Int)/\(1:Int)<(((Cw AR.1 AR.2).length:Nat):Int)),(Z0N=true)->(Z0N=true),(Z0N=true)->(Z0N=true),(Z0N=true)->(Z0N=true),Z0N=true->(Z0N=true),(Z0O=true)->(Z0O=true),(Z0O=true)->(0<=(1:Int)/\(1:Int)<(((Cw AR.1 AR.2).length:Nat):Int)),(Z0O=true)->(Z0O=true),(Z0O=true)->(Z0O=true),(Z0O=true)->(Z0O=true),Z0O=true->(Z0O=true),(Z0P=true)->(Z0P=true),(Z0P=true)->(0<=(2:Int)/\(2:Int)<(((Cw AR.1 AR.2).length:Nat):Int)),(Z0P=true)->(Z0P=true),(Z0P=true)->(Z0P=true),(Z0P=true)->(Z0P=true),Z0P=true->(Z0P=true),(Z0Q=true)->(Z0Q=true),(Z0Q=true)->(0<=(2:Int)/\(2:Int)<(((Cw AR.1 AR.2).length:Nat):Int)),(Z0Q=true)->(Z0Q=true),(Z0Q=true)->(Z0Q=true),(Z0Q=true)->(Z0Q=true),Z0Q=true->(Z0Q=true)] ⟨[(1,tP 1 0),JN,ON,(4,tB Z0R)],JO⟩ (.cons (N5 (Ad.mk 96 46 104 54)) (.cons (gN Z0M (AZ.mk 7 ({ data := #[80,49] }:ByteArray) 1 (⟨#[]⟩) 1 2 (DM (Ad.mk 96 46 104 54))) au13 au13) .nil)) (.cons (by decide +kernel) (.cons rfl (.cons rfl (ci (.cons (fun hG=>by first | exact (by decide +kernel) | (simp only [decide_eq_true_eq,decide_eq_false_iff_not,Bool.not_eq_true,Bool.and_eq_true] at hG <;> omega) | (simp at hG <;> omega) | (simp only [decide_eq_true_eq,decide_eq_false_iff_not] at hG;simp only [Bx];omega)) (ci (ci (ci (ci (ci (.cons (fun hG=>by first | exact (by decide +kernel) | (simp only [decide_eq_true_eq,decide_eq_false_iff_not,Bool.not_eq_true,Bool.and_eq_true] at hG <;> omega) | (simp at hG <;> omega) | (simp only [decide_eq_true_eq,decide_eq_false_iff_not] at hG;simp only [Bx];omega)) (ci (ci (ci (ci (ci (.cons (fun hG=>by first | exact (by decide +kernel) | (simp only [decide_eq_true_eq,decide_eq_false_iff_not,Bool.not_eq_true,Bool.and_eq_true] at hG <;> omega) | (simp at hG <;> omega) | (simp only [decide_eq_true_eq,decide_eq_false_iff_not] at hG;simp only [Bx];omega)) (ci (ci (ci (ci (ci (.cons (fun hG=>by first | exact (by decide +kernel) | (simp only [decide_eq_true_eq,decide_eq_false_iff_not,Bool.not_eq_true,Bool.and_eq_true] at hG <;> omega) | (simp at hG <;> omega) | (simp only [decide_eq_true_eq,decide_eq_false_iff_not] at hG;simp only [Bx];omega)) (ci (ci (ci (ci .nil)))))))))))))))))))))))))))<|AJ<|AC ?_
  refine rc [(57,cOn JM 1),(59,ceI [.one (lst 1 (fun x=>[.i x]) Z0S),.one (.list true 1 2 (Ay 1 2 [.i 0,.i 2]))] (Ft Z0S [0,2])),(62,cOn JM 2),(64,ceI [.one (lst 1 (fun x=>[.i x]) (FOn JM 2)),.one (.list true 1 3 (Ay 1 3 [.i 0,.i 1,.i 2]))] (Ft (FOn JM 2) [0,1,2])),(68,cOn JM 3),(69,ceI [.one (lst 1 (fun x=>[.i x]) (FOn JM 3)),.one vN] (Ft (FOn JM 3) []))] [Ak (cOn (Cw AR.1 AR.2) 1).2.1,Ak (ceI [.one (lst 1 (fun x=>[.i x]) Z0S),.one (.list true 1 2 (Ay 1 2 [.i 0,.i 2]))] (Ft Z0S [0,2])).2.1,gt MJ,gk MJ (Ak (cOn (Cw AR.1 AR.2) 2).2.1),gt MJ,gt MJ,gk MJ (Ak (ceI [.one (lst 1 (fun x=>[.i x]) (FOn (Cw AR.1 AR.2) 2)),.one (.list true 1 3 (Ay 1 3 [.i 0,.i 1,.i 2]))] (Ft (FOn (Cw AR.1 AR.2) 2) [0,1,2])).2.1),gt MJ,(Z0T=true)->(Z0T=true),(Z0T=true)->(Ak (cOn (Cw AR.1 AR.2) 3).2.1),(Z0T=true)->(Z0T=true),(Z0T=true)->(Ak (ceI [.one (lst 1 (fun x=>[.i x]) (FOn (Cw AR.1 AR.2) 3)),.one vN] (Ft (FOn (Cw AR.1 AR.2) 3) [])).2.1),Z0T=true->(Z0T=true)] ⟨[(1,tP 1 0),JN,ON,(4,tB Z0R),(5,tB Z0U)],JO⟩ (.cons (rS (Cw AR.1 AR.2) 1 au13) (.cons (DE (O0 Z0S [0,2] au13) (.cons (AvE.refl _) (.cons (.one (Bm true (Aw (c:=(fun x=>[.i x])) (xs:=([0,2]:List Int)) rfl kr))) .nil))) (.cons (rS (Cw AR.1 AR.2) 2 au13) (.cons (DE (O0 (FOn (Cw AR.1 AR.2) 2) [0,1,2] au13) (.cons (AvE.refl _) (.cons (.one (Bm true (Aw (c:=(fun x=>[.i x])) (xs:=([0,1,2]:List Int)) rfl kr))) .nil))) (.cons (rS (Cw AR.1 AR.2) 3 au13) (.cons (DE (O0 (FOn (Cw AR.1 AR.2) 3) [] au13) (.cons (AvE.refl _) (.cons (.one (Cr 1 (fun x=>[.i x]))) .nil))) .nil)))))) (.cons rfl (.cons rfl (ci (.cons (fun _=>rfl) (ci (ci (.cons (fun _=>rfl) (ci (ci (.cons (fun _=>rfl) (ci (.cons (fun _=>rfl) (ci .nil)))))))))))))<|AJ<|AC ?_
  refine dw [] [(72,Eh (AB.mk 100 50) 2),(75,Eh (AB.mk 20 20) 2)] [Ak (Eh (AB.mk 100 50) 2).2.1,Ak (Eh (AB.mk 20 20) 2).2.1,0<=(0:Int)/\(0:Int)<((AR.1.Slots.length:Nat):Int)] ⟨[(1,tP 1 0),JN,ON,(4,tB Z0R),(5,tB Z0U),Uq],JO⟩ (.cons (Jw (AB.mk 100 50) 2) (.cons (Jw (AB.mk 20 20) 2) .nil)) (.cons rfl (.cons rfl (.cons (by decide +kernel) .nil)))<|AJ<|AC ?_
  refine dw [] [(91,KB Z0X Z0Y)] [0<=(1:Int)/\(1:Int)<(((Cw AR.1 AR.2).length:Nat):Int),0<=(2:Int)/\(2:Int)<(((Cw AR.1 AR.2).length:Nat):Int),Ak (KB Z0X Z0Y).2.1] ⟨[(1,tP 1 0),JN,(4,tB Z0R),(5,tB Z0U),Uq,(7,tI (Da Z0X Z0Y).1),(8,tI (Da Z0X Z0Y).2.1),(9,tB (Da Z0X Z0Y).2.2)],JO⟩ (.cons (aL Z0X Z0Y) .nil) (.cons (by decide +kernel) (.cons (by decide +kernel) (.cons rfl .nil)))<|AJ<|AC ?_
  refine rc [(98,ceI ZV (NA (A0.mk 0 (⟨#[]⟩) 0 10 0 0 0 []) [Ad.mk 1 2 3 4]))] [Ak (ceI ZV (NA (A0.mk 0 (⟨#[]⟩) 0 10 0 0 0 []) [Ad.mk 1 2 3 4])).2.1] ⟨[(1,tP 1 0),JN,(4,tB Z0R),(5,tB Z0U),Uq,(7,tI (Da Z0X Z0Y).1),(8,tI (Da Z0X Z0Y).2.1),(9,tB (Da Z0X Z0Y).2.2),(10,tO (lst 3 AQ.c Z0Z))],JO⟩ (.cons (DE (gS (A0.mk 0 (⟨#[]⟩) 0 10 0 0 0 []) [Ad.mk 1 2 3 4] au13) (.cons (.agg (rr (rr (rr (rr (rr (rr (rr (.cons (Cr 4 Ad.c) .nil))))))))) (.cons (.one (Bm true (Aw (c:=Ad.c) (xs:=([Ad.mk 1 2 3 4]:List Ad)) rfl kr))) .nil))) .nil) (.cons rfl .nil)<|AJ<|AC ?_
  refine dw [] [(106,Ln AR.1 AR.2),(108,ceI ZB (Fe (FG AR.1 AR.2) [Ar.mk (B9 (AB.mk 100 50) 2) 1 2 true,Ar.mk (B9 (AB.mk 20 20) 2) 1 2 true,Ar.mk Z0V 1 2 false])),(131,GK (Ad.mk 10 20 30 40)),(132,Jp (Z0Z.getD 0 default) (DM (Ad.mk 10 20 30 40)))] [Z0R=true->(Z0R=true),(Z10=true)->(Z10=true),(Z10=true)->(Z10=true),(Z10=true)->(Ak (Ln AR.1 AR.2).2.1),(Z10=true)->(Z10=true),(Z10=true)->(Z10=true),(Z10=true)->(Ak (ceI ZB (Fe (FG AR.1 AR.2) [Ar.mk (B9 (AB.mk 100 50) 2) 1 2 true,Ar.mk (B9 (AB.mk 20 20) 2) 1 2 true,Ar.mk Z0V 1 2 false])).2.1),Z10=true->(Z10=true),Z11=true->(Z11=true),(Z12=true)->(Z12=true),Z12=true->(Z12=true),(Z13=true)->(Z13=true),Z13=true->(Z13=true),(Z14=true)->(Z14=true),(Z14=true)->(Z14=true),Z14=true->(Z14=true),(Z15=true)->(Z15=true),(Z15=true)->(0<=(0:Int)/\(0:Int)<((Z0Z.length:Nat):Int)),(Z15=true)->(Z15=true),(Z15=true)->(Z15=true),(Z15=true)->(Ak (GK (Ad.mk 10 20 30 40)).2.1),(Z15=true)->(Z15=true),(Z15=true)->(Z15=true),(Z15=true)->(Ak (Jp (Z0Z.getD 0 default) (DM (Ad.mk 10 20 30 40))).2.1),Z15=true->(Z15=true)] ⟨[(0,tB Z16)],[]⟩ (.cons (aN AR.1 AR.2 au13 au13) (.cons (DE (Tb (FG AR.1 AR.2) [Ar.mk (B9 (AB.mk 100 50) 2) 1 2 true,Ar.mk (B9 (AB.mk 20 20) 2) 1 2 true,Ar.mk Z0V 1 2 false] au13 au13 au13) (.cons (AvE.refl _) (.cons (.one (Bm true (Aw (c:=Ar.c) (xs:=([Ar.mk (B9 (AB.mk 100 50) 2) 1 2 true,Ar.mk (B9 (AB.mk 20 20) 2) 1 2 true,Ar.mk Z0V 1 2 false]:List Ar)) rfl kr))) .nil))) (.cons (N5 (Ad.mk 10 20 30 40)) (.cons (Ws (Z0Z.getD 0 default) (DM (Ad.mk 10 20 30 40)) au13 au13) .nil)))) (ci (ci (ci (.cons (fun _=>rfl) (ci (ci (.cons (fun _=>rfl) (ci (ci (ci (ci (ci (ci (ci (ci (ci (ci (.cons (fun hG=>by first | exact (by decide +kernel) | (simp only [decide_eq_true_eq,decide_eq_false_iff_not,Bool.not_eq_true,Bool.and_eq_true] at hG <;> omega) | (simp at hG <;> omega) | (simp only [decide_eq_true_eq,decide_eq_false_iff_not] at hG;simp only [Bx];omega)) (ci (ci (.cons (fun _=>rfl) (ci (ci (.cons (fun _=>rfl) (ci .nil)))))))))))))))))))))))))<|AJ<|Ag ?_
  exact ⟨_,Cv.refl _,.inl rfl,tO (.b Z16),by kernel_rfl,Al (by first | (simp only [A9,h1,cond_true,cond_false] <;> rfl))⟩
theorem Vh  : Az Tryz.prog (Ga ).1 (Ga ).2.1 (Ga ).2.2:=AW (fun _ _=>kr) fun _=>Xz
theorem qM:A9=true:=by decide +kernel
end
section
open Go.RowKit
def Z17:Blk:=.cells OJ 82
def Z18 (types:(List AM)) (k:Int) (name:ByteArray):Bool:=((types.getD k.toNat default).Name.toList==name.toList)
def Dz (types:(List AM)) (name:ByteArray):Nat->Int->(AM×Bool)
 | 0,_=>default
 | n0+1,k=>bif decide ((k:Int)<(types.length:Int)) then (bif Z18 types k name then (types.getD k.toNat default,true) else ((Dz types name n0) (k+1))) else (AM.mk (⟨#[]⟩) [] [],false)
def Bn (types:(List AM)) (name:ByteArray):(AM×Bool):=Dz types name (((types.length:Int)-0).toNat+1) 0
def Jq (types:(List AM)) (name:ByteArray):FuncId×List Av×Ef:=(33,[.one (Fw types),.one (.s name)],.val [] (.tup [.agg (AM.c (Bn types name).1),.one (.b (Bn types name).2)]))
theorem rF (types:(List AM)) (name:ByteArray) (h0:(types.length:Int)<=1000000):Bk Tryz.prog 33 (Jq types name).2.1 (.tup [.agg (AM.c (Bn types name).1),.one (.b (Bn types name).2)]):=by
 refine AV Tryz.func33 rfl kr kr fun W0 M0 => ?_
 refine AC<|rn ⟨[(D2 types),(1,tO (.s name)),(4,tP 4 0)],[(4,Z17)]⟩ ?_
 refine AC<|AC ?_
 refine rn ⟨[(D2 types),(1,tO (.s name)),(4,tP 4 0),(6,tI 0)],[(4,Z17)]⟩<|AY ?_
 refine BS (ι:=Nat×Int) (fun x=>⟨[(D2 types),(1,tO (.s name)),(4,tP 4 0),(6,tI x.2)],[(4,Z17)]⟩) (fun x=>((types.length:Int)-x.2).toNat<x.1/\(0<=x.2/\0<=x.2/\(x.2<=(types.length:Int)\/x.2=0))/\Dz types name x.1 x.2=Bn types name) (fun x=>x.1) ?_ (((types.length:Int)-0).toNat+1,0) ⟨Nat.lt_succ_self _,⟨ax0,ax0,ax0⟩,(by simp only [Bn,cond_true,cond_false])⟩
 rintro ⟨n0,k⟩ ⟨hn,hinv,hF⟩
 have hm0:=hn;have hinv0:=hinv;have hF0:=hF;try dsimp only at hm0 hinv0 hF0
 clear hn hinv hF
 cases n0 with
 | zero=>exact absurd hm0 (Nat.not_lt_zero _)
 | succ n0 =>
  refine AC<|AC ?_
  refine rn ⟨[(D2 types),(1,tO (.s name)),(4,tP 4 0),(6,tI k),(10,tB (decide ((k:Int)<(types.length:Int))))],[(4,Z17)]⟩ ?_
  refine Ab _ rfl (fun h1 => ?_) (fun h1 => ?_)
  ·have g1:=oT h1
   refine Af<|AJ ?_
   refine AC<|AY<|AC ?_
   refine rc [] [0<=(k:Int)/\(k:Int)<((types.length:Nat):Int)] ⟨[(D2 types),(1,tO (.s name)),(4,tP 4 0),(6,tI k),(19,tB (Z18 types k name))],[(4,Z17)]⟩ .nil (.cons au0 .nil)<|AJ ?_
   refine Ab _ rfl (fun h2 => ?_) (fun h2 => ?_)
   ·refine AC<|rc [] [0<=(k:Int)/\(k:Int)<((types.length:Nat):Int)] ⟨RN,[(4,.cells (AM.c (types.getD k.toNat default)) 82)]⟩ .nil (.cons au0 .nil)<|AJ ?_
    refine Ag<|CO ?_
    refine Bd<|Bd ?_
    refine CO<|Bd ?_
    exact ⟨_,Cv.refl _,.inl rfl,.tup [.agg (AM.c (types.getD k.toNat default)),.one (.b true)],by kernel_rfl,Al (by rw [<- hF0];first | (simp only [Dz,h1,h2,cond_true,cond_false] <;> rfl))⟩
   ·refine Af<|Be<|AJ ?_
    refine rg ⟨[(D2 types),(1,tO (.s name)),(4,tP 4 0),(6,tI (W64 (k+1)))],[(4,Z17)]⟩ ?_
    (try rw [(show W64 (k+1)=k+1 from An (by omega) (by omega))])
    refine AJ ?_
    refine ⟨(n0,k+1),⟨?_,?_,(by rw [<- hF0];simp only [Dz,h1,h2,cond_true,cond_false])⟩,Nat.lt_succ_self _,BB kr⟩
    ·show ((types.length:Int)-(k+1)).toNat<n0;omega
    ·exact ⟨ax0,ax0,ax0⟩
  ·have g1:=oF h1
   refine BV<|BE ?_
   refine BE<|BW ?_
   refine AJ<|AC ?_
   refine rn ⟨[(4,tP 4 0),(5,tB false)],[(4,Z17)]⟩<|Ag ?_
   exact ⟨_,Cv.refl _,.inl rfl,.tup [.agg OJ,.one (.b false)],by kernel_rfl,D3 (y:=.tup ZJ) (.tup (.cons (.agg (rr (.cons (Cr 7 BF.c) (.cons (Cr 2 A4.c) .nil)))) (.cons (AvE.refl _) .nil))) (by rw [<- hF0];first | (simp only [Dz,h1,cond_true,cond_false] <;> rfl))⟩
theorem Wt (types:(List AM)) (name:ByteArray) (h0:(types.length:Int)<=1000000):Az Tryz.prog (Jq types name).1 (Jq types name).2.1 (Jq types name).2.2:=AW (fun _ _=>kr) fun _=>rF types name h0
theorem jA {α β:Type} [Inhabited α] (f:α->Bool) (K:α->β) (D:β) (xs:List α) (g:Nat->Int->β) (hg:∀ m (v:Nat),g (m+1) v=bif decide ((v:Int)<(xs.length:Int)) then (bif f (xs.getD v default) then K (xs.getD v default) else g m ((v:Int)+1)) else D) :
  ∀ (k v m:Nat),xs.length-v=k->v<=xs.length->k<m->g m v=match (xs.drop v).find? f with | some x=>K x | none=>D:=by
 intro k
 induction k with
 | zero =>
  intro v m hk hv hm
  obtain ⟨m,rfl⟩:∃ k,m=k+1:=⟨m-1,by omega⟩
  rw [hg,decide_eq_false (by omega),cond_false,List.drop_eq_nil_of_le (by omega)]
  rfl
 | succ k ih =>
  intro v m hk hv hm
  obtain ⟨m,rfl⟩:∃ k,m=k+1:=⟨m-1,by omega⟩
  have hlt:v<xs.length:=by omega
  have e:xs.getD v default=xs[v]:=by rw [List.getD_eq_getElem?_getD,List.getElem?_eq_getElem hlt];rfl
  rw [hg,decide_eq_true (by omega),cond_true,e,List.drop_eq_getElem_cons hlt,List.find?_cons]
  cases f xs[v] with
  | true=>rfl
  | false=>exact ih (v+1) m (by omega) (by omega) (by omega)
theorem dJ {a c:ByteArray} (h:(a.toList==c.toList)=true):a=c:=by have:=(WC a c).1 h;cases this;rfl
theorem Yw (types:List AM) (name:ByteArray):Bn types name=Bt types name:=by
 rw [MB]
 unfold Bn YV
 have h:=jA (fun t=>HO t name) (fun t=>((t,true):AM×Bool)) (⟨⟨#[]⟩,[],[]⟩,false) types (Dz types name) (fun m v=>by rw [Dz];unfold Z18;rw [Int.toNat_natCast];rfl) types.length 0 (((types.length:Int)-0).toNat+1) rfl (Nat.zero_le _) (by omega)
 rw [List.drop_zero] at h
 refine h.trans ?_
 cases hf:types.find? (fun t=>HO t name) with
 | none=>rfl
 | some t =>
  have e:t.Name=name:=dJ (List.find?_some (p:=fun t=>HO t name) hf)
  subst e
  rfl
def Z19:Blk:=.cells [.i 0,vN,.i 0] 28
def Z1a:Blk:=.row 7 ([]:List AG).length (AP AG.c ([]:List AG)) 68
def Z1b:Blk:=.cells [.i 2,.own 100000 7 ([]:List AG).length,.i 0] 28
def Z1c (l:(List AB)) (k:Int):AB:=l.getD (Int.tmod (W64 (k+1)) (l.length:Int)).toNat default
abbrev Rb (l:List AB) (k:Int):=[AG.mk 1 (l.getD k.toNat default) (Z1c l k) (AB.mk 0 0)]
def Z1d (s_1:List AG) (l:(List AB)) (k:Int):Blk:=.cells [.i 2,.own 28 7 (s_1++(Rb l k)).length,.i 0] 28
def Z1e (s_1:List AG) (l:(List AB)) (k:Int):Blk:=.row 7 (s_1++(Rb l k)).length (AP AG.c (s_1++(Rb l k))) 68
def G7 (l:(List AB)):Nat->List AG->Int->AQ
 | 0,_,_=>default
 | n0+1,s_1,k=>bif decide ((k:Int)<(l.length:Int)) then ((G7 l n0) (s_1++[AG.mk 1 (l.getD k.toNat default) (Z1c l k) (AB.mk 0 0)]) (k+1)) else (AQ.mk 2 s_1 0)
def Nk (l:(List AB)):AQ:=G7 l (((l.length:Int)-0).toNat+1) ([]:List AG) 0
def Qy (l:(List AB)):FuncId×List Av×Ef:=(92,[.one (lst 2 AB.c l)],.val [] (.av (.agg (AQ.c (Nk l)))))
abbrev GF (l:List AB):Nat×Tv:=(0,tO (lst 2 AB.c l))
theorem pLoop (l:(List AB)) (h0:(l.length:Int)<=1000000):Bk Tryz.prog 92 (Qy l).2.1 (.av (.agg (AQ.c (Nk l)))):=by
 refine AV Tryz.func92 rfl kr kr fun W0 M0 => ?_
 refine AC<|rn ⟨[(GF l),(2,tP 2 0)],[(2,Z19)]⟩<|AC ?_
 refine rn ⟨[(GF l),(2,tP 2 0),(3,tP 3 0)],[(2,Z19),(3,.cells [.i 2,vN,.i 0] 28)]⟩ ?_
 refine AC<|AC ?_
 refine rn ⟨[(GF l),(2,tP 2 0),(3,tP 3 0),(4,tI 0)],[(2,Z19),(3,.cells [.i 2,vN,.i 0] 28)]⟩<|AY ?_
 refine Ba (Cv.trans (Ca (⟨[(GF l),(2,tP 2 0),(3,tP 3 0),(4,tI 0)],[(100000,.row 7 0 (fun _ _=>default) 68),(2,Z19),(3,.cells [.i 2,.own 100000 7 0,.i 0] 28)]⟩) 100000 7 (fun _ _=>default) 68 [] [(3,[1])] (K:=[]) (fun k x h=>by cases h) rfl kr kr) (Cv.trans (BT (⟨[(GF l),(2,tP 2 0),(3,tP 3 0),(4,tI 0)],[(100000,Z1a),(2,Z19),(3,Z1b)]⟩) lr (.cons ⟨rfl,Ap 68 (CZ 7 (fun _ _=>default) AG.c)⟩ (.cons ⟨rfl,.refl _⟩ (.cons ⟨rfl,.cells _ (rr (.cons (.own _ _ au2) (rr .nil)))⟩ .nil)))) (Cv.trans (BD [0,2,3,4] [2,3,100000] (⟨[(GF l),(2,tP 2 0),(3,tP 3 0),(4,tI 0)],[(2,Z19),(3,Z1b),(100000,Z1a)]⟩) kr) (Cv.refl _)))) ?_
 refine BS (ι:=Nat×List AG×Int) (fun x=>⟨[(GF l),(2,tP 2 0),(3,tP 3 0),(4,tI x.2.2)],[(2,Z19),(3,.cells [.i 2,.own 100000 7 x.2.1.length,.i 0] 28),(100000,.row 7 x.2.1.length (AP AG.c x.2.1) 68)]⟩) (fun x=>((l.length:Int)-x.2.2).toNat<x.1/\(0<=x.2.2/\(x.2.2<=(l.length:Int)\/x.2.2=0)/\(x.2.1.length:Int)<=0+1*(x.2.2-0))/\G7 l x.1 x.2.1 x.2.2=Nk l) (fun x=>x.1) ?_ (((l.length:Int)-0).toNat+1,([]:List AG),0) ⟨Nat.lt_succ_self _,⟨ax0,ax0,ax0⟩,(by simp only [Nk,cond_true,cond_false])⟩
 rintro ⟨n0,s_1,k⟩ ⟨hn,hinv,hF⟩
 have hm0:=hn;have hinv0:=hinv;have hF0:=hF;try dsimp only at hm0 hinv0 hF0
 clear hn hinv hF
 cases n0 with
 | zero=>exact absurd hm0 (Nat.not_lt_zero _)
 | succ n0 =>
  refine AC<|AC ?_
  refine rn ⟨[(GF l),(2,tP 2 0),(3,tP 3 0),(4,tI k),(9,tB (decide ((k:Int)<(l.length:Int))))],[(2,Z19),(3,.cells [.i 2,.own 100000 7 s_1.length,.i 0] 28),(100000,.row 7 s_1.length (AP AG.c s_1) 68)]⟩ ?_
  refine Ab _ rfl (fun h1 => ?_) (fun h1 => ?_)
  ·have g1:=oT h1
   refine Af<|AJ ?_
   refine AC<|AY ?_
   refine dw [] [] [0<=(k:Int)/\(k:Int)<((l.length:Nat):Int),((l.length:Int):Int)≠0,0<=(Int.tmod (W64 (k+1)) (l.length:Int):Int)/\(Int.tmod (W64 (k+1)) (l.length:Int):Int)<((l.length:Nat):Int),s_1.length=s_1.length,s_1.length+1<=maxLen,(s_1.length+1)*56<=140737488355328] ⟨[(GF l),(2,tP 2 0),(3,tP 3 0),(4,tI k)],[(2,Z19),(3,.cells [.i 2,.own 28 7 (s_1.length+1),.i 0] 28),(28,.row 7 (s_1.length+1) (fun i_ j_=>if i_<s_1.length then (AP AG.c s_1) i_ j_ else (Ay 7 1 [.i 1,.i (l.getD k.toNat default).X,.i (l.getD k.toNat default).Y,.i (Z1c l k).X,.i (Z1c l k).Y,.i 0,.i 0]) (i_-s_1.length) j_) 68)]⟩ .nil (.cons au0 (.cons au15 (.cons au0 (.cons rfl (.cons au3 (.cons au3 .nil))))))<|Be<|AJ ?_
   refine Ba (Cv.trans (BT (⟨[(GF l),(2,tP 2 0),(3,tP 3 0),(4,tI k)],[(2,Z19),(3,Z1d s_1 l k),(28,Z1e s_1 l k)]⟩) lr (.cons ⟨rfl,.refl _⟩ (.cons ⟨rfl,.cells _ (rr (.cons (.own _ _ au2) (rr .nil)))⟩ (.cons ⟨rfl,Ap 68 (BZ (BM 7 AG.c s_1) (Aw (c:=AG.c) (xs:=([AG.mk 1 (l.getD k.toNat default) (Z1c l k) (AB.mk 0 0)]:List AG)) rfl kr))⟩ .nil)))) (Cv.refl _)) ?_
   refine rg ⟨[(GF l),(2,tP 2 0),(3,tP 3 0),(4,tI (W64 (k+1)))],[(2,Z19),(3,Z1d s_1 l k),(28,Z1e s_1 l k)]⟩ ?_
   (try rw [(show W64 (k+1)=k+1 from An (by omega) au6)])
   refine AJ ?_
   refine ⟨(n0,s_1++[AG.mk 1 (l.getD k.toNat default) (Z1c l k) (AB.mk 0 0)],k+1),⟨?_,?_,(by rw [<- hF0];simp only [G7,h1,cond_true,cond_false])⟩,Nat.lt_succ_self _,Cv.trans (BR (⟨[(GF l),(2,tP 2 0),(3,tP 3 0),(4,tI (k+1))],[(2,Z19),(3,.cells [.i 2,.own 100000 7 (s_1++(Rb l k)).length,.i 0] 28),(100000,Z1e s_1 l k)]⟩) 28 100000 (K:=[]) (fun k x h=>by cases h) rfl rfl kr kr) (BB kr)⟩
   ·show ((l.length:Int)-(k+1)).toNat<n0;omega
   ·exact ⟨ax0,ax0,ax0⟩
  ·have g1:=oF h1
   refine BV<|BE ?_
   refine BE<|BW ?_
   refine AJ<|AC ?_
   refine rn ⟨[(2,tP 2 0)],[(2,.cells [.i 2,.own 100000 7 s_1.length,.i 0] 28),(100000,.row 7 s_1.length (AP AG.c s_1) 68)]⟩<|Ag ?_
   exact ⟨_,Cv.trans (Dn (⟨[(2,tP 2 0)],[(2,.cells [.i 2,lst 7 AG.c s_1,.i 0] 28)]⟩) 100000 7 s_1.length (AP AG.c s_1) 68 (K:=[]) (fun k x h=>by cases h) kr kr (.cons ⟨rfl,rfl⟩ .nil) kr) (Cv.refl _),.inl rfl,.av (.agg [.i 2,lst 7 AG.c s_1,.i 0]),by kernel_rfl,Al (by rw [<- hF0];first | (simp only [G7,h1,cond_true,cond_false] <;> rfl))⟩
theorem rU (l:(List AB)) (h0:(l.length:Int)<=1000000):Az Tryz.prog (Qy l).1 (Qy l).2.1 (Qy l).2.2:=AW (fun _ _=>kr) fun _=>pLoop l h0
def Z1f (r:Ad):AQ:=Nk [AB.mk r.X0 r.Y0,AB.mk r.X1 r.Y0,AB.mk r.X1 r.Y1,AB.mk r.X0 r.Y1]
def Fk (r:Ad):AQ:=Z1f r
def Hh (r:Ad):FuncId×List Av×Ef:=(41,[.agg (Ad.c r)],.val [] (.av (.agg (AQ.c (Fk r)))))
theorem qY (r:Ad):Bk Tryz.prog 41 (Hh r).2.1 (.av (.agg (AQ.c (Fk r)))):=by
 refine AV Tryz.func41 rfl kr kr fun W0 M0 => ?_
 refine AC<|rn ⟨Gn,[(1,.cells (Ad.c r) 90),DB]⟩<|AC ?_
 refine rc [(24,ceI [.one (.list true 2 4 (Ay 2 4 (U1 r)))] (Qy [AB.mk r.X0 r.Y0,AB.mk r.X1 r.Y0,AB.mk r.X1 r.Y1,AB.mk r.X0 r.Y1]))] [Ak (ceI [.one (.list true 2 4 (Ay 2 4 (U1 r)))] (Qy [AB.mk r.X0 r.Y0,AB.mk r.X1 r.Y0,AB.mk r.X1 r.Y1,AB.mk r.X0 r.Y1])).2.1] ⟨[(2,tP 2 0)],[(2,.cells (AQ.c (Z1f r)) 28)]⟩ (.cons (DE (rU [AB.mk r.X0 r.Y0,AB.mk r.X1 r.Y0,AB.mk r.X1 r.Y1,AB.mk r.X0 r.Y1] au10) (.cons (.one (Bm true (Aw (c:=AB.c) (xs:=([AB.mk r.X0 r.Y0,AB.mk r.X1 r.Y0,AB.mk r.X1 r.Y1,AB.mk r.X0 r.Y1]:List AB)) rfl kr))) .nil)) .nil) (.cons rfl .nil)<|AJ<|Ag ?_
 exact ⟨_,Cv.refl _,.inl rfl,.av (.agg (AQ.c (Z1f r))),by kernel_rfl,Al (by rfl)⟩
theorem SD (r:Ad):Az Tryz.prog (Hh r).1 (Hh r).2.1 (Hh r).2.2:=AW (fun _ _=>kr) fun _=>qY r
def NK (x0:AB) (x1:Int):AQ:=AQ.mk 1 [AG.mk 1 x0 x0 (AB.mk 0 0)] x1
def M8 (x0:AB) (x1:Int):FuncId×List Av×Ef:=(49,[.agg (AB.c x0),.one (.i x1)],.val [] (.av (.agg (AQ.c (NK x0 x1)))))
theorem rH (x0:AB) (x1:Int):Bk Tryz.prog 49 (M8 x0 x1).2.1 (.av (.agg (AQ.c (NK x0 x1)))):=by
 refine AV Tryz.func49 rfl kr kr fun W0 M0 => ?_
 refine AC<|rn ⟨[(1,tI x1),(2,tP 2 0),(4,tP 4 0)],[(2,.cells (AB.c x0) 66),IR]⟩<|AC ?_
 refine rn ⟨[(4,tP 4 0)],[(4,.cells [.i 1,.list true 7 1 (Ay 7 1 [.i 1,.i x0.X,.i x0.Y,.i x0.X,.i x0.Y,.i 0,.i 0]),.i x1] 28)]⟩<|Ag ?_
 exact ⟨_,Cv.refl _,.inl rfl,.av (.agg [.i 1,.list true 7 1 (Ay 7 1 [.i 1,.i x0.X,.i x0.Y,.i x0.X,.i x0.Y,.i 0,.i 0]),.i x1]),by kernel_rfl,D3 (y:=.av (.agg [.i 1,lst 7 AG.c [AG.mk 1 x0 x0 (AB.mk 0 0)],.i x1])) (.av (.agg (rr (.cons (Bm true (Aw (c:=AG.c) (xs:=([AG.mk 1 x0 x0 (AB.mk 0 0)]:List AG)) rfl kr)) (rr .nil))))) (by rfl)⟩
theorem gQ (x0:AB) (x1:Int):Az Tryz.prog (M8 x0 x1).1 (M8 x0 x1).2.1 (M8 x0 x1).2.2:=AW (fun _ _=>kr) fun _=>rH x0 x1
end
section
open Go.RowKit
def Ah (k:Int):ByteArray:=([({ data := #[80,49] }:ByteArray),({ data := #[80,50] }:ByteArray),({ data := #[80,51] }:ByteArray),({ data := #[80,52] }:ByteArray),({ data := #[80,53] }:ByteArray),({ data := #[80,54] }:ByteArray)]:List ByteArray).getD k.toNat ⟨#[]⟩
def CL (k:Int):FuncId×List Av×Ef:=(91,[.one (.i k)],.val [] (.av (.one (.s (Ah k)))))
theorem Z4 (k:Int) (hk:0<=k/\k<6):Bk Tryz.prog 91 (CL k).2.1 (tO (.s (Ah k))):=by
 refine AV Tryz.func91 rfl kr kr fun W0 M0 => ?_
 refine AC<|rn ⟨[(0,tI k)],[]⟩<|AC ?_
 refine rc [] [0<=(k:Int)/\(k:Int)<((6:Nat):Int)] ⟨[(2,tO (.s (([({ data := #[80,49] }:ByteArray),({ data := #[80,50] }:ByteArray),({ data := #[80,51] }:ByteArray),({ data := #[80,52] }:ByteArray),({ data := #[80,53] }:ByteArray),({ data := #[80,54] }:ByteArray)]:List ByteArray).getD k.toNat ⟨#[]⟩)))],[]⟩ .nil (.cons au0 .nil)<|AJ<|Ag ?_
 exact ⟨_,Cv.refl _,.inl rfl,tO (.s (([({ data := #[80,49] }:ByteArray),({ data := #[80,50] }:ByteArray),({ data := #[80,51] }:ByteArray),({ data := #[80,52] }:ByteArray),({ data := #[80,53] }:ByteArray),({ data := #[80,54] }:ByteArray)]:List ByteArray).getD k.toNat ⟨#[]⟩)),by kernel_rfl,Al (by rfl)⟩
theorem EX (k:Int) (hk:0<=k/\k<6):Az Tryz.prog (CL k).1 (CL k).2.1 (CL k).2.2:=AW (fun _ _=>kr) fun _=>Z4 k hk
def Gh (x0:AE):Ac:=Ac.mk x0.At x0.Turn x0.Under
def Gc (x0:AE):FuncId×List Av×Ef:=(145,[.agg (AE.c x0)],.val [] (.av (.agg (Ac.c (Gh x0)))))
theorem YB (x0:AE):Bk Tryz.prog 145 (Gc x0).2.1 (.av (.agg (Ac.c (Gh x0)))):=by
 refine AV Tryz.func145 rfl kr kr fun W0 M0 => ?_
 refine AC<|rn ⟨Gn,[(1,.cells (AE.c x0) 78),(2,.cells [.i 0,.i 0,.i 0,.b false] 74)]⟩<|AC ?_
 refine rn ⟨[(2,tP 2 0)],[(2,.cells (RZ x0) 74)]⟩<|Ag ?_
 exact ⟨_,Cv.refl _,.inl rfl,.av (.agg (RZ x0)),by kernel_rfl,Al (by rfl)⟩
theorem Vk (x0:AE):Az Tryz.prog (Gc x0).1 (Gc x0).2.1 (Gc x0).2.2:=AW (fun _ _=>kr) fun _=>YB x0
def Ez (x0:AB) (x1:AB):AG:=AG.mk 1 x0 x1 (AB.mk 0 0)
def Cb (x0:AB) (x1:AB):FuncId×List Av×Ef:=(98,[.agg (AB.c x0),.agg (AB.c x1)],.val [] (.av (.agg (AG.c (Ez x0 x1)))))
abbrev RY (x0:AB) (x1:AB):List Cl:=[.i 1,.i x0.X,.i x0.Y,.i x1.X,.i x1.Y,.i 0,.i 0]
abbrev ZK (x0:AB) (x1:AB):List (Nat×Blk):=[(2,.cells (AB.c x0) 66),(3,.cells (AB.c x1) 66),(4,.cells [.i 0,.i 0,.i 0,.i 0,.i 0,.i 0,.i 0] 68)]
theorem VV (x0:AB) (x1:AB):Bk Tryz.prog 98 (Cb x0 x1).2.1 (.av (.agg (AG.c (Ez x0 x1)))):=by
 refine AV Tryz.func98 rfl kr kr fun W0 M0 => ?_
 refine AC<|rn ⟨MZ,(ZK x0 x1)⟩<|AC ?_
 refine rn ⟨[(4,tP 4 0)],[(4,.cells (RY x0 x1) 68)]⟩<|Ag ?_
 exact ⟨_,Cv.refl _,.inl rfl,.av (.agg (RY x0 x1)),by kernel_rfl,Al (by rfl)⟩
theorem Fy (x0:AB) (x1:AB):Az Tryz.prog (Cb x0 x1).1 (Cb x0 x1).2.1 (Cb x0 x1).2.2:=AW (fun _ _=>kr) fun _=>VV x0 x1
def AX (l:(List (List Int))) (k:Int):(List Int):=bif decide ((k:Int)<(l.length:Int)) then (l.getD k.toNat default) else ([])
def Cy (l:(List (List Int))) (k:Int):FuncId×List Av×Ef:=(40,[.one (lst 1 (fun x=>[lst 1 (fun x=>[.i x]) x]) l),.one (.i k)],.val [] (.av (.one (lst 1 (fun x=>[.i x]) (AX l k)))))
abbrev oL (l:List (List Int)):Av:=.one (lst 1 (fun x=>[lst 1 (fun x=>[.i x]) x]) l)
theorem fN (l:(List (List Int))) (k:Int) (hk:0<=k):Bk Tryz.prog 40 (Cy l k).2.1 (tO (lst 1 (fun x=>[.i x]) (AX l k))):=by
 refine AV Tryz.func40 rfl kr kr fun W0 M0 => ?_
 refine AC<|rn ⟨[(0,.av (oL l)),(1,tI k)],[]⟩ ?_
 refine AC<|AC ?_
 refine rn ⟨[(0,.av (oL l)),(1,tI k),(8,tB (decide ((k:Int)<(l.length:Int))))],[]⟩ ?_
 refine Ab _ rfl (fun h1 => ?_) (fun h1 => ?_)
 ·have g1:=oT h1
  refine AC<|rc [] [0<=(k:Int)/\(k:Int)<((l.length:Nat):Int)] ⟨[(4,tO (lst 1 (fun x=>[.i x]) (l.getD k.toNat default)))],[]⟩ .nil (.cons au0 .nil)<|AJ ?_
  refine Ag<|Bd ?_
  exact ⟨_,Cv.refl _,.inl rfl,tO (lst 1 (fun x=>[.i x]) (l.getD k.toNat default)),by kernel_rfl,Al (by first | (simp only [AX,h1,cond_true,cond_false] <;> rfl))⟩
 ·have g1:=oF h1
  refine Af<|AJ<|AC ?_
  refine rn ⟨[(4,.av (.one vN))],[]⟩<|Ag ?_
  exact ⟨_,Cv.refl _,.inl rfl,.av (.one vN),by kernel_rfl,D3 (y:=tO (lst 1 (fun x=>[.i x]) [])) (.av (.one (Cr 1 (fun x=>[.i x])))) (by first | (simp only [AX,h1,cond_true,cond_false] <;> rfl))⟩
theorem Fz (l:(List (List Int))) (k:Int) (hk:0<=k):Az Tryz.prog (Cy l k).1 (Cy l k).2.1 (Cy l k).2.2:=AW (fun _ _=>kr) fun _=>fN l k hk
abbrev HY:List Av:=[.one (.ptr 1000 0),.one (.i 4)]
abbrev HS (d:AD):Blk:=.cells (AD.c d) 117
def Z1g (d:AD):FuncId×List Av×Ef:=(42,(HY:List Av).map (Bz 1000 1000),wrI 1000 (HS d) (tI (AA d 4).1) (.cells (AD.c (AA d 4).2) 117))
def Z1h (a:AB) (b_:AB):AG:=Ez a (AB.mk (bif (decide (a.X=b_.X)&&(decide (a.Y=b_.Y)&&true)) then (W64 (b_.X+20)) else b_.X) a.Y)
def Z1i (a:AB) (b_:AB):AG:=Ez (AB.mk (bif (decide (a.X=b_.X)&&(decide (a.Y=b_.Y)&&true)) then (W64 (b_.X+20)) else b_.X) a.Y) (AB.mk (bif (decide (a.X=b_.X)&&(decide (a.Y=b_.Y)&&true)) then (W64 (b_.X+20)) else b_.X) b_.Y)
def Z1j (d:AD):FuncId×List Av×Ef:=(42,([.one (.ptr 1000 0),.one (.i 20)]:List Av).map (Bz 1000 1000),wrI 1000 (.cells (AD.c (AA d 4).2) 117) (tI (AA (AA d 4).2 20).1) (.cells (AD.c (AA (AA d 4).2 20).2) 117))
def Z1k (d:AD):Blk:=.cells (AD.c (AA (AA d 4).2 20).2) 117
def Z1l (a:AB) (b_:AB) (d:AD):AG:=Co (AB.mk (bif (decide (a.X=b_.X)&&(decide (a.Y=b_.Y)&&true)) then (W64 (b_.X+20)) else b_.X) (W64 (b_.Y+(W64 (5+(AA (AA d 4).2 20).1))))) (W64 (5+(AA (AA d 4).2 20).1)) 3 2
def Z1m (a:AB) (b_:AB):AG:=Ez a (AB.mk (bif (decide (a.X=b_.X)&&(decide (a.Y=b_.Y)&&true)) then (W64 (b_.X+20)) else b_.X) b_.Y)
def CR (a:AB) (b_:AB) (d:AD):((List AG)×AD):=bif bif bif bif decide ((0:Int)<(AA d 4).1) then decide (((AA d 4).1:Int)<3) else false then !(decide ((bif (decide (a.X=b_.X)&&(decide (a.Y=b_.Y)&&true)) then (W64 (b_.X+20)) else b_.X)=a.X)&&(decide (a.Y=a.Y)&&true)) else false then !(decide ((bif (decide (a.X=b_.X)&&(decide (a.Y=b_.Y)&&true)) then (W64 (b_.X+20)) else b_.X)=(bif (decide (a.X=b_.X)&&(decide (a.Y=b_.Y)&&true)) then (W64 (b_.X+20)) else b_.X))&&(decide (a.Y=b_.Y)&&true)) else false then ([Z1h a b_,Z1i a b_],(AA d 4).2) else (bif decide (((AA d 4).1:Int)=3) then ([Z1m a b_,Z1l a b_ d],(AA (AA d 4).2 20).2) else ([Z1m a b_],(AA d 4).2))
abbrev Ct (a:AB) (b_:AB):Bool:=decide (a.X=b_.X)&&(decide (a.Y=b_.Y)&&true)
abbrev Gk (a:AB):Nat×Blk:=(3,.cells (AB.c a) 66)
abbrev JL (d:AD):Nat×Blk:=(1000,.cells (AD.c d) 117)
abbrev Ra:List (Nat×Tv):=[(2,tP 1000 0),(3,tP 3 0),(4,tP 4 0)]
abbrev OT (d:AD):Nat×Blk:=(1000,.cells (AD.c (AA d 4).2) 117)
theorem au19 {p:Prop} (h:p:=by repeat (first | assumption | exact Cn (by assumption) | refine Bc ?_ | refine Cu ?_ ?_ | refine hKd _ _ ?_ | refine cond_dk _ ?_)):p:=h
theorem au8 {p:Prop} (h:p:=by first | decide | omega | (simp only [Bx];omega)):p:=h
theorem Z5  (a:AB) (b_:AB) (d:AD) (hd:Bo d):Wr Tryz.prog 96 1000 [.agg (AB.c a),.agg (AB.c b_),.one (.ptr 1000 0)] (.cells (AD.c d) 117) (tO (lst 7 AG.c (CR a b_ d).1)) (.cells (AD.c (CR a b_ d).2) 117):=by
 refine Hp Tryz.func96 rfl kr kr kr kr fun W0 M0 X hX => ?_
 refine AC<|rn ⟨Ra,[(Gk a),(4,.cells (AB.c b_) 66),(JL d)]⟩ ?_
 refine AC<|AC ?_
 refine rn ⟨[(2,tP 1000 0),(3,tP 3 0),(4,tP 4 0),(13,tB (Ct a b_))],[(Gk a),(4,.cells (AB.c b_) 66),(JL d)]⟩ ?_
 refine Bu (⟨Ra,[(Gk a),(4,.cells [.i (bif (Ct a b_) then (W64 (b_.X+20)) else b_.X),.i b_.Y] 66),(JL d)]⟩) ?_ ?_
 ·refine Ab _ rfl (fun h1 => ?_) (fun h1 => ?_)
  ·refine rn ⟨Ra,[(Gk a),(4,.cells [.i (W64 (b_.X+20)),.i b_.Y] 66),(JL d)]⟩ ?_
   refine BB ?_
   first | rfl | (simp only [h1,cond_true,cond_false] <;> rfl)
  ·refine Af<|AJ ?_
   refine Cv.trans (BD [2,3,4] [3,4,1000] (⟨Ra,[(Gk a),(4,.cells (AB.c b_) 66),(JL d)]⟩) kr) (BB ?_)
   first | rfl | (simp only [h1,cond_true,cond_false] <;> rfl)
 refine AC<|rn ⟨[(2,tP 1000 0),(3,tP 3 0),(4,tP 4 0),(7,tP 7 0)],[(Gk a),(4,.cells [.i (bif (Ct a b_) then (W64 (b_.X+20)) else b_.X),.i b_.Y] 66),(7,.cells [.i (bif (Ct a b_) then (W64 (b_.X+20)) else b_.X),.i a.Y] 66),(JL d)]⟩ ?_
 refine AC<|AC ?_
 refine rc [(24,(Z1g d))] [Ak (Z1g d).2.1,BJ (HS d)] ⟨[(2,tP 1000 0),(3,tP 3 0),(4,tP 4 0),(7,tP 7 0),(8,tI (AA d 4).1)],[(Gk a),(4,.cells [.i (bif (Ct a b_) then (W64 (b_.X+20)) else b_.X),.i b_.Y] 66),(7,.cells [.i (bif (Ct a b_) then (W64 (b_.X+20)) else b_.X),.i a.Y] 66),(OT d)]⟩ (.cons (Ae (fun _ _=>kr) kr kr (Bf d 4 au19 au8)) .nil) (.cons rfl (.cons rfl .nil))<|AJ ?_
 refine AY<|AC ?_
 refine rc [] [gt (decide ((0:Int)<(AA d 4).1)),gt (decide ((0:Int)<(AA d 4).1)),gt (bif decide ((0:Int)<(AA d 4).1) then decide (((AA d 4).1:Int)<3) else false),gt (bif decide ((0:Int)<(AA d 4).1) then decide (((AA d 4).1:Int)<3) else false),gt (bif decide ((0:Int)<(AA d 4).1) then decide (((AA d 4).1:Int)<3) else false),gt (bif bif decide ((0:Int)<(AA d 4).1) then decide (((AA d 4).1:Int)<3) else false then !(decide ((bif (Ct a b_) then (W64 (b_.X+20)) else b_.X)=a.X)&&(decide (a.Y=a.Y)&&true)) else false),gt (bif bif decide ((0:Int)<(AA d 4).1) then decide (((AA d 4).1:Int)<3) else false then !(decide ((bif (Ct a b_) then (W64 (b_.X+20)) else b_.X)=a.X)&&(decide (a.Y=a.Y)&&true)) else false),gt (bif bif decide ((0:Int)<(AA d 4).1) then decide (((AA d 4).1:Int)<3) else false then !(decide ((bif (Ct a b_) then (W64 (b_.X+20)) else b_.X)=a.X)&&(decide (a.Y=a.Y)&&true)) else false)] ⟨[(2,tP 1000 0),(3,tP 3 0),(4,tP 4 0),(7,tP 7 0),(8,tI (AA d 4).1),(25,tB (bif bif bif decide ((0:Int)<(AA d 4).1) then decide (((AA d 4).1:Int)<3) else false then !(decide ((bif (decide (a.X=b_.X)&&(decide (a.Y=b_.Y)&&true)) then (W64 (b_.X+20)) else b_.X)=a.X)&&(decide (a.Y=a.Y)&&true)) else false then !(decide ((bif (decide (a.X=b_.X)&&(decide (a.Y=b_.Y)&&true)) then (W64 (b_.X+20)) else b_.X)=(bif (decide (a.X=b_.X)&&(decide (a.Y=b_.Y)&&true)) then (W64 (b_.X+20)) else b_.X))&&(decide (a.Y=b_.Y)&&true)) else false))],[(Gk a),(4,.cells [.i (bif (Ct a b_) then (W64 (b_.X+20)) else b_.X),.i b_.Y] 66),(7,.cells [.i (bif (Ct a b_) then (W64 (b_.X+20)) else b_.X),.i a.Y] 66),(OT d)]⟩ .nil (ci (ci (ci (ci (ci (ci (ci (ci .nil))))))))<|AJ ?_
 refine Ab (bif bif bif decide ((0:Int)<(AA d 4).1) then decide (((AA d 4).1:Int)<3) else false then !(decide ((bif (Ct a b_) then (W64 (b_.X+20)) else b_.X)=a.X)&&(decide (a.Y=a.Y)&&true)) else false then !(decide ((bif (Ct a b_) then (W64 (b_.X+20)) else b_.X)=(bif (Ct a b_) then (W64 (b_.X+20)) else b_.X))&&(decide (a.Y=b_.Y)&&true)) else false) kr (fun h1 => ?_) (fun h1 => ?_)
 ·refine AC<|dw [] [(44,Cb a (AB.mk (bif (Ct a b_) then (W64 (b_.X+20)) else b_.X) a.Y)),(47,Cb (AB.mk (bif (Ct a b_) then (W64 (b_.X+20)) else b_.X) a.Y) (AB.mk (bif (Ct a b_) then (W64 (b_.X+20)) else b_.X) b_.Y))] [Ak (Cb a (AB.mk (bif (Ct a b_) then (W64 (b_.X+20)) else b_.X) a.Y)).2.1,Ak (Cb (AB.mk (bif (Ct a b_) then (W64 (b_.X+20)) else b_.X) a.Y) (AB.mk (bif (Ct a b_) then (W64 (b_.X+20)) else b_.X) b_.Y)).2.1] ⟨[(6,.av (.one (.list true 7 2 (Ay 7 2 [.i (Z1h a b_).Kind,.i (Z1h a b_).A.X,.i (Z1h a b_).A.Y,.i (Z1h a b_).B.X,.i (Z1h a b_).B.Y,.i (Z1h a b_).C.X,.i (Z1h a b_).C.Y,.i (Z1i a b_).Kind,.i (Z1i a b_).A.X,.i (Z1i a b_).A.Y,.i (Z1i a b_).B.X,.i (Z1i a b_).B.Y,.i (Z1i a b_).C.X,.i (Z1i a b_).C.Y]))))],[(OT d)]⟩ (.cons (Fy a (AB.mk (bif (Ct a b_) then (W64 (b_.X+20)) else b_.X) a.Y)) (.cons (Fy (AB.mk (bif (Ct a b_) then (W64 (b_.X+20)) else b_.X) a.Y) (AB.mk (bif (Ct a b_) then (W64 (b_.X+20)) else b_.X) b_.Y)) .nil)) (.cons rfl (.cons rfl .nil))<|AJ ?_
  refine Ag<|CO<|Bd ?_
  exact ⟨_,Cv.refl _,.inl rfl,.av (.one (.list true 7 2 (Ay 7 2 [.i (Z1h a b_).Kind,.i (Z1h a b_).A.X,.i (Z1h a b_).A.Y,.i (Z1h a b_).B.X,.i (Z1h a b_).B.Y,.i (Z1h a b_).C.X,.i (Z1h a b_).C.Y,.i (Z1i a b_).Kind,.i (Z1i a b_).A.X,.i (Z1i a b_).A.Y,.i (Z1i a b_).B.X,.i (Z1i a b_).B.Y,.i (Z1i a b_).C.X,.i (Z1i a b_).C.Y]))),by kernel_rfl,⟨D3 (y:=tO (lst 7 AG.c [Z1h a b_,Z1i a b_])) (.av (.one (Bm true (Aw (c:=AG.c) (xs:=([Z1h a b_,Z1i a b_]:List AG)) rfl kr)))) (by unfold CR;rw [h1];rfl),.cells (AD.c (AA d 4).2) 117,by kernel_rfl,Dh (by unfold CR;rw [h1];kernel_rfl)⟩⟩
 ·refine AC<|rn ⟨[(2,tP 1000 0),(3,tP 3 0),(4,tP 4 0),(49,tB (decide (((AA d 4).1:Int)=3)))],[(Gk a),(4,.cells [.i (bif (Ct a b_) then (W64 (b_.X+20)) else b_.X),.i b_.Y] 66),(OT d)]⟩ ?_
  refine Ab _ rfl (fun h2 => ?_) (fun h2 => ?_)
  ·have g2:=oT h2
   refine AC<|rc [(53,(Z1j d))] [Ak (Z1j d).2.1,BJ (.cells (AD.c (AA d 4).2) 117)] ⟨[(3,tP 3 0),(4,tP 4 0),(9,tI (W64 (5+(AA (AA d 4).2 20).1)))],[(Gk a),(4,.cells [.i (bif (Ct a b_) then (W64 (b_.X+20)) else b_.X),.i b_.Y] 66),(1000,Z1k d)]⟩ (.cons (Ae (fun _ _=>kr) kr kr (Bf (AA d 4).2 20 au19 au8)) .nil) (.cons rfl (.cons rfl .nil))<|AJ<|AC ?_
   refine rc [(63,B1 (AB.mk (bif (Ct a b_) then (W64 (b_.X+20)) else b_.X) (W64 (b_.Y+(W64 (5+(AA (AA d 4).2 20).1))))) (W64 (5+(AA (AA d 4).2 20).1)) 3 2)] [Ak (B1 (AB.mk (bif (Ct a b_) then (W64 (b_.X+20)) else b_.X) (W64 (b_.Y+(W64 (5+(AA (AA d 4).2 20).1))))) (W64 (5+(AA (AA d 4).2 20).1)) 3 2).2.1] ⟨[(3,tP 3 0),(4,tP 4 0),(10,tP 10 0)],[(Gk a),(4,.cells [.i (bif (Ct a b_) then (W64 (b_.X+20)) else b_.X),.i b_.Y] 66),(10,.cells (AG.c (Z1l a b_ d)) 68),(1000,Z1k d)]⟩ (.cons (D4 (AB.mk (bif (Ct a b_) then (W64 (b_.X+20)) else b_.X) (W64 (b_.Y+(W64 (5+(AA (AA d 4).2 20).1))))) (W64 (5+(AA (AA d 4).2 20).1)) 3 2) .nil) (.cons rfl .nil)<|AJ<|AC ?_
   refine dw [] [(66,Cb a (AB.mk (bif (Ct a b_) then (W64 (b_.X+20)) else b_.X) b_.Y))] [Ak (Cb a (AB.mk (bif (Ct a b_) then (W64 (b_.X+20)) else b_.X) b_.Y)).2.1] ⟨[(6,.av (.one (.list true 7 2 (Ay 7 2 [.i (Z1m a b_).Kind,.i (Z1m a b_).A.X,.i (Z1m a b_).A.Y,.i (Z1m a b_).B.X,.i (Z1m a b_).B.Y,.i (Z1m a b_).C.X,.i (Z1m a b_).C.Y,.i (Z1l a b_ d).Kind,.i (Z1l a b_ d).A.X,.i (Z1l a b_ d).A.Y,.i (Z1l a b_ d).B.X,.i (Z1l a b_ d).B.Y,.i (Z1l a b_ d).C.X,.i (Z1l a b_ d).C.Y]))))],[(1000,Z1k d)]⟩ (.cons (Fy a (AB.mk (bif (Ct a b_) then (W64 (b_.X+20)) else b_.X) b_.Y)) .nil) (.cons rfl .nil)<|AJ ?_
   refine Ag<|CO<|Bd ?_
   exact ⟨_,Cv.refl _,.inl rfl,.av (.one (.list true 7 2 (Ay 7 2 [.i (Z1m a b_).Kind,.i (Z1m a b_).A.X,.i (Z1m a b_).A.Y,.i (Z1m a b_).B.X,.i (Z1m a b_).B.Y,.i (Z1m a b_).C.X,.i (Z1m a b_).C.Y,.i (Z1l a b_ d).Kind,.i (Z1l a b_ d).A.X,.i (Z1l a b_ d).A.Y,.i (Z1l a b_ d).B.X,.i (Z1l a b_ d).B.Y,.i (Z1l a b_ d).C.X,.i (Z1l a b_ d).C.Y]))),by kernel_rfl,⟨D3 (y:=tO (lst 7 AG.c [Z1m a b_,Z1l a b_ d])) (.av (.one (Bm true (Aw (c:=AG.c) (xs:=([Z1m a b_,Z1l a b_ d]:List AG)) rfl kr)))) (by unfold CR;rw [h1,h2];rfl),.cells (AD.c (AA (AA d 4).2 20).2) 117,by kernel_rfl,Dh (by unfold CR;rw [h1,h2];kernel_rfl)⟩⟩
  ·have g2:=oF h2
   refine Af<|Be ?_
   refine AJ<|AC ?_
   refine rc [(71,Cb a (AB.mk (bif (Ct a b_) then (W64 (b_.X+20)) else b_.X) b_.Y))] [Ak (Cb a (AB.mk (bif (Ct a b_) then (W64 (b_.X+20)) else b_.X) b_.Y)).2.1] ⟨[(6,.av (.one (.list true 7 1 (Ay 7 1 (AG.c (Z1m a b_))))))],[(OT d)]⟩ (.cons (Fy a (AB.mk (bif (Ct a b_) then (W64 (b_.X+20)) else b_.X) b_.Y)) .nil) (.cons rfl .nil)<|AJ<|Ag ?_
   exact ⟨_,Cv.refl _,.inl rfl,.av (.one (.list true 7 1 (Ay 7 1 (AG.c (Z1m a b_))))),by kernel_rfl,⟨D3 (y:=tO (lst 7 AG.c [Z1m a b_])) (.av (.one (Bm true (Aw (c:=AG.c) (xs:=([Z1m a b_]:List AG)) rfl kr)))) (by unfold CR;rw [h1,h2];rfl),.cells (AD.c (AA d 4).2) 117,by kernel_rfl,Dh (by unfold CR;rw [h1,h2];kernel_rfl)⟩⟩
def Z1n (b:AF) (d:AD):FuncId×List Av×Ef:=(42,([.one (.ptr 1000 0),.one (.i (b.Nets.length:Int))]:List Av).map (Bz 1000 1001),wrI 1001 (HS d) (tI (AA d (b.Nets.length:Int)).1) (.cells (AD.c (AA d (b.Nets.length:Int)).2) 117))
def CQ (b:AF) (d:AD):(ByteArray×AD):=((b.Nets.getD (AA d (b.Nets.length:Int)).1.toNat default).Name,(AA d (b.Nets.length:Int)).2)
abbrev Dj:List (Nat×Tv):=[(0,tP 1000 0),(1,tP 1001 0)]
abbrev Y3 (b:AF) (vs:Nat->Value):List Cl:=[.i b.Layers,.i b.Outline.Kind,lst 7 AG.c b.Outline.Edges,.i b.Outline.R,lst 7 AE.c b.Parts,lst 2 A1.c b.Nets,.val (vs 6),.val (vs 7),.val (vs 8),.val (vs 9),.val (vs 10),.val (vs 11),.val (vs 12),.val (vs 13),.val (vs 14)]
theorem R2  (b:AF) (d:AD) (vs:Nat->Value) (hd:Bo d) (hn:1<=(b.Nets.length:Int)/\(b.Nets.length:Int)<=1000000):Wr2 Tryz.prog 95 1000 1001 [.one (.ptr 1000 0),.one (.ptr 1001 0)] (.cells [.i b.Layers,.i b.Outline.Kind,lst 7 AG.c b.Outline.Edges,.i b.Outline.R,lst 7 AE.c b.Parts,lst 2 A1.c b.Nets,.val (vs 6),.val (vs 7),.val (vs 8),.val (vs 9),.val (vs 10),.val (vs 11),.val (vs 12),.val (vs 13),.val (vs 14)] 41) (.cells (AD.c d) 117) (tO (.s (CQ b d).1)) (.cells [.i b.Layers,.i b.Outline.Kind,lst 7 AG.c b.Outline.Edges,.i b.Outline.R,lst 7 AE.c b.Parts,lst 2 A1.c b.Nets,.val (vs 6),.val (vs 7),.val (vs 8),.val (vs 9),.val (vs 10),.val (vs 11),.val (vs 12),.val (vs 13),.val (vs 14)] 41) (.cells (AD.c (CQ b d).2) 117):=by
 refine Oe Tryz.func95 rfl kr kr kr rfl kr kr kr fun W0 M0 X hX => ?_
 have hnb:=C7 d (b.Nets.length:Int) (by omega) (by omega)
 refine AC<|rn ⟨Dj,[(1000,.cells (Y3 b vs) 41),(1001,.cells (AD.c d) 117)]⟩<|AC ?_
 refine dw [] [(15,(Z1n b d))] [Ak (Z1n b d).2.1,BJ (HS d),0<=((AA d (b.Nets.length:Int)).1:Int)/\((AA d (b.Nets.length:Int)).1:Int)<((b.Nets.length:Nat):Int)] ⟨[(4,tO (.s (b.Nets.getD (AA d (b.Nets.length:Int)).1.toNat default).Name))],[(1000,.cells (Y3 b vs) 41),(1001,.cells (AD.c (AA d (b.Nets.length:Int)).2) 117)]⟩ (.cons (Ae (fun _ _=>kr) kr kr (Bf d (b.Nets.length:Int) au19 au8)) .nil) (.cons rfl (.cons rfl (.cons (by omega) .nil)))<|AJ<|Ag ?_
 exact ⟨_,Cv.refl _,.inl rfl,tO (.s (b.Nets.getD (AA d (b.Nets.length:Int)).1.toNat default).Name),by kernel_rfl,⟨Al (by rfl),⟨.cells (Y3 b vs) 41,by kernel_rfl,Dh rfl⟩,.cells (AD.c (AA d (b.Nets.length:Int)).2) 117,by kernel_rfl,Dh kr⟩⟩
theorem Lp {p q:Prop} [Decidable p] [Decidable q] (h:(bif decide p then decide q else false)=true):q:=by
 by_cases hp:p
 ·rw [decide_eq_true hp] at h;exact oT h
 ·rw [decide_eq_false hp] at h;cases h
def OB (b:AF) (types:List AM):Prop:=∀ k:Int,0<=k->k<(b.Parts.length:Int)->1<=((Bn types (b.Parts.getD k.toNat default).Type').1.Pads.length:Int)
theorem TA {b:AF} {d:AD} (h:(bif decide ((AA d 12).1<8) then decide ((0:Int)<(b.Parts.length:Int)) else false)=true):0<=Int.tmod (AA d 12).1 (b.Parts.length:Int)/\Int.tmod (AA d 12).1 (b.Parts.length:Int)<(b.Parts.length:Int):=Lg (C7 d 12 (by decide) (by decide)).1 (Lp h)
theorem LM {b:AF} {types:List AM} {d:AD} (hg:OB b types) (h:(bif decide ((AA d 12).1<8) then decide ((0:Int)<(b.Parts.length:Int)) else false)=true):1<=((Bn types (b.Parts.getD (Int.tmod (AA d 12).1 (b.Parts.length:Int)).toNat default).Type').1.Pads.length:Int):=hg _ (TA h).1 (TA h).2
abbrev jX (b:AF):List Cl:=[.i b.Layers,.i b.Outline.Kind,lst 7 AG.c b.Outline.Edges,.i b.Outline.R,lst 7 AE.c b.Parts,.any,.any,.any,.any,.any,.any,.any,.any,.any,.any]
def Z1o (b:AF):Blk:=.cells (jX b) 41
abbrev Up:List Av:=[.one (.ptr 1000 0),.one (.i 12)]
def Z1p (d:AD):FuncId×List Av×Ef:=(42,(Up:List Av).map (Bz 1000 1000),wrI 1000 (HS d) (tI (AA d 12).1) (.cells (AD.c (AA d 12).2) 117))
abbrev OY:List Av:=[.one (.ptr 1000 0),.one (.i 6)]
def Z1q (d:AD):FuncId×List Av×Ef:=(42,(OY:List Av).map (Bz 1000 1000),wrI 1000 (.cells (AD.c (AA d 12).2) 117) (tI (AA (AA d 12).2 6).1) (.cells (AD.c (AA (AA d 12).2 6).2) 117))
def Z1r (d:AD):Blk:=.cells (AD.c (AA (AA d 12).2 6).2) 117
def Z1s (b:AF) (d:AD):AE:=b.Parts.getD (Int.tmod (AA d 12).1 (b.Parts.length:Int)).toNat default
def Z1t (types:(List AM)) (b:AF) (d:AD):AB:=((Bn types (Z1s b d).Type').1.Pads.getD (Int.tmod (AA (AA d 12).2 6).1 ((Bn types (Z1s b d).Type').1.Pads.length:Int)).toNat default).At
def Z1u (b:AF) (d:AD) (types:(List AM)):AB:=D0 (Gh (Z1s b d)) (Z1t types b d)
def Bs (b:AF) (types:(List AM)) (d:AD):(AB×AD):=bif bif decide (((AA d 12).1:Int)<8) then decide ((0:Int)<(b.Parts.length:Int)) else false then (Z1u b d types,(AA (AA d 12).2 6).2) else (AB.mk (W64 (30+(Int.tmod (W64 (40*(AA d 12).1)) 360))) (W64 (30+(W64 (60*(AA (AA d 12).2 6).1)))),(AA (AA d 12).2 6).2)
abbrev MV:Nat×Blk:=(6,.cells [.i 0,.i 0] 66)
abbrev ZQ (d:AD):List Cl:=[.i (W64 (30+(Int.tmod (W64 (40*(AA d 12).1)) 360))),.i (W64 (30+(W64 (60*(AA (AA d 12).2 6).1))))]
abbrev RQ (d:AD):Bool:=(decide (((AA d 12).1:Int)<8))
theorem LP  (b:AF) (types:(List AM)) (d:AD) (hd:Bo d) (hb:(b.Parts.length:Int)<=1000000) (ht:(types.length:Int)<=1000000) (hg:OB b types):Wr Tryz.prog 97 1000 [.agg [.i b.Layers,.i b.Outline.Kind,lst 7 AG.c b.Outline.Edges,.i b.Outline.R,lst 7 AE.c b.Parts,.any,.any,.any,.any,.any,.any,.any,.any,.any,.any],.one (lst 3 AM.c types),.one (.ptr 1000 0)] (.cells (AD.c d) 117) (.av (.agg (AB.c (Bs b types d).1))) (.cells (AD.c (Bs b types d).2) 117):=by
 refine Hp Tryz.func97 rfl kr kr kr kr fun W0 M0 X hX => ?_
 refine AC<|rn ⟨[(BI types),(2,tP 1000 0),(3,tP 3 0),(6,tP 6 0)],[(3,Z1o b),MV,(JL d)]⟩<|AC ?_
 refine rc [(13,(Z1p d))] [Ak (Z1p d).2.1,BJ (HS d)] ⟨[(BI types),(2,tP 1000 0),(3,tP 3 0),(6,tP 6 0),(7,tI (AA d 12).1)],[(3,Z1o b),MV,(1000,.cells (AD.c (AA d 12).2) 117)]⟩ (.cons (Ae (fun _ _=>kr) kr kr (Bf d 12 au19 au8)) .nil) (.cons rfl (.cons rfl .nil))<|AJ<|AC ?_
 refine rc [(15,(Z1q d))] [Ak (Z1q d).2.1,BJ (.cells (AD.c (AA d 12).2) 117)] ⟨[(BI types),(3,tP 3 0),(6,tP 6 0),(7,tI (AA d 12).1),(8,tI (AA (AA d 12).2 6).1)],[(3,Z1o b),MV,(1000,Z1r d)]⟩ (.cons (Ae (fun _ _=>kr) kr kr (Bf (AA d 12).2 6 au19 au8)) .nil) (.cons rfl (.cons rfl .nil))<|AJ ?_
 refine AC<|AC ?_
 refine rc [] [gt (RQ d),gt (RQ d),gt (RQ d),gt (RQ d)] ⟨[(BI types),(3,tP 3 0),(6,tP 6 0),(7,tI (AA d 12).1),(8,tI (AA (AA d 12).2 6).1),(23,tB (bif decide (((AA d 12).1:Int)<8) then decide ((0:Int)<(b.Parts.length:Int)) else false))],[(3,Z1o b),MV,(1000,Z1r d)]⟩ .nil (ci (ci (ci (ci .nil))))<|AJ ?_
 refine Ab _ rfl (fun h1 => ?_) (fun h1 => ?_)
 ·have g1:=OA h1
  refine AC<|dw [] [] [((b.Parts.length:Int):Int)≠0,0<=(Int.tmod (AA d 12).1 (b.Parts.length:Int):Int)/\(Int.tmod (AA d 12).1 (b.Parts.length:Int):Int)<((b.Parts.length:Nat):Int)] ⟨[(BI types),(6,tP 6 0),(8,tI (AA (AA d 12).2 6).1),(9,tP 9 0)],[MV,(9,.cells (AE.c (Z1s b d)) 78),(1000,Z1r d)]⟩ .nil (.cons (by first | decide | (have hq:=Lp h1;omega) | (have hq:=LM hg h1;show ¬ ((Bn types (b.Parts.getD (Int.tmod (AA d 12).1 (b.Parts.length:Int)).toNat default).Type').1.Pads.length:Int)=0;omega)) (.cons (by first | exact TA h1 | exact Lg (C7 _ 6 (by decide) (by decide)).1 (by have hq:=LM hg h1;show (0:Int)<((Bn types (b.Parts.getD (Int.tmod (AA d 12).1 (b.Parts.length:Int)).toNat default).Type').1.Pads.length:Int);omega) | decide | omega) .nil))<|AJ<|AC ?_
  refine rc [(37,Jq types (Z1s b d).Type')] [Ak (Jq types (Z1s b d).Type').2.1] ⟨[(6,tP 6 0),(8,tI (AA (AA d 12).2 6).1),(9,tP 9 0),(10,tP 10 0)],[MV,(9,.cells (AE.c (Z1s b d)) 78),(10,.cells (AM.c (Bn types (Z1s b d).Type').1) 82),(1000,Z1r d)]⟩ (.cons (Wt types (Z1s b d).Type' au10) .nil) (.cons rfl .nil)<|AJ<|AC ?_
  refine dw [] [(41,Gc (Z1s b d)),(52,DC (Gh (Z1s b d)) (Z1t types b d))] [Ak (Gc (Z1s b d)).2.1,(((Bn types (Z1s b d).Type').1.Pads.length:Int):Int)≠0,0<=(Int.tmod (AA (AA d 12).2 6).1 ((Bn types (Z1s b d).Type').1.Pads.length:Int):Int)/\(Int.tmod (AA (AA d 12).2 6).1 ((Bn types (Z1s b d).Type').1.Pads.length:Int):Int)<(((Bn types (Z1s b d).Type').1.Pads.length:Nat):Int),Ak (DC (Gh (Z1s b d)) (Z1t types b d)).2.1] ⟨[(6,tP 6 0)],[(6,.cells (AB.c (Z1u b d types)) 66),(1000,Z1r d)]⟩ (.cons (Vk (Z1s b d)) (.cons (Ib (Gh (Z1s b d)) (Z1t types b d)) .nil)) (.cons rfl (.cons (by first | decide | (have hq:=Lp h1;omega) | (have hq:=LM hg h1;show ¬ ((Bn types (b.Parts.getD (Int.tmod (AA d 12).1 (b.Parts.length:Int)).toNat default).Type').1.Pads.length:Int)=0;omega)) (.cons (by first | exact TA h1 | exact Lg (C7 _ 6 (by decide) (by decide)).1 (by have hq:=LM hg h1;show (0:Int)<((Bn types (b.Parts.getD (Int.tmod (AA d 12).1 (b.Parts.length:Int)).toNat default).Type').1.Pads.length:Int);omega) | decide | omega) (.cons rfl .nil))))<|AJ ?_
  refine Ag<|Bd ?_
  exact ⟨_,Cv.refl _,.inl rfl,.av (.agg (AB.c (Z1u b d types))),by kernel_rfl,⟨Al (by first | (simp only [Bs,h1,cond_true,cond_false] <;> rfl)),.cells (AD.c (AA (AA d 12).2 6).2) 117,by kernel_rfl,Dh (by first | (simp only [Bs,h1,cond_true,cond_false];done) | (simp only [Bs,h1,cond_true,cond_false];kernel_rfl))⟩⟩
 ·refine Af<|AJ<|AC ?_
  refine rc [] [(360:Int)≠0] ⟨[(6,tP 6 0)],[(6,.cells (ZQ d) 66),(1000,Z1r d)]⟩ .nil (.cons (by first | decide | (have hq:=Lp h1;omega) | (have hq:=LM hg h1;show ¬ ((Bn types (b.Parts.getD (Int.tmod (AA d 12).1 (b.Parts.length:Int)).toNat default).Type').1.Pads.length:Int)=0;omega)) .nil)<|AJ<|Ag ?_
  exact ⟨_,Cv.refl _,.inl rfl,.av (.agg (ZQ d)),by kernel_rfl,⟨Al (by first | (simp only [Bs,h1,cond_true,cond_false] <;> rfl)),.cells (AD.c (AA (AA d 12).2 6).2) 117,by kernel_rfl,Dh (by first | (simp only [Bs,h1,cond_true,cond_false];done) | (simp only [Bs,h1,cond_true,cond_false];kernel_rfl))⟩⟩
theorem Dt {α:Type} {c:Bool} {a b:α×AD} (ha:Bo a.2) (hb:Bo b.2):Bo (bif c then a else b).2:=by cases c <;> assumption
theorem Ee {b:AF} {d:AD} (h:Bo d):Bo (CQ b d).2:=Bc h
theorem DG {a c:AB} {d:AD} (h:Bo d):Bo (CR a c d).2:=by
 unfold CR
 exact Dt (Bc h) (Dt (Bc (Bc h)) (Bc h))
theorem Dp {b:AF} {types:List AM} {d:AD} (h:Bo d):Bo (Bs b types d).2:=by
 unfold Bs
 exact Dt (Bc (Bc h)) (Bc (Bc h))
theorem DV {l:List (List Int)} (hl:∀ x∈l,(x.length:Int)<=9223372036854775807) (k:Int):((AX l k).length:Int)<=9223372036854775807:=by
 unfold AX
 by_cases h:k<(l.length:Int)
 ·rw [decide_eq_true h]
  simp only [cond_true]
  by_cases hk:k.toNat<l.length
  ·rw [List.getD_eq_getElem?_getD,List.getElem?_eq_getElem hk]
   exact hl _ (List.getElem_mem _)
  ·rw [List.getD_eq_getElem?_getD,List.getElem?_eq_none (by omega)]
   decide
 ·rw [decide_eq_false h]
  exact Int.le_of_lt (by decide:((([]:List Int).length:Nat):Int)<9223372036854775807)
theorem SP {v:Int} {d:AD} {n:Int} (h:v<(AA d n).1) (h0:0<n) (h1:n<=1000000):v<n:=by
 have:=C7 d n h0 (by omega)
 omega
end
end Go.Proofs.YtheobjkgllmnmaaGreat
