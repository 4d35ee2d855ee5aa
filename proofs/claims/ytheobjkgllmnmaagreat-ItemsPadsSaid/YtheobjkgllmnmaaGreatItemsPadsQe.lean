/-
  No statement is proved in this text. It holds a part of what the proof of ItemsPads needs.
-/
import Derived.Test.YtheobjkgllmnmaaGreatItemsPadsQd
namespace Go.Proofs.YtheobjkgllmnmaaGreat
set_option maxRecDepth 100000
set_option linter.unusedVariables false
set_option linter.unusedSimpArgs false
open Go.RowKit
section
open Go.RowKit
structure Nf (b:AH):Prop where
 parts:b.Parts.length<20
 tracks:b.Tracks.length<20
 vias:b.Vias.length<20
 slots:b.Slots.length<20
 nets:(b.Nets.length:Int)<=1000000
 pins:∀ n∈b.Nets,(n.Pins.length:Int)<=1000000
 ted:∀ t∈b.Tracks,(t.Shape.Edges.length:Int)<=1000000
 sed:∀ s∈b.Slots,(s.Shape.Edges.length:Int)<=1000000
theorem Xj {b:AH} (h:Nf b) (k:Nat):(((BK b).getD k default).Shape.Edges.length:Int)<=1000000:=Gq (p:=fun t:Ab=>(t.Shape.Edges.length:Int)<=1000000) (by decide) (fun x hx=>h.ted x (Wh.1 hx)) k
theorem Xs {b:AH} (h:Nf b) (k:Nat):(((Bg b).getD k default).Shape.Edges.length:Int)<=1000000:=Gq (p:=fun t:Ar=>(t.Shape.Edges.length:Int)<=1000000) (by decide) (fun x hx=>h.sed x (Y6.1 hx)) k
theorem H9 {types:List AQ} (h:CP types) (name:ByteArray):((BQ types name).1.Pads.length:Int)<=1000000:=by rw [LA];exact JP h name
def H7 (b:AH) (v:List (Ag×ByteArray)) (x:AE×A1):Ad:=Ad.mk x.1.Id x.2.Name 1 (bif El Bc v (Ag.mk x.1.Ref x.2.Name) then (v.getD (DY Bc v (Ag.mk x.1.Ref x.2.Name)) default).2 else ⟨#[]⟩) (bif decide (x.2.Drill=0) then DM b x.1 else 1) (bif decide (x.2.Drill=0) then DM b x.1 else b.Layers) (D1 x.2.Shape (Bz x.1))
def tU (v:List (Ag×ByteArray)) (n:Bf):List (Ag×ByteArray):=n.Pins.foldl (fun v p=>JL Bc v p n.Name) v
def R8 (b:AH):List (Ag×ByteArray):=b.Nets.reverse.foldl tU []
theorem Wp (b:AH) (types:List AQ):Df b types=(Ai b types).map (H7 b (R8 b)):=by
 have h2:∀ v K0,De b types v K0 (Ai b types).length 0 []=(Ai b types).map (H7 b v):=fun v K0=>by
  have:=lO (Ai b types) (fun acc x=>acc++[H7 b v x]) (De b types v K0) id (fun x acc=>by rw [De];rfl) (fun m x acc hx=>by rw [De];rfl) (Ai b types).length 0 [] (by omega)
  rw [this,List.drop_zero,Gy,List.nil_append];rfl
 have hrev:∀ x,x<b.Nets.reverse.length->b.Nets.getD (b.Nets.length-1-x) default=b.Nets.reverse.getD x default:=fun x hx=>by
  rw [List.length_reverse] at hx
  rw [List.getD_eq_getElem?_getD,List.getD_eq_getElem?_getD,List.getElem?_reverse hx]
 unfold Df
 have:=lO b.Nets.reverse tU (C3 b types) (fun v=>(Ai b types).map (H7 b v)) (fun x acc=>by rw [C3];exact h2 _ _) (fun m x acc hx=>by
  rw [C3,hrev x hx]
  have h1:=L9 (b.Nets.reverse.getD x default).Pins (fun v p=>JL Bc v p (b.Nets.reverse.getD x default).Name) (HX b types acc x (C3 b types m (x+1))) (fun v _=>C3 b types m (x+1) v) (fun m v k=>by rw [HX,hrev x hx,Int.toNat_natCast]) (b.Nets.reverse.getD x default).Pins.length 0 ((((b.Nets.reverse.getD x default).Pins.length:Int)-0).toNat+1) acc rfl (Nat.zero_le _) (by omega)
  rw [List.drop_zero] at h1
  exact h1) b.Nets.length 0 [] (by rw [List.length_reverse];omega)
 rw [this,List.drop_zero];rfl
theorem S5 (b:AH) (types:List AQ):(Df b types).length=(Ai b types).length:=by rw [Wp,List.length_map]
def Dc (s:AP):AP:=s
variable (b:AH) (v5_0':List Ao) (p at_:AC) (drill r:Int) (s:AP) (v16 v21 v39 v58:Int) (v5_0:List Ao) (v76:Int)
def Kv:CT:=(53,[.agg (AP.c s)],.val [] (.av (.agg (AP.c (Dc s)))))
abbrev fM:List (Nat×Blk):=[(1,.cells [.i s.Kind,.own 5 7 s.Edges.length,.i s.R] 28),C7,(5,.row 7 s.Edges.length (AO AF.c s.Edges) 68)]
theorem pG (s:AP) (h0:(s.Edges.length:Int)<=1000000):PuP 53 (Kv s).2.1 (.av (.agg (AP.c (Dc s)))):=by
 refine pwf Tryz.func53 fun W0 M0 => ?_
 refine AB<|rn ⟨Fg,[(IF s),C7]⟩<|AB ?_
 refine rs 5 (ND s.Edges) ⟨Fg,(fM s)⟩ (Ms s.Edges au4)<|AG ?_
 refine BS (Cv.trans (BM (⟨Fg,(fM s)⟩) lr (.cons ⟨rfl,.cells _ (rr (.cons (.own _ _ au2) (rr .nil)))⟩ (.cons ⟨rfl,.refl _⟩ (.cons ⟨rfl,Am 68 (BI 7 AF.c s.Edges)⟩ .nil)))) (Cv.refl _))<|AB ?_
 refine rn ⟨[(2,tP 2 0)],[(2,.cells [.i s.Kind,.own 5 7 s.Edges.length,.i s.R] 28),(5,.row 7 s.Edges.length (AO AF.c s.Edges) 68)]⟩<|AW ?_
 exact yl (Cv.trans (vf 5 7 s.Edges.length (AO AF.c s.Edges) 68 hk0 (.cons ⟨rfl,rfl⟩ .nil)) (Cv.refl _)) (.av (.agg (AP.c s))) (Aa (by rfl))
theorem Vg (s:AP) (h0:(s.Edges.length:Int)<=1000000):OKc (Kv s):=cPu<|pG s h0
def Bu (p:AC) (r:Int):AP:=AP.mk 1 [AF.mk 1 p p (AC.mk 0 0)] r
def Gf:CT:=(38,[.agg (AC.c p),.one (.i r)],.val [] (.av (.agg (AP.c (Bu p r)))))
abbrev eP:List Cl:=[.i 1,.list true 7 1 (As 7 1 [.i 1,.i p.X,.i p.Y,.i p.X,.i p.Y,.i 0,.i 0]),.i r]
theorem vK (p:AC) (r:Int):PuP 38 (Gf p r).2.1 (.av (.agg (AP.c (Bu p r)))):=by
 refine pwf Tryz.func38 fun W0 M0 => ?_
 refine AB<|rn ⟨[(1,tI r),(2,tP 2 0),(4,tP 4 0)],[(2,.cells (AC.c p) 66),JC]⟩<|AB ?_
 refine rn ⟨[(4,tP 4 0)],[(4,.cells (eP p r) 28)]⟩<|AW ?_
 exact xl (.av (.agg (eP p r))) (Du (y:=.av (.agg [.i 1,lst 7 AF.c [AF.mk 1 p p (AC.mk 0 0)],.i r])) (.av (.agg (rr (.cons (BZ true (Aq (c:=AF.c) (xs:=([AF.mk 1 p p (AC.mk 0 0)]:List AF)) rfl kr)) (rr .nil))))) (by rfl))
theorem Kj (p:AC) (r:Int):OKc (Gf p r):=cPu<|vK p r
def Z0N:AP:=Bu ((Az b).getD v39.toNat default).At ((Az b).getD v39.toNat default).R
def Z0O:AP:=((BK b).getD v16.toNat default).Shape
def Ht (b:AH) (types:(List AQ)) (out:List Ad) (v16:Int) (K0:List Ad->Int->(List Ad)):Nat->List Ad->Int->(List Ad)
 | 0,_,_=>default
 | n1+1,out',v39=>bif decide ((v39:Int)<(((Az b).length:Nat):Int)) then ((Ht b types out v16 K0 n1) (out'++[Ad.mk ((Az b).getD v39.toNat default).Id (⟨#[]⟩) 3 ((Az b).getD v39.toNat default).Net ((Az b).getD v39.toNat default).From ((Az b).getD v39.toNat default).To (Z0N b v39)]) (v39+1)) else out'
def Gw (b:AH) (types:(List AQ)):Nat->List Ad->Int->(List Ad)
 | 0,_,_=>default
 | n0+1,out,v16=>bif decide ((v16:Int)<(((BK b).length:Nat):Int)) then ((Gw b types n0) (out++[Ad.mk ((BK b).getD v16.toNat default).Id (⟨#[]⟩) 2 ((BK b).getD v16.toNat default).Net ((BK b).getD v16.toNat default).Layer ((BK b).getD v16.toNat default).Layer (Dc (Z0O b v16))]) (v16+1)) else (Ht b types out v16 (Gw b types n0) (((((Az b).length:Nat):Int)-0).toNat+1) out 0)
def DB (b:AH) (types:(List AQ)):(List Ad):=Gw b types (((((BK b).length:Nat):Int)-0).toNat+1) (Df b types) 0
abbrev Rv (out:List Ad) (b:AH) (v16:Int):=out++[Ad.mk ((BK b).getD v16.toNat default).Id (⟨#[]⟩) 2 ((BK b).getD v16.toNat default).Net ((BK b).getD v16.toNat default).Layer ((BK b).getD v16.toNat default).Layer (Dc (Z0O b v16))]
abbrev Ru (out':List Ad) (b:AH) (v39:Int):=out'++[Ad.mk ((Az b).getD v39.toNat default).Id (⟨#[]⟩) 3 ((Az b).getD v39.toNat default).Net ((Az b).getD v39.toNat default).From ((Az b).getD v39.toNat default).To (Z0N b v39)]
abbrev CD:Nat×Blk:=(2,.cells (AH.c b) 41)
abbrev Lr:Nat×Blk:=(14,.row 6 (BK b).length (AO Ab.c (BK b)) 150)
abbrev Lq:Nat×Blk:=(37,.row 8 (Az b).length (AO A4.c (Az b)) 154)
abbrev Lk:Nat×Tv:=(15,tI (((BK b).length:Nat):Int))
abbrev Lj:Nat×Tv:=(38,tI (((Az b).length:Nat):Int))
abbrev Li:Nat×Tv:=(14,tO (.own 14 6 (BK b).length))
abbrev Lh:Nat×Tv:=(37,tO (.own 37 8 (Az b).length))
theorem qAll (b:AH) (types:(List AQ)) (hb:Nf b) (ht:CP types):Fr Tryz.prog 14 [.agg (AH.c b),.one (lst 3 AQ.c types)] (.row 9 (DB b types).length (AO Ad.c (DB b types)) 61) (fun d=>tO (.own d 9 (DB b types).length)):=by
 refine ED Tryz.func14 rfl kr (Er _ _) fun W0 M0 => ?_
 have hpl:=IW hb.parts ht
 have hp1:=S5 b types
 have ht1:=O5 b
 have hv1:=Od b
 have hb1:=hb.tracks
 have hb2:=hb.vias
 refine AB<|rn ⟨[(Ep types),(2,tP 2 0)],[(CD b)]⟩<|AB ?_
 refine rs 12 (ceI [.agg (AH.c b),.one (lst 3 AQ.c types)] (tZ b types)) ⟨[(2,tP 2 0),(5,tO (.own 12 9 (Df b types).length))],[(CD b),(12,.row 9 (Df b types).length (AO Ad.c (Df b types)) 61)]⟩ (Ct (vW b types au13 au13 au13 au13 au13) (.cons (.agg (rr9 (rr3 (.cons (.any _) (rr (rr .nil)))))) (.cons (AvE.refl _) .nil)))<|AG ?_
 refine AB<|AB ?_
 refine rs 14 (aL b) ⟨[(2,tP 2 0),(5,tO (.own 12 9 (Df b types).length)),(Li b),(Lk b),(16,tI 0)],[(CD b),(12,.row 9 (Df b types).length (AO Ad.c (Df b types)) 61),(Lr b)]⟩ (jL b au13)<|AG<|AR ?_
 refine BB (ι:=Nat×List Ad×Int) (fun x=>⟨[(2,tP 2 0),(5,tO (.own 12 9 x.2.1.length)),(Li b),(Lk b),(16,tI x.2.2)],[(CD b),(12,.row 9 x.2.1.length (AO Ad.c x.2.1) 61),(Lr b)]⟩) (fun x=>((((BK b).length:Nat):Int)-x.2.2).toNat<x.1/\(0<=x.2.2/\(x.2.2<=(((BK b).length:Nat):Int)\/x.2.2=0)/\(x.2.1.length:Int)<=((Df b types).length:Int)+1*(x.2.2-0))/\Gw b types x.1 x.2.1 x.2.2=DB b types) (fun x=>x.1) ?_ (((((BK b).length:Nat):Int)-0).toNat+1,Df b types,0) ⟨Nat.lt_succ_self _,⟨ax0,ax0,ax0⟩,(by simp only [DB,cond_true,cond_false])⟩
 rintro ⟨n0,out,v16⟩ ⟨hm0,hinv0,hF0⟩
 try dsimp only at hm0 hinv0 hF0
 cases n0 with | zero=>exact nz hm0 | succ n0 => ?_
 refine AB<|rn ⟨[(2,tP 2 0),(5,tO (.own 12 9 out.length)),(Li b),(Lk b),(16,tI v16),(17,tB (decide ((v16:Int)<(((BK b).length:Nat):Int))))],[(CD b),(12,.row 9 out.length (AO Ad.c out) 61),(Lr b)]⟩<|AB ?_
 refine AV _ rfl (fun h1 => ?_) (fun h1 => ?_)
 ·have g1:=oT h1
  refine AY<|AG ?_
  refine AB<|AR<|AB ?_
  refine rc [] [0<=(v16:Int)/\(v16:Int)<(((BK b).length:Nat):Int),v16.toNat<(BK b).length] ⟨[(2,tP 2 0),(5,tO (.own 12 9 out.length)),(7,tP 7 0),(Li b),(Lk b),(16,tI v16)],[(CD b),(7,.cells (Ab.c ((BK b).getD v16.toNat default)) 150),(12,.row 9 out.length (AO Ad.c out) 61),(Lr b)]⟩ .nil (.cons au0 (.cons au0 .nil))<|AG ?_
  refine dw [] [(31,Kv (Z0O b v16))] [Ap (Kv (Z0O b v16)).2.1,out.length=out.length,out.length+1<=maxLen,(out.length+1)*104<=140737488355328] ⟨[(2,tP 2 0),(5,tO (.own 34 9 (out.length+1))),(Li b),(Lk b),(16,tI v16)],[(CD b),(Lr b),(34,.row 9 (out.length+1) (fun i_ j_=>if i_<out.length then (AO Ad.c out) i_ j_ else (As 9 1 [.i ((BK b).getD v16.toNat default).Id,.s (⟨#[]⟩),.i 2,.s ((BK b).getD v16.toNat default).Net,.i ((BK b).getD v16.toNat default).Layer,.i ((BK b).getD v16.toNat default).Layer,.i (Dc (Z0O b v16)).Kind,lst 7 AF.c (Dc (Z0O b v16)).Edges,.i (Dc (Z0O b v16)).R]) (i_-out.length) j_) 61)]⟩ (.cons (Vg (Z0O b v16) au13) .nil) (.cons rfl (.cons rfl (.cons au3 (.cons au3 .nil))))<|BN<|AG ?_
  refine BS (Cv.trans (BM (⟨[(2,tP 2 0),(5,tO (.own 34 9 (Rv out b v16).length)),(Li b),(Lk b),(16,tI v16)],[(CD b),(Lr b),(34,.row 9 (Rv out b v16).length (AO Ad.c (Rv out b v16)) 61)]⟩) (.cons ⟨rfl,.refl _⟩ (.cons ⟨rfl,.av (.one (.own _ _ au2))⟩ lr)) (.cons ⟨rfl,.refl _⟩ (.cons ⟨rfl,.refl _⟩ (.cons ⟨rfl,Am 61 (BR (BI 9 Ad.c out) (Aq (c:=Ad.c) (xs:=([Ad.mk ((BK b).getD v16.toNat default).Id (⟨#[]⟩) 2 ((BK b).getD v16.toNat default).Net ((BK b).getD v16.toNat default).Layer ((BK b).getD v16.toNat default).Layer (Dc (Z0O b v16))]:List Ad)) rfl kr))⟩ .nil)))) (Cv.refl _)) ?_
  refine rg ⟨[(2,tP 2 0),(5,tO (.own 34 9 (Rv out b v16).length)),(Li b),(Lk b),(16,tI (W64 (v16+1)))],[(CD b),(Lr b),(34,.row 9 (Rv out b v16).length (AO Ad.c (Rv out b v16)) 61)]⟩ ?_
  (try rw [(show W64 (v16+1)=v16+1 from Af oM au5)])
  refine AG ?_
  refine ⟨(n0,out++[Ad.mk ((BK b).getD v16.toNat default).Id (⟨#[]⟩) 2 ((BK b).getD v16.toNat default).Net ((BK b).getD v16.toNat default).Layer ((BK b).getD v16.toNat default).Layer (Dc (Z0O b v16))],v16+1),⟨?_,?_,(by rw [<- hF0];simp only [Gw,h1,cond_true,cond_false])⟩,Nat.lt_succ_self _,Cv.trans (vr 34 12 hk0) (Cv.trans (vk [2,5,14,15,16] [2,12,14]) (Ay kr))⟩
  ·show ((((BK b).length:Nat):Int)-(v16+1)).toNat<n0;omega
  exact ⟨ax0,ax0,ax0⟩
 have g1:=oF h1
 refine BF<|A3 ?_
 refine A3<|BG ?_
 refine AG<|AB<|AB ?_
 refine rs 37 (mA b) ⟨[(5,tO (.own 12 9 out.length)),(Lh b),(Lj b),(39,tI 0)],[(12,.row 9 out.length (AO Ad.c out) 61),(Lq b)]⟩ (jJ b au13)<|AG<|AR ?_
 refine BB (ι:=Nat×List Ad×Int) (fun x=>⟨[(5,tO (.own 12 9 x.2.1.length)),(Lh b),(Lj b),(39,tI x.2.2)],[(12,.row 9 x.2.1.length (AO Ad.c x.2.1) 61),(Lq b)]⟩) (fun x=>((((Az b).length:Nat):Int)-x.2.2).toNat<x.1/\(0<=x.2.2/\(x.2.2<=(((Az b).length:Nat):Int)\/x.2.2=0)/\(x.2.1.length:Int)<=(out.length:Int)+1*(x.2.2-0))/\Ht b types out v16 (Gw b types n0) x.1 x.2.1 x.2.2=DB b types) (fun x=>x.1) ?_ (((((Az b).length:Nat):Int)-0).toNat+1,out,0) ⟨Nat.lt_succ_self _,⟨ax0,ax0,ax0⟩,(by rw [<- hF0];simp only [Gw,h1,cond_true,cond_false])⟩
 rintro ⟨n1,out',v39⟩ ⟨hm1,hinv1,hF1⟩
 try dsimp only at hm1 hinv1 hF1
 cases n1 with | zero=>exact nz hm1 | succ n1 => ?_
 refine AB<|rn ⟨[(5,tO (.own 12 9 out'.length)),(Lh b),(Lj b),(39,tI v39),(40,tB (decide ((v39:Int)<(((Az b).length:Nat):Int))))],[(12,.row 9 out'.length (AO Ad.c out') 61),(Lq b)]⟩<|AB ?_
 refine AV _ rfl (fun h2 => ?_) (fun h2 => ?_)
 ·have g2:=oT h2
  refine AY<|AG ?_
  refine AB<|AR<|AB ?_
  refine rc [] [0<=(v39:Int)/\(v39:Int)<(((Az b).length:Nat):Int),v39.toNat<(Az b).length] ⟨[(5,tO (.own 12 9 out'.length)),(9,tP 9 0),(Lh b),(Lj b),(39,tI v39)],[(9,.cells (A4.c ((Az b).getD v39.toNat default)) 154),(12,.row 9 out'.length (AO Ad.c out') 61),(Lq b)]⟩ .nil (.cons au0 (.cons au0 .nil))<|AG ?_
  refine dw [] [(56,Gf ((Az b).getD v39.toNat default).At ((Az b).getD v39.toNat default).R)] [Ap (Gf ((Az b).getD v39.toNat default).At ((Az b).getD v39.toNat default).R).2.1,out'.length=out'.length,out'.length+1<=maxLen,(out'.length+1)*104<=140737488355328] ⟨[(5,tO (.own 59 9 (out'.length+1))),(Lh b),(Lj b),(39,tI v39)],[(Lq b),(59,.row 9 (out'.length+1) (fun i_ j_=>if i_<out'.length then (AO Ad.c out') i_ j_ else (As 9 1 [.i ((Az b).getD v39.toNat default).Id,.s (⟨#[]⟩),.i 3,.s ((Az b).getD v39.toNat default).Net,.i ((Az b).getD v39.toNat default).From,.i ((Az b).getD v39.toNat default).To,.i (Z0N b v39).Kind,lst 7 AF.c (Z0N b v39).Edges,.i (Z0N b v39).R]) (i_-out'.length) j_) 61)]⟩ (.cons (Kj ((Az b).getD v39.toNat default).At ((Az b).getD v39.toNat default).R) .nil) (.cons rfl (.cons rfl (.cons au3 (.cons au3 .nil))))<|BN<|AG ?_
  refine BS (Cv.trans (BM (⟨[(5,tO (.own 59 9 (Ru out' b v39).length)),(Lh b),(Lj b),(39,tI v39)],[(Lq b),(59,.row 9 (Ru out' b v39).length (AO Ad.c (Ru out' b v39)) 61)]⟩) (.cons ⟨rfl,.av (.one (.own _ _ au2))⟩ lr) (.cons ⟨rfl,.refl _⟩ (.cons ⟨rfl,Am 61 (BR (BI 9 Ad.c out') (Aq (c:=Ad.c) (xs:=([Ad.mk ((Az b).getD v39.toNat default).Id (⟨#[]⟩) 3 ((Az b).getD v39.toNat default).Net ((Az b).getD v39.toNat default).From ((Az b).getD v39.toNat default).To (Z0N b v39)]:List Ad)) rfl kr))⟩ .nil))) (Cv.refl _)) ?_
  refine rg ⟨[(5,tO (.own 59 9 (Ru out' b v39).length)),(Lh b),(Lj b),(39,tI (W64 (v39+1)))],[(Lq b),(59,.row 9 (Ru out' b v39).length (AO Ad.c (Ru out' b v39)) 61)]⟩ ?_
  (try rw [(show W64 (v39+1)=v39+1 from Af oM au5)])
  refine AG ?_
  refine ⟨(n1,out'++[Ad.mk ((Az b).getD v39.toNat default).Id (⟨#[]⟩) 3 ((Az b).getD v39.toNat default).Net ((Az b).getD v39.toNat default).From ((Az b).getD v39.toNat default).To (Z0N b v39)],v39+1),⟨?_,?_,(by rw [<- hF1];simp only [Ht,h2,cond_true,cond_false])⟩,Nat.lt_succ_self _,Cv.trans (vr 59 12 hk0) (Cv.trans (vk [5,37,38,39] [12,37]) (Ay kr))⟩
  ·show ((((Az b).length:Nat):Int)-(v39+1)).toNat<n1;omega
  exact ⟨ax0,ax0,ax0⟩
 refine BF<|A3 ?_
 refine A3<|BG ?_
 refine AG<|AB ?_
 refine rn ⟨[(4,tO (.own 12 9 out'.length))],[(12,.row 9 out'.length (AO Ad.c out') 61)]⟩<|AW ?_
 exact xl (tO (.own 12 9 out'.length)) (frE (c:=Ad.c) (xs:=out') (by rw [<- hF1];first | (simp only [Ht,h2,cond_true,cond_false] <;> rfl)) kr)
def EP (l:(List Ao)) (at_:AC) (drill:Int) (from_:Int) (to_:Int):(List Ao):=l++[Ao.mk (Bu at_ (W64 (Int.tdiv drill 2))) from_ to_ true]
abbrev Nn:=Bu at_ (W64 (Int.tdiv drill 2))
theorem ZU (l:(List Ao)) (at_:AC) (drill:Int) (from_:Int) (to_:Int) (hl:l.length<30000000):WrA Tryz.prog 60 [.agg (AC.c at_),.one (.i drill),.one (.i from_),.one (.i to_)] 6 l.length (AO Ao.c l) 70 53 (EP l at_ drill from_ to_).length (AO Ao.c (EP l at_ drill from_ to_)):=by
 refine Xg Tryz.func60 rfl kr kr fun W0 M0 X hX => ?_
 refine AB<|rn ⟨[(1,tI drill),(2,tI from_),(3,tI to_),(4,tP 1000 0),(5,tP 5 0)],[(5,.cells (AC.c at_) 66),(1000,.cells [.own 1001 6 l.length] 53),(1001,.row 6 l.length (AO Ao.c l) 70)]⟩ ?_
 refine dw [] [(13,Gf at_ (W64 (Int.tdiv drill 2)))] [(2:Int)≠0,Ap (Gf at_ (W64 (Int.tdiv drill 2))).2.1,l.length=l.length,l.length+1<=maxLen,(l.length+1)*64<=140737488355328] ⟨[],[(18,.row 6 (l.length+1) (fun i_ j_=>if i_<l.length then (AO Ao.c l) i_ j_ else (As 6 1 [.i (Nn at_ drill).Kind,lst 7 AF.c (Nn at_ drill).Edges,.i (Nn at_ drill).R,.i from_,.i to_,.b true]) (i_-l.length) j_) 70),(1000,.cells [.own 18 6 (l.length+1)] 53)]⟩ (.cons (Kj at_ (W64 (Int.tdiv drill 2))) .nil) (.cons au15 (.cons rfl (.cons rfl (.cons au3 (.cons au3 .nil))))) ?_
 exact yn (Cv.trans (BM (⟨[],[(18,.row 6 (l++[Ao.mk (Nn at_ drill) from_ to_ true]).length (AO Ao.c (l++[Ao.mk (Nn at_ drill) from_ to_ true])) 70),(1000,.cells [.own 18 6 (l++[Ao.mk (Nn at_ drill) from_ to_ true]).length] 53)]⟩) .nil (.cons ⟨rfl,Am 70 (BR (BI 6 Ao.c l) (Aq (c:=Ao.c) (xs:=([Ao.mk (Bu at_ (W64 (Int.tdiv drill 2))) from_ to_ true]:List Ao)) rfl kr))⟩ (.cons ⟨rfl,.cells _ (.cons (.own _ _ au2) .nil)⟩ .nil))) (Cv.refl _)) (.tup []) ⟨18,.row 6 (l++[Ao.mk (Bu at_ (W64 (Int.tdiv drill 2))) from_ to_ true]).length (AO Ao.c (l++[Ao.mk (Bu at_ (W64 (Int.tdiv drill 2))) from_ to_ true])) 70,by kernel_rfl,by kernel_rfl,by kernel_rfl,Dk (by rfl)⟩
theorem O6 (l:List Ao) (a:AC) (x f t:Int):(EP l a x f t).length=l.length+1:=by unfold EP;rw [List.length_append];rfl
theorem JF (c:Bool) (l:List Ao) (a:AC) (x f t:Int):((bif c then EP l a x f t else l).length:Int)<=(l.length:Int)+1:=by
 cases c with
 | true=>rw [cond_true,O6];omega
 | false=>rw [cond_false];omega
theorem Kh (l:List Ao) (a:AC) (x f t:Int):((EP l a x f t).length:Int)<=(l.length:Int)+1:=by rw [O6];omega
def FH (b:AH) (types:(List AQ)) (v5_0:List Ao) (v21:Int) (K0:List Ao->Int->(List Ao)):Nat->List Ao->Int->(List Ao)
 | 0,_,_=>default
 | n1+1,v5_0',v35=>bif decide ((v35:Int)<((BQ types ((A2 b).getD v21.toNat default).Type').1.Pads.length:Int)) then ((FH b types v5_0 v21 K0 n1) (bif !decide ((((BQ types ((A2 b).getD v21.toNat default).Type').1.Pads.getD v35.toNat default).Drill:Int)=0) then (EP v5_0' (AZ (Bz ((A2 b).getD v21.toNat default)) ((BQ types ((A2 b).getD v21.toNat default).Type').1.Pads.getD v35.toNat default).At) ((BQ types ((A2 b).getD v21.toNat default).Type').1.Pads.getD v35.toNat default).Drill 1 b.Layers) else v5_0') (v35+1)) else (K0 v5_0' (v21+1))
def FG (b:AH) (types:(List AQ)) (v5_0:List Ao) (v21:Int) (v5_0':List Ao) (v58:Int) (K0:List Ao->Int->(List Ao)) (K1:List Ao->Int->(List Ao)):Nat->List Ao->Int->(List Ao)
 | 0,_,_=>default
 | n3+1,v5_0'',v76=>bif decide ((v76:Int)<(((Bg b).length:Nat):Int)) then ((FG b types v5_0 v21 v5_0' v58 K0 K1 n3) (v5_0''++[Ao.mk (Dc ((Bg b).getD v76.toNat default).Shape) 1 b.Layers false]) (v76+1)) else v5_0''
def EG (b:AH) (types:(List AQ)) (v5_0:List Ao) (v21:Int) (K0:List Ao->Int->(List Ao)):Nat->List Ao->Int->(List Ao)
 | 0,_,_=>default
 | n2+1,v5_0',v58=>bif decide ((v58:Int)<(((Az b).length:Nat):Int)) then ((EG b types v5_0 v21 K0 n2) (EP v5_0' ((Az b).getD v58.toNat default).At ((Az b).getD v58.toNat default).Drill ((Az b).getD v58.toNat default).From ((Az b).getD v58.toNat default).To) (v58+1)) else (FG b types v5_0 v21 v5_0' v58 K0 (EG b types v5_0 v21 K0 n2) (((((Bg b).length:Nat):Int)-0).toNat+1) v5_0' 0)
def DV (b:AH) (types:(List AQ)):Nat->List Ao->Int->(List Ao)
 | 0,_,_=>default
 | n0+1,v5_0,v21=>bif decide ((v21:Int)<(((A2 b).length:Nat):Int)) then (FH b types v5_0 v21 (DV b types n0) ((((BQ types ((A2 b).getD v21.toNat default).Type').1.Pads.length:Int)-0).toNat+1) v5_0 0) else (EG b types v5_0 v21 (DV b types n0) (((((Az b).length:Nat):Int)-0).toNat+1) v5_0 0)
def EJ (b:AH) (types:(List AQ)):(List Ao):=DV b types (((((A2 b).length:Nat):Int)-0).toNat+1) ([]:List Ao) 0
abbrev Hg (types:List AQ) (b:AH) (v21:Int):=BQ types ((A2 b).getD v21.toNat default).Type'
abbrev PD (v5_0':List Ao) (b:AH) (v21:Int) (types:List AQ) (v35:Int):=EP v5_0' (AZ (Bz ((A2 b).getD v21.toNat default)) ((Hg types b v21).1.Pads.getD v35.toNat default).At) ((Hg types b v21).1.Pads.getD v35.toNat default).Drill 1 b.Layers
abbrev XV (v5_0':List Ao) (b:AH) (v58:Int):=EP v5_0' ((Az b).getD v58.toNat default).At ((Az b).getD v58.toNat default).Drill ((Az b).getD v58.toNat default).From ((Az b).getD v58.toNat default).To
abbrev N6:Nat×Blk:=(56,.row 8 (Az b).length (AO A4.c (Az b)) 154)
abbrev fR:List (Nat×Blk):=[(CD b),(5,.cells [.own 100000 6 (XV v5_0' b v58).length] 53),(N6 b),(100000,.row 6 (XV v5_0' b v58).length (AO Ao.c (XV v5_0' b v58)) 70)]
abbrev sZ:Cl:=.clo 60 1 (Aw [.ptr 5 0])
abbrev LF:Nat×Tv:=(6,tO sZ)
abbrev E9:Nat×Blk:=(19,.row 7 (A2 b).length (AO AE.c (A2 b)) 160)
abbrev Rs:Nat×Tv:=(20,tI (((A2 b).length:Nat):Int))
abbrev Rq:Nat×Tv:=(19,tO (.own 19 7 (A2 b).length))
abbrev IH:Nat×Blk:=(8,.cells (AE.c ((A2 b).getD v21.toNat default)) 160)
abbrev H3:Nat×Blk:=(100000,.row 6 v5_0'.length (AO Ao.c v5_0') 70)
abbrev fZ:Nat×Tv:=(56,tO (.own 56 8 (Az b).length))
abbrev gF:Nat×Tv:=(57,tI (((Az b).length:Nat):Int))
abbrev Pl (t_:List (Nat×Tv)):List (Nat×Tv):=(2,tP 2 0)::(5,tP 5 0)::LF::(fZ b)::(gF b)::t_
abbrev gM:List (Nat×Tv):=(Pl b [(58,tI v58),(62,tO sZ),(64,.av (.agg (AC.c ((Az b).getD v58.toNat default).At))),(66,tI ((Az b).getD v58.toNat default).Drill),(68,tI ((Az b).getD v58.toNat default).From),(70,tI ((Az b).getD v58.toNat default).To)])
abbrev TM:=Dc ((Bg b).getD v76.toNat default).Shape
abbrev N7:=[Ao.mk (TM b v76) 1 b.Layers false]
abbrev Hy:Nat×Blk:=(5,.cells [.own 100000 6 v5_0'.length] 53)
abbrev XX (types:List AQ) (b:AH) (v21:Int):Nat×Tv:=(34,tI ((Hg types b v21).1.Pads.length:Int))
abbrev XT (types:List AQ) (b:AH) (v21:Int):Nat×Tv:=(33,tO (lst 7 A1.c (Hg types b v21).1.Pads))
abbrev Lp:Nat×Blk:=(74,.row 4 (Bg b).length (AO Ar.c (Bg b)) 165)
abbrev fY:Nat×Tv:=(75,tI (((Bg b).length:Nat):Int))
abbrev fV:Nat×Tv:=(74,tO (.own 74 4 (Bg b).length))
abbrev QB:Nat×Blk:=(100000,.row 6 v5_0.length (AO Ao.c v5_0) 70)
abbrev P6:Nat×Blk:=(5,.cells [.own 100000 6 v5_0.length] 53)
abbrev eY:Nat×Blk:=(100000,.row 6 ([]:List Ao).length (AO Ao.c ([]:List Ao)) 70)
abbrev Iu (types:List AQ) (b:AH) (v21:Int) (t_:List (Nat×Tv)):List (Nat×Tv):=(Ep types)::(2,tP 2 0)::(5,tP 5 0)::LF::(8,tP 8 0)::(Rq b)::(Rs b)::(21,tI v21)::(XT types b v21)::(XX types b v21)::t_
abbrev LR (types:List AQ) (b:AH) (t_:List (Nat×Tv)):List (Nat×Tv):=(Ep types)::(2,tP 2 0)::(5,tP 5 0)::LF::(Rq b)::(Rs b)::t_
abbrev Nk (t_:List (Nat×Tv)):List (Nat×Tv):=(2,tP 2 0)::(5,tP 5 0)::(fV b)::(fY b)::t_
abbrev eN (v35:Int) (b:AH) (v21:Int) (types:List AQ) (t_:List (Nat×Tv)):List (Nat×Tv):=(35,tI v35)::(42,tO sZ)::(47,.av (.agg (AC.c (AZ (Bz ((A2 b).getD v21.toNat default)) ((Hg types b v21).1.Pads.getD v35.toNat default).At))))::(49,tI ((Hg types b v21).1.Pads.getD v35.toNat default).Drill)::t_
theorem uS (b:AH) (types:(List AQ)) (hb:Nf b) (ht:CP types):Fr Tryz.prog 17 [.agg (AH.c b),.one (lst 3 AQ.c types)] (.row 6 (EJ b types).length (AO Ao.c (EJ b types)) 70) (fun d=>tO (.own d 6 (EJ b types).length)):=by
 refine ED Tryz.func17 rfl kr (Er _ _) fun W0 M0 => ?_
 have ht1:=Y7 b
 have hv1:=Od b
 have hs1:=MX b
 have hb1:=hb.parts
 have hb2:=hb.vias
 have hb3:=hb.slots
 refine AB<|rn ⟨[(Ep types),(2,tP 2 0)],[(CD b)]⟩<|AB ?_
 refine rn ⟨(Ip types []),[(CD b),(5,.cells [vN] 53)]⟩<|AB ?_
 refine rn ⟨(Ip types [LF]),[(CD b),(5,.cells [vN] 53)]⟩ ?_
 refine AB<|AB ?_
 refine rs 19 (mH b) ⟨(LR types b [(21,tI 0)]),[(CD b),(5,.cells [vN] 53),(E9 b)]⟩ (qB b au13)<|AG<|AR ?_
 refine BS (Cv.trans (wg (⟨(LR types b [(21,tI 0)]),[(100000,.row 6 0 (fun _ _=>default) 70),(CD b),(5,.cells [.own 100000 6 0] 53),(E9 b)]⟩) 100000 6 (fun _ _=>default) 70 [] [(5,[0])] hk0) (Cv.trans (BM (⟨(LR types b [(21,tI 0)]),[eY,(CD b),(5,.cells [.own 100000 6 ([]:List Ao).length] 53),(E9 b)]⟩) lr (.cons ⟨rfl,Am 70 (Cb 6 (fun _ _=>default) Ao.c)⟩ (.cons ⟨rfl,.refl _⟩ (.cons ⟨rfl,.cells _ (.cons (.own _ _ au2) .nil)⟩ lr)))) (Cv.trans (ck (⟨(LR types b [(21,tI 0)]),[(CD b),(5,.cells [.own 100000 6 ([]:List Ao).length] 53),(E9 b),eY]⟩)) (Cv.refl _)))) ?_
 refine BB (ι:=Nat×List Ao×Int) (fun x=>⟨(LR types b [(21,tI x.2.2)]),[(CD b),(5,.cells [.own 100000 6 x.2.1.length] 53),(E9 b),(100000,.row 6 x.2.1.length (AO Ao.c x.2.1) 70)]⟩) (fun x=>((((A2 b).length:Nat):Int)-x.2.2).toNat<x.1/\((x.2.1.length:Int)<=1000000*x.2.2/\0<=x.2.2/\(x.2.2<=(((A2 b).length:Nat):Int)\/x.2.2=0))/\DV b types x.1 x.2.1 x.2.2=EJ b types) (fun x=>x.1) ?_ (((((A2 b).length:Nat):Int)-0).toNat+1,([]:List Ao),0) ⟨Nat.lt_succ_self _,⟨ax0,ax0,ax0⟩,(by simp only [EJ,cond_true,cond_false])⟩
 rintro ⟨n0,v5_0,v21⟩ ⟨hm0,hinv0,hF0⟩
 try dsimp only at hm0 hinv0 hF0
 cases n0 with | zero=>exact nz hm0 | succ n0 => ?_
 refine AB<|rn ⟨(LR types b [(21,tI v21),(22,tB (decide ((v21:Int)<(((A2 b).length:Nat):Int))))]),[(CD b),(P6 v5_0),(E9 b),(QB v5_0)]⟩<|AB ?_
 refine AV _ rfl (fun h1 => ?_) (fun h1 => ?_)
 ·have g1:=oT h1
  refine AY<|AG ?_
  refine AB<|AR<|AB ?_
  refine rc [] [0<=(v21:Int)/\(v21:Int)<(((A2 b).length:Nat):Int),v21.toNat<(A2 b).length] ⟨(Ip types [LF,(8,tP 8 0),(Rq b),(Rs b),(21,tI v21)]),[(CD b),(P6 v5_0),(IH b v21),(E9 b),(QB v5_0)]⟩ .nil (.cons au0 (.cons au0 .nil))<|AG<|AB ?_
  refine rs 29 (dQ types ((A2 b).getD v21.toNat default).Type') ⟨(Ip types [LF,(8,tP 8 0),(9,tP 9 0),(Rq b),(Rs b),(21,tI v21)]),[(CD b),(P6 v5_0),(IH b v21),(9,.cells (AQ.c (Hg types b v21).1) 82),(E9 b),(QB v5_0)]⟩ (jT types ((A2 b).getD v21.toNat default).Type' au13)<|AG<|AB ?_
  refine rn ⟨(Iu types b v21 [(35,tI 0)]),[(CD b),(P6 v5_0),(IH b v21),(E9 b),(QB v5_0)]⟩<|AR ?_
  refine BB (ι:=Nat×List Ao×Int) (fun x=>⟨(Iu types b v21 [(35,tI x.2.2)]),[(CD b),(5,.cells [.own 100000 6 x.2.1.length] 53),(IH b v21),(E9 b),(100000,.row 6 x.2.1.length (AO Ao.c x.2.1) 70)]⟩) (fun x=>(((BQ types ((A2 b).getD v21.toNat default).Type').1.Pads.length:Int)-x.2.2).toNat<x.1/\((x.2.1.length:Int)<=1000000*v21+x.2.2/\0<=x.2.2/\(x.2.2<=((BQ types ((A2 b).getD v21.toNat default).Type').1.Pads.length:Int)\/x.2.2=0))/\FH b types v5_0 v21 (DV b types n0) x.1 x.2.1 x.2.2=EJ b types) (fun x=>x.1) ?_ ((((BQ types ((A2 b).getD v21.toNat default).Type').1.Pads.length:Int)-0).toNat+1,v5_0,0) ⟨Nat.lt_succ_self _,⟨ax0,ax0,ax0⟩,(by rw [<- hF0];simp only [DV,h1,cond_true,cond_false])⟩
  rintro ⟨n1,v5_0',v35⟩ ⟨hm1,hinv1,hF1⟩
  try dsimp only at hm1 hinv1 hF1
  cases n1 with | zero=>exact nz hm1 | succ n1 => ?_
  have hpp:=H9 ht ((A2 b).getD v21.toNat default).Type'
  refine AB<|rn ⟨(Iu types b v21 [(35,tI v35),(36,tB (decide ((v35:Int)<((BQ types ((A2 b).getD v21.toNat default).Type').1.Pads.length:Int))))]),[(CD b),(Hy v5_0'),(IH b v21),(E9 b),(H3 v5_0')]⟩<|AB ?_
  refine AV _ rfl (fun h2 => ?_) (fun h2 => ?_)
  ·have g2:=oT h2
   refine AY<|AG<|AB ?_
   refine Bd (⟨(Iu types b v21 [(35,tI v35)]),[(CD b),(5,.cells [.own 100000 6 (bif !decide ((((Hg types b v21).1.Pads.getD v35.toNat default).Drill:Int)=0) then (PD v5_0' b v21 types v35) else v5_0').length] 53),(IH b v21),(E9 b),(100000,.row 6 (bif !decide ((((Hg types b v21).1.Pads.getD v35.toNat default).Drill:Int)=0) then (PD v5_0' b v21 types v35) else v5_0').length (AO Ao.c (bif !decide ((((Hg types b v21).1.Pads.getD v35.toNat default).Drill:Int)=0) then (PD v5_0' b v21 types v35) else v5_0')) 70)]⟩) ?_ ?_
   ·refine AR<|AB ?_
    refine rc [] [0<=(v35:Int)/\(v35:Int)<(((BQ types ((A2 b).getD v21.toNat default).Type').1.Pads.length:Nat):Int)] ⟨(Ip types [LF,(8,tP 8 0),(12,tP 12 0),(Rq b),(Rs b),(21,tI v21),(XT types b v21),(XX types b v21),(35,tI v35)]),[(CD b),(Hy v5_0'),(IH b v21),(12,.cells (A1.c ((Hg types b v21).1.Pads.getD v35.toNat default)) 102),(E9 b),(H3 v5_0')]⟩ .nil (.cons au0 .nil)<|AG<|AB ?_
    refine rn ⟨(Ip types [LF,(8,tP 8 0),(12,tP 12 0),(Rq b),(Rs b),(21,tI v21),(XT types b v21),(XX types b v21),(35,tI v35),(41,tB (!decide ((((BQ types ((A2 b).getD v21.toNat default).Type').1.Pads.getD v35.toNat default).Drill:Int)=0)))]),[(CD b),(Hy v5_0'),(IH b v21),(12,.cells (A1.c ((Hg types b v21).1.Pads.getD v35.toNat default)) 102),(E9 b),(H3 v5_0')]⟩ ?_
    refine AV (!decide ((((BQ types ((A2 b).getD v21.toNat default).Type').1.Pads.getD v35.toNat default).Drill:Int)=0)) kr (fun h3 => ?_) (fun h3 => ?_)
    ·have g3:=Bt h3
     refine Uv (q:=5) (r:=100000) Vt C2 10 rfl kr [] [] [(44,Ho ((A2 b).getD v21.toNat default)),(47,Bs (Bz ((A2 b).getD v21.toNat default)) ((Hg types b v21).1.Pads.getD v35.toNat default).At)] [1,2,5,6,8,19,20,21,33,34,35,42,47,49,51] [2,5,8,19,100000] [Ap (Ho ((A2 b).getD v21.toNat default)).2.1,Ap (Bs (Bz ((A2 b).getD v21.toNat default)) ((BQ types ((A2 b).getD v21.toNat default).Type').1.Pads.getD v35.toNat default).At).2.1] ⟨(Iu types b v21 (eN v35 b v21 types [(51,tI b.Layers)])),[(CD b),(Hy v5_0'),(IH b v21),(E9 b),(H3 v5_0')]⟩ ⟨(Iu types b v21 (eN v35 b v21 types [(51,tI b.Layers)])),[(CD b),(5,.cells [.own 100000 6 (PD v5_0' b v21 types v35).length] 53),(IH b v21),(E9 b),(100000,.row 6 (PD v5_0' b v21 types v35).length (AO Ao.c (PD v5_0' b v21 types v35)) 70)]⟩ (.cons (Qh ((A2 b).getD v21.toNat default)) (.cons (DD (Bz ((A2 b).getD v21.toNat default)) ((BQ types ((A2 b).getD v21.toNat default).Type').1.Pads.getD v35.toNat default).At) .nil)) kr kr (.cons rfl (.cons rfl .nil)) kr hk0 kr ⟨⟨_,_,60,1,Aw [.ptr 5 0],[.agg (AC.c (AZ (Bz ((A2 b).getD v21.toNat default)) ((BQ types ((A2 b).getD v21.toNat default).Type').1.Pads.getD v35.toNat default).At)),.one (.i ((BQ types ((A2 b).getD v21.toNat default).Type').1.Pads.getD v35.toNat default).Drill),.one (.i 1),.one (.i b.Layers)],rfl,rfl,by kernel_rfl,rfl,by kernel_rfl,by kernel_rfl,fun _ _=>by kernel_rfl,ZU v5_0' (AZ (Bz ((A2 b).getD v21.toNat default)) ((BQ types ((A2 b).getD v21.toNat default).Type').1.Pads.getD v35.toNat default).At) ((BQ types ((A2 b).getD v21.toNat default).Type').1.Pads.getD v35.toNat default).Drill 1 b.Layers au13⟩,rfl,by kernel_rfl,by kernel_rfl,by kernel_rfl⟩ kr<|BN<|AG ?_
     refine Cv.trans (ck (⟨(Iu types b v21 [(35,tI v35)]),[(CD b),(5,.cells [.own 100000 6 (PD v5_0' b v21 types v35).length] 53),(IH b v21),(E9 b),(100000,.row 6 (PD v5_0' b v21 types v35).length (AO Ao.c (PD v5_0' b v21 types v35)) 70)]⟩)) (Ay ?_)
     first | rfl | (simp only [h3,cond_true,cond_false] <;> rfl)
    have g3:=Bl h3
    refine AY<|BN<|AG ?_
    refine Cv.trans (ck (⟨(Iu types b v21 [(35,tI v35)]),[(CD b),(Hy v5_0'),(IH b v21),(E9 b),(H3 v5_0')]⟩)) (Ay ?_)
    first | rfl | (simp only [h3,cond_true,cond_false] <;> rfl)
   refine rg ⟨(Iu types b v21 [(35,tI (W64 (v35+1)))]),[(CD b),(5,.cells [.own 100000 6 (bif !decide ((((Hg types b v21).1.Pads.getD v35.toNat default).Drill:Int)=0) then (PD v5_0' b v21 types v35) else v5_0').length] 53),(IH b v21),(E9 b),(100000,.row 6 (bif !decide ((((Hg types b v21).1.Pads.getD v35.toNat default).Drill:Int)=0) then (PD v5_0' b v21 types v35) else v5_0').length (AO Ao.c (bif !decide ((((Hg types b v21).1.Pads.getD v35.toNat default).Drill:Int)=0) then (PD v5_0' b v21 types v35) else v5_0')) 70)]⟩ ?_
   (try rw [(show W64 (v35+1)=v35+1 from Af oM au5)])
   refine AG ?_
   refine ⟨(n1,bif !decide ((((BQ types ((A2 b).getD v21.toNat default).Type').1.Pads.getD v35.toNat default).Drill:Int)=0) then (EP v5_0' (AZ (Bz ((A2 b).getD v21.toNat default)) ((BQ types ((A2 b).getD v21.toNat default).Type').1.Pads.getD v35.toNat default).At) ((BQ types ((A2 b).getD v21.toNat default).Type').1.Pads.getD v35.toNat default).Drill 1 b.Layers) else v5_0',v35+1),⟨?_,?_,(by rw [<- hF1];simp only [FH,h2,cond_true,cond_false])⟩,Nat.lt_succ_self _,Ay kr⟩
   ·show (((BQ types ((A2 b).getD v21.toNat default).Type').1.Pads.length:Int)-(v35+1)).toNat<n1;omega
   exact (by show ((bif !decide ((((BQ types ((A2 b).getD v21.toNat default).Type').1.Pads.getD v35.toNat default).Drill:Int)=0) then (EP v5_0' (AZ (Bz ((A2 b).getD v21.toNat default)) ((BQ types ((A2 b).getD v21.toNat default).Type').1.Pads.getD v35.toNat default).At) ((BQ types ((A2 b).getD v21.toNat default).Type').1.Pads.getD v35.toNat default).Drill 1 b.Layers) else v5_0').length:Int)<=1000000*v21+(v35+1)/\0<=(v35+1)/\((v35+1)<=((BQ types ((A2 b).getD v21.toNat default).Type').1.Pads.length:Int)\/(v35+1)=0);(first | (refine ⟨?_,by omega,by omega⟩) | skip);first | omega | (refine Int.le_trans (JF _ _ _ _ _ _) ?_;omega) | (refine Int.le_trans (Kh _ _ _ _ _) ?_;omega) | exact at0)
  have g2:=oF h2
  refine BF<|A3 ?_
  refine A3<|BG ?_
  refine BN<|AG ?_
  refine rg ⟨(LR types b [(21,tI (W64 (v21+1)))]),[(CD b),(Hy v5_0'),(E9 b),(H3 v5_0')]⟩ ?_
  (try rw [(show W64 (v21+1)=v21+1 from Af oM au5)])
  refine AG ?_
  refine ⟨(n0,v5_0',v21+1),⟨?_,?_,(by rw [<- hF1];simp only [FH,h2,cond_true,cond_false])⟩,Nat.lt_succ_self _,Ay kr⟩
  ·show ((((A2 b).length:Nat):Int)-(v21+1)).toNat<n0;omega
  exact (by show (v5_0'.length:Int)<=1000000*(v21+1)/\0<=(v21+1)/\((v21+1)<=(((A2 b).length:Nat):Int)\/(v21+1)=0);(first | (refine ⟨?_,by omega,by omega⟩) | skip);first | omega | (refine Int.le_trans (JF _ _ _ _ _ _) ?_;omega) | (refine Int.le_trans (Kh _ _ _ _ _) ?_;omega) | exact at0)
 have g1:=oF h1
 refine BF<|A3 ?_
 refine A3<|BG ?_
 refine AG<|AB<|AB ?_
 refine rs 56 (mA b) ⟨(Pl b [(58,tI 0)]),[(CD b),(P6 v5_0),(N6 b),(QB v5_0)]⟩ (jJ b au13)<|AG<|AR ?_
 refine BB (ι:=Nat×List Ao×Int) (fun x=>⟨(Pl b [(58,tI x.2.2)]),[(CD b),(5,.cells [.own 100000 6 x.2.1.length] 53),(N6 b),(100000,.row 6 x.2.1.length (AO Ao.c x.2.1) 70)]⟩) (fun x=>((((Az b).length:Nat):Int)-x.2.2).toNat<x.1/\((x.2.1.length:Int)<=20000000+x.2.2/\0<=x.2.2/\(x.2.2<=(((Az b).length:Nat):Int)\/x.2.2=0))/\EG b types v5_0 v21 (DV b types n0) x.1 x.2.1 x.2.2=EJ b types) (fun x=>x.1) ?_ (((((Az b).length:Nat):Int)-0).toNat+1,v5_0,0) ⟨Nat.lt_succ_self _,⟨ax0,ax0,ax0⟩,(by rw [<- hF0];simp only [DV,h1,cond_true,cond_false])⟩
 rintro ⟨n2,v5_0',v58⟩ ⟨hm2,hinv2,hF2⟩
 try dsimp only at hm2 hinv2 hF2
 cases n2 with | zero=>exact nz hm2 | succ n2 => ?_
 refine AB<|rn ⟨(Pl b [(58,tI v58),(59,tB (decide ((v58:Int)<(((Az b).length:Nat):Int))))]),[(CD b),(Hy v5_0'),(N6 b),(H3 v5_0')]⟩<|AB ?_
 refine AV _ rfl (fun h2 => ?_) (fun h2 => ?_)
 ·have g2:=oT h2
  refine AY<|AG ?_
  refine AB<|AR<|AB ?_
  refine rc [] [0<=(v58:Int)/\(v58:Int)<(((Az b).length:Nat):Int),v58.toNat<(Az b).length] ⟨[(2,tP 2 0),(5,tP 5 0),LF,(14,tP 14 0),(fZ b),(gF b),(58,tI v58)],[(CD b),(Hy v5_0'),(14,.cells (A4.c ((Az b).getD v58.toNat default)) 154),(N6 b),(H3 v5_0')]⟩ .nil (.cons au0 (.cons au0 .nil))<|AG ?_
  refine EX ?_
  refine Hp C2 9 [] [] [] [2,5,6,56,57,58,62,64,66,68,70] [2,5,56,100000] [] ⟨(gM b v58),[(CD b),(Hy v5_0'),(N6 b),(H3 v5_0')]⟩ .nil kr .nil ?_
  refine dS (q:=5) (r:=100000) (⟨(gM b v58),(fR b v5_0' v58)⟩) hk0 kr ⟨⟨_,_,60,1,Aw [.ptr 5 0],[.agg (AC.c ((Az b).getD v58.toNat default).At),.one (.i ((Az b).getD v58.toNat default).Drill),.one (.i ((Az b).getD v58.toNat default).From),.one (.i ((Az b).getD v58.toNat default).To)],rfl,rfl,by kernel_rfl,rfl,by kernel_rfl,by kernel_rfl,fun _ _=>by kernel_rfl,ZU v5_0' ((Az b).getD v58.toNat default).At ((Az b).getD v58.toNat default).Drill ((Az b).getD v58.toNat default).From ((Az b).getD v58.toNat default).To au13⟩,rfl,by kernel_rfl,by kernel_rfl,by kernel_rfl⟩ kr ?_
  refine GL C2 [] [] [] [2,5,6,56,57,58] [2,5,56,100000] [] ⟨(Pl b [(58,tI v58)]),(fR b v5_0' v58)⟩ .nil kr .nil<|BN<|AG ?_
  refine rg ⟨(Pl b [(58,tI (W64 (v58+1)))]),(fR b v5_0' v58)⟩ ?_
  (try rw [(show W64 (v58+1)=v58+1 from Af oM au5)])
  refine AG ?_
  refine ⟨(n2,EP v5_0' ((Az b).getD v58.toNat default).At ((Az b).getD v58.toNat default).Drill ((Az b).getD v58.toNat default).From ((Az b).getD v58.toNat default).To,v58+1),⟨?_,?_,(by rw [<- hF2];simp only [EG,h2,cond_true,cond_false])⟩,Nat.lt_succ_self _,Ay kr⟩
  ·show ((((Az b).length:Nat):Int)-(v58+1)).toNat<n2;omega
  exact (by show ((EP v5_0' ((Az b).getD v58.toNat default).At ((Az b).getD v58.toNat default).Drill ((Az b).getD v58.toNat default).From ((Az b).getD v58.toNat default).To).length:Int)<=20000000+(v58+1)/\0<=(v58+1)/\((v58+1)<=(((Az b).length:Nat):Int)\/(v58+1)=0);(first | (refine ⟨?_,by omega,by omega⟩) | skip);first | omega | (refine Int.le_trans (JF _ _ _ _ _ _) ?_;omega) | (refine Int.le_trans (Kh _ _ _ _ _) ?_;omega) | exact at0)
 have g2:=oF h2
 refine BF<|A3 ?_
 refine A3<|BG ?_
 refine AG<|AB<|AB ?_
 refine rs 74 (mF b) ⟨(Nk b [(76,tI 0)]),[(CD b),(Hy v5_0'),(Lp b),(H3 v5_0')]⟩ (qA b au13)<|AG<|AR ?_
 refine BB (ι:=Nat×List Ao×Int) (fun x=>⟨(Nk b [(76,tI x.2.2)]),[(CD b),(5,.cells [.own 100000 6 x.2.1.length] 53),(Lp b),(100000,.row 6 x.2.1.length (AO Ao.c x.2.1) 70)]⟩) (fun x=>((((Bg b).length:Nat):Int)-x.2.2).toNat<x.1/\((x.2.1.length:Int)<=20000020+x.2.2/\0<=x.2.2/\(x.2.2<=(((Bg b).length:Nat):Int)\/x.2.2=0)/\(x.2.1.length:Int)<=(v5_0'.length:Int)+1*(x.2.2-0))/\FG b types v5_0 v21 v5_0' v58 (DV b types n0) (EG b types v5_0 v21 (DV b types n0) n2) x.1 x.2.1 x.2.2=EJ b types) (fun x=>x.1) ?_ (((((Bg b).length:Nat):Int)-0).toNat+1,v5_0',0) ⟨Nat.lt_succ_self _,⟨ax0,ax0,ax0,ax0⟩,(by rw [<- hF2];simp only [EG,h2,cond_true,cond_false])⟩
 rintro ⟨n3,v5_0'',v76⟩ ⟨hm3,hinv3,hF3⟩
 try dsimp only at hm3 hinv3 hF3
 cases n3 with | zero=>exact nz hm3 | succ n3 => ?_
 refine AB<|rn ⟨(Nk b [(76,tI v76),(77,tB (decide ((v76:Int)<(((Bg b).length:Nat):Int))))]),[(CD b),(5,.cells [.own 100000 6 v5_0''.length] 53),(Lp b),(100000,.row 6 v5_0''.length (AO Ao.c v5_0'') 70)]⟩<|AB ?_
 refine AV _ rfl (fun h3 => ?_) (fun h3 => ?_)
 ·have g3:=oT h3
  refine AY<|AG ?_
  refine AB<|AR<|AB ?_
  refine rc [] [0<=(v76:Int)/\(v76:Int)<(((Bg b).length:Nat):Int),v76.toNat<(Bg b).length] ⟨[(2,tP 2 0),(5,tP 5 0),(16,tP 16 0),(fV b),(fY b),(76,tI v76)],[(CD b),(5,.cells [.own 100000 6 v5_0''.length] 53),(16,.cells (Ar.c ((Bg b).getD v76.toNat default)) 165),(Lp b),(100000,.row 6 v5_0''.length (AO Ao.c v5_0'') 70)]⟩ .nil (.cons au0 (.cons au0 .nil))<|AG ?_
  refine dw [] [(83,Kv ((Bg b).getD v76.toNat default).Shape)] [Ap (Kv ((Bg b).getD v76.toNat default).Shape).2.1,v5_0''.length=v5_0''.length,v5_0''.length+1<=maxLen,(v5_0''.length+1)*64<=140737488355328] ⟨(Nk b [(76,tI v76)]),[(CD b),(5,.cells [.own 88 6 (v5_0''.length+1)] 53),(Lp b),(88,.row 6 (v5_0''.length+1) (fun i_ j_=>if i_<v5_0''.length then (AO Ao.c v5_0'') i_ j_ else (As 6 1 [.i (TM b v76).Kind,lst 7 AF.c (TM b v76).Edges,.i (TM b v76).R,.i 1,.i b.Layers,.b false]) (i_-v5_0''.length) j_) 70)]⟩ (.cons (Vg ((Bg b).getD v76.toNat default).Shape au13) .nil) (.cons rfl (.cons rfl (.cons au3 (.cons au3 .nil))))<|BN<|AG ?_
  refine BS (Cv.trans (BM (⟨(Nk b [(76,tI v76)]),[(CD b),(5,.cells [.own 88 6 (v5_0''++(N7 b v76)).length] 53),(Lp b),(88,.row 6 (v5_0''++(N7 b v76)).length (AO Ao.c (v5_0''++(N7 b v76))) 70)]⟩) lr (.cons ⟨rfl,.refl _⟩ (.cons ⟨rfl,.cells _ (.cons (.own _ _ au2) .nil)⟩ (.cons ⟨rfl,.refl _⟩ (.cons ⟨rfl,Am 70 (BR (BI 6 Ao.c v5_0'') (Aq (c:=Ao.c) (xs:=([Ao.mk (Dc ((Bg b).getD v76.toNat default).Shape) 1 b.Layers false]:List Ao)) rfl kr))⟩ .nil))))) (Cv.refl _)) ?_
  refine rg ⟨(Nk b [(76,tI (W64 (v76+1)))]),[(CD b),(5,.cells [.own 88 6 (v5_0''++(N7 b v76)).length] 53),(Lp b),(88,.row 6 (v5_0''++(N7 b v76)).length (AO Ao.c (v5_0''++(N7 b v76))) 70)]⟩ ?_
  (try rw [(show W64 (v76+1)=v76+1 from Af oM au5)])
  refine AG ?_
  refine ⟨(n3,v5_0''++[Ao.mk (Dc ((Bg b).getD v76.toNat default).Shape) 1 b.Layers false],v76+1),⟨?_,?_,(by rw [<- hF3];simp only [FG,h3,cond_true,cond_false])⟩,Nat.lt_succ_self _,Cv.trans (vr 88 100000 hk0) (Ay kr)⟩
  ·show ((((Bg b).length:Nat):Int)-(v76+1)).toNat<n3;omega
  exact (by show ((v5_0''++[Ao.mk (Dc ((Bg b).getD v76.toNat default).Shape) 1 b.Layers false]).length:Int)<=20000020+(v76+1)/\0<=(v76+1)/\((v76+1)<=(((Bg b).length:Nat):Int)\/(v76+1)=0)/\((v5_0''++[Ao.mk (Dc ((Bg b).getD v76.toNat default).Shape) 1 b.Layers false]).length:Int)<=(v5_0'.length:Int)+1*((v76+1)-0);(first | (refine ⟨?_,by omega,by omega⟩) | skip);first | omega | (refine Int.le_trans (JF _ _ _ _ _ _) ?_;omega) | (refine Int.le_trans (Kh _ _ _ _ _) ?_;omega) | exact at0)
 refine BF<|A3 ?_
 refine A3<|BG ?_
 refine AG<|AB ?_
 refine rn ⟨[(4,tO (.own 100000 6 v5_0''.length))],[(100000,.row 6 v5_0''.length (AO Ao.c v5_0'') 70)]⟩<|AW ?_
 exact xl (tO (.own 100000 6 v5_0''.length)) (frE (c:=Ao.c) (xs:=v5_0'') (by rw [<- hF3];first | (simp only [FG,h3,cond_true,cond_false] <;> rfl)) kr)
end
section
open Go.RowKit
def lyP (l:List Ad) (layer:Int) (k:Nat):Bool:=bif decide ((l.getD k default).From<=layer) then decide (layer<=(l.getD k default).To) else false
def lyC (l:List Ad) (layer:Int) (k:Nat):Nat:=((List.range k).filter (lyP l layer)).length
def lyL (l:List Ad) (layer:Int):List Int:=((List.range l.length).filter (lyP l layer)).map Int.ofNat
theorem rG (l:List Ad) (layer:Int):(lyL l layer).length<=l.length:=by
 unfold lyL
 rw [List.length_map]
 exact Nat.le_trans (List.length_filter_le _ _) (by rw [List.length_range];exact Nat.le_refl _)
theorem rI (l:List Ad) (layer:Int):lyC l layer l.length=(lyL l layer).length:=by unfold lyC lyL;rw [List.length_map]
theorem kL (p:Nat->Bool) (k n:Nat) (h:k<n) (hp:p k=true):∃ r,(List.range n).filter p=(List.range k).filter p++k::r:=by
 obtain ⟨m,rfl⟩:∃ m,n=k+(m+1):=⟨n-k-1,by omega⟩
 rw [List.range_add,List.filter_append,List.range_succ_eq_map,List.map_cons,Nat.add_zero,List.filter_cons_of_pos hp]
 exact ⟨_,rfl⟩
theorem rH {l:List Ad} {layer:Int} {k:Nat} (hp:lyP l layer k=true):lyC l layer (k+1)=lyC l layer k+1:=by
 unfold lyC
 rw [List.range_succ,List.filter_append,List.filter_cons_of_pos hp]
 simp
theorem wO {l:List Ad} {layer:Int} {k:Nat} (hp:lyP l layer k=false):lyC l layer (k+1)=lyC l layer k:=by
 unfold lyC
 rw [List.range_succ,List.filter_append,List.filter_cons_of_neg (by rw [hp];decide)]
 simp
theorem ly_at {l:List Ad} {layer:Int} {k:Nat} (h:k<l.length) (hp:lyP l layer k=true):lyC l layer k<(lyL l layer).length/\(lyL l layer).getD (lyC l layer k) 0=k:=by
 obtain ⟨r,hr⟩:=kL (lyP l layer) k l.length h hp
 unfold lyL lyC
 rw [hr]
 constructor
 ·simp
 rw [List.getD_eq_getElem?_getD,List.map_append,List.getElem?_append_right (by simp)]
 simp
abbrev Ew (l:List Ad):Cl:=.eptr 1 1 (fun _ j=>([lst 9 Ad.c l]:List Cl).getD j default) 0 0
abbrev Ev (n:Int):Cl:=.eptr 1 1 (fun _ j=>([.i n]:List Cl).getD j default) 0 0
abbrev aS (x:Ad):Cl:=.eptr 9 1 (fun _ j=>(Ad.c x:List Cl).getD j default) 0 0
abbrev ylY (ly:Nat):Tv:=.av (.one (.val (.func (.yield ly) #[] #[])))
abbrev tOY (c:Cl):Tv:=.av (.one c)
theorem qR (l:List Ad):NM (Ew l):=Dg fun y hy=>by rw [List.mem_singleton.1 hy];exact B5 KP
theorem qQ (n:Int):NM (Ev n):=Dg fun y hy=>by rw [List.mem_singleton.1 hy];exact .val _
section
variable (l:List Ad) (layer:Int)
theorem kK (hl:(l.length:Int)<=1000000):Js Tryz.prog 126 2 (Aw [Ew l,Ev layer]) (lyL l layer).length (fun x=>[.one (.i ((lyL l layer).getD x.val 0))]):=by
 refine SM Tryz.func126 rfl rfl (fun x=>rfl) (fun x e he c hc => ?_) kr (fun i hi => ?_) ?_
 ·rw [List.mem_singleton.1 he] at hc
  rw [List.mem_singleton.1 hc]
  rfl
 ·match i,hi with
  | 0,_=>rfl
  | 1,_=>rfl
 intro Ow n0 ly JJ Jx hO hJg hY
 refine Ca ?_
 refine Ce hO (BO (p:=fun u=>Tv.dv u=true) (by simp [Dw,B4,Tv.dv,Av.dv,Cl.dv,List.range,List.range.loop,Aw])) rfl fun W0 X1 M1 => ?_
 refine rg ⟨[(0,ylY ly),(1,tOY (Ew l)),(2,tOY (Ev layer)),(6,tOY (lst 9 Ad.c l)),(7,tI (l.length:Int)),(8,tI 0)],[]⟩ ?_
 refine CW ?_
 refine Et ?_
 refine M5 (ι:=Nat) (fun k=>⟨[(0,ylY ly),(1,tOY (Ew l)),(2,tOY (Ev layer)),(6,tOY (lst 9 Ad.c l)),(7,tI (l.length:Int)),(8,tI (k:Int))],[]⟩) (fun k=>JJ (lyC l layer k)) (fun k=>k<=l.length) (fun k=>l.length-k) (fun k hk => ?_) 0 (Nat.zero_le _)
 have hd:∀ (x:List (Nat×Tv)),(∀ p∈x,p.2.dv=true)->∀ i u,get x i=some u->u.dv=true:=fun x h=>BO (p:=fun u=>Tv.dv u=true) h
 refine Ca ?_
 refine Ce hO (hd _ (by simp only [List.forall_mem_cons];exact ⟨rfl,rfl,rfl,rfl,rfl,rfl,fun x hx=>by cases hx⟩)) rfl fun W0 X1 M1 => ?_
 refine rg ⟨[(0,ylY ly),(1,tOY (Ew l)),(2,tOY (Ev layer)),(6,tOY (lst 9 Ad.c l)),(7,tI (l.length:Int)),(8,tI (k:Int)),(9,tB (decide ((k:Int)<(l.length:Int))))],[]⟩ ?_
 refine CW ?_
 refine Ca ?_
 refine EM (decide ((k:Int)<(l.length:Int))) kr (fun hc => ?_) (fun hc => ?_)
 ·have hlt:k<l.length:=by have:=oT hc;omega
  refine FN ?_
  refine CW ?_
  refine Ca ?_
  refine Et ?_
  refine Ca ?_
  refine Ce hO (hd _ (by simp only [List.forall_mem_cons];exact ⟨rfl,rfl,rfl,rfl,rfl,rfl,rfl,fun x hx=>by cases hx⟩)) rfl fun W0 X1 M1 => ?_
  refine rc [] [0<=(k:Int)/\(k:Int)<((l.length:Nat):Int)] ⟨[(0,ylY ly),(1,tOY (Ew l)),(2,tOY (Ev layer)),(4,tI (k:Int)),(5,tP 5 0),(6,tOY (lst 9 Ad.c l)),(7,tI (l.length:Int)),(8,tI (k:Int))],[(5,.cells (Ad.c (l.getD (k:Int).toNat default)) 61)]⟩ .nil (.cons ⟨by omega,by omega⟩ .nil) ?_
  refine CW ?_
  rw [Int.toNat_natCast]
  generalize hx:l.getD k default=x
  refine aA (S:=⟨[(0,ylY ly),(1,tOY (Ew l)),(2,tOY (Ev layer)),(4,tI (k:Int)),(5,tOY (aS x)),(6,tOY (lst 9 Ad.c l)),(7,tI (l.length:Int)),(8,tI (k:Int))],[]⟩) hO (fun W0 M1=>Gc _ 5 (Ad.c x) 61 (K:=[]) (fun k x h=>by cases h) kr kr kr kr) ?_
  refine Ca ?_
  cases hp:lyP l layer k with
  | true =>
   have hG:((bif decide (x.From<=layer) then decide (layer<=x.To) else false)=true):=by unfold lyP at hp;rw [hx] at hp;exact hp
   obtain ⟨hc1,hc2⟩:=ly_at hlt hp
   refine L8 ?_
   refine Hi hO C2 11 [0,1,2,4,5,6,7,8,23] [(decide (x.From<=layer)=true)->(decide (x.From<=layer)=true),(decide (x.From<=layer)=true)->(decide (x.From<=layer)=true),(decide (x.From<=layer)=true)->(decide (x.From<=layer)=true),(decide (x.From<=layer)=true)->(decide (x.From<=layer)=true)] [(0,ylY ly),(1,tOY (Ew l)),(2,tOY (Ev layer)),(4,tI (k:Int)),(5,tOY (aS x)),(6,tOY (lst 9 Ad.c l)),(7,tI (l.length:Int)),(8,tI (k:Int)),(23,tB (bif decide (x.From<=layer) then decide (layer<=x.To) else false))] kr (.cons id (.cons id (.cons id (.cons id .nil)))) (hd _ (by simp only [List.forall_mem_cons];exact ⟨rfl,rfl,rfl,rfl,rfl,rfl,rfl,rfl,fun x hx=>by cases hx⟩)) rfl ?_
   refine My hO C2 10 true ((bif decide (x.From<=layer) then decide (layer<=x.To) else false)=true) [] ([(0,ylY ly),(1,tOY (Ew l)),(2,tOY (Ev layer)),(4,tI (k:Int)),(5,tOY (aS x)),(6,tOY (lst 9 Ad.c l)),(7,tI (l.length:Int)),(8,tI (k:Int)),(23,tB (bif decide (x.From<=layer) then decide (layer<=x.To) else false))]++[(24,ylY ly)]) rfl rfl hG kr .nil (hd _ (by simp only [List.forall_mem_cons];exact ⟨rfl,rfl,rfl,rfl,rfl,rfl,rfl,rfl,rfl,fun x hx=>by cases hx⟩)) rfl ?_
   refine My hO C2 10 true ((bif decide (x.From<=layer) then decide (layer<=x.To) else false)=true) [] ([(0,ylY ly),(1,tOY (Ew l)),(2,tOY (Ev layer)),(4,tI (k:Int)),(5,tOY (aS x)),(6,tOY (lst 9 Ad.c l)),(7,tI (l.length:Int)),(8,tI (k:Int)),(23,tB (bif decide (x.From<=layer) then decide (layer<=x.To) else false))]++[(24,ylY ly),(25,tI (k:Int))]) rfl rfl hG kr .nil (hd _ (by simp only [List.cons_append,List.nil_append,List.forall_mem_cons];exact ⟨rfl,rfl,rfl,rfl,rfl,rfl,rfl,rfl,rfl,rfl,fun x hx=>by cases hx⟩)) rfl ?_
   refine cX (ly:=ly) (d:=26) hO 10 true ((bif decide (x.From<=layer) then decide (layer<=x.To) else false)=true) rfl rfl hG [.one (.i (k:Int))] rfl rfl kr kr rfl rfl kr ?hT1 (fun A B=>hJg _ A B) (JJ (lyC l layer k+1)) (Jx (lyC l layer k+1)) ?hY [23] ?htf rfl ?ht ?hf
   case hT1=>exact BO (p:=fun u=>Tv.dv u=true/\TvM u) (by
    simp only [List.cons_append,List.nil_append,List.forall_mem_cons]
    exact ⟨⟨rfl,A8 (.val _)⟩,⟨rfl,A8 (qR l)⟩,⟨rfl,A8 (qQ layer)⟩,⟨rfl,A8 (.val _)⟩,⟨rfl,A8 (Dg (KP x))⟩,⟨rfl,A8 (B5 KP)⟩,⟨rfl,A8 (.val _)⟩,⟨rfl,A8 (.val _)⟩,⟨rfl,A8 (.val _)⟩,⟨rfl,A8 (.val _)⟩,⟨rfl,A8 (.val _)⟩,fun x hx=>by cases hx⟩)
   case hY =>
    intro W hW
    have:=hY (lyC l layer k) hc1 W hW
    simp only [hc2] at this
    exact this
   case htf =>
    show ∀ i v,get [(23,tB (bif decide (x.From<=layer) then decide (layer<=x.To) else false))] i=some v->_
    exact BO (p:=fun v=>∃ u,v=Tv.av (.one (.val u))) (by simp only [List.forall_mem_cons];exact ⟨⟨_,rfl⟩,fun x hx=>by cases hx⟩)
   case ht =>
    refine KT [0,1,2,6,7,8,23,26] ⟨[(0,ylY ly),(1,tOY (Ew l)),(2,tOY (Ev layer)),(6,tOY (lst 9 Ad.c l)),(7,tI (l.length:Int)),(8,tI (k:Int)),(23,tB (bif decide (x.From<=layer) then decide (layer<=x.To) else false)),(26,tB true)],[]⟩ kr ?_
    refine My hO C2 10 true ((bif decide (x.From<=layer) then decide (layer<=x.To) else false)=true) [] [(0,ylY ly),(1,tOY (Ew l)),(2,tOY (Ev layer)),(6,tOY (lst 9 Ad.c l)),(7,tI (l.length:Int)),(8,tI (k:Int)),(23,tB (bif decide (x.From<=layer) then decide (layer<=x.To) else false)),(26,tB true),(27,tB false)] rfl rfl hG kr .nil (hd _ (by simp only [List.forall_mem_cons];exact ⟨rfl,rfl,rfl,rfl,rfl,rfl,rfl,rfl,fun x hx=>by cases hx⟩)) rfl ?_
    refine Hi hO C2 1 [0,1,2,6,7,8,28] [] [(0,ylY ly),(1,tOY (Ew l)),(2,tOY (Ev layer)),(6,tOY (lst 9 Ad.c l)),(7,tI (l.length:Int)),(8,tI (k:Int)),(28,tB (bif (bif decide (x.From<=layer) then decide (layer<=x.To) else false) then false else false))] kr .nil (hd _ (by simp only [List.forall_mem_cons];exact ⟨rfl,rfl,rfl,rfl,rfl,rfl,rfl,rfl,rfl,fun x hx=>by cases hx⟩)) rfl ?_
    refine Mz ?_
    refine CW ?_
    refine EM (bif (bif decide (x.From<=layer) then decide (layer<=x.To) else false) then false else false) kr (fun h=>by rw [hG] at h;cases h) (fun _ => ?_)
    refine FN ?_
    refine SO ?_
    refine CW ?_
    refine Ce hO (hd _ (by simp only [List.forall_mem_cons];exact ⟨rfl,rfl,rfl,rfl,rfl,rfl,rfl,fun x hx=>by cases hx⟩)) rfl fun W0 X1 M1 => ?_
    refine rg ⟨[(0,ylY ly),(1,tOY (Ew l)),(2,tOY (Ev layer)),(6,tOY (lst 9 Ad.c l)),(7,tI (l.length:Int)),(8,tI (W64 ((k:Int)+1)))],[]⟩ ?_
    refine CW ?_
    refine ⟨k+1,by omega,by omega,?_,by rw [rH hp],rfl⟩
    rw [Af (by omega) (by omega)]
    rfl
   case hf =>
    refine KT [23,26] ⟨[(23,tB (bif decide (x.From<=layer) then decide (layer<=x.To) else false)),(26,tB false)],[]⟩ kr ?_
    refine My hO C2 10 true ((bif decide (x.From<=layer) then decide (layer<=x.To) else false)=true) [] [(23,tB (bif decide (x.From<=layer) then decide (layer<=x.To) else false)),(26,tB false),(27,tB true)] rfl rfl hG kr .nil (hd _ (by simp only [List.forall_mem_cons];exact ⟨rfl,rfl,fun x hx=>by cases hx⟩)) rfl ?_
    refine Hi hO C2 1 [28] [] [(28,tB (bif (bif decide (x.From<=layer) then decide (layer<=x.To) else false) then true else false))] kr .nil (hd _ (by simp only [List.forall_mem_cons];exact ⟨rfl,rfl,rfl,fun x hx=>by cases hx⟩)) rfl ?_
    refine Mz ?_
    refine CW ?_
    refine EM (bif (bif decide (x.From<=layer) then decide (layer<=x.To) else false) then true else false) kr (fun _ => ?_) (fun h=>by rw [hG] at h;cases h)
    refine YW ?_
    exact ⟨.inl rfl,.inr ⟨_,hc1,rfl⟩⟩
  | false =>
   have hG:(bif decide (x.From<=layer) then decide (layer<=x.To) else false)=false:=by unfold lyP at hp;rw [hx] at hp;exact hp
   refine Ce hO (hd _ (by simp only [List.forall_mem_cons];exact ⟨rfl,rfl,rfl,rfl,rfl,rfl,rfl,rfl,fun x hx=>by cases hx⟩)) rfl fun W0 X1 M1 => ?_
   refine EX ?_
   refine Hp C2 11 [] [] [] [0,1,2,6,7,8,23] [] [(decide (x.From<=layer)=true)->(decide (x.From<=layer)=true),(decide (x.From<=layer)=true)->(decide (x.From<=layer)=true),(decide (x.From<=layer)=true)->(decide (x.From<=layer)=true),(decide (x.From<=layer)=true)->(decide (x.From<=layer)=true)] ⟨[(0,ylY ly),(1,tOY (Ew l)),(2,tOY (Ev layer)),(6,tOY (lst 9 Ad.c l)),(7,tI (l.length:Int)),(8,tI (k:Int)),(23,tB (bif decide (x.From<=layer) then decide (layer<=x.To) else false))],[]⟩ .nil kr (.cons id (.cons id (.cons id (.cons id .nil)))) ?_
   refine HT 10 true ((bif decide (x.From<=layer) then decide (layer<=x.To) else false)=true) ⟨[(0,ylY ly),(1,tOY (Ew l)),(2,tOY (Ev layer)),(6,tOY (lst 9 Ad.c l)),(7,tI (l.length:Int)),(8,tI (k:Int)),(23,tB (bif decide (x.From<=layer) then decide (layer<=x.To) else false)),(24,.grd ((bif decide (x.From<=layer) then decide (layer<=x.To) else false)=true) (.one (.val (.bool false))))],[]⟩ rfl rfl (fun e=>by rw [hG] at e;cases e) kr kr ?_
   refine HT 10 true ((bif decide (x.From<=layer) then decide (layer<=x.To) else false)=true) ⟨[(0,ylY ly),(1,tOY (Ew l)),(2,tOY (Ev layer)),(6,tOY (lst 9 Ad.c l)),(7,tI (l.length:Int)),(8,tI (k:Int)),(23,tB (bif decide (x.From<=layer) then decide (layer<=x.To) else false)),(24,.grd ((bif decide (x.From<=layer) then decide (layer<=x.To) else false)=true) (.one (.val (.bool false)))),(25,.grd ((bif decide (x.From<=layer) then decide (layer<=x.To) else false)=true) (.one (.val (.bool false))))],[]⟩ rfl rfl (fun e=>by rw [hG] at e;cases e) kr kr ?_
   refine HT 10 true ((bif decide (x.From<=layer) then decide (layer<=x.To) else false)=true) ⟨[(0,ylY ly),(1,tOY (Ew l)),(2,tOY (Ev layer)),(6,tOY (lst 9 Ad.c l)),(7,tI (l.length:Int)),(8,tI (k:Int)),(23,tB (bif decide (x.From<=layer) then decide (layer<=x.To) else false)),(24,.grd ((bif decide (x.From<=layer) then decide (layer<=x.To) else false)=true) (.one (.val (.bool false)))),(25,.grd ((bif decide (x.From<=layer) then decide (layer<=x.To) else false)=true) (.one (.val (.bool false)))),(26,.grd ((bif decide (x.From<=layer) then decide (layer<=x.To) else false)=true) (.one (.val (.bool false))))],[]⟩ rfl rfl (fun e=>by rw [hG] at e;cases e) kr kr ?_
   refine HT 10 true ((bif decide (x.From<=layer) then decide (layer<=x.To) else false)=true) ⟨[(0,ylY ly),(1,tOY (Ew l)),(2,tOY (Ev layer)),(6,tOY (lst 9 Ad.c l)),(7,tI (l.length:Int)),(8,tI (k:Int)),(23,tB (bif decide (x.From<=layer) then decide (layer<=x.To) else false)),(24,.grd ((bif decide (x.From<=layer) then decide (layer<=x.To) else false)=true) (.one (.val (.bool false)))),(25,.grd ((bif decide (x.From<=layer) then decide (layer<=x.To) else false)=true) (.one (.val (.bool false)))),(26,.grd ((bif decide (x.From<=layer) then decide (layer<=x.To) else false)=true) (.one (.val (.bool false)))),(27,.grd ((bif decide (x.From<=layer) then decide (layer<=x.To) else false)=true) (.one (.val (.bool false))))],[]⟩ rfl rfl (fun e=>by rw [hG] at e;cases e) kr kr ?_
   refine GL C2 [] [] [] [0,1,2,6,7,8,28] [] [((bif decide (x.From<=layer) then decide (layer<=x.To) else false)=true)->((bif decide (x.From<=layer) then decide (layer<=x.To) else false)=true)] ⟨[(0,ylY ly),(1,tOY (Ew l)),(2,tOY (Ev layer)),(6,tOY (lst 9 Ad.c l)),(7,tI (l.length:Int)),(8,tI (k:Int)),(28,tB (bif (bif decide (x.From<=layer) then decide (layer<=x.To) else false) then false else false))],[]⟩ .nil kr (.cons id .nil) ?_
   refine CW ?_
   refine EM (bif (bif decide (x.From<=layer) then decide (layer<=x.To) else false) then false else false) kr (fun h=>by rw [hG] at h;cases h) (fun _ => ?_)
   refine FN ?_
   refine SO ?_
   refine CW ?_
   refine Ce hO (hd _ (by simp only [List.forall_mem_cons];exact ⟨rfl,rfl,rfl,rfl,rfl,rfl,rfl,fun x hx=>by cases hx⟩)) rfl fun W0 X1 M1 => ?_
   refine rg ⟨[(0,ylY ly),(1,tOY (Ew l)),(2,tOY (Ev layer)),(6,tOY (lst 9 Ad.c l)),(7,tI (l.length:Int)),(8,tI (W64 ((k:Int)+1)))],[]⟩ ?_
   refine CW ?_
   refine ⟨k+1,by omega,by omega,?_,by rw [wO hp],rfl⟩
   rw [Af (by omega) (by omega)]
   rfl
 have hge:¬ k<l.length:=by have:=oF hc;omega
 have hkl:k=l.length:=by omega
 refine M6 ?_
 refine LN ?_
 refine LN ?_
 refine M8 ?_
 exact ⟨.inr rfl,.inl (by rw [hkl,rI])⟩
end
end
def Z0P (l:(List Ad)) (layer:Int):CT:=(69,[.one (lst 9 Ad.c l),.one (.i layer)],.val [] (.av (.one (.clo 126 2 (Aw [.eptr 1 1 (fun _ j_=>([lst 9 Ad.c l]:List Cl).getD j_ default) 0 0,.eptr 1 1 (fun _ j_=>([.i layer]:List Cl).getD j_ default) 0 0])))))
def IB (l:(List Ad)) (layer:Int):Nat->Nat->List Int->(List Int)
 | 0,_,AK=>AK
 | m+1,x,AK=>(IB l layer m (x+1)) (AK++[((lyL l layer).getD x 0)])
def FOn (l:(List Ad)) (layer:Int):(List Int):=IB l layer (lyL l layer).length 0 ([]:List Int)
def cOn (l:(List Ad)) (layer:Int):CT:=(20,[.one (lst 9 Ad.c l),.one (.i layer)],.val [] (.av (.one (lst 1 eIn (FOn l layer)))))
abbrev Ph (l:List Ad) (layer:Int):Nat×Tv:=(9,.av (.one (.clo 126 2 (Aw [.eptr 1 1 (gD [lst 9 Ad.c l]) 0 0,.eptr 1 1 (gD [.i layer]) 0 0]))))
theorem pOn (l:(List Ad)) (layer:Int) (hl:(l.length:Int)<=1000000):PuP 20 (cOn l layer).2.1 (tO (lst 1 eIn (FOn l layer))):=by
 refine pwf Tryz.func20 fun W0 M0 => ?_
 refine AB<|rn ⟨[(0,tO (lst 9 Ad.c l)),(1,tI layer)],[]⟩<|AB ?_
 refine rn ⟨[(0,tO (lst 9 Ad.c l)),(1,tI layer),(5,tP 5 0)],[(5,.cells [vN] 57)]⟩ ?_
 refine AB<|AB ?_
 refine rs 9 (Z0P l layer) ⟨[(5,tP 5 0),(Ph l layer)],[(5,.cells [vN] 57)]⟩ (cPu<|uU l layer)<|AG<|AR ?_
 refine BS (Cv.trans (vr 5 200005 hk0) (Cv.trans (wg (⟨[(5,tP 200005 0),(Ph l layer)],[(100000,.row 1 0 (fun _ _=>default) 3),(200005,.cells [.own 100000 1 0] 57)]⟩) 100000 1 (fun _ _=>default) 3 [] [(200005,[0])] hk0) (Cv.trans (BM (⟨[(5,tP 200005 0),(Ph l layer)],[(100000,.row 1 ([]:List Int).length (AO eIn ([]:List Int)) 3),(200005,.cells [.own 100000 1 ([]:List Int).length] 57)]⟩) lr (.cons ⟨rfl,Am 3 (Cb 1 (fun _ _=>default) eIn)⟩ (.cons ⟨rfl,.cells _ (.cons (.own _ _ au2) .nil)⟩ .nil))) (Cv.refl _)))) ?_
 refine MN (ι:=List Int) [200005] 299999 200005 0 100000 (fun x=>[(100000,.row 1 x.length (AO eIn x) 3),(200005,.cells [.own 100000 1 x.length] 57)]) (fun x0=>[(5,tP 200005 0),(6,tI ((lyL l layer).getD x0.val 0)),(9,.av (.one (.clo 126 2 (Aw [.eptr 1 1 (gD [lst 9 Ad.c l]) 0 0,.eptr 1 1 (gD [.i layer]) 0 0]))))]) (fun j x=>x.length<=j) (fun y x=>IB l layer ((lyL l layer).length-y) y x=FOn l layer) ([]:List Int) (fun _=>rfl) kr kr (fun _ _=>kr) (kK l layer oM) kr (fun _=>by kernel_rfl) (fun _=>rfl) (fun _=>rfl) (fun x=>(BO (p:=BkN) (by simp only [List.forall_mem_cons];exact ⟨uA (fun x y hy=>by rw [List.mem_singleton.1 hy];exact (.val _)),Sn (by simp only [List.forall_mem_cons];exact ⟨(.own _ _ _),fun x hx=>by cases hx⟩),fun x hx=>by cases hx⟩))) (fun x0=>(BO (p:=TvM) (by simp only [List.forall_mem_cons];exact ⟨A8 (.ptr _ _),A8 (.val _),A8 (UJ (by simp only [List.forall_mem_cons];exact ⟨(Dg (by simp only [List.forall_mem_cons];exact ⟨(B5 KP),fun x hx=>by cases hx⟩)),(Dg (by simp only [List.forall_mem_cons];exact ⟨(.val _),fun x hx=>by cases hx⟩)),fun x hx=>by cases hx⟩)),fun x hx=>by cases hx⟩))) (fun _=>by kernel_rfl) ax0 (by simp only [FOn,Nat.sub_zero,cond_true,cond_false]) (fun l1 W1 M1 X1 x0 j AK hinv hPX => ?_) (fun l2 W2 M2 X2 x0 j AK hPX hj hinv => ?_) (fun AK hinv hF0 => ?_)
 ·have hinv0:AK.length<=j:=hinv;clear hinv
  refine DH ?_
  refine rg ⟨[(5,tP 200005 0),(6,tI ((lyL l layer).getD x0.val 0)),(Ph l layer)],[(100000,.row 1 AK.length (AO eIn AK) 3),(200005,.cells [.own 100000 1 AK.length] 57)]⟩ ?_
  exact ⟨_,Cv.refl _,rfl,rfl⟩
 ·have hinv0:AK.length<=j:=hinv;clear hinv
  obtain ⟨Xb0,hXb0⟩:∃ Xb,IB l layer ((lyL l layer).length-x0.val) x0.val AK=Xb:=⟨_,rfl⟩
  have hF0:=hXb0
  rw [show (lyL l layer).length-x0.val=((lyL l layer).length-(x0.val+1))+1 by have:=x0.isLt;omega] at hF0
  have hly:=rG l layer
  refine DH<|AR ?_
  refine rc [] [AK.length=AK.length,AK.length+1<=maxLen,(AK.length+1)*8<=140737488355328] ⟨[(5,tP 200005 0),(Ph l layer)],[(14,.row 1 (AK.length+1) (fun i_ j_=>if i_<AK.length then (AO eIn AK) i_ j_ else (As 1 1 [.i ((lyL l layer).getD x0.val 0)]) (i_-AK.length) j_) 3),(200005,.cells [.own 14 1 (AK.length+1)] 57)]⟩ .nil (.cons rfl (.cons au3 (.cons au3 .nil)))<|BN ?_
  refine ⟨_,Cv.trans (BM (⟨[(5,tP 200005 0),(Ph l layer)],[(14,.row 1 (AK++[((lyL l layer).getD x0.val 0)]).length (AO eIn (AK++[((lyL l layer).getD x0.val 0)])) 3),(200005,.cells [.own 14 1 (AK++[((lyL l layer).getD x0.val 0)]).length] 57)]⟩) lr (.cons ⟨rfl,Am 3 (BR (BI 1 eIn AK) (Aq (c:=eIn) (xs:=([((lyL l layer).getD x0.val 0)]:List Int)) rfl kr))⟩ (.cons ⟨rfl,.cells _ (.cons (.own _ _ au2) .nil)⟩ .nil))) (Cv.trans (wr (⟨[(5,tP 200005 0),(Ph l layer)],[(100000,.row 1 (AK++[((lyL l layer).getD x0.val 0)]).length (AO eIn (AK++[((lyL l layer).getD x0.val 0)])) 3),(200005,.cells [.own 100000 1 (AK++[((lyL l layer).getD x0.val 0)]).length] 57)]⟩) 14 100000 (K:=[299999,200005]) hPX) (Cv.refl _)),rfl,(AK++[((lyL l layer).getD x0.val 0)]),ax0,fun hk hF => ?_,fun _ _ h=>h⟩
  have e0:IB l layer ((lyL l layer).length-(x0.val+1)) (x0.val+1) (AK++[((lyL l layer).getD x0.val 0)])=Xb0:=by
   rw [<- hF0]
   first | (simp only [IB,cond_true,cond_false] <;> rfl)
  subst hk
  change IB l layer ((lyL l layer).length-x0.val) x0.val AK=FOn l layer at hF
  show IB l layer ((lyL l layer).length-(x0.val+1)) (x0.val+1) (AK++[((lyL l layer).getD x0.val 0)])=FOn l layer
  exact e0.trans (hXb0.symm.trans hF)
 have hinv0:AK.length<=(lyL l layer).length:=hinv;clear hinv
 change IB l layer ((lyL l layer).length-(lyL l layer).length) (lyL l layer).length AK=FOn l layer at hF0
 rw [Nat.sub_self] at hF0
 refine BN<|AG<|AB ?_
 refine rn ⟨[(4,tO (.own 100000 1 AK.length))],[(100000,.row 1 AK.length (AO eIn AK) 3)]⟩<|AW ?_
 exact yl (Cv.trans (vf 100000 1 AK.length (AO eIn AK) 3 hk0 (.cons ⟨rfl,rfl⟩ .nil)) (Cv.refl _)) (tO (lst 1 eIn AK)) (Aa (by rw [<- hF0];first | (simp only [IB,cond_true,cond_false] <;> rfl)))
theorem vX (l:(List Ad)) (layer:Int) (hl:(l.length:Int)<=1000000):OKc (cOn l layer):=cPu<|pOn l layer hl
section
open Go.RowKit
def Dd (a:Ad) (b:Ad):(Int×Int×Bool):=bif decide (((min a.To b.To):Int)<(max a.From b.From)) then (0,0,false) else (max a.From b.From,min a.To b.To,true)
def Pa (a:Ad) (b:Ad):CT:=(22,[.agg (Ad.c a),.agg (Ad.c b)],.val [] (.tup [.one (.i (Dd a b).1),.one (.i (Dd a b).2.1),.one (.b (Dd a b).2.2)]))
theorem pL (a:Ad) (b:Ad):PuP 22 (Pa a b).2.1 (.tup [.one (.i (Dd a b).1),.one (.i (Dd a b).2.1),.one (.b (Dd a b).2.2)]):=by
 refine pwf Tryz.func22 fun W0 M0 => ?_
 refine AB<|rn ⟨Ga,[(2,.cells (Ad.c a) 61),(3,.cells (Ad.c b) 61)]⟩<|AB ?_
 refine dw [] [] [] ⟨[(7,tI (max a.From b.From)),(8,tI (min a.To b.To))],[]⟩ .nil .nil<|AG ?_
 refine AB<|AB ?_
 refine rn ⟨[(7,tI (max a.From b.From)),(8,tI (min a.To b.To)),(21,tB (decide (((min a.To b.To):Int)<(max a.From b.From))))],[]⟩ ?_
 refine AV _ rfl (fun h1 => ?_) (fun h1 => ?_)
 ·refine AB<|rn ⟨[(4,tI 0),(5,tI 0),(6,tB false)],[]⟩ ?_
  refine AW<|A7 ?_
  exact xl (.tup [.one (.i 0),.one (.i 0),.one (.b false)]) (Aa (by simp only [Dd,h1,cond_true,cond_false] <;> rfl))
 refine AY<|AG<|AB ?_
 refine rn ⟨[(4,tI (max a.From b.From)),(5,tI (min a.To b.To)),(6,tB true)],[]⟩<|AW ?_
 exact xl (.tup [.one (.i (max a.From b.From)),.one (.i (min a.To b.To)),.one (.b true)]) (Aa (by simp only [Dd,h1,cond_true,cond_false] <;> rfl))
theorem jQ (a:Ad) (b:Ad):OKc (Pa a b):=cPu<|pL a b
def ZA (a:Ad) (b:Ad):Bool:=bif bif bif bif bif bif decide ((a.Id:Int)=b.Id) then (a.Pad.toList==b.Pad.toList) else false then decide ((a.Kind:Int)=b.Kind) else false then (a.Net.toList==b.Net.toList) else false then decide ((a.From:Int)=b.From) else false then decide ((a.To:Int)=b.To) else false then Of a.Shape b.Shape else false
def Um (a:Ad) (b:Ad):CT:=(26,[.agg (Ad.c a),.agg (Ad.c b)],.val [] (.av (.one (.b (ZA a b)))))
abbrev QA (a:Ad) (b:Ad):=a.Pad.toList==b.Pad.toList
abbrev eJ (a:Ad) (b:Ad):=(bif bif bif bif bif decide ((a.Id:Int)=b.Id) then (QA a b) else false then decide ((a.Kind:Int)=b.Kind) else false then (a.Net.toList==b.Net.toList) else false then decide ((a.From:Int)=b.From) else false then decide ((a.To:Int)=b.To) else false)
abbrev fX (a:Ad) (b:Ad):=(bif bif bif decide ((a.Id:Int)=b.Id) then (QA a b) else false then decide ((a.Kind:Int)=b.Kind) else false then (a.Net.toList==b.Net.toList) else false)
theorem uZ (a:Ad) (b:Ad) (h0:(a.Shape.Edges.length:Int)<=1000000) (h1:(b.Shape.Edges.length:Int)<=1000000):PuP 26 (Um a b).2.1 (tO (.b (ZA a b))):=by
 refine pwf Tryz.func26 fun W0 M0 => ?_
 refine AB<|rn ⟨Ga,[(2,.cells (Ad.c a) 61),(3,.cells (Ad.c b) 61)]⟩<|AB ?_
 refine rc [] (t5 (decide ((a.Id:Int)=b.Id)) (t5 (bif decide ((a.Id:Int)=b.Id) then (QA a b) else false) (t5 (bif bif decide ((a.Id:Int)=b.Id) then (QA a b) else false then decide ((a.Kind:Int)=b.Kind) else false) []))) ⟨[(2,tP 2 0),(3,tP 3 0),(5,tB (fX a b))],[(2,.cells (Ad.c a) 61),(3,.cells (Ad.c b) 61)]⟩ .nil (c5 (c5 (c5 .nil)))<|AG<|AB ?_
 refine rc [(52,OW a.Shape b.Shape)] (t5 (fX a b) (t5 (bif bif bif bif decide ((a.Id:Int)=b.Id) then (QA a b) else false then decide ((a.Kind:Int)=b.Kind) else false then (a.Net.toList==b.Net.toList) else false then decide ((a.From:Int)=b.From) else false) (t4 (eJ a b) [gk (eJ a b) (Ap (OW a.Shape b.Shape).2.1),gt (eJ a b)]))) ⟨[(4,tB (bif bif bif bif bif bif decide ((a.Id:Int)=b.Id) then (QA a b) else false then decide ((a.Kind:Int)=b.Kind) else false then (a.Net.toList==b.Net.toList) else false then decide ((a.From:Int)=b.From) else false then decide ((a.To:Int)=b.To) else false then Of a.Shape b.Shape else false))],[]⟩ (.cons (Zg a.Shape b.Shape au13 au13) .nil) (c5 (c5 (c4 (.cons (fun _=>rfl) (ci .nil)))))<|AG<|AW ?_
 exact xl (tO (.b (bif bif bif bif bif bif decide ((a.Id:Int)=b.Id) then (a.Pad.toList==b.Pad.toList) else false then decide ((a.Kind:Int)=b.Kind) else false then (a.Net.toList==b.Net.toList) else false then decide ((a.From:Int)=b.From) else false then decide ((a.To:Int)=b.To) else false then Of a.Shape b.Shape else false))) (Aa (by rfl))
theorem qE (a:Ad) (b:Ad) (h0:(a.Shape.Edges.length:Int)<=1000000) (h1:(b.Shape.Edges.length:Int)<=1000000):OKc (Um a b):=cPu<|uZ a b h0 h1
variable (a:List Ao) (p:Be) (v5:Int) (l:List Ak) (b:List Ao) (v10:Int)
def Z0Q:AP:=DN (Ak.mk (W64 (p.Pitch*(l.getD v10.toNat default).X0)) (W64 (p.Pitch*(l.getD v10.toNat default).Y0)) (W64 (p.Pitch*(l.getD v10.toNat default).X1)) (W64 (p.Pitch*(l.getD v10.toNat default).Y1)))
def In (p:Be) (l:(List Ak)):Nat->List AP->Int->(List AP)
 | 0,_,_=>default
 | n0+1,out,v10=>bif decide ((v10:Int)<(l.length:Int)) then ((In p l n0) (out++[Z0Q p l v10]) (v10+1)) else out
def Rf (p:Be) (l:(List Ak)):(List AP):=In p l (((l.length:Int)-0).toNat+1) ([]:List AP) 0
def Yv:CT:=(30,[.agg (Be.c p),.one (lst 4 Ak.c l)],.val [] (.av (.one (lst 3 AP.c (Rf p l)))))
abbrev GY:Nat×Blk:=(2,.cells (Be.c p) 97)
abbrev I4:Nat×Tv:=(9,tI (l.length:Int))
abbrev I2:Nat×Tv:=(8,tO (lst 4 Ak.c l))
abbrev eZ:Nat×Blk:=(100000,.row 3 ([]:List AP).length (AO AP.c ([]:List AP)) 28)
abbrev eR:List (Nat×Tv):=[(2,tP 2 0),(5,tO (.own 100000 3 ([]:List AP).length)),(I2 l),(I4 l),(10,tI 0)]
theorem vO (p:Be) (l:(List Ak)) (h0:(l.length:Int)<=1000000):PuP 30 (Yv p l).2.1 (tO (lst 3 AP.c (Rf p l))):=by
 refine pwf Tryz.func30 fun W0 M0 => ?_
 refine AB<|rn ⟨[(1,tO (lst 4 Ak.c l)),(2,tP 2 0)],[(GY p)]⟩<|AB ?_
 refine rn ⟨[(1,tO (lst 4 Ak.c l)),(2,tP 2 0),(5,.av (.one vN))],[(GY p)]⟩ ?_
 refine AB<|AB ?_
 refine rn ⟨[(2,tP 2 0),(5,.av (.one vN)),(I2 l),(I4 l),(10,tI 0)],[(GY p)]⟩<|AR ?_
 refine BS (Cv.trans (wg (⟨[(2,tP 2 0),(5,tO (.own 100000 3 0)),(I2 l),(I4 l),(10,tI 0)],[(100000,.row 3 0 (fun _ _=>default) 28),(GY p)]⟩) 100000 3 (fun _ _=>default) 28 [(5,[0])] [] hk0) (Cv.trans (BM (⟨(eR l),[eZ,(GY p)]⟩) (.cons ⟨rfl,.refl _⟩ (.cons ⟨rfl,.av (.one (.own _ _ au2))⟩ lr)) (.cons ⟨rfl,Am 28 (Cb 3 (fun _ _=>default) AP.c)⟩ lr)) (Cv.trans (ck (⟨(eR l),[(GY p),eZ]⟩)) (Cv.refl _)))) ?_
 refine BB (ι:=Nat×List AP×Int) (fun x=>⟨[(2,tP 2 0),(5,tO (.own 100000 3 x.2.1.length)),(I2 l),(I4 l),(10,tI x.2.2)],[(GY p),(100000,.row 3 x.2.1.length (AO AP.c x.2.1) 28)]⟩) (fun x=>((l.length:Int)-x.2.2).toNat<x.1/\(0<=x.2.2/\(x.2.2<=(l.length:Int)\/x.2.2=0)/\(x.2.1.length:Int)<=0+1*(x.2.2-0))/\In p l x.1 x.2.1 x.2.2=Rf p l) (fun x=>x.1) ?_ (((l.length:Int)-0).toNat+1,([]:List AP),0) ⟨Nat.lt_succ_self _,⟨ax0,ax0,ax0⟩,(by simp only [Rf,cond_true,cond_false])⟩
 rintro ⟨n0,out,v10⟩ ⟨hm0,hinv0,hF0⟩
 try dsimp only at hm0 hinv0 hF0
 cases n0 with | zero=>exact nz hm0 | succ n0 => ?_
 refine AB<|rn ⟨[(2,tP 2 0),(5,tO (.own 100000 3 out.length)),(I2 l),(I4 l),(10,tI v10),(11,tB (decide ((v10:Int)<(l.length:Int))))],[(GY p),(100000,.row 3 out.length (AO AP.c out) 28)]⟩<|AB ?_
 refine AV _ rfl (fun h1 => ?_) (fun h1 => ?_)
 ·have g1:=oT h1
  refine AY<|AG ?_
  refine AB<|AR<|AB ?_
  refine rc [] [0<=(v10:Int)/\(v10:Int)<((l.length:Nat):Int)] ⟨[(2,tP 2 0),(5,tO (.own 100000 3 out.length)),(7,tP 7 0),(I2 l),(I4 l),(10,tI v10)],[(GY p),(7,.cells (Ak.c (l.getD v10.toNat default)) 90),(100000,.row 3 out.length (AO AP.c out) 28)]⟩ .nil (.cons au0 .nil)<|AG ?_
  refine rc [(36,Jg (Ak.mk (W64 (p.Pitch*(l.getD v10.toNat default).X0)) (W64 (p.Pitch*(l.getD v10.toNat default).Y0)) (W64 (p.Pitch*(l.getD v10.toNat default).X1)) (W64 (p.Pitch*(l.getD v10.toNat default).Y1))))] [Ap (Jg (Ak.mk (W64 (p.Pitch*(l.getD v10.toNat default).X0)) (W64 (p.Pitch*(l.getD v10.toNat default).Y0)) (W64 (p.Pitch*(l.getD v10.toNat default).X1)) (W64 (p.Pitch*(l.getD v10.toNat default).Y1)))).2.1,out.length=out.length,out.length+1<=maxLen,(out.length+1)*40<=140737488355328] ⟨[(2,tP 2 0),(5,tO (.own 38 3 (out.length+1))),(I2 l),(I4 l),(10,tI v10)],[(GY p),(38,.row 3 (out.length+1) (fun i_ j_=>if i_<out.length then (AO AP.c out) i_ j_ else (As 3 1 (AP.c (Z0Q p l v10))) (i_-out.length) j_) 28)]⟩ (.cons (PS (Ak.mk (W64 (p.Pitch*(l.getD v10.toNat default).X0)) (W64 (p.Pitch*(l.getD v10.toNat default).Y0)) (W64 (p.Pitch*(l.getD v10.toNat default).X1)) (W64 (p.Pitch*(l.getD v10.toNat default).Y1)))) .nil) (.cons rfl (.cons rfl (.cons au3 (.cons au3 .nil))))<|BN<|AG ?_
  refine BS (Cv.trans (BM (⟨[(2,tP 2 0),(5,tO (.own 38 3 (out++[Z0Q p l v10]).length)),(I2 l),(I4 l),(10,tI v10)],[(GY p),(38,.row 3 (out++[Z0Q p l v10]).length (AO AP.c (out++[Z0Q p l v10])) 28)]⟩) (.cons ⟨rfl,.refl _⟩ (.cons ⟨rfl,.av (.one (.own _ _ au2))⟩ lr)) (.cons ⟨rfl,.refl _⟩ (.cons ⟨rfl,Am 28 (BR (BI 3 AP.c out) (Aq (c:=AP.c) (xs:=([Z0Q p l v10]:List AP)) rfl kr))⟩ .nil))) (Cv.refl _)) ?_
  refine rg ⟨[(2,tP 2 0),(5,tO (.own 38 3 (out++[Z0Q p l v10]).length)),(I2 l),(I4 l),(10,tI (W64 (v10+1)))],[(GY p),(38,.row 3 (out++[Z0Q p l v10]).length (AO AP.c (out++[Z0Q p l v10])) 28)]⟩ ?_
  (try rw [(show W64 (v10+1)=v10+1 from Af oM au5)])
  refine AG ?_
  refine ⟨(n0,out++[Z0Q p l v10],v10+1),⟨?_,?_,(by rw [<- hF0];simp only [In,h1,cond_true,cond_false])⟩,Nat.lt_succ_self _,Cv.trans (vr 38 100000 hk0) (Ay kr)⟩
  ·show ((l.length:Int)-(v10+1)).toNat<n0;omega
  exact ⟨ax0,ax0,ax0⟩
 refine BF<|A3 ?_
 refine A3<|BG ?_
 refine AG<|AB ?_
 refine rn ⟨[(4,tO (.own 100000 3 out.length))],[(100000,.row 3 out.length (AO AP.c out) 28)]⟩<|AW ?_
 exact yl (Cv.trans (vf 100000 3 out.length (AO AP.c out) 28 hk0 (.cons ⟨rfl,rfl⟩ .nil)) (Cv.refl _)) (tO (lst 3 AP.c out)) (Aa (by rw [<- hF0];first | (simp only [In,h1,cond_true,cond_false] <;> rfl)))
theorem qK (p:Be) (l:(List Ak)) (h0:(l.length:Int)<=1000000):OKc (Yv p l):=cPu<|vO p l h0
def EF (a:(List Ao)) (b:(List Ao)):Nat->Int->Bool
 | 0,_=>default
 | n0+1,v5=>bif decide ((v5:Int)<(a.length:Int)) then (bif bif bif bif !decide (((a.getD v5.toNat default).From:Int)=(b.getD v5.toNat default).From) then true else !decide (((a.getD v5.toNat default).To:Int)=(b.getD v5.toNat default).To) then true else !((a.getD v5.toNat default).Plated==(b.getD v5.toNat default).Plated) then true else !(MY (a.getD v5.toNat default).Shape (b.getD v5.toNat default).Shape) then false else ((EF a b n0) (v5+1))) else true
def F3 (a:(List Ao)) (b:(List Ao)):Bool:=bif !decide (((a.length:Int):Int)=(b.length:Int)) then false else (EF a b (((a.length:Int)-0).toNat+1) 0)
def Je:CT:=(16,[.one (lst 6 Ao.c a),.one (lst 6 Ao.c b)],.val [] (.av (.one (.b (F3 a b)))))
abbrev sX:=a.getD v5.toNat default
abbrev sW (b:List Ao) (v5:Int):=b.getD v5.toNat default
abbrev QF:=(bif bif !decide (((sX a v5).From:Int)=(sW b v5).From) then true else !decide (((sX a v5).To:Int)=(sW b v5).To) then true else !((sX a v5).Plated==(sW b v5).Plated))
abbrev U6:=(bif !decide (((sX a v5).From:Int)=(sW b v5).From) then true else !decide (((sX a v5).To:Int)=(sW b v5).To))
abbrev P9:Bool:=(!decide (((sX a v5).From:Int)=(sW b v5).From))
abbrev LW:Nat×Tv:=(0,tO (lst 6 Ao.c a))
abbrev LV:Nat×Tv:=(1,tO (lst 6 Ao.c b))
theorem YC (a:(List Ao)) (b:(List Ao)) (h0:(a.length:Int)<=1000000000) (ha:∀ k,(((a.getD k default).Shape.Edges.length:Int)<=1000000)) (hbb:∀ k,(((b.getD k default).Shape.Edges.length:Int)<=1000000)):PuP 16 (Je a b).2.1 (tO (.b (F3 a b))):=by
 refine pwf Tryz.func16 fun W0 M0 => ?_
 refine AB<|rn ⟨[(LW a),(LV b)],[]⟩ ?_
 refine AB<|AB ?_
 refine rn ⟨[(LW a),(LV b),(10,tB (!decide (((a.length:Int):Int)=(b.length:Int))))],[]⟩ ?_
 refine AV _ rfl (fun h1 => ?_) (fun h1 => ?_)
 ·have g1:=Bt h1
  refine AB<|rn ⟨[(4,tB false)],[]⟩ ?_
  refine AW<|A7 ?_
  exact xl (tO (.b false)) (Aa (by simp only [F3,h1,cond_true,cond_false] <;> rfl))
 have g1:=Bl h1
 refine AY<|AG ?_
 refine AB<|AB ?_
 refine rn ⟨[(LW a),(LV b),(5,tI 0)],[]⟩<|AR ?_
 refine BB (ι:=Nat×Int) (fun x=>⟨[(LW a),(LV b),(5,tI x.2)],[]⟩) (fun x=>((a.length:Int)-x.2).toNat<x.1/\(0<=x.2/\(x.2<=(a.length:Int)\/x.2=0))/\EF a b x.1 x.2=F3 a b) (fun x=>x.1) ?_ (((a.length:Int)-0).toNat+1,0) ⟨Nat.lt_succ_self _,⟨ax0,ax0⟩,(by simp only [F3,h1,cond_true,cond_false])⟩
 rintro ⟨n0,v5⟩ ⟨hm0,hinv0,hF0⟩
 try dsimp only at hm0 hinv0 hF0
 cases n0 with | zero=>exact nz hm0 | succ n0 => ?_
 refine AB<|AB ?_
 refine rn ⟨[(LW a),(LV b),(5,tI v5),(14,tB (decide ((v5:Int)<(a.length:Int))))],[]⟩ ?_
 refine AV _ rfl (fun h2 => ?_) (fun h2 => ?_)
 ·have g2:=oT h2
  refine AY<|AG ?_
  refine AB<|AR<|AB ?_
  refine dw [] [(65,Ul (sX a v5).Shape (sW b v5).Shape)] ((0<=(v5:Int)/\(v5:Int)<((a.length:Nat):Int))::(0<=(v5:Int)/\(v5:Int)<((b.length:Nat):Int))::(i2 (P9 a v5 b) ((gj (P9 a v5 b) (0<=(v5:Int)/\(v5:Int)<((a.length:Nat):Int)))::(i4 (P9 a v5 b) ((gj (P9 a v5 b) (0<=(v5:Int)/\(v5:Int)<((b.length:Nat):Int)))::(i5 (P9 a v5 b) (i2 (U6 a v5 b) ((gj (U6 a v5 b) (0<=(v5:Int)/\(v5:Int)<((a.length:Nat):Int)))::(i4 (U6 a v5 b) ((gj (U6 a v5 b) (0<=(v5:Int)/\(v5:Int)<((b.length:Nat):Int)))::(i5 (U6 a v5 b) (i2 (QF a v5 b) ((gj (QF a v5 b) (0<=(v5:Int)/\(v5:Int)<((a.length:Nat):Int)))::(i4 (QF a v5 b) ((gj (QF a v5 b) (0<=(v5:Int)/\(v5:Int)<((b.length:Nat):Int)))::(i4 (QF a v5 b) ((gj (QF a v5 b) (Ap (Ul (a.getD v5.toNat default).Shape (b.getD v5.toNat default).Shape).2.1))::(i2 (QF a v5 b) [])))))))))))))))))) ⟨[(LW a),(LV b),(5,tI v5),(67,tB (bif bif bif !decide (((a.getD v5.toNat default).From:Int)=(b.getD v5.toNat default).From) then true else !decide (((a.getD v5.toNat default).To:Int)=(b.getD v5.toNat default).To) then true else !((a.getD v5.toNat default).Plated==(b.getD v5.toNat default).Plated) then true else !(MY (a.getD v5.toNat default).Shape (b.getD v5.toNat default).Shape)))],[]⟩ (.cons (qD (a.getD v5.toNat default).Shape (b.getD v5.toNat default).Shape (by first | (exact Xj hb _) | (exact Xs hb _) | (exact hb.parts) | (exact hb.tracks) | (exact hb.vias) | (exact hb.slots) | (exact hb.nets) | (exact hb.pins) | (exact IW hb.parts ht) | (exact ha _) | (exact hbb _) | with_reducible assumption | omega | decide | (simp only [List.length_cons,List.length_nil,List.length_append];omega) | assumption) (by first | (exact Xj hb _) | (exact Xs hb _) | (exact hb.parts) | (exact hb.tracks) | (exact hb.vias) | (exact hb.slots) | (exact hb.nets) | (exact hb.pins) | (exact IW hb.parts ht) | (exact ha _) | (exact hbb _) | with_reducible assumption | omega | decide | (simp only [List.length_cons,List.length_nil,List.length_append];omega) | assumption)) .nil) (.cons au0 (.cons au0 (c2 (.cons (fun hG=>by first | exact au0 | (simp only [decide_eq_true_eq,decide_eq_false_iff_not,Bool.not_eq_true,Bool.and_eq_true] at hG <;> omega) | (simp at hG <;> omega) | (simp only [decide_eq_true_eq,decide_eq_false_iff_not] at hG;simp only [Bx];omega)) (c4 (.cons (fun hG=>by first | exact au0 | (simp only [decide_eq_true_eq,decide_eq_false_iff_not,Bool.not_eq_true,Bool.and_eq_true] at hG <;> omega) | (simp at hG <;> omega) | (simp only [decide_eq_true_eq,decide_eq_false_iff_not] at hG;simp only [Bx];omega)) (c5 (c2 (.cons (fun hG=>by first | exact au0 | (simp only [decide_eq_true_eq,decide_eq_false_iff_not,Bool.not_eq_true,Bool.and_eq_true] at hG <;> omega) | (simp at hG <;> omega) | (simp only [decide_eq_true_eq,decide_eq_false_iff_not] at hG;simp only [Bx];omega)) (c4 (.cons (fun hG=>by first | exact au0 | (simp only [decide_eq_true_eq,decide_eq_false_iff_not,Bool.not_eq_true,Bool.and_eq_true] at hG <;> omega) | (simp at hG <;> omega) | (simp only [decide_eq_true_eq,decide_eq_false_iff_not] at hG;simp only [Bx];omega)) (c5 (c2 (.cons (fun hG=>by first | exact au0 | (simp only [decide_eq_true_eq,decide_eq_false_iff_not,Bool.not_eq_true,Bool.and_eq_true] at hG <;> omega) | (simp at hG <;> omega) | (simp only [decide_eq_true_eq,decide_eq_false_iff_not] at hG;simp only [Bx];omega)) (c4 (.cons (fun hG=>by first | exact au0 | (simp only [decide_eq_true_eq,decide_eq_false_iff_not,Bool.not_eq_true,Bool.and_eq_true] at hG <;> omega) | (simp at hG <;> omega) | (simp only [decide_eq_true_eq,decide_eq_false_iff_not] at hG;simp only [Bx];omega)) (c4 (.cons (fun _=>rfl) (c2 .nil)))))))))))))))))))<|AG ?_
  refine AV _ rfl (fun h3 => ?_) (fun h3 => ?_)
  ·refine AB<|rn ⟨[(4,tB false)],[]⟩ ?_
   refine AW<|Bo ?_
   refine A7<|A7 ?_
   refine Bo<|A7 ?_
   exact xl (tO (.b false)) (Aa (by rw [<- hF0];first | (simp only [EF,h2,h3,cond_true,cond_false] <;> rfl)))
  refine AY<|BN<|AG ?_
  refine rg ⟨[(LW a),(LV b),(5,tI (W64 (v5+1)))],[]⟩ ?_
  (try rw [(show W64 (v5+1)=v5+1 from Af oM au5)])
  refine AG ?_
  refine ⟨(n0,v5+1),⟨?_,?_,(by rw [<- hF0];simp only [EF,h2,h3,cond_true,cond_false])⟩,Nat.lt_succ_self _,Ay kr⟩
  ·show ((a.length:Int)-(v5+1)).toNat<n0;omega
  exact ⟨ax0,ax0⟩
 refine BF<|A3 ?_
 refine A3<|BG ?_
 refine AG<|AB ?_
 refine rn ⟨[(4,tB true)],[]⟩<|AW ?_
 exact xl (tO (.b true)) (Aa (by rw [<- hF0];first | (simp only [EF,h2,cond_true,cond_false] <;> rfl)))
theorem Vh (a:(List Ao)) (b:(List Ao)) (h0:(a.length:Int)<=1000000000) (ha:∀ k,(((a.getD k default).Shape.Edges.length:Int)<=1000000)) (hbb:∀ k,(((b.getD k default).Shape.Edges.length:Int)<=1000000)):OKc (Je a b):=cPu<|YC a b h0 ha hbb
def Fx (l:(List Int)) (want:(List Int)):Nat->Int->Bool
 | 0,_=>default
 | n0+1,v13=>bif decide ((v13:Int)<(l.length:Int)) then (bif !decide (((l.getD v13.toNat default):Int)=(want.getD v13.toNat default)) then false else ((Fx l want n0) (v13+1))) else true
def Gv (l:(List Int)) (want:(List Int)):Bool:=bif !decide (((l.length:Int):Int)=(want.length:Int)) then false else (Fx l want (((l.length:Int)-0).toNat+1) 0)
def Hl (l:(List Int)) (want:(List Int)):CT:=(19,[.one (lst 1 eIn l),.one (lst 1 eIn want)],.val [] (.av (.one (.b (Gv l want)))))
abbrev Nv (l:List Int):Nat×Tv:=(12,tI (l.length:Int))
theorem pB (l:(List Int)) (want:(List Int)) (h0:(l.length:Int)<=1000000000):PuP 19 (Hl l want).2.1 (tO (.b (Gv l want))):=by
 refine pwf Tryz.func19 fun W0 M0 => ?_
 refine AB<|rn ⟨[(0,tO (lst 1 eIn l)),(1,tO (lst 1 eIn want))],[]⟩ ?_
 refine AB<|AB ?_
 refine rn ⟨[(0,tO (lst 1 eIn l)),(1,tO (lst 1 eIn want)),(10,tB (!decide (((l.length:Int):Int)=(want.length:Int))))],[]⟩ ?_
 refine AV _ rfl (fun h1 => ?_) (fun h1 => ?_)
 ·have g1:=Bt h1
  refine AB<|rn ⟨[(4,tB false)],[]⟩ ?_
  refine AW<|A7 ?_
  exact xl (tO (.b false)) (Aa (by simp only [Gv,h1,cond_true,cond_false] <;> rfl))
 have g1:=Bl h1
 refine AY<|AG ?_
 refine AB<|AB ?_
 refine rn ⟨[(0,tO (lst 1 eIn l)),(1,tO (lst 1 eIn want)),(Nv l),(13,tI 0)],[]⟩<|AR ?_
 refine BB (ι:=Nat×Int) (fun x=>⟨[(0,tO (lst 1 eIn l)),(1,tO (lst 1 eIn want)),(Nv l),(13,tI x.2)],[]⟩) (fun x=>((l.length:Int)-x.2).toNat<x.1/\(0<=x.2/\(x.2<=(l.length:Int)\/x.2=0))/\Fx l want x.1 x.2=Gv l want) (fun x=>x.1) ?_ (((l.length:Int)-0).toNat+1,0) ⟨Nat.lt_succ_self _,⟨ax0,ax0⟩,(by simp only [Gv,h1,cond_true,cond_false])⟩
 rintro ⟨n0,v13⟩ ⟨hm0,hinv0,hF0⟩
 try dsimp only at hm0 hinv0 hF0
 cases n0 with | zero=>exact nz hm0 | succ n0 => ?_
 refine AB<|rn ⟨[(0,tO (lst 1 eIn l)),(1,tO (lst 1 eIn want)),(Nv l),(13,tI v13),(14,tB (decide ((v13:Int)<(l.length:Int))))],[]⟩<|AB ?_
 refine AV _ rfl (fun h2 => ?_) (fun h2 => ?_)
 ·have g2:=oT h2
  refine AY<|AG ?_
  refine AB<|AR<|AB ?_
  refine rn ⟨[(0,tO (lst 1 eIn l)),(1,tO (lst 1 eIn want)),(5,tI v13),(Nv l),(13,tI v13)],[]⟩<|AB ?_
  refine dw [] [] [0<=(v13:Int)/\(v13:Int)<((l.length:Nat):Int),0<=(v13:Int)/\(v13:Int)<((want.length:Nat):Int)] ⟨[(0,tO (lst 1 eIn l)),(1,tO (lst 1 eIn want)),(Nv l),(13,tI v13),(24,tB (!decide (((l.getD v13.toNat default):Int)=(want.getD v13.toNat default))))],[]⟩ .nil (.cons au0 (.cons au0 .nil))<|AG ?_
  refine AV _ rfl (fun h3 => ?_) (fun h3 => ?_)
  ·have g3:=Bt h3
   refine AB<|rn ⟨[(4,tB false)],[]⟩ ?_
   refine AW<|Bo ?_
   refine A7<|A7 ?_
   refine Bo<|A7 ?_
   exact xl (tO (.b false)) (Aa (by rw [<- hF0];first | (simp only [Fx,h2,h3,cond_true,cond_false] <;> rfl)))
  have g3:=Bl h3
  refine AY<|BN<|AG ?_
  refine rg ⟨[(0,tO (lst 1 eIn l)),(1,tO (lst 1 eIn want)),(Nv l),(13,tI (W64 (v13+1)))],[]⟩ ?_
  (try rw [(show W64 (v13+1)=v13+1 from Af oM au5)])
  refine AG ?_
  refine ⟨(n0,v13+1),⟨?_,?_,(by rw [<- hF0];simp only [Fx,h2,h3,cond_true,cond_false])⟩,Nat.lt_succ_self _,Ay kr⟩
  ·show ((l.length:Int)-(v13+1)).toNat<n0;omega
  exact ⟨ax0,ax0⟩
 refine BF<|A3 ?_
 refine A3<|BG ?_
 refine AG<|AB ?_
 refine rn ⟨[(4,tB true)],[]⟩<|AW ?_
 exact xl (tO (.b true)) (Aa (by rw [<- hF0];first | (simp only [Fx,h2,cond_true,cond_false] <;> rfl)))
theorem Qg (l:(List Int)) (want:(List Int)) (h0:(l.length:Int)<=1000000000):OKc (Hl l want):=cPu<|pB l want h0
def AU:(AH×(List AQ)):=(AH.mk 2 (AP.mk 0 [] 0) [AE.mk 7 ({ data := #[85,49] }:ByteArray) ({ data := #[111,110,101] }:ByteArray) (AC.mk 100 50) 0 false] [] [Ab.mk 3 (⟨#[]⟩) 2 (Bu (AC.mk 1 0) 2)] [A4.mk 2 (⟨#[]⟩) (AC.mk 20 20) 6 4 1 2] [] [] [Ar.mk 9 (Bu (AC.mk 0 5) 3)] [] [] [] [],[AQ.mk ({ data := #[111,110,101] }:ByteArray) [A1.mk ({ data := #[80,49] }:ByteArray) (DN (Ak.mk (-4) (-4) 4 4)) (AC.mk 0 0) 4] []])
def MJ:CT:=(36,[],.val [] (.tup [.agg (AH.c AU.1),.one (lst 3 AQ.c AU.2)]))
abbrev ZF:List Cl:=[.i 0,.i 0,vN,.i 0,vN,vN,vN,vN,vN,vN,vN,vN,vN,vN,vN]
abbrev U4:List Cl:=[.i 3,.s (⟨#[]⟩),.i 2,.i (Bu (AC.mk 1 0) 2).Kind,lst 7 AF.c (Bu (AC.mk 1 0) 2).Edges,.i (Bu (AC.mk 1 0) 2).R]
abbrev FX:=DN (Ak.mk (-4) (-4) 4 4)
abbrev XO:List Cl:=[.i 9,.i (Bu (AC.mk 0 5) 3).Kind,lst 7 AF.c (Bu (AC.mk 0 5) 3).Edges,.i (Bu (AC.mk 0 5) 3).R]
abbrev Tg:List Cl:=[.i 2,.s (⟨#[]⟩),.i 20,.i 20,.i 6,.i 4,.i 1,.i 2]
abbrev TQ:List (Nat×Tv):=[(0,tP 0 0),(2,tP 2 0),(3,tP 3 0)]
abbrev Nt:Nat×Blk:=(0,.cells ZF 41)
theorem X7  : E5 Tryz.prog 36 (MJ ).2.1 (.tup [.agg (AH.c AU.1),.one (lst 3 AQ.c AU.2)]):=by
 refine pwf Tryz.func36 fun W0 M0 => ?_
 refine AB<|rn ⟨[(0,tP 0 0)],[Nt]⟩<|AB ?_
 refine rs 5 (Jg (Ak.mk (-4) (-4) 4 4)) ⟨[(0,tP 0 0),(2,tP 2 0)],[Nt,(2,.cells [.s ({ data := #[111,110,101] }:ByteArray),.list true 7 1 (As 7 1 [.s ({ data := #[80,49] }:ByteArray),.i FX.Kind,lst 7 AF.c FX.Edges,.i FX.R,.i 0,.i 0,.i 4]),vN] 82)]⟩ (PS (Ak.mk (-4) (-4) 4 4))<|AG<|AB ?_
 refine rn ⟨TQ,[Nt,(2,.cells [.s ({ data := #[111,110,101] }:ByteArray),.list true 7 1 (As 7 1 [.s ({ data := #[80,49] }:ByteArray),.i FX.Kind,lst 7 AF.c FX.Edges,.i FX.R,.i 0,.i 0,.i 4]),vN] 82),(3,.cells [.i 2,.i 0,vN,.i 0,.list true 7 1 (As 7 1 [.i 7,.s ({ data := #[85,49] }:ByteArray),.s ({ data := #[111,110,101] }:ByteArray),.i 100,.i 50,.i 0,.b false]),vN,vN,vN,vN,vN,vN,vN,vN,vN,vN] 41)]⟩<|AB ?_
 refine rs 14 (Gf (AC.mk 1 0) 2) ⟨TQ,[Nt,(2,.cells [.s ({ data := #[111,110,101] }:ByteArray),.list true 7 1 (As 7 1 [.s ({ data := #[80,49] }:ByteArray),.i FX.Kind,lst 7 AF.c FX.Edges,.i FX.R,.i 0,.i 0,.i 4]),vN] 82),(3,.cells [.i 2,.i 0,vN,.i 0,.list true 7 1 (As 7 1 [.i 7,.s ({ data := #[85,49] }:ByteArray),.s ({ data := #[111,110,101] }:ByteArray),.i 100,.i 50,.i 0,.b false]),vN,.list true 6 1 (As 6 1 U4),vN,vN,vN,vN,vN,vN,vN,vN] 41)]⟩ (Kj (AC.mk 1 0) 2)<|AG<|AB ?_
 refine rn ⟨TQ,[Nt,(2,.cells [.s ({ data := #[111,110,101] }:ByteArray),.list true 7 1 (As 7 1 [.s ({ data := #[80,49] }:ByteArray),.i FX.Kind,lst 7 AF.c FX.Edges,.i FX.R,.i 0,.i 0,.i 4]),vN] 82),(3,.cells [.i 2,.i 0,vN,.i 0,.list true 7 1 (As 7 1 [.i 7,.s ({ data := #[85,49] }:ByteArray),.s ({ data := #[111,110,101] }:ByteArray),.i 100,.i 50,.i 0,.b false]),vN,.list true 6 1 (As 6 1 U4),.list true 8 1 (As 8 1 Tg),vN,vN,vN,vN,vN,vN,vN] 41)]⟩<|AB ?_
 refine rs 23 (Gf (AC.mk 0 5) 3) ⟨TQ,[Nt,(2,.cells [.s ({ data := #[111,110,101] }:ByteArray),.list true 7 1 (As 7 1 [.s ({ data := #[80,49] }:ByteArray),.i FX.Kind,lst 7 AF.c FX.Edges,.i FX.R,.i 0,.i 0,.i 4]),vN] 82),(3,.cells [.i 2,.i 0,vN,.i 0,.list true 7 1 (As 7 1 [.i 7,.s ({ data := #[85,49] }:ByteArray),.s ({ data := #[111,110,101] }:ByteArray),.i 100,.i 50,.i 0,.b false]),vN,.list true 6 1 (As 6 1 U4),.list true 8 1 (As 8 1 Tg),vN,vN,.list true 4 1 (As 4 1 XO),vN,vN,vN,vN] 41)]⟩ (Kj (AC.mk 0 5) 3)<|AG<|AB ?_
 refine dw [] [] [] ⟨[(0,tP 0 0),(1,.av (.one (.list true 3 1 (As 3 1 [.s ({ data := #[111,110,101] }:ByteArray),.list true 7 1 (As 7 1 [.s ({ data := #[80,49] }:ByteArray),.i FX.Kind,lst 7 AF.c FX.Edges,.i FX.R,.i 0,.i 0,.i 4]),vN]))))],[(0,.cells [.i 2,.i 0,vN,.i 0,.list true 7 1 (As 7 1 [.i 7,.s ({ data := #[85,49] }:ByteArray),.s ({ data := #[111,110,101] }:ByteArray),.i 100,.i 50,.i 0,.b false]),vN,.list true 6 1 (As 6 1 U4),.list true 8 1 (As 8 1 Tg),vN,vN,.list true 4 1 (As 4 1 XO),vN,vN,vN,vN] 41)]⟩ .nil .nil<|AG<|AW ?_
 exact xl (.tup [.agg [.i 2,.i 0,vN,.i 0,.list true 7 1 (As 7 1 [.i 7,.s ({ data := #[85,49] }:ByteArray),.s ({ data := #[111,110,101] }:ByteArray),.i 100,.i 50,.i 0,.b false]),vN,.list true 6 1 (As 6 1 U4),.list true 8 1 (As 8 1 Tg),vN,vN,.list true 4 1 (As 4 1 XO),vN,vN,vN,vN],.one (.list true 3 1 (As 3 1 [.s ({ data := #[111,110,101] }:ByteArray),.list true 7 1 (As 7 1 [.s ({ data := #[80,49] }:ByteArray),.i (DN (Ak.mk (-4) (-4) 4 4)).Kind,lst 7 AF.c (DN (Ak.mk (-4) (-4) 4 4)).Edges,.i (DN (Ak.mk (-4) (-4) 4 4)).R,.i 0,.i 0,.i 4]),vN]))]) (Du (y:=.tup [.agg [.i 2,.i 0,lst 7 AF.c [],.i 0,lst 7 AE.c [AE.mk 7 ({ data := #[85,49] }:ByteArray) ({ data := #[111,110,101] }:ByteArray) (AC.mk 100 50) 0 false],lst 2 Bf.c [],lst 6 Ab.c [Ab.mk 3 (⟨#[]⟩) 2 (Bu (AC.mk 1 0) 2)],lst 8 A4.c [A4.mk 2 (⟨#[]⟩) (AC.mk 20 20) 6 4 1 2],lst 8 Be.c [],lst 5 C8.c [],lst 4 Ar.c [Ar.mk 9 (Bu (AC.mk 0 5) 3)],lst 2 Cj.c [],lst 20 BD.c [],lst 3 CQ.c [],lst 3 Dz.c []],.one (lst 3 AQ.c [AQ.mk ({ data := #[111,110,101] }:ByteArray) [A1.mk ({ data := #[80,49] }:ByteArray) (DN (Ak.mk (-4) (-4) 4 4)) (AC.mk 0 0) 4] []])]) (.tup (.cons (.agg (rr2 (.cons (Cf 7 AF.c) (rr (.cons (BZ true (Aq (c:=AE.c) (xs:=([AE.mk 7 ({ data := #[85,49] }:ByteArray) ({ data := #[111,110,101] }:ByteArray) (AC.mk 100 50) 0 false]:List AE)) rfl kr)) (.cons (Cf 2 Bf.c) (.cons (BZ true (Aq (c:=Ab.c) (xs:=([Ab.mk 3 (⟨#[]⟩) 2 (Bu (AC.mk 1 0) 2)]:List Ab)) rfl kr)) (.cons (BZ true (Aq (c:=A4.c) (xs:=([A4.mk 2 (⟨#[]⟩) (AC.mk 20 20) 6 4 1 2]:List A4)) rfl kr)) (.cons (Cf 8 Be.c) (.cons (Cf 5 C8.c) (.cons (BZ true (Aq (c:=Ar.c) (xs:=([Ar.mk 9 (Bu (AC.mk 0 5) 3)]:List Ar)) rfl kr)) (.cons (Cf 2 Cj.c) (.cons (Cf 20 BD.c) (.cons (Cf 3 CQ.c) (.cons (Cf 3 Dz.c) .nil))))))))))))))) (.cons (.one (BZ true (Fi (c:=AQ.c) (xs:=([AQ.mk ({ data := #[111,110,101] }:ByteArray) [A1.mk ({ data := #[80,49] }:ByteArray) (DN (Ak.mk (-4) (-4) 4 4)) (AC.mk 0 0) 4] []]:List AQ)) (y:=[[.s ({ data := #[111,110,101] }:ByteArray),.list true 7 1 (As 7 1 [.s ({ data := #[80,49] }:ByteArray),.i (DN (Ak.mk (-4) (-4) 4 4)).Kind,lst 7 AF.c (DN (Ak.mk (-4) (-4) 4 4)).Edges,.i (DN (Ak.mk (-4) (-4) 4 4)).R,.i 0,.i 0,.i 4]),vN]]) (z:=[[.s ({ data := #[111,110,101] }:ByteArray),lst 7 A1.c [A1.mk ({ data := #[80,49] }:ByteArray) (DN (Ak.mk (-4) (-4) 4 4)) (AC.mk 0 0) 4],lst 2 A5.c []]]) rfl kr kr (.cons (rr (.cons (BZ true (Aq (c:=A1.c) (xs:=([A1.mk ({ data := #[80,49] }:ByteArray) (DN (Ak.mk (-4) (-4) 4 4)) (AC.mk 0 0) 4]:List A1)) rfl kr)) (.cons (Cf 2 A5.c) .nil))) .nil)))) .nil))) (by rfl))
theorem Ve  : OKc (MJ ):=cPu<|X7
def aR (b:AH) (types:(List AQ)):CT:=(14,[.agg (AH.c b),.one (Gl types)],.val [] (.av (.one (lst 9 Ad.c (DB b types)))))
theorem jV (b:AH) (types:(List AQ)) (hb:Nf b) (ht:CP types):OKc (aR b types):=cPu<|L0 (qAll b types hb ht)
def NF (b:AH) (types:(List AQ)):CT:=(17,[.agg (AH.c b),.one (Gl types)],.val [] (.av (.one (lst 6 Ao.c (EJ b types)))))
theorem Vj (b:AH) (types:(List AQ)) (hb:Nf b) (ht:CP types):OKc (NF b types):=cPu<|L0 (uS b types hb ht)
end
theorem wZ:Nf AU.1:=by
 constructor <;> decide
theorem lT:CP AU.2:=by
 refine ⟨by decide,fun t ht => ?_⟩
 rw [show AU.2=[AU.2.getD 0 default] from rfl,List.mem_singleton] at ht
 subst ht
 refine ⟨by decide,by decide,fun p hp => ?_,fun g hg=>by cases hg⟩
 rw [show (AU.2.getD 0 default).Pads=[(AU.2.getD 0 default).Pads.getD 0 default] from rfl,List.mem_singleton] at hp
 subst hp
 unfold Wd
 decide
theorem lI {α:Type} [Inhabited α] {p:α->Bool} {l:List α} (hd:p default=true) (h:l.all p=true) (k:Nat):p (l.getD k default)=true:=Gq (p:=fun x=>p x=true) hd (List.all_eq_true.1 h) k
theorem lH {l:List Ao} (h:(l.all fun x=>decide ((x.Shape.Edges.length:Int)<=1000000))=true):∀ k,(((l.getD k default).Shape.Edges.length:Int)<=1000000):=fun k=>oT (lI (p:=fun x:Ao=>decide ((x.Shape.Edges.length:Int)<=1000000)) (by decide) h k)
def Z0R:Bool := !decide ((((DB AU.1 AU.2).length:Int):Int)=3)
def Z0S:Ad:=(DB AU.1 AU.2).getD 0 default
def Z0T:Bool:=ZA Z0S (Ad.mk 7 ({ data := #[80,49] }:ByteArray) 1 (⟨#[]⟩) 1 2 (DN (Ak.mk 96 46 104 54)))
def Z0U:Bool:=bif Z0T then decide ((((DB AU.1 AU.2).getD 1 default).Id:Int)=3) else false
def Z0V:Bool:=bif Z0U then decide ((((DB AU.1 AU.2).getD 1 default).From:Int)=2) else false
def Z0W:Bool:=bif Z0V then decide ((((DB AU.1 AU.2).getD 2 default).Id:Int)=2) else false
def Z0X:Bool:=bif Z0W then decide ((((DB AU.1 AU.2).getD 2 default).Kind:Int)=3) else false
def Z0Y:(List Int):=FOn (DB AU.1 AU.2) 1
def Z0Z:Bool:=bif Gv Z0Y [0,2] then Gv (FOn (DB AU.1 AU.2) 2) [0,1,2] else false
def Z10:Bool:=bif Z0Z then Gv (FOn (DB AU.1 AU.2) 3) [] else false
def Z11:AP:=(AU.1.Slots.getD 0 default).Shape
def Z12:(Nat->Nat->Cl):=As 6 3 [.i (Bu (AC.mk 100 50) 2).Kind,lst 7 AF.c (Bu (AC.mk 100 50) 2).Edges,.i (Bu (AC.mk 100 50) 2).R,.i 1,.i 2,.b true,.i (Bu (AC.mk 20 20) 2).Kind,lst 7 AF.c (Bu (AC.mk 20 20) 2).Edges,.i (Bu (AC.mk 20 20) 2).R,.i 1,.i 2,.b true,.i Z11.Kind,lst 7 AF.c Z11.Edges,.i Z11.R,.i 1,.i 2,.b false]
def Z13:Ad:=(DB AU.1 AU.2).getD 1 default
def Z14:Ad:=(DB AU.1 AU.2).getD 2 default
def Z15:(List AP):=Rf (Be.mk 0 (⟨#[]⟩) 0 10 0 0 0 []) [Ak.mk 1 2 3 4]
def Z16:Bool:=bif Z0X then Z10 else false
def Z17:Bool:=bif Z16 then F3 (EJ AU.1 AU.2) [Ao.mk (Bu (AC.mk 100 50) 2) 1 2 true,Ao.mk (Bu (AC.mk 20 20) 2) 1 2 true,Ao.mk Z11 1 2 false] else false
def Z18:Bool:=bif Z17 then (Dd Z13 Z14).2.2 else false
def Z19:Bool:=bif Z18 then decide (((Dd Z13 Z14).1:Int)=2) else false
def Z1a:Bool:=bif Z19 then decide (((Dd Z13 Z14).2.1:Int)=2) else false
def Z1b:Bool:=bif Z1a then decide (((Z15.length:Int):Int)=1) else false
def Z1c:Bool:=bif Z1b then Of (Z15.getD 0 default) (DN (Ak.mk 10 20 30 40)) else false
def Bk:Bool:=bif Z0R then false else Z1c
def OR:CT:=(9,[],.val [] (.av (.one (.b Bk))))
abbrev KJ:List (Nat×Blk):=[(1,.cells (AH.c AU.1) 41)]
abbrev KG:Nat×Tv:=(2,tO (lst 3 AQ.c AU.2))
abbrev KF:=DB AU.1 AU.2
abbrev P1:Nat×Tv:=(3,tO (lst 9 Ad.c KF))
abbrev Wy:Nat×Tv:=(6,.av (.one (.list true 6 3 Z12)))
abbrev Pr:=Gv Z0Y [0,2]
abbrev eS:List Av:=[.one (lst 6 Ao.c (EJ AU.1 AU.2)),.one (.list true 6 3 Z12)]
theorem au14 {p:Prop} (h:p:=by first | (exact wZ) | (exact lT) | (decide +kernel) | (exact lH (by decide +kernel)) | with_reducible assumption | omega | decide | (simp only [List.length_cons,List.length_nil,List.length_append];omega) | assumption):p:=h
theorem bU  : E5 Tryz.prog 9 (OR ).2.1 (tO (.b Bk)):=by
 refine pwf Tryz.func9 fun W0 M0 => ?_
 refine AB<|rn ⟨[],[]⟩<|AB ?_
 refine rs 12 MJ ⟨[(1,tP 1 0),KG],KJ⟩ Ve<|AG<|AB ?_
 refine rs 17 (aR AU.1 AU.2) ⟨[(1,tP 1 0),KG,P1],KJ⟩ (jV AU.1 AU.2 au14 au14)<|AG ?_
 refine AB<|AB ?_
 refine rn ⟨[(1,tP 1 0),KG,P1,(20,tB Z0R)],KJ⟩ ?_
 refine AV _ rfl (fun h1 => ?_) (fun h1 => ?_)
 ·refine AB<|rn ⟨[(0,tB false)],[]⟩ ?_
  refine AW<|A7 ?_
  exact xl (tO (.b false)) (Aa (by simp only [Bk,h1,cond_true,cond_false] <;> rfl))
 refine AY<|AG<|AB ?_
 refine dw [] [(25,Jg (Ak.mk 96 46 104 54)),(27,Um Z0S (Ad.mk 7 ({ data := #[80,49] }:ByteArray) 1 (⟨#[]⟩) 1 2 (DN (Ak.mk 96 46 104 54))))] [0<=(0:Int)/\(0:Int)<(((DB AU.1 AU.2).length:Nat):Int),Ap (Jg (Ak.mk 96 46 104 54)).2.1,Ap (Um Z0S (Ad.mk 7 ({ data := #[80,49] }:ByteArray) 1 (⟨#[]⟩) 1 2 (DN (Ak.mk 96 46 104 54)))).2.1,(Z0T=true)->(Z0T=true),(Z0T=true)->(0<=(1:Int)/\(1:Int)<(((DB AU.1 AU.2).length:Nat):Int)),(Z0T=true)->(Z0T=true),(Z0T=true)->(Z0T=true),(Z0T=true)->(Z0T=true),Z0T=true->(Z0T=true),(Z0U=true)->(Z0U=true),(Z0U=true)->(0<=(1:Int)/\(1:Int)<(((DB AU.1 AU.2).length:Nat):Int)),(Z0U=true)->(Z0U=true),(Z0U=true)->(Z0U=true),(Z0U=true)->(Z0U=true),Z0U=true->(Z0U=true),(Z0V=true)->(Z0V=true),(Z0V=true)->(0<=(2:Int)/\(2:Int)<(((DB AU.1 AU.2).length:Nat):Int)),(Z0V=true)->(Z0V=true),(Z0V=true)->(Z0V=true),(Z0V=true)->(Z0V=true),Z0V=true->(Z0V=true),(Z0W=true)->(Z0W=true),(Z0W=true)->(0<=(2:Int)/\(2:Int)<(((DB AU.1 AU.2).length:Nat):Int)),(Z0W=true)->(Z0W=true),(Z0W=true)->(Z0W=true),(Z0W=true)->(Z0W=true),Z0W=true->(Z0W=true)] ⟨[(1,tP 1 0),KG,P1,(4,tB Z0X)],KJ⟩ (.cons (PS (Ak.mk 96 46 104 54)) (.cons (qE Z0S (Ad.mk 7 ({ data := #[80,49] }:ByteArray) 1 (⟨#[]⟩) 1 2 (DN (Ak.mk 96 46 104 54))) au14 au14) .nil)) (.cons (by decide +kernel) (.cons rfl (.cons rfl (ci (.cons (fun hG=>by first | exact (by decide +kernel) | (simp only [decide_eq_true_eq,decide_eq_false_iff_not,Bool.not_eq_true,Bool.and_eq_true] at hG <;> omega) | (simp at hG <;> omega) | (simp only [decide_eq_true_eq,decide_eq_false_iff_not] at hG;simp only [Bx];omega)) (ci (ci (ci (ci (ci (.cons (fun hG=>by first | exact (by decide +kernel) | (simp only [decide_eq_true_eq,decide_eq_false_iff_not,Bool.not_eq_true,Bool.and_eq_true] at hG <;> omega) | (simp at hG <;> omega) | (simp only [decide_eq_true_eq,decide_eq_false_iff_not] at hG;simp only [Bx];omega)) (ci (ci (ci (ci (ci (.cons (fun hG=>by first | exact (by decide +kernel) | (simp only [decide_eq_true_eq,decide_eq_false_iff_not,Bool.not_eq_true,Bool.and_eq_true] at hG <;> omega) | (simp at hG <;> omega) | (simp only [decide_eq_true_eq,decide_eq_false_iff_not] at hG;simp only [Bx];omega)) (ci (ci (ci (ci (ci (.cons (fun hG=>by first | exact (by decide +kernel) | (simp only [decide_eq_true_eq,decide_eq_false_iff_not,Bool.not_eq_true,Bool.and_eq_true] at hG <;> omega) | (simp at hG <;> omega) | (simp only [decide_eq_true_eq,decide_eq_false_iff_not] at hG;simp only [Bx];omega)) (ci (ci (ci (ci .nil)))))))))))))))))))))))))))<|AG<|AB ?_
 refine rc [(57,cOn KF 1),(59,ceI [.one (lst 1 eIn Z0Y),.one (.list true 1 2 (As 1 2 [.i 0,.i 2]))] (Hl Z0Y [0,2])),(62,cOn KF 2),(64,ceI [.one (lst 1 eIn (FOn KF 2)),.one (.list true 1 3 (As 1 3 [.i 0,.i 1,.i 2]))] (Hl (FOn KF 2) [0,1,2])),(68,cOn KF 3),(69,ceI [.one (lst 1 eIn (FOn KF 3)),.one vN] (Hl (FOn KF 3) []))] ((Ap (cOn (DB AU.1 AU.2) 1).2.1)::(Ap (ceI [.one (lst 1 eIn Z0Y),.one (.list true 1 2 (As 1 2 [.i 0,.i 2]))] (Hl Z0Y [0,2])).2.1)::(gt Pr)::(gk Pr (Ap (cOn (DB AU.1 AU.2) 2).2.1))::(t2 Pr [gk Pr (Ap (ceI [.one (lst 1 eIn (FOn (DB AU.1 AU.2) 2)),.one (.list true 1 3 (As 1 3 [.i 0,.i 1,.i 2]))] (Hl (FOn (DB AU.1 AU.2) 2) [0,1,2])).2.1),gt Pr,(Z0Z=true)->(Z0Z=true),(Z0Z=true)->(Ap (cOn (DB AU.1 AU.2) 3).2.1),(Z0Z=true)->(Z0Z=true),(Z0Z=true)->(Ap (ceI [.one (lst 1 eIn (FOn (DB AU.1 AU.2) 3)),.one vN] (Hl (FOn (DB AU.1 AU.2) 3) [])).2.1),Z0Z=true->(Z0Z=true)])) ⟨[(1,tP 1 0),KG,P1,(4,tB Z0X),(5,tB Z10)],KJ⟩ (.cons (vX (DB AU.1 AU.2) 1 au14) (.cons (Ct (Qg Z0Y [0,2] au14) (.cons (AvE.refl _) (.cons (.one (BZ true (Aq (c:=eIn) (xs:=([0,2]:List Int)) rfl kr))) .nil))) (.cons (vX (DB AU.1 AU.2) 2 au14) (.cons (Ct (Qg (FOn (DB AU.1 AU.2) 2) [0,1,2] au14) (.cons (AvE.refl _) (.cons (.one (BZ true (Aq (c:=eIn) (xs:=([0,1,2]:List Int)) rfl kr))) .nil))) (.cons (vX (DB AU.1 AU.2) 3 au14) (.cons (Ct (Qg (FOn (DB AU.1 AU.2) 3) [] au14) (.cons (AvE.refl _) (.cons (.one (Cf 1 eIn)) .nil))) .nil)))))) (.cons rfl (.cons rfl (ci (.cons (fun _=>rfl) (c2 (.cons (fun _=>rfl) (ci (ci (.cons (fun _=>rfl) (ci (.cons (fun _=>rfl) (ci .nil))))))))))))<|AG<|AB ?_
 refine dw [] [(72,Gf (AC.mk 100 50) 2),(75,Gf (AC.mk 20 20) 2)] [Ap (Gf (AC.mk 100 50) 2).2.1,Ap (Gf (AC.mk 20 20) 2).2.1,0<=(0:Int)/\(0:Int)<((AU.1.Slots.length:Nat):Int)] ⟨[(1,tP 1 0),KG,P1,(4,tB Z0X),(5,tB Z10),Wy],KJ⟩ (.cons (Kj (AC.mk 100 50) 2) (.cons (Kj (AC.mk 20 20) 2) .nil)) (.cons rfl (.cons rfl (.cons (by decide +kernel) .nil)))<|AG<|AB ?_
 refine dw [] [(91,Pa Z13 Z14)] [0<=(1:Int)/\(1:Int)<(((DB AU.1 AU.2).length:Nat):Int),0<=(2:Int)/\(2:Int)<(((DB AU.1 AU.2).length:Nat):Int),Ap (Pa Z13 Z14).2.1] ⟨[(1,tP 1 0),KG,(4,tB Z0X),(5,tB Z10),Wy,(7,tI (Dd Z13 Z14).1),(8,tI (Dd Z13 Z14).2.1),(9,tB (Dd Z13 Z14).2.2)],KJ⟩ (.cons (jQ Z13 Z14) .nil) (.cons (by decide +kernel) (.cons (by decide +kernel) (.cons rfl .nil)))<|AG<|AB ?_
 refine rs 98 (ceI [.agg [.i 0,.s (⟨#[]⟩),.i 0,.i 10,.i 0,.i 0,.i 0,vN],.one (.list true 4 1 (As 4 1 [.i 1,.i 2,.i 3,.i 4]))] (Yv (Be.mk 0 (⟨#[]⟩) 0 10 0 0 0 []) [Ak.mk 1 2 3 4])) ⟨[(1,tP 1 0),KG,(4,tB Z0X),(5,tB Z10),Wy,(7,tI (Dd Z13 Z14).1),(8,tI (Dd Z13 Z14).2.1),(9,tB (Dd Z13 Z14).2.2),(10,tO (lst 3 AP.c Z15))],KJ⟩ (Ct (qK (Be.mk 0 (⟨#[]⟩) 0 10 0 0 0 []) [Ak.mk 1 2 3 4] au14) (.cons (.agg (rr5 (rr2 (.cons (Cf 4 Ak.c) .nil)))) (.cons (.one (BZ true (Aq (c:=Ak.c) (xs:=([Ak.mk 1 2 3 4]:List Ak)) rfl kr))) .nil)))<|AG<|AB ?_
 refine dw [] [(106,NF AU.1 AU.2),(108,ceI eS (Je (EJ AU.1 AU.2) [Ao.mk (Bu (AC.mk 100 50) 2) 1 2 true,Ao.mk (Bu (AC.mk 20 20) 2) 1 2 true,Ao.mk Z11 1 2 false])),(131,Jg (Ak.mk 10 20 30 40)),(132,OW (Z15.getD 0 default) (DN (Ak.mk 10 20 30 40)))] [Z0X=true->(Z0X=true),(Z16=true)->(Z16=true),(Z16=true)->(Z16=true),(Z16=true)->(Ap (NF AU.1 AU.2).2.1),(Z16=true)->(Z16=true),(Z16=true)->(Z16=true),(Z16=true)->(Ap (ceI eS (Je (EJ AU.1 AU.2) [Ao.mk (Bu (AC.mk 100 50) 2) 1 2 true,Ao.mk (Bu (AC.mk 20 20) 2) 1 2 true,Ao.mk Z11 1 2 false])).2.1),Z16=true->(Z16=true),Z17=true->(Z17=true),(Z18=true)->(Z18=true),Z18=true->(Z18=true),(Z19=true)->(Z19=true),Z19=true->(Z19=true),(Z1a=true)->(Z1a=true),(Z1a=true)->(Z1a=true),Z1a=true->(Z1a=true),(Z1b=true)->(Z1b=true),(Z1b=true)->(0<=(0:Int)/\(0:Int)<((Z15.length:Nat):Int)),(Z1b=true)->(Z1b=true),(Z1b=true)->(Z1b=true),(Z1b=true)->(Ap (Jg (Ak.mk 10 20 30 40)).2.1),(Z1b=true)->(Z1b=true),(Z1b=true)->(Z1b=true),(Z1b=true)->(Ap (OW (Z15.getD 0 default) (DN (Ak.mk 10 20 30 40))).2.1),Z1b=true->(Z1b=true)] ⟨[(0,tB Z1c)],[]⟩ (.cons (Vj AU.1 AU.2 au14 au14) (.cons (Ct (Vh (EJ AU.1 AU.2) [Ao.mk (Bu (AC.mk 100 50) 2) 1 2 true,Ao.mk (Bu (AC.mk 20 20) 2) 1 2 true,Ao.mk Z11 1 2 false] au14 au14 au14) (.cons (AvE.refl _) (.cons (.one (BZ true (Aq (c:=Ao.c) (xs:=([Ao.mk (Bu (AC.mk 100 50) 2) 1 2 true,Ao.mk (Bu (AC.mk 20 20) 2) 1 2 true,Ao.mk Z11 1 2 false]:List Ao)) rfl kr))) .nil))) (.cons (PS (Ak.mk 10 20 30 40)) (.cons (Zg (Z15.getD 0 default) (DN (Ak.mk 10 20 30 40)) au14 au14) .nil)))) (ci (ci (ci (.cons (fun _=>rfl) (ci (ci (.cons (fun _=>rfl) (ci (ci (ci (ci (ci (ci (ci (ci (ci (ci (.cons (fun hG=>by first | exact (by decide +kernel) | (simp only [decide_eq_true_eq,decide_eq_false_iff_not,Bool.not_eq_true,Bool.and_eq_true] at hG <;> omega) | (simp at hG <;> omega) | (simp only [decide_eq_true_eq,decide_eq_false_iff_not] at hG;simp only [Bx];omega)) (ci (ci (.cons (fun _=>rfl) (ci (ci (.cons (fun _=>rfl) (ci .nil)))))))))))))))))))))))))<|AG<|AW ?_
 exact xl (tO (.b Z1c)) (Aa (by simp only [Bk,h1,cond_true,cond_false] <;> rfl))
theorem YI  : OKc (OR ):=cPu<|bU
theorem uP:Bk=true:=by decide +kernel
section
open Go.RowKit
def Z1d:Blk:=.cells Py 82
variable (s_1:List AF) (l:List AC) (types:List AQ) (k:Int) (x0:AC) (name:ByteArray) (r:Ak) (x1:Int)
def Z1e:Bool:=((types.getD k.toNat default).Name.toList==name.toList)
def D3 (types:(List AQ)) (name:ByteArray):Nat->Int->(AQ×Bool)
 | 0,_=>default
 | n0+1,k=>bif decide ((k:Int)<(types.length:Int)) then (bif Z1e types k name then (types.getD k.toNat default,true) else ((D3 types name n0) (k+1))) else (AQ.mk (⟨#[]⟩) [] [],false)
def Ba (types:(List AQ)) (name:ByteArray):(AQ×Bool):=D3 types name (((types.length:Int)-0).toNat+1) 0
def OY:CT:=(33,[.one (Gl types),.one (.s name)],.val [] (.tup [.agg (AQ.c (Ba types name).1),.one (.b (Ba types name).2)]))
theorem vJ (types:(List AQ)) (name:ByteArray) (h0:(types.length:Int)<=1000000):PuP 33 (OY types name).2.1 (.tup [.agg (AQ.c (Ba types name).1),.one (.b (Ba types name).2)]):=by
 refine pwf Tryz.func33 fun W0 M0 => ?_
 refine AB<|rn ⟨[(G8 types),(1,tO (.s name)),(4,tP 4 0)],[(4,Z1d)]⟩ ?_
 refine AB<|AB ?_
 refine rn ⟨[(G8 types),(1,tO (.s name)),(4,tP 4 0),(6,tI 0)],[(4,Z1d)]⟩<|AR ?_
 refine BB (ι:=Nat×Int) (fun x=>⟨[(G8 types),(1,tO (.s name)),(4,tP 4 0),(6,tI x.2)],[(4,Z1d)]⟩) (fun x=>((types.length:Int)-x.2).toNat<x.1/\(0<=x.2/\0<=x.2/\(x.2<=(types.length:Int)\/x.2=0))/\D3 types name x.1 x.2=Ba types name) (fun x=>x.1) ?_ (((types.length:Int)-0).toNat+1,0) ⟨Nat.lt_succ_self _,⟨ax0,ax0,ax0⟩,(by simp only [Ba,cond_true,cond_false])⟩
 rintro ⟨n0,k⟩ ⟨hm0,hinv0,hF0⟩
 try dsimp only at hm0 hinv0 hF0
 cases n0 with | zero=>exact nz hm0 | succ n0 => ?_
 refine AB<|AB ?_
 refine rn ⟨[(G8 types),(1,tO (.s name)),(4,tP 4 0),(6,tI k),(10,tB (decide ((k:Int)<(types.length:Int))))],[(4,Z1d)]⟩ ?_
 refine AV _ rfl (fun h1 => ?_) (fun h1 => ?_)
 ·have g1:=oT h1
  refine AY<|AG ?_
  refine AB<|AR<|AB ?_
  refine rc [] [0<=(k:Int)/\(k:Int)<((types.length:Nat):Int)] ⟨[(G8 types),(1,tO (.s name)),(4,tP 4 0),(6,tI k),(19,tB (Z1e types k name))],[(4,Z1d)]⟩ .nil (.cons au0 .nil)<|AG ?_
  refine AV _ rfl (fun h2 => ?_) (fun h2 => ?_)
  ·refine AB<|rc [] [0<=(k:Int)/\(k:Int)<((types.length:Nat):Int)] ⟨[(4,tP 4 0),(5,tB true)],[(4,.cells (AQ.c (types.getD k.toNat default)) 82)]⟩ .nil (.cons au0 .nil)<|AG ?_
   refine AW<|Bo ?_
   refine A7<|A7 ?_
   refine Bo<|A7 ?_
   exact xl (.tup [.agg (AQ.c (types.getD k.toNat default)),.one (.b true)]) (Aa (by rw [<- hF0];first | (simp only [D3,h1,h2,cond_true,cond_false] <;> rfl)))
  refine AY<|BN<|AG ?_
  refine rg ⟨[(G8 types),(1,tO (.s name)),(4,tP 4 0),(6,tI (W64 (k+1)))],[(4,Z1d)]⟩ ?_
  (try rw [(show W64 (k+1)=k+1 from Af oM oM)])
  refine AG ?_
  refine ⟨(n0,k+1),⟨?_,?_,(by rw [<- hF0];simp only [D3,h1,h2,cond_true,cond_false])⟩,Nat.lt_succ_self _,Ay kr⟩
  ·show ((types.length:Int)-(k+1)).toNat<n0;omega
  exact ⟨ax0,ax0,ax0⟩
 refine BF<|A3 ?_
 refine A3<|BG ?_
 refine AG<|AB ?_
 refine rn ⟨[(4,tP 4 0),(5,tB false)],[(4,Z1d)]⟩<|AW ?_
 exact xl (.tup [.agg Py,.one (.b false)]) (Du (y:=.tup fE) (.tup (.cons (.agg (rr (.cons (Cf 7 A1.c) (.cons (Cf 2 A5.c) .nil)))) (.cons (AvE.refl _) .nil))) (by rw [<- hF0];first | (simp only [D3,h1,cond_true,cond_false] <;> rfl)))
theorem UG (types:(List AQ)) (name:ByteArray) (h0:(types.length:Int)<=1000000):OKc (OY types name):=cPu<|vJ types name h0
theorem rV {α β:Type} [Inhabited α] (f:α->Bool) (K:α->β) (D:β) (xs:List α) (g:Nat->Int->β) (hg:∀ m (v:Nat),g (m+1) v=bif decide ((v:Int)<(xs.length:Int)) then (bif f (xs.getD v default) then K (xs.getD v default) else g m ((v:Int)+1)) else D) :
  ∀ (k v m:Nat),xs.length-v=k->v<=xs.length->k<m->g m v=match (xs.drop v).find? f with | some x=>K x | none=>D:=by
 intro k
 induction k with
 | zero =>
  intro v m hk hv hm
  obtain ⟨m,rfl⟩:∃ k,m=k+1:=⟨m-1,by omega⟩
  rw [hg,decide_eq_false (by omega),cond_false,List.drop_eq_nil_of_le (by omega)]
  rfl
 | succ k ih =>
  intro v m hk hv hm
  obtain ⟨m,rfl⟩:∃ k,m=k+1:=⟨m-1,by omega⟩
  have hlt:v<xs.length:=by omega
  have e:xs.getD v default=xs[v]:=by rw [List.getD_eq_getElem?_getD,List.getElem?_eq_getElem hlt];rfl
  rw [hg,decide_eq_true (by omega),cond_true,e,List.drop_eq_getElem_cons hlt,List.find?_cons]
  cases f xs[v] with
  | true=>rfl
  | false=>exact ih (v+1) m (by omega) (by omega) (by omega)
theorem mY {a c:ByteArray} (h:(a.toList==c.toList)=true):a=c:=by have:=(Yj a c).1 h;cases this;rfl
theorem Im (types:List AQ) (name:ByteArray):Ba types name=BQ types name:=by
 rw [LA]
 unfold Ba Yc
 have h:=rV (fun t=>HV t name) (fun t=>((t,true):AQ×Bool)) (⟨⟨#[]⟩,[],[]⟩,false) types (D3 types name) (fun m v=>by rw [D3];unfold Z1e;rw [Int.toNat_natCast];rfl) types.length 0 (((types.length:Int)-0).toNat+1) rfl (Nat.zero_le _) (by omega)
 rw [List.drop_zero] at h
 refine h.trans ?_
 cases hf:types.find? (fun t=>HV t name) with
 | none=>rfl
 | some t =>
  have e:t.Name=name:=mY (List.find?_some (p:=fun t=>HV t name) hf)
  subst e
  rfl
def Z1f:Blk:=.cells [.i 0,vN,.i 0] 28
def Z1g:Blk:=.row 7 ([]:List AF).length (AO AF.c ([]:List AF)) 68
def Z1h:Blk:=.cells [.i 2,.own 100000 7 ([]:List AF).length,.i 0] 28
def Z1i:AC:=l.getD (Int.tmod (W64 (k+1)) (l.length:Int)).toNat default
abbrev W3:=[AF.mk 1 (l.getD k.toNat default) (Z1i l k) (AC.mk 0 0)]
def Z1j:Blk:=.cells [.i 2,.own 28 7 (s_1++(W3 l k)).length,.i 0] 28
def Z1k:Blk:=.row 7 (s_1++(W3 l k)).length (AO AF.c (s_1++(W3 l k))) 68
def HY (l:(List AC)):Nat->List AF->Int->AP
 | 0,_,_=>default
 | n0+1,s_1,k=>bif decide ((k:Int)<(l.length:Int)) then ((HY l n0) (s_1++[AF.mk 1 (l.getD k.toNat default) (Z1i l k) (AC.mk 0 0)]) (k+1)) else (AP.mk 2 s_1 0)
def O8 (l:(List AC)):AP:=HY l (((l.length:Int)-0).toNat+1) ([]:List AF) 0
def mP:CT:=(92,[.one (lst 2 AC.c l)],.val [] (.av (.agg (AP.c (O8 l)))))
abbrev Lg:Nat×Tv:=(0,tO (lst 2 AC.c l))
abbrev Ta:List (Nat×Tv):=[(Lg l),(2,tP 2 0),(3,tP 3 0),(4,tI 0)]
theorem pLoop (l:(List AC)) (h0:(l.length:Int)<=1000000):PuP 92 (mP l).2.1 (.av (.agg (AP.c (O8 l)))):=by
 refine pwf Tryz.func92 fun W0 M0 => ?_
 refine AB<|rn ⟨[(Lg l),(2,tP 2 0)],[(2,Z1f)]⟩<|AB ?_
 refine rn ⟨[(Lg l),(2,tP 2 0),(3,tP 3 0)],[(2,Z1f),(3,.cells [.i 2,vN,.i 0] 28)]⟩ ?_
 refine AB<|AB ?_
 refine rn ⟨(Ta l),[(2,Z1f),(3,.cells [.i 2,vN,.i 0] 28)]⟩<|AR ?_
 refine BS (Cv.trans (wg (⟨(Ta l),[(100000,.row 7 0 (fun _ _=>default) 68),(2,Z1f),(3,.cells [.i 2,.own 100000 7 0,.i 0] 28)]⟩) 100000 7 (fun _ _=>default) 68 [] [(3,[1])] hk0) (Cv.trans (BM (⟨(Ta l),[(100000,Z1g),(2,Z1f),(3,Z1h)]⟩) lr (.cons ⟨rfl,Am 68 (Cb 7 (fun _ _=>default) AF.c)⟩ (.cons ⟨rfl,.refl _⟩ (.cons ⟨rfl,.cells _ (rr (.cons (.own _ _ au2) (rr .nil)))⟩ .nil)))) (Cv.trans (ck (⟨(Ta l),[(2,Z1f),(3,Z1h),(100000,Z1g)]⟩)) (Cv.refl _)))) ?_
 refine BB (ι:=Nat×List AF×Int) (fun x=>⟨[(Lg l),(2,tP 2 0),(3,tP 3 0),(4,tI x.2.2)],[(2,Z1f),(3,.cells [.i 2,.own 100000 7 x.2.1.length,.i 0] 28),(100000,.row 7 x.2.1.length (AO AF.c x.2.1) 68)]⟩) (fun x=>((l.length:Int)-x.2.2).toNat<x.1/\(0<=x.2.2/\(x.2.2<=(l.length:Int)\/x.2.2=0)/\(x.2.1.length:Int)<=0+1*(x.2.2-0))/\HY l x.1 x.2.1 x.2.2=O8 l) (fun x=>x.1) ?_ (((l.length:Int)-0).toNat+1,([]:List AF),0) ⟨Nat.lt_succ_self _,⟨ax0,ax0,ax0⟩,(by simp only [O8,cond_true,cond_false])⟩
 rintro ⟨n0,s_1,k⟩ ⟨hm0,hinv0,hF0⟩
 try dsimp only at hm0 hinv0 hF0
 cases n0 with | zero=>exact nz hm0 | succ n0 => ?_
 refine AB<|AB ?_
 refine rn ⟨[(Lg l),(2,tP 2 0),(3,tP 3 0),(4,tI k),(9,tB (decide ((k:Int)<(l.length:Int))))],[(2,Z1f),(3,.cells [.i 2,.own 100000 7 s_1.length,.i 0] 28),(100000,.row 7 s_1.length (AO AF.c s_1) 68)]⟩ ?_
 refine AV _ rfl (fun h1 => ?_) (fun h1 => ?_)
 ·have g1:=oT h1
  refine AY<|AG ?_
  refine AB<|AR ?_
  refine dw [] [] [0<=(k:Int)/\(k:Int)<((l.length:Nat):Int),((l.length:Int):Int)≠0,0<=(Int.tmod (W64 (k+1)) (l.length:Int):Int)/\(Int.tmod (W64 (k+1)) (l.length:Int):Int)<((l.length:Nat):Int),s_1.length=s_1.length,s_1.length+1<=maxLen,(s_1.length+1)*56<=140737488355328] ⟨[(Lg l),(2,tP 2 0),(3,tP 3 0),(4,tI k)],[(2,Z1f),(3,.cells [.i 2,.own 28 7 (s_1.length+1),.i 0] 28),(28,.row 7 (s_1.length+1) (fun i_ j_=>if i_<s_1.length then (AO AF.c s_1) i_ j_ else (As 7 1 [.i 1,.i (l.getD k.toNat default).X,.i (l.getD k.toNat default).Y,.i (Z1i l k).X,.i (Z1i l k).Y,.i 0,.i 0]) (i_-s_1.length) j_) 68)]⟩ .nil (.cons au0 (.cons au15 (.cons au0 (.cons rfl (.cons au3 (.cons au3 .nil))))))<|BN<|AG ?_
  refine BS (Cv.trans (BM (⟨[(Lg l),(2,tP 2 0),(3,tP 3 0),(4,tI k)],[(2,Z1f),(3,Z1j s_1 l k),(28,Z1k s_1 l k)]⟩) lr (.cons ⟨rfl,.refl _⟩ (.cons ⟨rfl,.cells _ (rr (.cons (.own _ _ au2) (rr .nil)))⟩ (.cons ⟨rfl,Am 68 (BR (BI 7 AF.c s_1) (Aq (c:=AF.c) (xs:=([AF.mk 1 (l.getD k.toNat default) (Z1i l k) (AC.mk 0 0)]:List AF)) rfl kr))⟩ .nil)))) (Cv.refl _)) ?_
  refine rg ⟨[(Lg l),(2,tP 2 0),(3,tP 3 0),(4,tI (W64 (k+1)))],[(2,Z1f),(3,Z1j s_1 l k),(28,Z1k s_1 l k)]⟩ ?_
  (try rw [(show W64 (k+1)=k+1 from Af oM au5)])
  refine AG ?_
  refine ⟨(n0,s_1++[AF.mk 1 (l.getD k.toNat default) (Z1i l k) (AC.mk 0 0)],k+1),⟨?_,?_,(by rw [<- hF0];simp only [HY,h1,cond_true,cond_false])⟩,Nat.lt_succ_self _,Cv.trans (vr 28 100000 hk0) (Ay kr)⟩
  ·show ((l.length:Int)-(k+1)).toNat<n0;omega
  exact ⟨ax0,ax0,ax0⟩
 refine BF<|A3 ?_
 refine A3<|BG ?_
 refine AG<|AB ?_
 refine rn ⟨[(2,tP 2 0)],[(2,.cells [.i 2,.own 100000 7 s_1.length,.i 0] 28),(100000,.row 7 s_1.length (AO AF.c s_1) 68)]⟩<|AW ?_
 exact yl (Cv.trans (vf 100000 7 s_1.length (AO AF.c s_1) 68 hk0 (.cons ⟨rfl,rfl⟩ .nil)) (Cv.refl _)) (.av (.agg [.i 2,lst 7 AF.c s_1,.i 0])) (Aa (by rw [<- hF0];first | (simp only [HY,h1,cond_true,cond_false] <;> rfl)))
theorem vZ (l:(List AC)) (h0:(l.length:Int)<=1000000):OKc (mP l):=cPu<|pLoop l h0
def Z1l:AP:=O8 [AC.mk r.X0 r.Y0,AC.mk r.X1 r.Y0,AC.mk r.X1 r.Y1,AC.mk r.X0 r.Y1]
def FT (r:Ak):AP:=Z1l r
def ML:CT:=(41,[.agg (Ak.c r)],.val [] (.av (.agg (AP.c (FT r)))))
theorem vB (r:Ak):PuP 41 (ML r).2.1 (.av (.agg (AP.c (FT r)))):=by
 refine pwf Tryz.func41 fun W0 M0 => ?_
 refine AB<|rn ⟨Fg,[(1,.cells (Ak.c r) 90),C7]⟩<|AB ?_
 refine rs 24 (ceI [.one (.list true 2 4 (As 2 4 [.i r.X0,.i r.Y0,.i r.X1,.i r.Y0,.i r.X1,.i r.Y1,.i r.X0,.i r.Y1]))] (mP [AC.mk r.X0 r.Y0,AC.mk r.X1 r.Y0,AC.mk r.X1 r.Y1,AC.mk r.X0 r.Y1])) ⟨[(2,tP 2 0)],[(2,.cells (AP.c (Z1l r)) 28)]⟩ (Ct (vZ [AC.mk r.X0 r.Y0,AC.mk r.X1 r.Y0,AC.mk r.X1 r.Y1,AC.mk r.X0 r.Y1] au10) (.cons (.one (BZ true (Aq (c:=AC.c) (xs:=([AC.mk r.X0 r.Y0,AC.mk r.X1 r.Y0,AC.mk r.X1 r.Y1,AC.mk r.X0 r.Y1]:List AC)) rfl kr))) .nil))<|AG<|AW ?_
 exact xl (.av (.agg (AP.c (Z1l r)))) (Aa (by rfl))
theorem UF (r:Ak):OKc (ML r):=cPu<|vB r
def IC (x0:AC) (x1:Int):AP:=AP.mk 1 [AF.mk 1 x0 x0 (AC.mk 0 0)] x1
def Up:CT:=(49,[.agg (AC.c x0),.one (.i x1)],.val [] (.av (.agg (AP.c (IC x0 x1)))))
theorem vL (x0:AC) (x1:Int):PuP 49 (Up x0 x1).2.1 (.av (.agg (AP.c (IC x0 x1)))):=by
 refine pwf Tryz.func49 fun W0 M0 => ?_
 refine AB<|rn ⟨[(1,tI x1),(2,tP 2 0),(4,tP 4 0)],[(2,.cells (AC.c x0) 66),JC]⟩<|AB ?_
 refine rn ⟨[(4,tP 4 0)],[(4,.cells [.i 1,.list true 7 1 (As 7 1 [.i 1,.i x0.X,.i x0.Y,.i x0.X,.i x0.Y,.i 0,.i 0]),.i x1] 28)]⟩<|AW ?_
 exact xl (.av (.agg [.i 1,.list true 7 1 (As 7 1 [.i 1,.i x0.X,.i x0.Y,.i x0.X,.i x0.Y,.i 0,.i 0]),.i x1])) (Du (y:=.av (.agg [.i 1,lst 7 AF.c [AF.mk 1 x0 x0 (AC.mk 0 0)],.i x1])) (.av (.agg (rr (.cons (BZ true (Aq (c:=AF.c) (xs:=([AF.mk 1 x0 x0 (AC.mk 0 0)]:List AF)) rfl kr)) (rr .nil))))) (by rfl))
theorem qI (x0:AC) (x1:Int):OKc (Up x0 x1):=cPu<|vL x0 x1
end
section
open Go.RowKit
def Ah (k:Int):ByteArray:=([({ data := #[80,49] }:ByteArray),({ data := #[80,50] }:ByteArray),({ data := #[80,51] }:ByteArray),({ data := #[80,52] }:ByteArray),({ data := #[80,53] }:ByteArray),({ data := #[80,54] }:ByteArray)]:List ByteArray).getD k.toNat ⟨#[]⟩
variable (a:AC) (b:AH) (x0 b_:AC) (l:List (List Int)) (d:AD) (k:Int) (types:List AQ) (vs:Nat->Value) (x1:AC)
def CX:CT:=(91,[.one (.i k)],.val [] (.av (.one (.s (Ah k)))))
theorem iT (k:Int) (hk:0<=k/\k<6):PuP 91 (CX k).2.1 (tO (.s (Ah k))):=by
 refine pwf Tryz.func91 fun W0 M0 => ?_
 refine AB<|rn ⟨[(0,tI k)],[]⟩<|AB ?_
 refine rc [] [0<=(k:Int)/\(k:Int)<((6:Nat):Int)] ⟨[(2,tO (.s (([({ data := #[80,49] }:ByteArray),({ data := #[80,50] }:ByteArray),({ data := #[80,51] }:ByteArray),({ data := #[80,52] }:ByteArray),({ data := #[80,53] }:ByteArray),({ data := #[80,54] }:ByteArray)]:List ByteArray).getD k.toNat ⟨#[]⟩)))],[]⟩ .nil (.cons au0 .nil)<|AG<|AW ?_
 exact xl (tO (.s (([({ data := #[80,49] }:ByteArray),({ data := #[80,50] }:ByteArray),({ data := #[80,51] }:ByteArray),({ data := #[80,52] }:ByteArray),({ data := #[80,53] }:ByteArray),({ data := #[80,54] }:ByteArray)]:List ByteArray).getD k.toNat ⟨#[]⟩))) (Aa (by rfl))
theorem Eb (k:Int) (hk:0<=k/\k<6):OKc (CX k):=cPu<|iT k hk
def G4 (x0:AE):Ae:=Ae.mk x0.At x0.Turn x0.Under
def Kx (x0:AE):CT:=(145,[.agg (AE.c x0)],.val [] (.av (.agg (Ae.c (G4 x0)))))
theorem cH (x0:AE):PuP 145 (Kx x0).2.1 (.av (.agg (Ae.c (G4 x0)))):=by
 refine pwf Tryz.func145 fun W0 M0 => ?_
 refine AB<|rn ⟨Fg,[(1,.cells (AE.c x0) 78),(2,.cells [.i 0,.i 0,.i 0,.b false] 74)]⟩<|AB ?_
 refine rn ⟨[(2,tP 2 0)],[(2,.cells (TS x0) 74)]⟩<|AW ?_
 exact xl (.av (.agg (TS x0))) (Aa (by rfl))
theorem YL (x0:AE):OKc (Kx x0):=cPu<|cH x0
def E7 (x0:AC) (x1:AC):AF:=AF.mk 1 x0 x1 (AC.mk 0 0)
def DF:CT:=(98,[.agg (AC.c x0),.agg (AC.c x1)],.val [] (.av (.agg (AF.c (E7 x0 x1)))))
abbrev TR:List Cl:=[.i 1,.i x0.X,.i x0.Y,.i x1.X,.i x1.Y,.i 0,.i 0]
abbrev fF:List (Nat×Blk):=[(2,.cells (AC.c x0) 66),(3,.cells (AC.c x1) 66),(4,.cells [.i 0,.i 0,.i 0,.i 0,.i 0,.i 0,.i 0] 68)]
theorem Xy (x0:AC) (x1:AC):PuP 98 (DF x0 x1).2.1 (.av (.agg (AF.c (E7 x0 x1)))):=by
 refine pwf Tryz.func98 fun W0 M0 => ?_
 refine AB<|rn ⟨Lo,(fF x0 x1)⟩<|AB ?_
 refine rn ⟨[(4,tP 4 0)],[(4,.cells (TR x0 x1) 68)]⟩<|AW ?_
 exact xl (.av (.agg (TR x0 x1))) (Aa (by rfl))
theorem GE (x0:AC) (x1:AC):OKc (DF x0 x1):=cPu<|Xy x0 x1
def AX (l:(List (List Int))) (k:Int):(List Int):=bif decide ((k:Int)<(l.length:Int)) then (l.getD k.toNat default) else ([])
def Ed:CT:=(40,[.one (lst 1 (fun x=>[lst 1 eIn x]) l),.one (.i k)],.val [] (.av (.one (lst 1 eIn (AX l k)))))
abbrev oL (l:List (List Int)):Av:=.one (lst 1 (fun x=>[lst 1 (fun x=>[.i x]) x]) l)
theorem pA (l:(List (List Int))) (k:Int) (hk:0<=k):PuP 40 (Ed l k).2.1 (tO (lst 1 eIn (AX l k))):=by
 refine pwf Tryz.func40 fun W0 M0 => ?_
 refine AB<|rn ⟨[(0,.av (oL l)),(1,tI k)],[]⟩ ?_
 refine AB<|AB ?_
 refine rn ⟨[(0,.av (oL l)),(1,tI k),(8,tB (decide ((k:Int)<(l.length:Int))))],[]⟩ ?_
 refine AV _ rfl (fun h1 => ?_) (fun h1 => ?_)
 ·have g1:=oT h1
  refine AB<|rc [] [0<=(k:Int)/\(k:Int)<((l.length:Nat):Int)] ⟨[(4,tO (lst 1 eIn (l.getD k.toNat default)))],[]⟩ .nil (.cons au0 .nil)<|AG ?_
  refine AW<|A7 ?_
  exact xl (tO (lst 1 eIn (l.getD k.toNat default))) (Aa (by simp only [AX,h1,cond_true,cond_false] <;> rfl))
 refine AY<|AG<|AB ?_
 refine rn ⟨[(4,.av (.one vN))],[]⟩<|AW ?_
 exact xl (.av (.one vN)) (Du (y:=tO (lst 1 eIn [])) (.av (.one (Cf 1 eIn))) (by simp only [AX,h1,cond_true,cond_false] <;> rfl))
theorem GF (l:(List (List Int))) (k:Int) (hk:0<=k):OKc (Ed l k):=cPu<|pA l k hk
abbrev Hz:List Av:=[.one (.ptr 1000 0),.one (.i 4)]
abbrev Hx:Blk:=.cells (AD.c d) 117
def Z1m:CT:=(42,(Hz:List Av).map (Bq 1000 1000),wrI 1000 (Hx d) (tI (AA d 4).1) (.cells (AD.c (AA d 4).2) 117))
def Z1n:AF:=E7 a (AC.mk (bif (decide (a.X=b_.X)&&(decide (a.Y=b_.Y)&&true)) then (W64 (b_.X+20)) else b_.X) a.Y)
def Z1o:AF:=E7 (AC.mk (bif (decide (a.X=b_.X)&&(decide (a.Y=b_.Y)&&true)) then (W64 (b_.X+20)) else b_.X) a.Y) (AC.mk (bif (decide (a.X=b_.X)&&(decide (a.Y=b_.Y)&&true)) then (W64 (b_.X+20)) else b_.X) b_.Y)
def Z1p:CT:=(42,([.one (.ptr 1000 0),.one (.i 20)]:List Av).map (Bq 1000 1000),wrI 1000 (.cells (AD.c (AA d 4).2) 117) (tI (AA (AA d 4).2 20).1) (.cells (AD.c (AA (AA d 4).2 20).2) 117))
def Z1q:Blk:=.cells (AD.c (AA (AA d 4).2 20).2) 117
def Z1r:AF:=FE (AC.mk (bif (decide (a.X=b_.X)&&(decide (a.Y=b_.Y)&&true)) then (W64 (b_.X+20)) else b_.X) (W64 (b_.Y+(W64 (5+(AA (AA d 4).2 20).1))))) (W64 (5+(AA (AA d 4).2 20).1)) 3 2
def Z1s:AF:=E7 a (AC.mk (bif (decide (a.X=b_.X)&&(decide (a.Y=b_.Y)&&true)) then (W64 (b_.X+20)) else b_.X) b_.Y)
def Ci (a:AC) (b_:AC) (d:AD):((List AF)×AD):=bif bif bif bif decide ((0:Int)<(AA d 4).1) then decide (((AA d 4).1:Int)<3) else false then !(decide ((bif (decide (a.X=b_.X)&&(decide (a.Y=b_.Y)&&true)) then (W64 (b_.X+20)) else b_.X)=a.X)&&(decide (a.Y=a.Y)&&true)) else false then !(decide ((bif (decide (a.X=b_.X)&&(decide (a.Y=b_.Y)&&true)) then (W64 (b_.X+20)) else b_.X)=(bif (decide (a.X=b_.X)&&(decide (a.Y=b_.Y)&&true)) then (W64 (b_.X+20)) else b_.X))&&(decide (a.Y=b_.Y)&&true)) else false then ([Z1n a b_,Z1o a b_],(AA d 4).2) else (bif decide (((AA d 4).1:Int)=3) then ([Z1s a b_,Z1r a b_ d],(AA (AA d 4).2 20).2) else ([Z1s a b_],(AA d 4).2))
abbrev Fc:Bool:=decide (a.X=b_.X)&&(decide (a.Y=b_.Y)&&true)
abbrev JB:=bif (Fc a b_) then (W64 (b_.X+20)) else b_.X
abbrev gL:Av:=.one (.list true 7 2 (As 7 2 [.i (Z1s a b_).Kind,.i (Z1s a b_).A.X,.i (Z1s a b_).A.Y,.i (Z1s a b_).B.X,.i (Z1s a b_).B.Y,.i (Z1s a b_).C.X,.i (Z1s a b_).C.Y,.i (Z1r a b_ d).Kind,.i (Z1r a b_ d).A.X,.i (Z1r a b_ d).A.Y,.i (Z1r a b_ d).B.X,.i (Z1r a b_ d).B.Y,.i (Z1r a b_ d).C.X,.i (Z1r a b_ d).C.Y]))
abbrev gK:Av:=.one (.list true 7 2 (As 7 2 [.i (Z1n a b_).Kind,.i (Z1n a b_).A.X,.i (Z1n a b_).A.Y,.i (Z1n a b_).B.X,.i (Z1n a b_).B.Y,.i (Z1n a b_).C.X,.i (Z1n a b_).C.Y,.i (Z1o a b_).Kind,.i (Z1o a b_).A.X,.i (Z1o a b_).A.Y,.i (Z1o a b_).B.X,.i (Z1o a b_).B.Y,.i (Z1o a b_).C.X,.i (Z1o a b_).C.Y]))
abbrev G9:Nat×Blk:=(3,.cells (AC.c a) 66)
abbrev KE:Nat×Blk:=(1000,.cells (AD.c d) 117)
abbrev Nj (t_:List (Nat×Tv)):List (Nat×Tv):=(2,tP 1000 0)::(3,tP 3 0)::(4,tP 4 0)::t_
abbrev TT:List (Nat×Tv):=(Nj [])
abbrev P5:Nat×Blk:=(1000,.cells (AD.c (AA d 4).2) 117)
abbrev Ny:Nat×Blk:=(4,.cells [.i (JB a b_),.i b_.Y] 66)
theorem au19 {p:Prop} (h:p:=by repeat (first | assumption | exact Cg (by assumption) | refine BT ?_ | refine Cq ?_ ?_ | refine hKd _ _ ?_ | refine cond_dk _ ?_)):p:=h
theorem au8 {p:Prop} (h:p:=by first | decide | omega | (simp only [Bx];omega)):p:=h
theorem iV  (a:AC) (b_:AC) (d:AD) (hd:Bh d):Wr Tryz.prog 96 1000 [.agg (AC.c a),.agg (AC.c b_),.one (.ptr 1000 0)] (.cells (AD.c d) 117) (tO (lst 7 AF.c (Ci a b_ d).1)) (.cells (AD.c (Ci a b_ d).2) 117):=by
 refine IK Tryz.func96 rfl kr kr kr kr fun W0 M0 X hX => ?_
 refine AB<|rn ⟨TT,[(G9 a),(4,.cells (AC.c b_) 66),(KE d)]⟩ ?_
 refine AB<|AB ?_
 refine rn ⟨(Nj [(13,tB (Fc a b_))]),[(G9 a),(4,.cells (AC.c b_) 66),(KE d)]⟩ ?_
 refine Bd (⟨TT,[(G9 a),(4,.cells [.i (bif (Fc a b_) then (W64 (b_.X+20)) else b_.X),.i b_.Y] 66),(KE d)]⟩) ?_ ?_
 ·refine AV _ rfl (fun h1 => ?_) (fun h1 => ?_)
  ·refine rn ⟨TT,[(G9 a),(4,.cells [.i (W64 (b_.X+20)),.i b_.Y] 66),(KE d)]⟩ ?_
   refine Ay ?_
   first | rfl | (simp only [h1,cond_true,cond_false] <;> rfl)
  refine AY<|AG ?_
  refine Cv.trans (ck (⟨TT,[(G9 a),(4,.cells (AC.c b_) 66),(KE d)]⟩)) (Ay ?_)
  first | rfl | (simp only [h1,cond_true,cond_false] <;> rfl)
 refine AB<|rn ⟨(Nj [(7,tP 7 0)]),[(G9 a),(Ny a b_),(7,.cells [.i (JB a b_),.i a.Y] 66),(KE d)]⟩ ?_
 refine AB<|AB ?_
 refine rb 24 (Z1m d) (Hx d) ⟨(Nj [(7,tP 7 0),(8,tI (AA d 4).1)]),[(G9 a),(Ny a b_),(7,.cells [.i (JB a b_),.i a.Y] 66),(P5 d)]⟩ (cWr (BU d 4 au19 au8))<|AG ?_
 refine AR<|AB ?_
 refine rc [] (t2 (decide ((0:Int)<(AA d 4).1)) (t3 (bif decide ((0:Int)<(AA d 4).1) then decide (((AA d 4).1:Int)<3) else false) (t3 (bif bif decide ((0:Int)<(AA d 4).1) then decide (((AA d 4).1:Int)<3) else false then !(decide ((JB a b_)=a.X)&&(decide (a.Y=a.Y)&&true)) else false) []))) ⟨(Nj [(7,tP 7 0),(8,tI (AA d 4).1),(25,tB (bif bif bif decide ((0:Int)<(AA d 4).1) then decide (((AA d 4).1:Int)<3) else false then !(decide ((bif (decide (a.X=b_.X)&&(decide (a.Y=b_.Y)&&true)) then (W64 (b_.X+20)) else b_.X)=a.X)&&(decide (a.Y=a.Y)&&true)) else false then !(decide ((bif (decide (a.X=b_.X)&&(decide (a.Y=b_.Y)&&true)) then (W64 (b_.X+20)) else b_.X)=(bif (decide (a.X=b_.X)&&(decide (a.Y=b_.Y)&&true)) then (W64 (b_.X+20)) else b_.X))&&(decide (a.Y=b_.Y)&&true)) else false))]),[(G9 a),(Ny a b_),(7,.cells [.i (JB a b_),.i a.Y] 66),(P5 d)]⟩ .nil (c2 (c3 (c3 .nil)))<|AG ?_
 refine AV (bif bif bif decide ((0:Int)<(AA d 4).1) then decide (((AA d 4).1:Int)<3) else false then !(decide ((bif (Fc a b_) then (W64 (b_.X+20)) else b_.X)=a.X)&&(decide (a.Y=a.Y)&&true)) else false then !(decide ((bif (Fc a b_) then (W64 (b_.X+20)) else b_.X)=(bif (Fc a b_) then (W64 (b_.X+20)) else b_.X))&&(decide (a.Y=b_.Y)&&true)) else false) kr (fun h1 => ?_) (fun h1 => ?_)
 ·refine AB<|dw [] [(44,DF a (AC.mk (JB a b_) a.Y)),(47,DF (AC.mk (JB a b_) a.Y) (AC.mk (JB a b_) b_.Y))] [Ap (DF a (AC.mk (bif (Fc a b_) then (W64 (b_.X+20)) else b_.X) a.Y)).2.1,Ap (DF (AC.mk (bif (Fc a b_) then (W64 (b_.X+20)) else b_.X) a.Y) (AC.mk (bif (Fc a b_) then (W64 (b_.X+20)) else b_.X) b_.Y)).2.1] ⟨[(6,.av (gK a b_))],[(P5 d)]⟩ (.cons (GE a (AC.mk (bif (Fc a b_) then (W64 (b_.X+20)) else b_.X) a.Y)) (.cons (GE (AC.mk (bif (Fc a b_) then (W64 (b_.X+20)) else b_.X) a.Y) (AC.mk (bif (Fc a b_) then (W64 (b_.X+20)) else b_.X) b_.Y)) .nil)) (.cons rfl (.cons rfl .nil))<|AG ?_
  refine AW<|Bo<|A7 ?_
  exact xl (.av (gK a b_)) ⟨Du (y:=tO (lst 7 AF.c [Z1n a b_,Z1o a b_])) (.av (.one (BZ true (Aq (c:=AF.c) (xs:=([Z1n a b_,Z1o a b_]:List AF)) rfl kr)))) (by unfold Ci;rw [h1];rfl),.cells (AD.c (AA d 4).2) 117,by kernel_rfl,Dk (by unfold Ci;rw [h1];kernel_rfl)⟩
 refine AB<|rn ⟨(Nj [(49,tB (decide (((AA d 4).1:Int)=3)))]),[(G9 a),(Ny a b_),(P5 d)]⟩ ?_
 refine AV _ rfl (fun h2 => ?_) (fun h2 => ?_)
 ·have g2:=oT h2
  refine AB<|rb 53 (Z1p d) (.cells (AD.c (AA d 4).2) 117) ⟨[(3,tP 3 0),(4,tP 4 0),(9,tI (W64 (5+(AA (AA d 4).2 20).1)))],[(G9 a),(Ny a b_),(1000,Z1q d)]⟩ (cWr (BU (AA d 4).2 20 au19 au8))<|AG<|AB ?_
  refine rs 63 (B8 (AC.mk (bif (Fc a b_) then (W64 (b_.X+20)) else b_.X) (W64 (b_.Y+(W64 (5+(AA (AA d 4).2 20).1))))) (W64 (5+(AA (AA d 4).2 20).1)) 3 2) ⟨[(3,tP 3 0),(4,tP 4 0),(10,tP 10 0)],[(G9 a),(Ny a b_),(10,.cells (AF.c (Z1r a b_ d)) 68),(1000,Z1q d)]⟩ (D6 (AC.mk (bif (Fc a b_) then (W64 (b_.X+20)) else b_.X) (W64 (b_.Y+(W64 (5+(AA (AA d 4).2 20).1))))) (W64 (5+(AA (AA d 4).2 20).1)) 3 2)<|AG<|AB ?_
  refine dw [] [(66,DF a (AC.mk (JB a b_) b_.Y))] [Ap (DF a (AC.mk (bif (Fc a b_) then (W64 (b_.X+20)) else b_.X) b_.Y)).2.1] ⟨[(6,.av (gL a b_ d))],[(1000,Z1q d)]⟩ (.cons (GE a (AC.mk (bif (Fc a b_) then (W64 (b_.X+20)) else b_.X) b_.Y)) .nil) (.cons rfl .nil)<|AG ?_
  refine AW<|Bo<|A7 ?_
  exact xl (.av (gL a b_ d)) ⟨Du (y:=tO (lst 7 AF.c [Z1s a b_,Z1r a b_ d])) (.av (.one (BZ true (Aq (c:=AF.c) (xs:=([Z1s a b_,Z1r a b_ d]:List AF)) rfl kr)))) (by unfold Ci;rw [h1,h2];rfl),.cells (AD.c (AA (AA d 4).2 20).2) 117,by kernel_rfl,Dk (by unfold Ci;rw [h1,h2];kernel_rfl)⟩
 refine AY<|BN ?_
 refine AG<|AB ?_
 refine rs 71 (DF a (AC.mk (bif (Fc a b_) then (W64 (b_.X+20)) else b_.X) b_.Y)) ⟨[(6,.av (.one (.list true 7 1 (As 7 1 (AF.c (Z1s a b_))))))],[(P5 d)]⟩ (GE a (AC.mk (bif (Fc a b_) then (W64 (b_.X+20)) else b_.X) b_.Y))<|AG<|AW ?_
 exact xl (.av (.one (.list true 7 1 (As 7 1 (AF.c (Z1s a b_)))))) ⟨Du (y:=tO (lst 7 AF.c [Z1s a b_])) (.av (.one (BZ true (Aq (c:=AF.c) (xs:=([Z1s a b_]:List AF)) rfl kr)))) (by unfold Ci;rw [h1,h2];rfl),.cells (AD.c (AA d 4).2) 117,by kernel_rfl,Dk (by unfold Ci;rw [h1,h2];kernel_rfl)⟩
def Z1t:CT:=(42,([.one (.ptr 1000 0),.one (.i (b.Nets.length:Int))]:List Av).map (Bq 1000 1001),wrI 1001 (Hx d) (tI (AA d (b.Nets.length:Int)).1) (.cells (AD.c (AA d (b.Nets.length:Int)).2) 117))
def CU (b:AH) (d:AD):(ByteArray×AD):=((b.Nets.getD (AA d (b.Nets.length:Int)).1.toNat default).Name,(AA d (b.Nets.length:Int)).2)
abbrev EQ:List (Nat×Tv):=[(0,tP 1000 0),(1,tP 1001 0)]
abbrev eG:List Cl:=(BE b [.val (vs 6),.val (vs 7),.val (vs 8),.val (vs 9),.val (vs 10),.val (vs 11),.val (vs 12),.val (vs 13),.val (vs 14)])
theorem T4  (b:AH) (d:AD) (vs:Nat->Value) (hd:Bh d) (hn:1<=(b.Nets.length:Int)/\(b.Nets.length:Int)<=1000000):Wr2 Tryz.prog 95 1000 1001 [.one (.ptr 1000 0),.one (.ptr 1001 0)] (.cells [.i b.Layers,.i b.Outline.Kind,lst 7 AF.c b.Outline.Edges,.i b.Outline.R,lst 7 AE.c b.Parts,lst 2 Bf.c b.Nets,.val (vs 6),.val (vs 7),.val (vs 8),.val (vs 9),.val (vs 10),.val (vs 11),.val (vs 12),.val (vs 13),.val (vs 14)] 41) (.cells (AD.c d) 117) (tO (.s (CU b d).1)) (.cells [.i b.Layers,.i b.Outline.Kind,lst 7 AF.c b.Outline.Edges,.i b.Outline.R,lst 7 AE.c b.Parts,lst 2 Bf.c b.Nets,.val (vs 6),.val (vs 7),.val (vs 8),.val (vs 9),.val (vs 10),.val (vs 11),.val (vs 12),.val (vs 13),.val (vs 14)] 41) (.cells (AD.c (CU b d).2) 117):=by
 refine QK Tryz.func95 rfl kr kr kr rfl kr kr kr fun W0 M0 X hX => ?_
 have hnb:=C5 d (b.Nets.length:Int) oM oM
 refine AB<|rn ⟨EQ,[(1000,.cells (eG b vs) 41),(1001,.cells (AD.c d) 117)]⟩<|AB ?_
 refine dw [] [(15,(Z1t b d))] [Ap (Z1t b d).2.1,Bv (Hx d),0<=((AA d (b.Nets.length:Int)).1:Int)/\((AA d (b.Nets.length:Int)).1:Int)<((b.Nets.length:Nat):Int)] ⟨[(4,tO (.s (b.Nets.getD (AA d (b.Nets.length:Int)).1.toNat default).Name))],[(1000,.cells (eG b vs) 41),(1001,.cells (AD.c (AA d (b.Nets.length:Int)).2) 117)]⟩ (.cons (cWr (BU d (b.Nets.length:Int) au19 au8)) .nil) (.cons rfl (.cons rfl (.cons oM .nil)))<|AG<|AW ?_
 exact xl (tO (.s (b.Nets.getD (AA d (b.Nets.length:Int)).1.toNat default).Name)) ⟨Aa (by rfl),⟨.cells (eG b vs) 41,by kernel_rfl,Dk rfl⟩,.cells (AD.c (AA d (b.Nets.length:Int)).2) 117,by kernel_rfl,Dk kr⟩
theorem NH {p q:Prop} [Decidable p] [Decidable q] (h:(bif decide p then decide q else false)=true):q:=by
 by_cases hp:p
 ·rw [decide_eq_true hp] at h;exact oT h
 rw [decide_eq_false hp] at h;cases h
def Pe (b:AH) (types:List AQ):Prop:=∀ k:Int,0<=k->k<(b.Parts.length:Int)->1<=((Ba types (b.Parts.getD k.toNat default).Type').1.Pads.length:Int)
theorem VD {b:AH} {d:AD} (h:(bif decide ((AA d 12).1<8) then decide ((0:Int)<(b.Parts.length:Int)) else false)=true):0<=Int.tmod (AA d 12).1 (b.Parts.length:Int)/\Int.tmod (AA d 12).1 (b.Parts.length:Int)<(b.Parts.length:Int):=M7 (C5 d 12 (by decide) (by decide)).1 (NH h)
theorem Mg {b:AH} {types:List AQ} {d:AD} (hg:Pe b types) (h:(bif decide ((AA d 12).1<8) then decide ((0:Int)<(b.Parts.length:Int)) else false)=true):1<=((Ba types (b.Parts.getD (Int.tmod (AA d 12).1 (b.Parts.length:Int)).toNat default).Type').1.Pads.length:Int):=hg _ (VD h).1 (VD h).2
abbrev sY:List Cl:=[.i b.Layers,.i b.Outline.Kind,lst 7 AF.c b.Outline.Edges,.i b.Outline.R,lst 7 AE.c b.Parts,.any,.any,.any,.any,.any,.any,.any,.any,.any,.any]
def Z1u:Blk:=.cells (sY b) 41
abbrev Wx:List Av:=[.one (.ptr 1000 0),.one (.i 12)]
def Z1v:CT:=(42,(Wx:List Av).map (Bq 1000 1000),wrI 1000 (Hx d) (tI (AA d 12).1) (.cells (AD.c (AA d 12).2) 117))
abbrev QD:List Av:=[.one (.ptr 1000 0),.one (.i 6)]
def Z1w:CT:=(42,(QD:List Av).map (Bq 1000 1000),wrI 1000 (.cells (AD.c (AA d 12).2) 117) (tI (AA (AA d 12).2 6).1) (.cells (AD.c (AA (AA d 12).2 6).2) 117))
def Z1x:Blk:=.cells (AD.c (AA (AA d 12).2 6).2) 117
def Z1y:AE:=b.Parts.getD (Int.tmod (AA d 12).1 (b.Parts.length:Int)).toNat default
def Z1z (types:(List AQ)) (b:AH) (d:AD):AC:=((Ba types (Z1y b d).Type').1.Pads.getD (Int.tmod (AA (AA d 12).2 6).1 ((Ba types (Z1y b d).Type').1.Pads.length:Int)).toNat default).At
def Z1A:AC:=FF (G4 (Z1y b d)) (Z1z types b d)
def Bn (b:AH) (types:(List AQ)) (d:AD):(AC×AD):=bif bif decide (((AA d 12).1:Int)<8) then decide ((0:Int)<(b.Parts.length:Int)) else false then (Z1A b d types,(AA (AA d 12).2 6).2) else (AC.mk (W64 (30+(Int.tmod (W64 (40*(AA d 12).1)) 360))) (W64 (30+(W64 (60*(AA (AA d 12).2 6).1)))),(AA (AA d 12).2 6).2)
abbrev FL:Nat×Blk:=(6,.cells [.i 0,.i 0] 66)
abbrev fN:List Cl:=[.i (W64 (30+(Int.tmod (W64 (40*(AA d 12).1)) 360))),.i (W64 (30+(W64 (60*(AA (AA d 12).2 6).1))))]
theorem Mi  (b:AH) (types:(List AQ)) (d:AD) (hd:Bh d) (hb:(b.Parts.length:Int)<=1000000) (ht:(types.length:Int)<=1000000) (hg:Pe b types):Wr Tryz.prog 97 1000 [.agg [.i b.Layers,.i b.Outline.Kind,lst 7 AF.c b.Outline.Edges,.i b.Outline.R,lst 7 AE.c b.Parts,.any,.any,.any,.any,.any,.any,.any,.any,.any,.any],.one (lst 3 AQ.c types),.one (.ptr 1000 0)] (.cells (AD.c d) 117) (.av (.agg (AC.c (Bn b types d).1))) (.cells (AD.c (Bn b types d).2) 117):=by
 refine IK Tryz.func97 rfl kr kr kr kr fun W0 M0 X hX => ?_
 refine AB<|rn ⟨[(Ep types),(2,tP 1000 0),(3,tP 3 0),(6,tP 6 0)],[(3,Z1u b),FL,(KE d)]⟩<|AB ?_
 refine rb 13 (Z1v d) (Hx d) ⟨[(Ep types),(2,tP 1000 0),(3,tP 3 0),(6,tP 6 0),(7,tI (AA d 12).1)],[(3,Z1u b),FL,(1000,.cells (AD.c (AA d 12).2) 117)]⟩ (cWr (BU d 12 au19 au8))<|AG<|AB ?_
 refine rb 15 (Z1w d) (.cells (AD.c (AA d 12).2) 117) ⟨[(Ep types),(3,tP 3 0),(6,tP 6 0),(7,tI (AA d 12).1),(8,tI (AA (AA d 12).2 6).1)],[(3,Z1u b),FL,(1000,Z1x d)]⟩ (cWr (BU (AA d 12).2 6 au19 au8))<|AG ?_
 refine AB<|AB ?_
 refine rc [] (t4 (decide (((AA d 12).1:Int)<8)) []) ⟨[(Ep types),(3,tP 3 0),(6,tP 6 0),(7,tI (AA d 12).1),(8,tI (AA (AA d 12).2 6).1),(23,tB (bif decide (((AA d 12).1:Int)<8) then decide ((0:Int)<(b.Parts.length:Int)) else false))],[(3,Z1u b),FL,(1000,Z1x d)]⟩ .nil (c4 .nil)<|AG ?_
 refine AV _ rfl (fun h1 => ?_) (fun h1 => ?_)
 ·have g1:=Pd h1
  refine AB<|dw [] [] [((b.Parts.length:Int):Int)≠0,0<=(Int.tmod (AA d 12).1 (b.Parts.length:Int):Int)/\(Int.tmod (AA d 12).1 (b.Parts.length:Int):Int)<((b.Parts.length:Nat):Int)] ⟨[(Ep types),(6,tP 6 0),(8,tI (AA (AA d 12).2 6).1),(9,tP 9 0)],[FL,(9,.cells (AE.c (Z1y b d)) 78),(1000,Z1x d)]⟩ .nil (.cons (by first | decide | (have hq:=NH h1;omega) | (have hq:=Mg hg h1;show ¬ ((Ba types (b.Parts.getD (Int.tmod (AA d 12).1 (b.Parts.length:Int)).toNat default).Type').1.Pads.length:Int)=0;omega)) (.cons (by first | exact VD h1 | exact M7 (C5 _ 6 (by decide) (by decide)).1 (by have hq:=Mg hg h1;show (0:Int)<((Ba types (b.Parts.getD (Int.tmod (AA d 12).1 (b.Parts.length:Int)).toNat default).Type').1.Pads.length:Int);omega) | decide | omega) .nil))<|AG<|AB ?_
  refine rs 37 (OY types (Z1y b d).Type') ⟨[(6,tP 6 0),(8,tI (AA (AA d 12).2 6).1),(9,tP 9 0),(10,tP 10 0)],[FL,(9,.cells (AE.c (Z1y b d)) 78),(10,.cells (AQ.c (Ba types (Z1y b d).Type').1) 82),(1000,Z1x d)]⟩ (UG types (Z1y b d).Type' au10)<|AG<|AB ?_
  refine dw [] [(41,Kx (Z1y b d)),(52,FA (G4 (Z1y b d)) (Z1z types b d))] [Ap (Kx (Z1y b d)).2.1,(((Ba types (Z1y b d).Type').1.Pads.length:Int):Int)≠0,0<=(Int.tmod (AA (AA d 12).2 6).1 ((Ba types (Z1y b d).Type').1.Pads.length:Int):Int)/\(Int.tmod (AA (AA d 12).2 6).1 ((Ba types (Z1y b d).Type').1.Pads.length:Int):Int)<(((Ba types (Z1y b d).Type').1.Pads.length:Nat):Int),Ap (FA (G4 (Z1y b d)) (Z1z types b d)).2.1] ⟨[(6,tP 6 0)],[(6,.cells (AC.c (Z1A b d types)) 66),(1000,Z1x d)]⟩ (.cons (YL (Z1y b d)) (.cons (JK (G4 (Z1y b d)) (Z1z types b d)) .nil)) (.cons rfl (.cons (by first | decide | (have hq:=NH h1;omega) | (have hq:=Mg hg h1;show ¬ ((Ba types (b.Parts.getD (Int.tmod (AA d 12).1 (b.Parts.length:Int)).toNat default).Type').1.Pads.length:Int)=0;omega)) (.cons (by first | exact VD h1 | exact M7 (C5 _ 6 (by decide) (by decide)).1 (by have hq:=Mg hg h1;show (0:Int)<((Ba types (b.Parts.getD (Int.tmod (AA d 12).1 (b.Parts.length:Int)).toNat default).Type').1.Pads.length:Int);omega) | decide | omega) (.cons rfl .nil))))<|AG ?_
  refine AW<|A7 ?_
  exact xl (.av (.agg (AC.c (Z1A b d types)))) ⟨Aa (by simp only [Bn,h1,cond_true,cond_false] <;> rfl),.cells (AD.c (AA (AA d 12).2 6).2) 117,by kernel_rfl,Dk (by first | (simp only [Bn,h1,cond_true,cond_false];done) | (simp only [Bn,h1,cond_true,cond_false];kernel_rfl))⟩
 refine AY<|AG<|AB ?_
 refine rc [] [(360:Int)≠0] ⟨[(6,tP 6 0)],[(6,.cells (fN d) 66),(1000,Z1x d)]⟩ .nil (.cons (by first | decide | (have hq:=NH h1;omega) | (have hq:=Mg hg h1;show ¬ ((Ba types (b.Parts.getD (Int.tmod (AA d 12).1 (b.Parts.length:Int)).toNat default).Type').1.Pads.length:Int)=0;omega)) .nil)<|AG<|AW ?_
 exact xl (.av (.agg (fN d))) ⟨Aa (by simp only [Bn,h1,cond_true,cond_false] <;> rfl),.cells (AD.c (AA (AA d 12).2 6).2) 117,by kernel_rfl,Dk (by first | (simp only [Bn,h1,cond_true,cond_false];done) | (simp only [Bn,h1,cond_true,cond_false];kernel_rfl))⟩
theorem Dx {α:Type} {c:Bool} {a b:α×AD} (ha:Bh a.2) (hb:Bh b.2):Bh (bif c then a else b).2:=by cases c <;> assumption
theorem Ek {b:AH} {d:AD} (h:Bh d):Bh (CU b d).2:=BT h
theorem DG {a c:AC} {d:AD} (h:Bh d):Bh (Ci a c d).2:=by
 unfold Ci
 exact Dx (BT h) (Dx (BT (BT h)) (BT h))
theorem Ds {b:AH} {types:List AQ} {d:AD} (h:Bh d):Bh (Bn b types d).2:=by
 unfold Bn
 exact Dx (BT (BT h)) (BT (BT h))
theorem DW {l:List (List Int)} (hl:∀ x∈l,(x.length:Int)<=9223372036854775807) (k:Int):((AX l k).length:Int)<=9223372036854775807:=by
 unfold AX
 by_cases h:k<(l.length:Int)
 ·rw [decide_eq_true h]
  simp only [cond_true]
  by_cases hk:k.toNat<l.length
  ·rw [List.getD_eq_getElem?_getD,List.getElem?_eq_getElem hk]
   exact hl _ (List.getElem_mem _)
  rw [List.getD_eq_getElem?_getD,List.getElem?_eq_none oM]
  decide
 rw [decide_eq_false h]
 exact Int.le_of_lt (by decide:((([]:List Int).length:Nat):Int)<9223372036854775807)
theorem UQ {v:Int} {d:AD} {n:Int} (h:v<(AA d n).1) (h0:0<n) (h1:n<=1000000):v<n:=by
 have:=C5 d n h0 (by omega)
 omega
end
section
open Go.RowKit
variable (b:AH) (AN:List Ab) (Ac:List A4) (types:List AQ) (Aj:List Be) (v12:Int) (l:List (List Int)) (v6' v6 v6'':AD)
def Z1B:Tv:=.av (oL l)
abbrev Xc:List Cl:=(BE b [vN,vN,vN,vN,vN,vN,vN,vN,vN])
def Z1C:Blk:=.cells (Xc b) 41
abbrev Oi:List Cl:=(BE b [lst 6 Ab.c [],lst 8 A4.c [],lst 8 Be.c [],lst 5 C8.c [],lst 4 Ar.c [],lst 2 Cj.c [],lst 20 BD.c [],lst 3 CQ.c [],lst 3 Dz.c []])
abbrev Hf:=AH.mk b.Layers b.Outline b.Parts b.Nets [] [] [] [] [] [] [] [] []
abbrev QE:List Av:=[.one (.ptr 1000 0),.one (.ptr 1001 0)]
def Z1D:CT:=(95,(QE:List Av).map (Fd 1000 1000 1001 22),wqV 1000 22 [6,7,8,9,10,11,12,13,14] (Oi b) 41 (.cells [lst 1 eIn (AX l 4),.i 0] 117) (.av (.one (.s (CU (Hf b) (AD.mk (AX l 4) 0)).1))) (.cells (AD.c (CU (Hf b) (AD.mk (AX l 4) 0)).2) 117))
abbrev Z1E:AD:=(CU (AH.mk b.Layers b.Outline b.Parts b.Nets [] [] [] [] [] [] [] [] []) (AD.mk (AX l 4) 0)).2
def Z1F:Tv:=.av (.one (.s (CU (Hf b) (AD.mk (AX l 4) 0)).1))
def Z1G:CT:=(42,(QD:List Av).map (Bq 1000 22),wrI 22 (.cells (AD.c (Z1E b l)) 117) (tI (AA (Z1E b l) 6).1) (.cells (AD.c (AA (Z1E b l) 6).2) 117))
def Z1H:Blk:=.cells (AD.c (AA (Z1E b l) 6).2) 117
abbrev E8:List Av:=[.one (.ptr 1000 0),.one (.i 3)]
def Z1I:CT:=(42,(E8:List Av).map (Bq 1000 75),wrI 75 (.cells [lst 1 eIn (AX l 5),.i 0] 117) (tI (AA (AD.mk (AX l 5) 0) 3).1) (.cells (AD.c (AA (AD.mk (AX l 5) 0) 3).2) 117))
def Z1J:Tv:=tI (AA (AD.mk (AX l 5) 0) 3).1
def Z1K:Blk:=.cells (AD.c (AA (AD.mk (AX l 5) 0) 3).2) 117
abbrev LY:=AA (AD.mk (AX l 6) 0) 3
def Z1L:CT:=(42,(E8:List Av).map (Bq 1000 189),wrI 189 (.cells [lst 1 eIn (AX l 6),.i 0] 117) (tI (LY l).1) (.cells (AD.c (LY l).2) 117))
def Z1M:Blk:=.cells (AD.c (LY l).2) 117
abbrev LE:=AH.mk b.Layers b.Outline b.Parts [] [] [] [] [] [] [] [] [] []
abbrev P8:List Av:=[.agg (sY b),.one (Gl types),.one (.ptr 1000 0)]
def Z1N:CT:=(97,((P8 b types):List Av).map (Bq 1000 189),wrI 189 (.cells (AD.c (LY l).2) 117) (.av (.agg (AC.c (Bn (LE b) types (LY l).2).1))) (.cells (AD.c (Bn (LE b) types (LY l).2).2) 117))
abbrev Z1O:AD:=(Bn (AH.mk b.Layers b.Outline b.Parts [] [] [] [] [] [] [] [] [] []) types (AA (AD.mk (AX l 6) 0) 3).2).2
def Z1P:AC:=(Bn (AH.mk b.Layers b.Outline b.Parts [] [] [] [] [] [] [] [] [] []) types (AA (AD.mk (AX l 6) 0) 3).2).1
def Z1Q:CT:=(42,(E8:List Av).map (Bq 1000 189),wrI 189 (.cells (AD.c (Z1O b types l)) 117) (tI (AA (Z1O b types l) 3).1) (.cells (AD.c (AA (Z1O b types l) 3).2) 117))
def Z1R:AP:=FT (Ak.mk (Z1P b types l).X (Z1P b types l).Y (W64 ((Z1P b types l).X+30)) (W64 ((Z1P b types l).Y+20)))
abbrev Z1S (l:(List (List Int))) (b:AH) (types:(List AQ)):AD:=bif decide (((AA (AD.mk (AX l 6) 0) 3).1:Int)=0) then (AA (Z1O b types l) 3).2 else (AA (AD.mk (AX l 6) 0) 3).2
def Z1T (l:(List (List Int))) (b:AH) (types:(List AQ)):(List C8):=bif decide (((AA (AD.mk (AX l 6) 0) 3).1:Int)=0) then [C8.mk 41 (AA (Z1O b types l) 3).1 (Z1R b types l)] else []
def Z1U (l:(List (List Int))) (b:AH) (types:(List AQ)):CT:=(42,(E8:List Av).map (Bq 1000 189),wrI 189 (.cells (AD.c (Z1S l b types)) 117) (tI (AA (Z1S l b types) 3).1) (.cells (AD.c (AA (Z1S l b types) 3).2) 117))
def Z1V (l:(List (List Int))) (b:AH) (types:(List AQ)):Tv:=tB (decide (((AA (Z1S l b types) 3).1:Int)=0))
def Z1W (l:(List (List Int))) (b:AH) (types:(List AQ)):Blk:=.cells (AD.c (AA (Z1S l b types) 3).2) 117
def Z1X:CT:=(97,((P8 b types):List Av).map (Bq 1000 189),wrI 189 (.cells (AD.c (AA (Z1S l b types) 3).2) 117) (.av (.agg (AC.c (Bn (LE b) types (AA (Z1S l b types) 3).2).1))) (.cells (AD.c (Bn (LE b) types (AA (Z1S l b types) 3).2).2) 117))
abbrev Z1Y:AD:=(Bn (AH.mk b.Layers b.Outline b.Parts [] [] [] [] [] [] [] [] [] []) types (AA (Z1S l b types) 3).2).2
def Z1Z:AC:=(Bn (AH.mk b.Layers b.Outline b.Parts [] [] [] [] [] [] [] [] [] []) types (AA (Z1S l b types) 3).2).1
def Z20:CT:=(42,(Hz:List Av).map (Bq 1000 189),wrI 189 (.cells (AD.c (Z1Y b types l)) 117) (tI (AA (Z1Y b types l) 4).1) (.cells (AD.c (AA (Z1Y b types l) 4).2) 117))
def Z21:AF:=E7 (Z1Z b types l) (AC.mk (W64 ((Z1Z b types l).X+25)) (W64 ((Z1Z b types l).Y+10)))
def Z22:Blk:=.row 8 ([]:List Be).length (AO Be.c ([]:List Be)) 97
def Z23:Blk:=.row 8 Aj.length (AO Be.c Aj) 97
def Z24:Blk:=.row 8 ([]:List A4).length (AO A4.c ([]:List A4)) 133
def Z25:Blk:=.row 8 Ac.length (AO A4.c Ac) 133
def Z26:Blk:=.row 6 ([]:List Ab).length (AO Ab.c ([]:List Ab)) 131
def Z27:Blk:=.cells (BE b [.own 100000 6 ([]:List Ab).length,vN,vN,vN,vN,vN,vN,vN,vN]) 41
abbrev U5:List Cl:=(BE b [.own 100000 6 AN.length,vN,vN,vN,vN,vN,vN,vN,vN])
def Z28:Blk:=.cells (U5 b AN) 41
def Z29:Blk:=.row 6 AN.length (AO Ab.c AN) 131
abbrev IE:List Av:=[.one (.ptr 1000 0),.one (.i 2)]
def Z2a:CT:=(42,(IE:List Av).map (Bq 1000 22),wrI 22 (.cells (AD.c v6) 117) (tI (AA v6 2).1) (.cells (AD.c (AA v6 2).2) 117))
abbrev Iz:=AA (AA v6 2).2 4
def Z2b:CT:=(42,(Hz:List Av).map (Bq 1000 22),wrI 22 (.cells (AD.c (AA v6 2).2) 117) (tI (Iz v6).1) (.cells (AD.c (Iz v6).2) 117))
def Z2c:CT:=(97,((P8 b types):List Av).map (Bq 1000 22),wrI 22 (.cells (AD.c (Iz v6).2) 117) (.av (.agg (AC.c (Bn (LE b) types (Iz v6).2).1))) (.cells (AD.c (Bn (LE b) types (Iz v6).2).2) 117))
abbrev Z2d:AD:=(Bn (AH.mk b.Layers b.Outline b.Parts [] [] [] [] [] [] [] [] [] []) types (AA (AA v6 2).2 4).2).2
def Z2e:AC:=(Bn (AH.mk b.Layers b.Outline b.Parts [] [] [] [] [] [] [] [] [] []) types (AA (AA v6 2).2 4).2).1
def Z2f:CT:=(97,((P8 b types):List Av).map (Bq 1000 22),wrI 22 (.cells (AD.c (Z2d b types v6)) 117) (.av (.agg (AC.c (Bn (LE b) types (Z2d b types v6)).1))) (.cells (AD.c (Bn (LE b) types (Z2d b types v6)).2) 117))
abbrev Z2g:AD:=(Bn (AH.mk b.Layers b.Outline b.Parts [] [] [] [] [] [] [] [] [] []) types (Z2d b types v6)).2
def Z2h:AC:=(Bn (AH.mk b.Layers b.Outline b.Parts [] [] [] [] [] [] [] [] [] []) types (Z2d b types v6)).1
abbrev N4:=Ci (Z2e b types v6) (Z2h b types v6) (Z2g b types v6)
def Z2i:CT:=(96,([.agg (AC.c (Z2e b types v6)),.agg (AC.c (Z2h b types v6)),.one (.ptr 1000 0)]:List Av).map (Bq 1000 22),wrI 22 (.cells (AD.c (Z2g b types v6)) 117) (.av (.one (lst 7 AF.c (N4 b types v6).1))) (.cells (AD.c (N4 b types v6).2) 117))
abbrev Z2j:AD:=(Ci (Z2e b types v6) (Z2h b types v6) (Z2g b types v6)).2
abbrev eF (v9:Int) (v7:ByteArray) (v6:AD) (b:AH) (types:List AQ):=[Ab.mk (W64 (11+v9)) v7 (W64 (1+(AA v6 2).1)) (AP.mk 1 (N4 b types v6).1 (W64 (3+(Iz v6).1)))]
def Z2k (AN:List Ab) (v9:Int) (v7:ByteArray) (v6:AD) (b:AH) (types:(List AQ)):Blk:=.row 6 (AN++(eF v9 v7 v6 b types)).length (AO Ab.c (AN++(eF v9 v7 v6 b types))) 131
abbrev eI (b:AH) (AN:List Ab) (v9:Int) (v7:ByteArray) (v6:AD) (types:List AQ):List Cl:=(BE b [.own 66 6 (AN++(eF v9 v7 v6 b types)).length,vN,vN,vN,vN,vN,vN,vN,vN])
def Z2l (b:AH) (AN:List Ab) (v9:Int) (v7:ByteArray) (v6:AD) (types:(List AQ)):Blk:=.cells (eI b AN v9 v7 v6 types) 41
def Z2m:CT:=(95,(QE:List Av).map (Fd 1000 1000 1001 22),wqV 1000 22 [6,7,8,9,10,11,12,13,14] (Oi b) 41 (.cells (AD.c (Z2j b types v6)) 117) (.av (.one (.s (CU (Hf b) (Z2j b types v6)).1))) (.cells (AD.c (CU (Hf b) (Z2j b types v6)).2) 117))
abbrev Z2n:AD:=(CU (AH.mk b.Layers b.Outline b.Parts b.Nets [] [] [] [] [] [] [] [] []) (Z2j b types v6)).2
def Z2o:Tv:=.av (.one (.s (CU (Hf b) (Z2j b types v6)).1))
def Z2p:Blk:=.cells (AD.c (Z2n b types v6)) 117
def Z2q:CT:=(95,(QE:List Av).map (Fd 1000 1000 1001 75),wqV 1000 75 [6,7,8,9,10,11,12,13,14] (Oi b) 41 (.cells (AD.c v6') 117) (.av (.one (.s (CU (Hf b) v6').1))) (.cells (AD.c (CU (Hf b) v6').2) 117))
abbrev Z2r:AD:=(CU (AH.mk b.Layers b.Outline b.Parts b.Nets [] [] [] [] [] [] [] [] []) v6').2
def Z2s:CT:=(97,((P8 b types):List Av).map (Bq 1000 75),wrI 75 (.cells (AD.c (Z2r b v6')) 117) (.av (.agg (AC.c (Bn (LE b) types (Z2r b v6')).1))) (.cells (AD.c (Bn (LE b) types (Z2r b v6')).2) 117))
abbrev Z2t:AD:=(Bn (AH.mk b.Layers b.Outline b.Parts [] [] [] [] [] [] [] [] [] []) types (Z2r b v6')).2
def Z2u:AC:=(Bn (AH.mk b.Layers b.Outline b.Parts [] [] [] [] [] [] [] [] [] []) types (Z2r b v6')).1
abbrev Lm:List Av:=[.one (.ptr 1000 0),.one (.i 5)]
def Z2v:CT:=(42,(Lm:List Av).map (Bq 1000 75),wrI 75 (.cells (AD.c (Z2t b types v6')) 117) (tI (AA (Z2t b types v6') 5).1) (.cells (AD.c (AA (Z2t b types v6') 5).2) 117))
def Z2w:CT:=(42,(E8:List Av).map (Bq 1000 75),wrI 75 (.cells (AD.c (AA (Z2t b types v6') 5).2) 117) (tI (AA (AA (Z2t b types v6') 5).2 3).1) (.cells (AD.c (AA (AA (Z2t b types v6') 5).2 3).2) 117))
abbrev Z2x:AD:=(AA (AA (Z2t b types v6') 5).2 3).2
def Z2y:Blk:=.cells (AD.c (Z2x b types v6')) 117
abbrev Tm (v11:Int) (b:AH) (v6':AD) (types:List AQ):=[A4.mk (W64 (21+v11)) (CU (Hf b) v6').1 (Z2u b types v6') (W64 (6+(AA (Z2t b types v6') 5).1)) (W64 (4+(W64 (2*(AA (AA (Z2t b types v6') 5).2 3).1)))) 1 2]
def Z2z (Ac:List A4) (v11:Int) (b:AH) (v6':AD) (types:(List AQ)):Blk:=.row 8 (Ac++(Tm v11 b v6' types)).length (AO A4.c (Ac++(Tm v11 b v6' types))) 133
def Z2A (b:AH) (AN:List Ab) (Ac:List A4) (v11:Int) (v6':AD) (types:(List AQ)):Blk:=.cells (BE b [.own 100000 6 AN.length,.own 108 8 (Ac++(Tm v11 b v6' types)).length,vN,vN,vN,vN,vN,vN,vN]) 41
def Z2B:CT:=(42,(E8:List Av).map (Bq 1000 75),wrI 75 (.cells (AD.c v6') 117) (tI (AA v6' 3).1) (.cells (AD.c (AA v6' 3).2) 117))
def Z2C:CT:=(42,(Wx:List Av).map (Bq 1000 75),wrI 75 (.cells (AD.c v6'') 117) (tI (AA v6'' 12).1) (.cells (AD.c (AA v6'' 12).2) 117))
abbrev He:=AA (AA v6'' 12).2 12
def Z2D:CT:=(42,(Wx:List Av).map (Bq 1000 75),wrI 75 (.cells (AD.c (AA v6'' 12).2) 117) (tI (He v6'').1) (.cells (AD.c (He v6'').2) 117))
def Z2E:CT:=(42,(QD:List Av).map (Bq 1000 75),wrI 75 (.cells (AD.c (He v6'').2) 117) (tI (AA (He v6'').2 6).1) (.cells (AD.c (AA (He v6'').2 6).2) 117))
abbrev Z2F:AD:=(AA (AA (AA v6'' 12).2 12).2 6).2
def Z2G:CT:=(42,(Lm:List Av).map (Bq 1000 75),wrI 75 (.cells (AD.c (Z2F v6'')) 117) (tI (AA (Z2F v6'') 5).1) (.cells (AD.c (AA (Z2F v6'') 5).2) 117))
abbrev XW:=CU (Hf b) (AA (Z2F v6'') 5).2
def Z2H:CT:=(95,(QE:List Av).map (Fd 1000 1000 1001 75),wqV 1000 75 [6,7,8,9,10,11,12,13,14] (Oi b) 41 (.cells (AD.c (AA (Z2F v6'') 5).2) 117) (.av (.one (.s (XW b v6'').1))) (.cells (AD.c (XW b v6'').2) 117))
abbrev Z2I:AD:=(CU (AH.mk b.Layers b.Outline b.Parts b.Nets [] [] [] [] [] [] [] [] []) (AA (Z2F v6'') 5).2).2
abbrev Iy:=AA (Z2I b v6'') 2
def Z2J:CT:=(42,(IE:List Av).map (Bq 1000 75),wrI 75 (.cells (AD.c (Z2I b v6'')) 117) (tI (Iy b v6'').1) (.cells (AD.c (Iy b v6'').2) 117))
abbrev XS:=AA (Iy b v6'').2 3
def Z2K:CT:=(42,(E8:List Av).map (Bq 1000 75),wrI 75 (.cells (AD.c (Iy b v6'').2) 117) (tI (XS b v6'').1) (.cells (AD.c (XS b v6'').2) 117))
abbrev Z2L:AD:=(AA (AA (Z2I b v6'') 2).2 3).2
abbrev Iw:=AA (Z2L b v6'') 2
def Z2M:CT:=(42,(IE:List Av).map (Bq 1000 75),wrI 75 (.cells (AD.c (Z2L b v6'')) 117) (tI (Iw b v6'').1) (.cells (AD.c (Iw b v6'').2) 117))
abbrev XR:=AA (Iw b v6'').2 4
def Z2N:CT:=(42,(Hz:List Av).map (Bq 1000 75),wrI 75 (.cells (AD.c (Iw b v6'').2) 117) (tI (XR b v6'').1) (.cells (AD.c (XR b v6'').2) 117))
abbrev Z2O:AD:=(AA (AA (Z2L b v6'') 2).2 4).2
abbrev I3:=AA (Z2O b v6'') 6
def Z2P:CT:=(42,(QD:List Av).map (Bq 1000 75),wrI 75 (.cells (AD.c (Z2O b v6'')) 117) (tI (I3 b v6'').1) (.cells (AD.c (I3 b v6'').2) 117))
abbrev Nh:=[Ak.mk (AA v6'' 12).1 (He v6'').1 (W64 ((W64 ((AA v6'' 12).1+1))+(AA (He v6'').2 6).1)) (W64 ((W64 ((He v6'').1+1))+(AA (Z2F v6'') 5).1))]
abbrev Pp (v12:Int) (b:AH) (v6'':AD) (t_:List Cl):List Cl:=(.i (W64 (31+v12)))::(.s (XW b v6'').1)::(.i (W64 (1+(Iy b v6'').1)))::(.i (W64 (20+(W64 (5*(XS b v6'').1)))))::(.i (Iw b v6'').1)::(.i (([0,0,5,9]:List Int).getD (XR b v6'').1.toNat 0))::(.i (W64 (4+(I3 b v6'').1)))::t_
def Z2Q (v12:Int) (b:AH) (v6'':AD):Blk:=.cells (Pp v12 b v6'' [.own 158 4 ((Nh v6'').length)]) 97
def Z2R:Blk:=.row 4 ((Nh v6'').length) (AO Ak.c (Nh v6'')) 90
def Z2S:CT:=(42,(E8:List Av).map (Bq 1000 75),wrI 75 (.cells (AD.c (I3 b v6'').2) 117) (tI (AA (I3 b v6'').2 3).1) (.cells (AD.c (AA (I3 b v6'').2 3).2) 117))
abbrev Z2T:AD:=(AA (AA (Z2O b v6'') 6).2 3).2
def Z2U:Blk:=.cells (AD.c (Z2T b v6'')) 117
abbrev Ti:=[Ak.mk (W64 ((AA v6'' 12).1-2)) (He v6'').1 (W64 ((AA v6'' 12).1+1)) (W64 ((He v6'').1+2))]
def Z2V:Blk:=.row 4 ((Nh v6'')++(Ti v6'')).length (AO Ak.c ((Nh v6'')++(Ti v6''))) 90
def Z2W:(List Ak):=bif decide (((AA (AA (Z2O b v6'') 6).2 3).1:Int)=0) then ([Ak.mk (AA v6'' 12).1 (AA (AA v6'' 12).2 12).1 (W64 ((W64 ((AA v6'' 12).1+1))+(AA (AA (AA v6'' 12).2 12).2 6).1)) (W64 ((W64 ((AA (AA v6'' 12).2 12).1+1))+(AA (Z2F v6'') 5).1))]++[Ak.mk (W64 ((AA v6'' 12).1-2)) (AA (AA v6'' 12).2 12).1 (W64 ((AA v6'' 12).1+1)) (W64 ((AA (AA v6'' 12).2 12).1+2))]) else [Ak.mk (AA v6'' 12).1 (AA (AA v6'' 12).2 12).1 (W64 ((W64 ((AA v6'' 12).1+1))+(AA (AA (AA v6'' 12).2 12).2 6).1)) (W64 ((W64 ((AA (AA v6'' 12).2 12).1+1))+(AA (Z2F v6'') 5).1))]
abbrev Tq (v12:Int) (b:AH) (v6'':AD):=[Be.mk (W64 (31+v12)) (XW b v6'').1 (W64 (1+(Iy b v6'').1)) (W64 (20+(W64 (5*(XS b v6'').1)))) (Iw b v6'').1 (([0,0,5,9]:List Int).getD (XR b v6'').1.toNat 0) (W64 (4+(I3 b v6'').1)) (Z2W b v6'')]
def Z2X (Aj:List Be) (v12:Int) (b:AH) (v6'':AD):Blk:=.row 8 (Aj++(Tq v12 b v6'')).length (AO Be.c (Aj++(Tq v12 b v6''))) 97
def Z2Y (b:AH) (AN:List Ab) (v9:Int) (v7:ByteArray) (v6:AD) (types:(List AQ)):Blk:=.cells (BE b [.own 100000 6 (AN++(eF v9 v7 v6 b types)).length,vN,vN,vN,vN,vN,vN,vN,vN]) 41
def Z2Z:Blk:=.cells (BE b [.own 100000 6 AN.length,.own 100001 8 ([]:List A4).length,vN,vN,vN,vN,vN,vN,vN]) 41
abbrev FI (t_:List Cl):List Cl:=(.own 100000 6 AN.length)::(.own 100001 8 Ac.length)::t_
abbrev U7:List Cl:=(BE b (FI AN Ac [vN,vN,vN,vN,vN,vN,vN]))
def Z30:Blk:=.cells (U7 b AN Ac) 41
def Z31:Blk:=.cells (BE b (FI AN Ac [.own 183 8 (Aj++(Tq v12 b v6'')).length,vN,vN,vN,vN,vN,vN])) 41
def Z32 (b:AH) (AN:List Ab) (Ac:List A4) (v11:Int) (v6':AD) (types:(List AQ)):Blk:=.cells (BE b [.own 100000 6 AN.length,.own 100001 8 (Ac++(Tm v11 b v6' types)).length,vN,vN,vN,vN,vN,vN,vN]) 41
def Z33:Blk:=.cells (BE b (FI AN Ac [.own 100002 8 ([]:List Be).length,vN,vN,vN,vN,vN,vN])) 41
abbrev U8:List Cl:=(BE b (FI AN Ac [.own 100002 8 Aj.length,vN,vN,vN,vN,vN,vN]))
def Z34:Blk:=.cells (U8 b AN Ac Aj) 41
abbrev fI (b:AH) (AN:List Ab) (Ac:List A4) (Aj:List Be) (l:List (List Int)) (types:List AQ):List Cl:=(BE b (FI AN Ac [.own 100002 8 Aj.length,lst 5 C8.c (Z1T l b types),vN,vN,vN,vN,vN]))
def Z35 (b:AH) (AN:List Ab) (Ac:List A4) (Aj:List Be) (l:(List (List Int))) (types:(List AQ)):Blk:=.cells (fI b AN Ac Aj l types) 41
def Z36 (v12:Int) (b:AH) (v6'':AD):Blk:=.cells (Pp v12 b v6'' [.own 100003 4 ((Nh v6'')++(Ti v6'')).length]) 97
def Z37 (v12:Int) (b:AH) (v6'':AD):Blk:=.cells (Pp v12 b v6'' [.own 100003 4 ((Nh v6'').length)]) 97
def Z38:Blk:=.cells (BE b (FI AN Ac [.own 100002 8 (Aj++(Tq v12 b v6'')).length,vN,vN,vN,vN,vN,vN])) 41
def B7 (b:AH) (types:(List AQ)) (l:(List (List Int))) (AN:List Ab) (v6:AD) (v7:ByteArray) (v9:Int) (Ac:List A4) (v6':AD) (v11:Int) (K0:List Ab->AD->ByteArray->Int->AH) (K1:List A4->AD->Int->AH):Nat->List Be->AD->Int->AH
 | 0,_,_,_=>default
 | n2+1,Aj,v6'',v12=>bif decide ((v12:Int)<(AA v6' 3).1) then ((B7 b types l AN v6 v7 v9 Ac v6' v11 K0 K1 n2) (Aj++[Be.mk (W64 (31+v12)) (CU (AH.mk b.Layers b.Outline b.Parts b.Nets [] [] [] [] [] [] [] [] []) (AA (Z2F v6'') 5).2).1 (W64 (1+(AA (Z2I b v6'') 2).1)) (W64 (20+(W64 (5*(AA (AA (Z2I b v6'') 2).2 3).1)))) (AA (Z2L b v6'') 2).1 (([0,0,5,9]:List Int).getD (AA (AA (Z2L b v6'') 2).2 4).1.toNat 0) (W64 (4+(AA (Z2O b v6'') 6).1)) (Z2W b v6'')]) (Z2T b v6'') (v12+1)) else (bif decide (((AA (Z1S l b types) 3).1:Int)=0) then (AH.mk b.Layers b.Outline b.Parts b.Nets AN Ac Aj (Z1T l b types) [Ar.mk 51 (AP.mk 1 [Z21 b types l] (W64 (3+(AA (Z1Y b types l) 4).1)))] [] [] [] []) else (AH.mk b.Layers b.Outline b.Parts b.Nets AN Ac Aj (Z1T l b types) [] [] [] [] []))
def CM (b:AH) (types:(List AQ)) (l:(List (List Int))) (AN:List Ab) (v6:AD) (v7:ByteArray) (v9:Int) (K0:List Ab->AD->ByteArray->Int->AH):Nat->List A4->AD->Int->AH
 | 0,_,_,_=>default
 | n1+1,Ac,v6',v11=>bif decide ((v11:Int)<(AA (AD.mk (AX l 5) 0) 3).1) then ((CM b types l AN v6 v7 v9 K0 n1) (Ac++[A4.mk (W64 (21+v11)) (CU (AH.mk b.Layers b.Outline b.Parts b.Nets [] [] [] [] [] [] [] [] []) v6').1 (Z2u b types v6') (W64 (6+(AA (Z2t b types v6') 5).1)) (W64 (4+(W64 (2*(AA (AA (Z2t b types v6') 5).2 3).1)))) 1 2]) (Z2x b types v6') (v11+1)) else (B7 b types l AN v6 v7 v9 Ac v6' v11 K0 (CM b types l AN v6 v7 v9 K0 n1) (((AA v6' 3).1-0).toNat+1) ([]:List Be) (AA v6' 3).2 0)
def B1 (b:AH) (types:(List AQ)) (l:(List (List Int))):Nat->List Ab->AD->ByteArray->Int->AH
 | 0,_,_,_,_=>default
 | n0+1,AN,v6,v7,v9=>bif decide ((v9:Int)<(AA (Z1E b l) 6).1) then ((B1 b types l n0) (AN++[Ab.mk (W64 (11+v9)) v7 (W64 (1+(AA v6 2).1)) (AP.mk 1 (Ci (Z2e b types v6) (Z2h b types v6) (Z2g b types v6)).1 (W64 (3+(AA (AA v6 2).2 4).1)))]) (Z2n b types v6) (CU (AH.mk b.Layers b.Outline b.Parts b.Nets [] [] [] [] [] [] [] [] []) (Z2j b types v6)).1 (v9+1)) else (CM b types l AN v6 v7 v9 (B1 b types l n0) (((AA (AD.mk (AX l 5) 0) 3).1-0).toNat+1) ([]:List A4) (AA (AD.mk (AX l 5) 0) 3).2 0)
def BJ (b:AH) (types:(List AQ)) (l:(List (List Int))):AH:=B1 b types l (((AA (Z1E b l) 6).1-0).toNat+1) ([]:List Ab) (AA (Z1E b l) 6).2 (CU (AH.mk b.Layers b.Outline b.Parts b.Nets [] [] [] [] [] [] [] [] []) (AD.mk (AX l 4) 0)).1 0
abbrev gJ (v12:Int) (b:AH) (v6'':AD):List Cl:=(Pp v12 b v6'' [lst 4 Ak.c (Z2W b v6'')])
abbrev CC (t_:List (Nat×Tv)):List (Nat×Tv):=(0,tP 1000 0)::(Ep types)::(2,Z1B l)::t_
abbrev I9:Nat×Tv:=(8,tI (AA v6' 3).1)
abbrev QH (types:List AQ) (l:List (List Int)) (v6':AD) (v12:Int):List (Nat×Tv):=(CC types l [(6,tP 75 0),(I9 v6'),(12,tI v12),(16,tP 16 0)])
abbrev I5:Nat×Tv:=(8,tI (AA (Z1E b l) 6).1)
abbrev Th (types:List AQ) (l:List (List Int)) (b:AH):List (Nat×Tv):=(CC types l [(6,tP 22 0),(7,Z1F b l),(I5 b l),(9,tI 0)])
abbrev Tb:List (Nat×Tv):=(CC types l [(6,tP 75 0),(8,Z1J l),(11,tI 0)])
abbrev N3:List (Nat×Tv):=[(0,tP 1000 0),(Ep types),(6,tP 189 0)]
abbrev fQ:List Cl:=[.i (AA v6'' 12).1,.i (He v6'').1,.i (W64 ((W64 ((AA v6'' 12).1+1))+(AA (He v6'').2 6).1)),.i (W64 ((W64 ((He v6'').1+1))+(AA (Z2F v6'') 5).1))]
abbrev XH:List Cl:=[.i 51,.i 1,.list true 7 1 (As 7 1 (AF.c (Z21 b types l))),.i (W64 (3+(AA (Z1Y b types l) 4).1))]
abbrev P4:Nat×Blk:=(75,.cells (AD.c (AA v6' 3).2) 117)
abbrev TP:List (Nat×Tv):=(CC types l [(6,tP 75 0),(I9 v6'),(12,tI 0)])
abbrev eO (v12:Int) (b:AH) (v6'':AD) (t_:List Cl):List Cl:=(.i (W64 (31+v12)))::(.s (CU (Hf b) (AA (Z2F v6'') 5).2).1)::(.i (W64 (1+(AA (Z2I b v6'') 2).1)))::(.i (W64 (20+(W64 (5*(AA (AA (Z2I b v6'') 2).2 3).1)))))::(.i (AA (Z2L b v6'') 2).1)::(.i (([0,0,5,9]:List Int).getD (AA (AA (Z2L b v6'') 2).2 4).1.toNat 0))::(.i (W64 (4+(AA (Z2O b v6'') 6).1)))::t_
abbrev Pk (v6':AD) (v12:Int) (v6'':AD) (t_:List (Nat×Tv)):List (Nat×Tv):=(6,tP 75 0)::(I9 v6')::(12,tI v12)::(13,tI (AA v6'' 12).1)::(14,tI (He v6'').1)::t_
theorem au6 {p:Prop} (h:p:=by repeat (first | with_reducible assumption | exact Cg (DW hll _) | with_reducible refine BT ?_ | with_reducible refine Ek ?_ | with_reducible refine Ds ?_ | with_reducible refine DG ?_  | with_reducible refine Cq ?_ ?_)):p:=h
set_option maxHeartbeats 2000000 in
theorem Xz  (b:AH) (types:(List AQ)) (l:(List (List Int))) (hb:(b.Parts.length:Int)<=1000000) (ht:(types.length:Int)<=1000000) (hg:Pe b types) (hn:1<=(b.Nets.length:Int)/\(b.Nets.length:Int)<=1000000) (hl:(l.length:Int)<=9223372036854775807) (hll:∀ x∈l,(x.length:Int)<=9223372036854775807):Wr Tryz.prog 44 1000 [.one (.ptr 1000 0),.one (lst 3 AQ.c types),.one (lst 1 (fun x=>[lst 1 eIn x]) l)] (.cells [.i b.Layers,.i b.Outline.Kind,lst 7 AF.c b.Outline.Edges,.i b.Outline.R,lst 7 AE.c b.Parts,lst 2 Bf.c b.Nets,vN,vN,vN,vN,vN,vN,vN,vN,vN] 41) (.tup []) (.cells [.i (BJ b types l).Layers,.i (BJ b types l).Outline.Kind,lst 7 AF.c (BJ b types l).Outline.Edges,.i (BJ b types l).Outline.R,lst 7 AE.c (BJ b types l).Parts,lst 2 Bf.c (BJ b types l).Nets,lst 6 Ab.c (BJ b types l).Tracks,lst 8 A4.c (BJ b types l).Vias,lst 8 Be.c (BJ b types l).Pours,lst 5 C8.c (BJ b types l).Keeps,lst 4 Ar.c (BJ b types l).Slots,vN,vN,vN,vN] 41):=by
 refine IK Tryz.func44 rfl kr kr kr kr fun W0 M0 X hX => ?_
 refine AB<|rs 20 (Ed l 4) ⟨(CC types l [(6,tP 22 0)]),[(22,.cells [lst 1 eIn (AX l 4),.i 0] 117),(1000,Z1C b)]⟩ (GF l 4 au10)<|AG<|AB ?_
 refine rc [(25,(Z1D b l))] [Ap (Z1D b l).2.1,Blk.cells (Xc b) 41=Blk.cells (Rh [6,7,8,9,10,11,12,13,14] 0 (Xc b) (Oi b)) 41,Bv (.cells [lst 1 eIn (AX l 4),.i 0] 117)] ⟨(CC types l [(6,tP 22 0),(7,Z1F b l)]),[(22,.cells (AD.c (Z1E b l)) 117),(1000,Z1C b)]⟩ (.cons (Jd (B0:=fun vs=>(BE b [.val (vs 6),.val (vs 7),.val (vs 8),.val (vs 9),.val (vs 10),.val (vs 11),.val (vs 12),.val (vs 13),.val (vs 14)])) (fun _ _=>kr) kr rfl rfl kr (fun vs=>by kernel_rfl) (fun vs=>by kernel_rfl) (fun vs=>T4 (AH.mk b.Layers b.Outline b.Parts b.Nets [] [] [] [] [] [] [] [] []) (AD.mk (AX l 4) 0) vs au6 oM)) .nil) (.cons rfl (.cons rfl (.cons rfl .nil)))<|AG<|AB ?_
 refine rb 27 (Z1G b l) (.cells (AD.c (Z1E b l)) 117) ⟨(CC types l [(6,tP 22 0),(7,Z1F b l),(I5 b l)]),[(22,Z1H b l),(1000,Z1C b)]⟩ (cWr (BU (Z1E b l) 6 au6 au8))<|AG ?_
 refine AB<|AB ?_
 refine rn ⟨(Th types l b),[(22,Z1H b l),(1000,Z1C b)]⟩<|AR ?_
 refine BS (Cv.trans (wg (⟨(Th types l b),[(100000,.row 6 0 (fun _ _=>default) 131),(22,Z1H b l),(1000,.cells (BE b [.own 100000 6 0,vN,vN,vN,vN,vN,vN,vN,vN]) 41)]⟩) 100000 6 (fun _ _=>default) 131 [] [(1000,[6])] (K:=[1000]) hX) (Cv.trans (BM (⟨(Th types l b),[(100000,Z26),(22,Z1H b l),(1000,Z27 b)]⟩) lr (.cons ⟨rfl,Am 131 (Cb 6 (fun _ _=>default) Ab.c)⟩ (.cons ⟨rfl,.refl _⟩ (.cons ⟨rfl,.cells _ (rr5 (rr (.cons (.own _ _ au2) (rr (rr (rr (rr (rr (rr (rr (rr .nil)))))))))))⟩ .nil)))) (Cv.trans (ck (⟨(Th types l b),[(22,Z1H b l),(1000,Z27 b),(100000,Z26)]⟩)) (Cv.refl _)))) ?_
 refine BB (ι:=Nat×List Ab×AD×ByteArray×Int) (fun x=>⟨(CC types l [(6,tP 22 0),(7,tO (.s x.2.2.2.1)),(I5 b l),(9,tI x.2.2.2.2)]),[(22,.cells (AD.c x.2.2.1) 117),(1000,.cells (BE b [.own 100000 6 x.2.1.length,vN,vN,vN,vN,vN,vN,vN,vN]) 41),(100000,.row 6 x.2.1.length (AO Ab.c x.2.1) 131)]⟩) (fun x=>((AA (Z1E b l) 6).1-x.2.2.2.2).toNat<x.1/\(Bh x.2.2.1/\0<=x.2.2.2.2/\(x.2.2.2.2<=(AA (Z1E b l) 6).1\/x.2.2.2.2=0)/\(x.2.1.length:Int)<=0+1*(x.2.2.2.2-0))/\B1 b types l x.1 x.2.1 x.2.2.1 x.2.2.2.1 x.2.2.2.2=BJ b types l) (fun x=>x.1) ?_ (((AA (Z1E b l) 6).1-0).toNat+1,([]:List Ab),(AA (Z1E b l) 6).2,(CU (AH.mk b.Layers b.Outline b.Parts b.Nets [] [] [] [] [] [] [] [] []) (AD.mk (AX l 4) 0)).1,0) ⟨Nat.lt_succ_self _,⟨(by show Bh ((AA (Z1E b l) 6).2);repeat (first | with_reducible assumption | exact Cg (DW hll _) | with_reducible refine BT ?_ | with_reducible refine Ek ?_ | with_reducible refine Ds ?_ | with_reducible refine DG ?_  | with_reducible refine Cq ?_ ?_)),ax0,ax0,ax0⟩,(by simp only [BJ,cond_true,cond_false])⟩
 rintro ⟨n0,AN,v6,v7,v9⟩ ⟨hm0,hinv0,hF0⟩
 try dsimp only at hm0 hinv0 hF0
 cases n0 with | zero=>exact nz hm0 | succ n0 => ?_
 have hi0_0:=hinv0.1
 refine AB<|AB ?_
 refine rn ⟨(CC types l [(6,tP 22 0),(7,tO (.s v7)),(I5 b l),(9,tI v9),(30,tB (decide ((v9:Int)<(AA (Z1E b l) 6).1)))]),[(22,.cells (AD.c v6) 117),(1000,Z28 b AN),(100000,Z29 AN)]⟩ ?_
 refine AV _ rfl (fun h1 => ?_) (fun h1 => ?_)
 ·have g1:=oT h1
  have k1:=UQ g1 (by decide) (by decide)
  refine AY<|AG ?_
  refine AB<|AR<|AB ?_
  refine rb 37 (Z2a v6) (.cells (AD.c v6) 117) ⟨(CC types l [(6,tP 22 0),(I5 b l),(9,tI v9),(10,tP 10 0)]),[(10,.cells [.i (W64 (11+v9)),.s v7,.i (W64 (1+(AA v6 2).1)),.i 0,vN,.i 0] 131),(22,.cells (AD.c (AA v6 2).2) 117),(1000,Z28 b AN),(100000,Z29 AN)]⟩ (cWr (BU v6 2 au6 au8))<|AG<|AB ?_
  refine dw [] [(41,(Z2b v6)),(48,ceI [.agg (U5 b AN),.one (Gl types),.one (.ptr 22 0)] (Z2c b types v6)),(54,ceI [.agg (U5 b AN),.one (Gl types),.one (.ptr 22 0)] (Z2f b types v6)),(56,(Z2i b types v6))] [Ap (Z2b v6).2.1,Bv (.cells (AD.c (AA v6 2).2) 117),Ap (ceI [.agg (U5 b AN),.one (lst 3 AQ.c types),.one (.ptr 22 0)] (Z2c b types v6)).2.1,Bv (.cells (AD.c (AA (AA v6 2).2 4).2) 117),Ap (ceI [.agg (U5 b AN),.one (lst 3 AQ.c types),.one (.ptr 22 0)] (Z2f b types v6)).2.1,Bv (.cells (AD.c (Z2d b types v6)) 117),Ap (Z2i b types v6).2.1,Bv (.cells (AD.c (Z2g b types v6)) 117)] ⟨(CC types l [(6,tP 22 0),(I5 b l),(9,tI v9),(10,tP 10 0)]),[(10,.cells [.i (W64 (11+v9)),.s v7,.i (W64 (1+(AA v6 2).1)),.i 1,lst 7 AF.c (N4 b types v6).1,.i (W64 (3+(Iz v6).1))] 131),(22,.cells (AD.c (Z2j b types v6)) 117),(1000,Z28 b AN),(100000,Z29 AN)]⟩ (.cons (cWr (BU (AA v6 2).2 4 au6 au8)) (.cons (Ct (cWr (Mi (AH.mk b.Layers b.Outline b.Parts [] [] [] [] [] [] [] [] [] []) types (AA (AA v6 2).2 4).2 au6 oM oM (by assumption))) (.cons (.agg (rr5 (.cons (.any _) (.cons (.any _) (.cons (.any _) (.cons (.any _) (.cons (.any _) (.cons (.any _) (.cons (.any _) (.cons (.any _) (.cons (.any _) (.cons (.any _) .nil)))))))))))) (.cons (AvE.refl _) (.cons (AvE.refl _) .nil)))) (.cons (Ct (cWr (Mi (AH.mk b.Layers b.Outline b.Parts [] [] [] [] [] [] [] [] [] []) types (Z2d b types v6) au6 oM oM (by assumption))) (.cons (.agg (rr5 (.cons (.any _) (.cons (.any _) (.cons (.any _) (.cons (.any _) (.cons (.any _) (.cons (.any _) (.cons (.any _) (.cons (.any _) (.cons (.any _) (.cons (.any _) .nil)))))))))))) (.cons (AvE.refl _) (.cons (AvE.refl _) .nil)))) (.cons (cWr (iV (Z2e b types v6) (Z2h b types v6) (Z2g b types v6) au6)) .nil)))) (.cons rfl (.cons rfl (.cons rfl (.cons rfl (.cons rfl (.cons rfl (.cons rfl (.cons rfl .nil))))))))<|AG<|AB ?_
  refine dw [] [] [AN.length=AN.length,AN.length+1<=maxLen,(AN.length+1)*72<=140737488355328] ⟨(CC types l [(6,tP 22 0),(I5 b l),(9,tI v9)]),[(22,.cells (AD.c (Z2j b types v6)) 117),(66,.row 6 (AN.length+1) (fun i_ j_=>if i_<AN.length then (AO Ab.c AN) i_ j_ else (As 6 1 [.i (W64 (11+v9)),.s v7,.i (W64 (1+(AA v6 2).1)),.i 1,lst 7 AF.c (N4 b types v6).1,.i (W64 (3+(Iz v6).1))]) (i_-AN.length) j_) 131),(1000,.cells (BE b [.own 66 6 (AN.length+1),vN,vN,vN,vN,vN,vN,vN,vN]) 41)]⟩ .nil (.cons rfl (.cons au3 (.cons au3 .nil)))<|AG ?_
  refine BS (Cv.trans (BM (⟨(CC types l [(6,tP 22 0),(I5 b l),(9,tI v9)]),[(22,.cells (AD.c (Z2j b types v6)) 117),(66,Z2k AN v9 v7 v6 b types),(1000,Z2l b AN v9 v7 v6 types)]⟩) lr (.cons ⟨rfl,.refl _⟩ (.cons ⟨rfl,Am 131 (BR (BI 6 Ab.c AN) (Aq (c:=Ab.c) (xs:=([Ab.mk (W64 (11+v9)) v7 (W64 (1+(AA v6 2).1)) (AP.mk 1 (Ci (Z2e b types v6) (Z2h b types v6) (Z2g b types v6)).1 (W64 (3+(AA (AA v6 2).2 4).1)))]:List Ab)) rfl kr))⟩ (.cons ⟨rfl,.cells _ (rr5 (rr (.cons (.own _ _ au2) (rr (rr (rr (rr (rr (rr (rr (rr .nil)))))))))))⟩ .nil)))) (Cv.refl _)) ?_
  refine rc [(71,(Z2m b types v6))] [Ap (Z2m b types v6).2.1,Blk.cells (eI b AN v9 v7 v6 types) 41=Blk.cells (Rh [6,7,8,9,10,11,12,13,14] 0 (eI b AN v9 v7 v6 types) (Oi b)) 41,Bv (.cells (AD.c (Z2j b types v6)) 117)] ⟨(CC types l [(6,tP 22 0),(7,Z2o b types v6),(I5 b l),(9,tI v9)]),[(22,Z2p b types v6),(66,Z2k AN v9 v7 v6 b types),(1000,Z2l b AN v9 v7 v6 types)]⟩ (.cons (Jd (B0:=fun vs=>(BE b [.val (vs 6),.val (vs 7),.val (vs 8),.val (vs 9),.val (vs 10),.val (vs 11),.val (vs 12),.val (vs 13),.val (vs 14)])) (fun _ _=>kr) kr rfl rfl kr (fun vs=>by kernel_rfl) (fun vs=>by kernel_rfl) (fun vs=>T4 (AH.mk b.Layers b.Outline b.Parts b.Nets [] [] [] [] [] [] [] [] []) (Z2j b types v6) vs au6 oM)) .nil) (.cons rfl (.cons rfl (.cons rfl .nil)))<|BN<|AG ?_
  refine rg ⟨(CC types l [(6,tP 22 0),(7,Z2o b types v6),(I5 b l),(9,tI (W64 (v9+1)))]),[(22,Z2p b types v6),(66,Z2k AN v9 v7 v6 b types),(1000,Z2l b AN v9 v7 v6 types)]⟩ ?_
  (try rw [(show W64 (v9+1)=v9+1 from Af oM au5)])
  refine AG ?_
  refine ⟨(n0,AN++[Ab.mk (W64 (11+v9)) v7 (W64 (1+(AA v6 2).1)) (AP.mk 1 (Ci (Z2e b types v6) (Z2h b types v6) (Z2g b types v6)).1 (W64 (3+(AA (AA v6 2).2 4).1)))],Z2n b types v6,(CU (AH.mk b.Layers b.Outline b.Parts b.Nets [] [] [] [] [] [] [] [] []) (Z2j b types v6)).1,v9+1),⟨?_,?_,(by rw [<- hF0];simp only [B1,h1,cond_true,cond_false])⟩,Nat.lt_succ_self _,Cv.trans (vr 66 100000 (K:=[1000]) hX) (Cv.trans (vk [0,1,2,6,7,8,9] [22,1000,100000]) (Ay kr))⟩
  ·show ((AA (Z1E b l) 6).1-(v9+1)).toNat<n0;omega
  exact ⟨(by show Bh (Z2n b types v6);repeat (first | with_reducible assumption | exact Cg (DW hll _) | with_reducible refine BT ?_ | with_reducible refine Ek ?_ | with_reducible refine Ds ?_ | with_reducible refine DG ?_  | with_reducible refine Cq ?_ ?_)),ax0,ax0,ax0⟩
 have g1:=oF h1
 refine BF<|A3 ?_
 refine A3<|BG ?_
 refine AG<|AB ?_
 refine rs 73 (Ed l 5) ⟨(CC types l [(6,tP 75 0)]),[(75,.cells [lst 1 eIn (AX l 5),.i 0] 117),(1000,Z28 b AN),(100000,Z29 AN)]⟩ (GF l 5 au10)<|AG<|AB ?_
 refine rb 77 (Z1I l) (.cells [lst 1 eIn (AX l 5),.i 0] 117) ⟨(CC types l [(6,tP 75 0),(8,Z1J l)]),[(75,Z1K l),(1000,Z28 b AN),(100000,Z29 AN)]⟩ (cWr (BU (AD.mk (AX l 5) 0) 3 au6 au8))<|AG ?_
 refine AB<|AB ?_
 refine rn ⟨(Tb types l),[(75,Z1K l),(1000,Z28 b AN),(100000,Z29 AN)]⟩<|AR ?_
 refine BS (Cv.trans (wg (⟨(Tb types l),[(100001,.row 8 0 (fun _ _=>default) 133),(75,Z1K l),(1000,.cells (BE b [.own 100000 6 AN.length,.own 100001 8 0,vN,vN,vN,vN,vN,vN,vN]) 41),(100000,Z29 AN)]⟩) 100001 8 (fun _ _=>default) 133 [] [(1000,[7])] (K:=[1000]) hX) (Cv.trans (BM (⟨(Tb types l),[(100001,Z24),(75,Z1K l),(1000,Z2Z b AN),(100000,Z29 AN)]⟩) lr (.cons ⟨rfl,Am 133 (Cb 8 (fun _ _=>default) A4.c)⟩ (.cons ⟨rfl,.refl _⟩ (.cons ⟨rfl,.cells _ (rr5 (rr2 (.cons (.own _ _ au2) (rr (rr (rr (rr (rr (rr (rr .nil))))))))))⟩ lr)))) (Cv.trans (ck (⟨(Tb types l),[(75,Z1K l),(1000,Z2Z b AN),(100000,Z29 AN),(100001,Z24)]⟩)) (Cv.refl _)))) ?_
 refine BB (ι:=Nat×List A4×AD×Int) (fun x=>⟨(CC types l [(6,tP 75 0),(8,Z1J l),(11,tI x.2.2.2)]),[(75,.cells (AD.c x.2.2.1) 117),(1000,.cells (BE b [.own 100000 6 AN.length,.own 100001 8 x.2.1.length,vN,vN,vN,vN,vN,vN,vN]) 41),(100000,Z29 AN),(100001,.row 8 x.2.1.length (AO A4.c x.2.1) 133)]⟩) (fun x=>((AA (AD.mk (AX l 5) 0) 3).1-x.2.2.2).toNat<x.1/\(Bh x.2.2.1/\0<=x.2.2.2/\(x.2.2.2<=(AA (AD.mk (AX l 5) 0) 3).1\/x.2.2.2=0)/\(x.2.1.length:Int)<=0+1*(x.2.2.2-0))/\CM b types l AN v6 v7 v9 (B1 b types l n0) x.1 x.2.1 x.2.2.1 x.2.2.2=BJ b types l) (fun x=>x.1) ?_ (((AA (AD.mk (AX l 5) 0) 3).1-0).toNat+1,([]:List A4),(AA (AD.mk (AX l 5) 0) 3).2,0) ⟨Nat.lt_succ_self _,⟨(by show Bh ((AA (AD.mk (AX l 5) 0) 3).2);repeat (first | with_reducible assumption | exact Cg (DW hll _) | with_reducible refine BT ?_ | with_reducible refine Ek ?_ | with_reducible refine Ds ?_ | with_reducible refine DG ?_  | with_reducible refine Cq ?_ ?_)),ax0,ax0,ax0⟩,(by rw [<- hF0];simp only [B1,h1,cond_true,cond_false])⟩
 rintro ⟨n1,Ac,v6',v11⟩ ⟨hm1,hinv1,hF1⟩
 try dsimp only at hm1 hinv1 hF1
 cases n1 with | zero=>exact nz hm1 | succ n1 => ?_
 have hi1_0:=hinv1.1
 refine AB<|AB ?_
 refine rn ⟨(CC types l [(6,tP 75 0),(8,Z1J l),(11,tI v11),(80,tB (decide ((v11:Int)<(AA (AD.mk (AX l 5) 0) 3).1)))]),[(75,.cells (AD.c v6') 117),(1000,Z30 b AN Ac),(100000,Z29 AN),(100001,Z25 Ac)]⟩ ?_
 refine AV _ rfl (fun h2 => ?_) (fun h2 => ?_)
 ·have g2:=oT h2
  have k2:=UQ g2 (by decide) (by decide)
  refine AY<|AG ?_
  refine AB<|AR ?_
  refine dw [] [(92,(Z2q b v6')),(98,ceI [.agg (U7 b AN Ac),.one (Gl types),.one (.ptr 75 0)] (Z2s b types v6')),(100,(Z2v b types v6')),(103,(Z2w b types v6'))] [Ap (Z2q b v6').2.1,Blk.cells (U7 b AN Ac) 41=Blk.cells (Rh [6,7,8,9,10,11,12,13,14] 0 (U7 b AN Ac) (Oi b)) 41,Bv (.cells (AD.c v6') 117),Ap (ceI [.agg (U7 b AN Ac),.one (lst 3 AQ.c types),.one (.ptr 75 0)] (Z2s b types v6')).2.1,Bv (.cells (AD.c (Z2r b v6')) 117),Ap (Z2v b types v6').2.1,Bv (.cells (AD.c (Z2t b types v6')) 117),Ap (Z2w b types v6').2.1,Bv (.cells (AD.c (AA (Z2t b types v6') 5).2) 117),Ac.length=Ac.length,Ac.length+1<=maxLen,(Ac.length+1)*72<=140737488355328] ⟨(CC types l [(6,tP 75 0),(8,Z1J l),(11,tI v11)]),[(75,Z2y b types v6'),(108,.row 8 (Ac.length+1) (fun i_ j_=>if i_<Ac.length then (AO A4.c Ac) i_ j_ else (As 8 1 [.i (W64 (21+v11)),.s (CU (Hf b) v6').1,.i (Z2u b types v6').X,.i (Z2u b types v6').Y,.i (W64 (6+(AA (Z2t b types v6') 5).1)),.i (W64 (4+(W64 (2*(AA (AA (Z2t b types v6') 5).2 3).1)))),.i 1,.i 2]) (i_-Ac.length) j_) 133),(1000,.cells (BE b [.own 100000 6 AN.length,.own 108 8 (Ac.length+1),vN,vN,vN,vN,vN,vN,vN]) 41),(100000,Z29 AN)]⟩ (.cons (Jd (B0:=fun vs=>(BE b [.val (vs 6),.val (vs 7),.val (vs 8),.val (vs 9),.val (vs 10),.val (vs 11),.val (vs 12),.val (vs 13),.val (vs 14)])) (fun _ _=>kr) kr rfl rfl kr (fun vs=>by kernel_rfl) (fun vs=>by kernel_rfl) (fun vs=>T4 (AH.mk b.Layers b.Outline b.Parts b.Nets [] [] [] [] [] [] [] [] []) v6' vs au6 oM)) (.cons (Ct (cWr (Mi (AH.mk b.Layers b.Outline b.Parts [] [] [] [] [] [] [] [] [] []) types (Z2r b v6') au6 oM oM (by assumption))) (.cons (.agg (rr5 (.cons (.any _) (.cons (.any _) (.cons (.any _) (.cons (.any _) (.cons (.any _) (.cons (.any _) (.cons (.any _) (.cons (.any _) (.cons (.any _) (.cons (.any _) .nil)))))))))))) (.cons (AvE.refl _) (.cons (AvE.refl _) .nil)))) (.cons (cWr (BU (Z2t b types v6') 5 au6 au8)) (.cons (cWr (BU (AA (Z2t b types v6') 5).2 3 au6 au8)) .nil)))) (.cons rfl (.cons rfl (.cons rfl (.cons rfl (.cons rfl (.cons rfl (.cons rfl (.cons rfl (.cons rfl (.cons rfl (.cons au3 (.cons au3 .nil))))))))))))<|BN<|AG ?_
  refine BS (Cv.trans (BM (⟨(CC types l [(6,tP 75 0),(8,Z1J l),(11,tI v11)]),[(75,Z2y b types v6'),(108,Z2z Ac v11 b v6' types),(1000,Z2A b AN Ac v11 v6' types),(100000,Z29 AN)]⟩) lr (.cons ⟨rfl,.refl _⟩ (.cons ⟨rfl,Am 133 (BR (BI 8 A4.c Ac) (Aq (c:=A4.c) (xs:=([A4.mk (W64 (21+v11)) (CU (AH.mk b.Layers b.Outline b.Parts b.Nets [] [] [] [] [] [] [] [] []) v6').1 (Z2u b types v6') (W64 (6+(AA (Z2t b types v6') 5).1)) (W64 (4+(W64 (2*(AA (AA (Z2t b types v6') 5).2 3).1)))) 1 2]:List A4)) rfl kr))⟩ (.cons ⟨rfl,.cells _ (rr5 (rr2 (.cons (.own _ _ au2) (rr (rr (rr (rr (rr (rr (rr .nil))))))))))⟩ lr)))) (Cv.refl _)) ?_
  refine rg ⟨(CC types l [(6,tP 75 0),(8,Z1J l),(11,tI (W64 (v11+1)))]),[(75,Z2y b types v6'),(108,Z2z Ac v11 b v6' types),(1000,Z2A b AN Ac v11 v6' types),(100000,Z29 AN)]⟩ ?_
  (try rw [(show W64 (v11+1)=v11+1 from Af oM au5)])
  refine AG ?_
  refine ⟨(n1,Ac++[A4.mk (W64 (21+v11)) (CU (AH.mk b.Layers b.Outline b.Parts b.Nets [] [] [] [] [] [] [] [] []) v6').1 (Z2u b types v6') (W64 (6+(AA (Z2t b types v6') 5).1)) (W64 (4+(W64 (2*(AA (AA (Z2t b types v6') 5).2 3).1)))) 1 2],Z2x b types v6',v11+1),⟨?_,?_,(by rw [<- hF1];simp only [CM,h2,cond_true,cond_false])⟩,Nat.lt_succ_self _,Cv.trans (vr 108 100001 (K:=[1000]) hX) (Cv.trans (vk [0,1,2,6,8,11] [75,1000,100000,100001]) (Ay kr))⟩
  ·show ((AA (AD.mk (AX l 5) 0) 3).1-(v11+1)).toNat<n1;omega
  exact ⟨(by show Bh (Z2x b types v6');repeat (first | with_reducible assumption | exact Cg (DW hll _) | with_reducible refine BT ?_ | with_reducible refine Ek ?_ | with_reducible refine Ds ?_ | with_reducible refine DG ?_  | with_reducible refine Cq ?_ ?_)),ax0,ax0,ax0⟩
 have g2:=oF h2
 refine BF<|A3 ?_
 refine A3<|BG ?_
 refine AG<|AB ?_
 refine rb 112 (Z2B v6') (.cells (AD.c v6') 117) ⟨(CC types l [(6,tP 75 0),(I9 v6')]),[(P4 v6'),(1000,Z30 b AN Ac),(100000,Z29 AN),(100001,Z25 Ac)]⟩ (cWr (BU v6' 3 au6 au8))<|AG ?_
 refine AB<|AB ?_
 refine rn ⟨(TP types l v6'),[(P4 v6'),(1000,Z30 b AN Ac),(100000,Z29 AN),(100001,Z25 Ac)]⟩<|AR ?_
 refine BS (Cv.trans (wg (⟨(TP types l v6'),[(100002,.row 8 0 (fun _ _=>default) 97),(P4 v6'),(1000,.cells (BE b (FI AN Ac [.own 100002 8 0,vN,vN,vN,vN,vN,vN])) 41),(100000,Z29 AN),(100001,Z25 Ac)]⟩) 100002 8 (fun _ _=>default) 97 [] [(1000,[8])] (K:=[1000]) hX) (Cv.trans (BM (⟨(TP types l v6'),[(100002,Z22),(P4 v6'),(1000,Z33 b AN Ac),(100000,Z29 AN),(100001,Z25 Ac)]⟩) lr (.cons ⟨rfl,Am 97 (Cb 8 (fun _ _=>default) Be.c)⟩ (.cons ⟨rfl,.refl _⟩ (.cons ⟨rfl,.cells _ (rr5 (rr3 (.cons (.own _ _ au2) (rr (rr (rr (rr (rr (rr .nil)))))))))⟩ lr)))) (Cv.trans (ck (⟨(TP types l v6'),[(P4 v6'),(1000,Z33 b AN Ac),(100000,Z29 AN),(100001,Z25 Ac),(100002,Z22)]⟩)) (Cv.refl _)))) ?_
 refine BB (ι:=Nat×List Be×AD×Int) (fun x=>⟨(CC types l [(6,tP 75 0),(I9 v6'),(12,tI x.2.2.2)]),[(75,.cells (AD.c x.2.2.1) 117),(1000,.cells (BE b (FI AN Ac [.own 100002 8 x.2.1.length,vN,vN,vN,vN,vN,vN])) 41),(100000,Z29 AN),(100001,Z25 Ac),(100002,.row 8 x.2.1.length (AO Be.c x.2.1) 97)]⟩) (fun x=>((AA v6' 3).1-x.2.2.2).toNat<x.1/\(Bh x.2.2.1/\0<=x.2.2.2/\(x.2.2.2<=(AA v6' 3).1\/x.2.2.2=0)/\(x.2.1.length:Int)<=0+1*(x.2.2.2-0))/\B7 b types l AN v6 v7 v9 Ac v6' v11 (B1 b types l n0) (CM b types l AN v6 v7 v9 (B1 b types l n0) n1) x.1 x.2.1 x.2.2.1 x.2.2.2=BJ b types l) (fun x=>x.1) ?_ (((AA v6' 3).1-0).toNat+1,([]:List Be),(AA v6' 3).2,0) ⟨Nat.lt_succ_self _,⟨(by show Bh ((AA v6' 3).2);repeat (first | with_reducible assumption | exact Cg (DW hll _) | with_reducible refine BT ?_ | with_reducible refine Ek ?_ | with_reducible refine Ds ?_ | with_reducible refine DG ?_  | with_reducible refine Cq ?_ ?_)),ax0,ax0,ax0⟩,(by rw [<- hF1];simp only [CM,h2,cond_true,cond_false])⟩
 rintro ⟨n2,Aj,v6'',v12⟩ ⟨hm2,hinv2,hF2⟩
 try dsimp only at hm2 hinv2 hF2
 cases n2 with | zero=>exact nz hm2 | succ n2 => ?_
 have hi2_0:=hinv2.1
 refine AB<|AB ?_
 refine rn ⟨(CC types l [(6,tP 75 0),(I9 v6'),(12,tI v12),(115,tB (decide ((v12:Int)<(AA v6' 3).1)))]),[(75,.cells (AD.c v6'') 117),(1000,Z34 b AN Ac Aj),(100000,Z29 AN),(100001,Z25 Ac),(100002,Z23 Aj)]⟩ ?_
 refine AV _ rfl (fun h3 => ?_) (fun h3 => ?_)
 ·have g3:=oT h3
  have k3:=UQ g3 (by decide) (by decide)
  refine AY<|AG ?_
  refine AB<|AR<|AB ?_
  refine rc [(119,(Z2C v6'')),(121,(Z2D v6''))] [Ap (Z2C v6'').2.1,Bv (.cells (AD.c v6'') 117),Ap (Z2D v6'').2.1,Bv (.cells (AD.c (AA v6'' 12).2) 117)] ⟨(CC types l (Pk v6' v12 v6'' [])),[(75,.cells (AD.c (He v6'').2) 117),(1000,Z34 b AN Ac Aj),(100000,Z29 AN),(100001,Z25 Ac),(100002,Z23 Aj)]⟩ (.cons (cWr (BU v6'' 12 au6 au8)) (.cons (cWr (BU (AA v6'' 12).2 12 au6 au8)) .nil)) (.cons rfl (.cons rfl (.cons rfl (.cons rfl .nil))))<|AG<|AB ?_
  refine rc [(127,(Z2E v6'')),(132,(Z2G v6''))] [Ap (Z2E v6'').2.1,Bv (.cells (AD.c (AA (AA v6'' 12).2 12).2) 117),Ap (Z2G v6'').2.1,Bv (.cells (AD.c (Z2F v6'')) 117)] ⟨(CC types l (Pk v6' v12 v6'' [(15,tP 15 0)])),[(15,.cells (fQ v6'') 90),(75,.cells (AD.c (AA (Z2F v6'') 5).2) 117),(1000,Z34 b AN Ac Aj),(100000,Z29 AN),(100001,Z25 Ac),(100002,Z23 Aj)]⟩ (.cons (cWr (BU (AA (AA v6'' 12).2 12).2 6 au6 au8)) (.cons (cWr (BU (Z2F v6'') 5 au6 au8)) .nil)) (.cons rfl (.cons rfl (.cons rfl (.cons rfl .nil))))<|AG<|AB ?_
  refine dw [158] [(139,(Z2H b v6'')),(141,(Z2J b v6'')),(144,(Z2K b v6'')),(148,(Z2M b v6'')),(151,(Z2N b v6'')),(155,(Z2P b v6''))] [Ap (Z2H b v6'').2.1,Blk.cells (U8 b AN Ac Aj) 41=Blk.cells (Rh [6,7,8,9,10,11,12,13,14] 0 (U8 b AN Ac Aj) (Oi b)) 41,Bv (.cells (AD.c (AA (Z2F v6'') 5).2) 117),Ap (Z2J b v6'').2.1,Bv (.cells (AD.c (Z2I b v6'')) 117),Ap (Z2K b v6'').2.1,Bv (.cells (AD.c (AA (Z2I b v6'') 2).2) 117),Ap (Z2M b v6'').2.1,Bv (.cells (AD.c (Z2L b v6'')) 117),Ap (Z2N b v6'').2.1,Bv (.cells (AD.c (AA (Z2L b v6'') 2).2) 117),0<=((AA (AA (Z2L b v6'') 2).2 4).1:Int)/\((AA (AA (Z2L b v6'') 2).2 4).1:Int)<((4:Nat):Int),Ap (Z2P b v6'').2.1,Bv (.cells (AD.c (Z2O b v6'')) 117)] ⟨(CC types l (Pk v6' v12 v6'' [(16,tP 16 0)])),[(16,.cells (Pp v12 b v6'' [.own 158 4 1]) 97),(75,.cells (AD.c (I3 b v6'').2) 117),(158,.row 4 1 (As 4 1 (fQ v6'')) 90),(1000,Z34 b AN Ac Aj),(100000,Z29 AN),(100001,Z25 Ac),(100002,Z23 Aj)]⟩ (.cons (Jd (B0:=fun vs=>(BE b [.val (vs 6),.val (vs 7),.val (vs 8),.val (vs 9),.val (vs 10),.val (vs 11),.val (vs 12),.val (vs 13),.val (vs 14)])) (fun _ _=>kr) kr rfl rfl kr (fun vs=>by kernel_rfl) (fun vs=>by kernel_rfl) (fun vs=>T4 (AH.mk b.Layers b.Outline b.Parts b.Nets [] [] [] [] [] [] [] [] []) (AA (Z2F v6'') 5).2 vs au6 oM)) (.cons (cWr (BU (Z2I b v6'') 2 au6 au8)) (.cons (cWr (BU (AA (Z2I b v6'') 2).2 3 au6 au8)) (.cons (cWr (BU (Z2L b v6'') 2 au6 au8)) (.cons (cWr (BU (AA (Z2L b v6'') 2).2 4 au6 au8)) (.cons (cWr (BU (Z2O b v6'') 6 au6 au8)) .nil)))))) (.cons rfl (.cons rfl (.cons rfl (.cons rfl (.cons rfl (.cons rfl (.cons rfl (.cons rfl (.cons rfl (.cons rfl (.cons rfl (.cons (by first | exact Kn _ _ _ (by decide) (by decide) (by decide) | decide | omega) (.cons rfl (.cons rfl .nil))))))))))))))<|AG ?_
  refine BS (Cv.trans (BM (⟨(CC types l (Pk v6' v12 v6'' [(16,tP 16 0)])),[(16,Z2Q v12 b v6''),(75,.cells (AD.c (I3 b v6'').2) 117),(158,Z2R v6''),(1000,Z34 b AN Ac Aj),(100000,Z29 AN),(100001,Z25 Ac),(100002,Z23 Aj)]⟩) lr (.cons ⟨rfl,.cells _ (rr5 (rr2 (.cons (.own _ _ au2) .nil)))⟩ (.cons ⟨rfl,.refl _⟩ (.cons ⟨rfl,Am 90 (Aq (c:=Ak.c) (xs:=([Ak.mk (AA v6'' 12).1 (AA (AA v6'' 12).2 12).1 (W64 ((W64 ((AA v6'' 12).1+1))+(AA (AA (AA v6'' 12).2 12).2 6).1)) (W64 ((W64 ((AA (AA v6'' 12).2 12).1+1))+(AA (Z2F v6'') 5).1))]:List Ak)) rfl kr)⟩ lr)))) (Cv.refl _))<|AB<|AB ?_
  refine rb 161 (Z2S b v6'') (.cells (AD.c (AA (Z2O b v6'') 6).2) 117) ⟨(CC types l (Pk v6' v12 v6'' [(16,tP 16 0),(162,tB (decide (((AA (I3 b v6'').2 3).1:Int)=0)))])),[(16,Z2Q v12 b v6''),(75,Z2U b v6''),(158,Z2R v6''),(1000,Z34 b AN Ac Aj),(100000,Z29 AN),(100001,Z25 Ac),(100002,Z23 Aj)]⟩ (cWr (BU (AA (Z2O b v6'') 6).2 3 au6 au8))<|AG ?_
  refine Bd (⟨[(0,tP 1000 0),(Ep types),(2,.av (oL l)),(6,tP 75 0),(I9 v6'),(12,tI v12),(16,tP 16 0)],[(16,.cells (Pp v12 b v6'' [.own 100003 4 (Z2W b v6'').length]) 97),(75,.cells (AD.c (Z2T b v6'')) 117),(1000,.cells (U8 b AN Ac Aj) 41),(100000,.row 6 AN.length (AO Ab.c AN) 131),(100001,.row 8 Ac.length (AO A4.c Ac) 133),(100002,.row 8 Aj.length (AO Be.c Aj) 97),(100003,.row 4 (Z2W b v6'').length (AO Ak.c (Z2W b v6'')) 90)]⟩) ?_ ?_
  ·refine AV _ rfl (fun h4 => ?_) (fun h4 => ?_)
   ·have g4:=oT h4
    refine rc [] [[Ak.mk (AA v6'' 12).1 (AA (AA v6'' 12).2 12).1 (W64 ((W64 ((AA v6'' 12).1+1))+(AA (AA (AA v6'' 12).2 12).2 6).1)) (W64 ((W64 ((AA (AA v6'' 12).2 12).1+1))+(AA (Z2F v6'') 5).1))].length=[Ak.mk (AA v6'' 12).1 (AA (AA v6'' 12).2 12).1 (W64 ((W64 ((AA v6'' 12).1+1))+(AA (AA (AA v6'' 12).2 12).2 6).1)) (W64 ((W64 ((AA (AA v6'' 12).2 12).1+1))+(AA (Z2F v6'') 5).1))].length,([Ak.mk (AA v6'' 12).1 (AA (AA v6'' 12).2 12).1 (W64 ((W64 ((AA v6'' 12).1+1))+(AA (AA (AA v6'' 12).2 12).2 6).1)) (W64 ((W64 ((AA (AA v6'' 12).2 12).1+1))+(AA (Z2F v6'') 5).1))].length)+1<=maxLen,(([Ak.mk (AA v6'' 12).1 (AA (AA v6'' 12).2 12).1 (W64 ((W64 ((AA v6'' 12).1+1))+(AA (AA (AA v6'' 12).2 12).2 6).1)) (W64 ((W64 ((AA (AA v6'' 12).2 12).1+1))+(AA (Z2F v6'') 5).1))].length)+1)*32<=140737488355328] ⟨(QH types l v6' v12),[(16,.cells (eO v12 b v6'' [.own 174 4 (((Nh v6'').length)+1)]) 97),(75,Z2U b v6''),(174,.row 4 (((Nh v6'').length)+1) (fun i_ j_=>if i_<((Nh v6'').length) then (AO Ak.c (Nh v6'')) i_ j_ else (As 4 1 [.i (W64 ((AA v6'' 12).1-2)),.i (He v6'').1,.i (W64 ((AA v6'' 12).1+1)),.i (W64 ((He v6'').1+2))]) (i_-((Nh v6'').length)) j_) 90),(1000,Z34 b AN Ac Aj),(100000,Z29 AN),(100001,Z25 Ac),(100002,Z23 Aj)]⟩ .nil (.cons rfl (.cons au3 (.cons au3 .nil)))<|AG ?_
    refine Cv.trans (BM (⟨(QH types l v6' v12),[(16,.cells (eO v12 b v6'' [.own 174 4 ((Nh v6'')++(Ti v6'')).length]) 97),(75,Z2U b v6''),(174,Z2V v6''),(1000,Z34 b AN Ac Aj),(100000,Z29 AN),(100001,Z25 Ac),(100002,Z23 Aj)]⟩) lr (.cons ⟨rfl,.cells _ (rr5 (rr2 (.cons (.own _ _ au2) .nil)))⟩ (.cons ⟨rfl,.refl _⟩ (.cons ⟨rfl,Am 90 (BR (BI 4 Ak.c [Ak.mk (AA v6'' 12).1 (AA (AA v6'' 12).2 12).1 (W64 ((W64 ((AA v6'' 12).1+1))+(AA (AA (AA v6'' 12).2 12).2 6).1)) (W64 ((W64 ((AA (AA v6'' 12).2 12).1+1))+(AA (Z2F v6'') 5).1))]) (Aq (c:=Ak.c) (xs:=([Ak.mk (W64 ((AA v6'' 12).1-2)) (AA (AA v6'' 12).2 12).1 (W64 ((AA v6'' 12).1+1)) (W64 ((AA (AA v6'' 12).2 12).1+2))]:List Ak)) rfl kr))⟩ lr)))) (Cv.trans (vr 174 100003 (K:=[1000]) hX) (Cv.trans (ck (⟨(QH types l v6' v12),[(16,Z36 v12 b v6''),(75,Z2U b v6''),(1000,Z34 b AN Ac Aj),(100000,Z29 AN),(100001,Z25 Ac),(100002,Z23 Aj),(100003,Z2V v6'')]⟩)) (Ay ?_)))
    first | rfl | (simp only [h4,Z2W,cond_true,cond_false] <;> rfl)
   refine AY<|AG ?_
   refine Cv.trans (vk [0,1,2,6,8,12,16] [16,75,158,1000,100000,100001,100002]) (Cv.trans (vr 158 100003 (K:=[1000]) hX) (Cv.trans (ck (⟨(QH types l v6' v12),[(16,Z37 v12 b v6''),(75,Z2U b v6''),(1000,Z34 b AN Ac Aj),(100000,Z29 AN),(100001,Z25 Ac),(100002,Z23 Aj),(100003,Z2R v6'')]⟩)) (Ay ?_)))
   first | rfl | (simp only [h4,Z2W,cond_true,cond_false] <;> rfl)
  refine BS (Cv.trans (wf (⟨(QH types l v6' v12),[(16,.cells (gJ v12 b v6'') 97),(75,Z2U b v6''),(1000,Z34 b AN Ac Aj),(100000,Z29 AN),(100001,Z25 Ac),(100002,Z23 Aj)]⟩) 100003 4 (Z2W b v6'').length (AO Ak.c (Z2W b v6'')) 90 (K:=[1000]) hX (.cons ⟨rfl,rfl⟩ .nil)) (Cv.refl _)) ?_
  refine dw [] [] [Aj.length=Aj.length,Aj.length+1<=maxLen,(Aj.length+1)*88<=140737488355328] ⟨(CC types l [(6,tP 75 0),(I9 v6'),(12,tI v12)]),[(75,Z2U b v6''),(183,.row 8 (Aj.length+1) (fun i_ j_=>if i_<Aj.length then (AO Be.c Aj) i_ j_ else (As 8 1 (gJ v12 b v6'')) (i_-Aj.length) j_) 97),(1000,.cells (BE b (FI AN Ac [.own 183 8 (Aj.length+1),vN,vN,vN,vN,vN,vN])) 41),(100000,Z29 AN),(100001,Z25 Ac)]⟩ .nil (.cons rfl (.cons au3 (.cons au3 .nil)))<|BN<|AG ?_
  refine BS (Cv.trans (BM (⟨(CC types l [(6,tP 75 0),(I9 v6'),(12,tI v12)]),[(75,Z2U b v6''),(183,Z2X Aj v12 b v6''),(1000,Z31 b AN Ac Aj v12 v6''),(100000,Z29 AN),(100001,Z25 Ac)]⟩) lr (.cons ⟨rfl,.refl _⟩ (.cons ⟨rfl,Am 97 (BR (BI 8 Be.c Aj) (Aq (c:=Be.c) (xs:=([Be.mk (W64 (31+v12)) (CU (AH.mk b.Layers b.Outline b.Parts b.Nets [] [] [] [] [] [] [] [] []) (AA (Z2F v6'') 5).2).1 (W64 (1+(AA (Z2I b v6'') 2).1)) (W64 (20+(W64 (5*(AA (AA (Z2I b v6'') 2).2 3).1)))) (AA (Z2L b v6'') 2).1 (([0,0,5,9]:List Int).getD (AA (AA (Z2L b v6'') 2).2 4).1.toNat 0) (W64 (4+(AA (Z2O b v6'') 6).1)) (Z2W b v6'')]:List Be)) rfl kr))⟩ (.cons ⟨rfl,.cells _ (rr5 (rr3 (.cons (.own _ _ au2) (rr (rr (rr (rr (rr (rr .nil)))))))))⟩ lr)))) (Cv.refl _)) ?_
  refine rg ⟨(CC types l [(6,tP 75 0),(I9 v6'),(12,tI (W64 (v12+1)))]),[(75,Z2U b v6''),(183,Z2X Aj v12 b v6''),(1000,Z31 b AN Ac Aj v12 v6''),(100000,Z29 AN),(100001,Z25 Ac)]⟩ ?_
  (try rw [(show W64 (v12+1)=v12+1 from Af oM au5)])
  refine AG ?_
  refine ⟨(n2,Aj++[Be.mk (W64 (31+v12)) (CU (AH.mk b.Layers b.Outline b.Parts b.Nets [] [] [] [] [] [] [] [] []) (AA (Z2F v6'') 5).2).1 (W64 (1+(AA (Z2I b v6'') 2).1)) (W64 (20+(W64 (5*(AA (AA (Z2I b v6'') 2).2 3).1)))) (AA (Z2L b v6'') 2).1 (([0,0,5,9]:List Int).getD (AA (AA (Z2L b v6'') 2).2 4).1.toNat 0) (W64 (4+(AA (Z2O b v6'') 6).1)) (Z2W b v6'')],Z2T b v6'',v12+1),⟨?_,?_,(by rw [<- hF2];simp only [B7,h3,cond_true,cond_false])⟩,Nat.lt_succ_self _,Cv.trans (vr 183 100002 (K:=[1000]) hX) (Cv.trans (vk [0,1,2,6,8,12] [75,1000,100000,100001,100002]) (Ay kr))⟩
  ·show ((AA v6' 3).1-(v12+1)).toNat<n2;omega
  exact ⟨(by show Bh (Z2T b v6'');repeat (first | with_reducible assumption | exact Cg (DW hll _) | with_reducible refine BT ?_ | with_reducible refine Ek ?_ | with_reducible refine Ds ?_ | with_reducible refine DG ?_  | with_reducible refine Cq ?_ ?_)),ax0,ax0,ax0⟩
 have g3:=oF h3
 refine BF<|A3 ?_
 refine A3<|BG ?_
 refine AG<|AB ?_
 refine rs 187 (Ed l 6) ⟨(N3 types),[(189,.cells [lst 1 eIn (AX l 6),.i 0] 117),(1000,Z34 b AN Ac Aj),(100000,Z29 AN),(100001,Z25 Ac),(100002,Z23 Aj)]⟩ (GF l 6 au10)<|AG ?_
 refine AB<|AB ?_
 refine rb 191 (Z1L l) (.cells [lst 1 eIn (AX l 6),.i 0] 117) ⟨[(0,tP 1000 0),(Ep types),(6,tP 189 0),(192,tB (decide (((LY l).1:Int)=0)))],[(189,Z1M l),(1000,Z34 b AN Ac Aj),(100000,Z29 AN),(100001,Z25 Ac),(100002,Z23 Aj)]⟩ (cWr (BU (AD.mk (AX l 6) 0) 3 au6 au8))<|AG ?_
 refine Bd (⟨(N3 types),[(189,.cells (AD.c (Z1S l b types)) 117),(1000,.cells (BE b (FI AN Ac [.own 100002 8 Aj.length,lst 5 C8.c (Z1T l b types),vN,vN,vN,vN,vN])) 41),(100000,.row 6 AN.length (AO Ab.c AN) 131),(100001,.row 8 Ac.length (AO A4.c Ac) 133),(100002,.row 8 Aj.length (AO Be.c Aj) 97)]⟩) ?_ ?_
 ·refine AV _ rfl (fun h4 => ?_) (fun h4 => ?_)
  ·have g4:=oT h4
   refine AB<|rb 198 (ceI [.agg (U8 b AN Ac Aj),.one (lst 3 AQ.c types),.one (.ptr 189 0)] (Z1N b types l)) (.cells (AD.c (AA (AD.mk (AX l 6) 0) 3).2) 117) ⟨[(0,tP 1000 0),(Ep types),(6,tP 189 0),(17,tP 17 0)],[(17,.cells (AC.c (Z1P b types l)) 66),(189,.cells (AD.c (Z1O b types l)) 117),(1000,Z34 b AN Ac Aj),(100000,Z29 AN),(100001,Z25 Ac),(100002,Z23 Aj)]⟩ (Ct (cWr (Mi (AH.mk b.Layers b.Outline b.Parts [] [] [] [] [] [] [] [] [] []) types (AA (AD.mk (AX l 6) 0) 3).2 au6 oM oM (by assumption))) (.cons (.agg (rr5 (.cons (.any _) (.cons (.any _) (.cons (.any _) (.cons (.any _) (.cons (.any _) (.cons (.any _) (.cons (.any _) (.cons (.any _) (.cons (.any _) (.cons (.any _) .nil)))))))))))) (.cons (AvE.refl _) (.cons (AvE.refl _) .nil))))<|AG ?_
   refine dw [] [(201,(Z1Q b types l)),(213,ML (Ak.mk (Z1P b types l).X (Z1P b types l).Y (W64 ((Z1P b types l).X+30)) (W64 ((Z1P b types l).Y+20))))] [Ap (Z1Q b types l).2.1,Bv (.cells (AD.c (Z1O b types l)) 117),Ap (ML (Ak.mk (Z1P b types l).X (Z1P b types l).Y (W64 ((Z1P b types l).X+30)) (W64 ((Z1P b types l).Y+20)))).2.1] ⟨(N3 types),[(189,.cells (AD.c (AA (Z1O b types l) 3).2) 117),(1000,.cells (BE b (FI AN Ac [.own 100002 8 Aj.length,.list true 5 1 (As 5 1 [.i 41,.i (AA (Z1O b types l) 3).1,.i (Z1R b types l).Kind,lst 7 AF.c (Z1R b types l).Edges,.i (Z1R b types l).R]),vN,vN,vN,vN,vN])) 41),(100000,Z29 AN),(100001,Z25 Ac),(100002,Z23 Aj)]⟩ (.cons (cWr (BU (Z1O b types l) 3 au6 au8)) (.cons (UF (Ak.mk (Z1P b types l).X (Z1P b types l).Y (W64 ((Z1P b types l).X+30)) (W64 ((Z1P b types l).Y+20)))) .nil)) (.cons rfl (.cons rfl (.cons rfl .nil)))<|AG ?_
   refine Cv.trans (BM (⟨(N3 types),[(189,.cells (AD.c (AA (Z1O b types l) 3).2) 117),(1000,.cells (BE b (FI AN Ac [.own 100002 8 Aj.length,lst 5 C8.c [C8.mk 41 (AA (Z1O b types l) 3).1 (Z1R b types l)],vN,vN,vN,vN,vN])) 41),(100000,Z29 AN),(100001,Z25 Ac),(100002,Z23 Aj)]⟩) lr (.cons ⟨rfl,.refl _⟩ (.cons ⟨rfl,.cells _ (rr9 (.cons (BZ true (Aq (c:=C8.c) (xs:=([C8.mk 41 (AA (Z1O b types l) 3).1 (Z1R b types l)]:List C8)) rfl kr)) (rr (rr (rr (rr (rr .nil)))))))⟩ lr))) (Ay ?_)
   first | rfl | (simp only [h4,Z1S,Z1T,cond_true,cond_false] <;> rfl)
  refine AY<|AG ?_
  refine Cv.trans (ck (⟨(N3 types),[(189,Z1M l),(1000,Z34 b AN Ac Aj),(100000,Z29 AN),(100001,Z25 Ac),(100002,Z23 Aj)]⟩)) (Cv.trans (BM (⟨(N3 types),[(189,Z1M l),(1000,.cells (BE b (FI AN Ac [.own 100002 8 Aj.length,lst 5 C8.c [],vN,vN,vN,vN,vN])) 41),(100000,Z29 AN),(100001,Z25 Ac),(100002,Z23 Aj)]⟩) lr (.cons ⟨rfl,.refl _⟩ (.cons ⟨rfl,.cells _ (rr9 (.cons (Cf 5 C8.c) (rr (rr (rr (rr (rr .nil)))))))⟩ lr))) (Ay ?_))
  first | rfl | (simp only [h4,Z1S,Z1T,cond_true,cond_false] <;> rfl)
 refine AB<|rb 219 (Z1U l b types) (.cells (AD.c (Z1S l b types)) 117) ⟨[(0,tP 1000 0),(Ep types),(6,tP 189 0),(220,Z1V l b types)],[(189,Z1W l b types),(1000,Z35 b AN Ac Aj l types),(100000,Z29 AN),(100001,Z25 Ac),(100002,Z23 Aj)]⟩ (cWr (BU (Z1S l b types) 3 au6 au8))<|AG ?_
 refine AV _ rfl (fun h4 => ?_) (fun h4 => ?_)
 ·have g4:=oT h4
  refine AB<|rb 226 (ceI [.agg (fI b AN Ac Aj l types),.one (lst 3 AQ.c types),.one (.ptr 189 0)] (Z1X b types l)) (.cells (AD.c (AA (Z1S l b types) 3).2) 117) ⟨[(0,tP 1000 0),(6,tP 189 0),(18,tP 18 0)],[(18,.cells (AC.c (Z1Z b types l)) 66),(189,.cells (AD.c (Z1Y b types l)) 117),(1000,Z35 b AN Ac Aj l types),(100000,Z29 AN),(100001,Z25 Ac),(100002,Z23 Aj)]⟩ (Ct (cWr (Mi (AH.mk b.Layers b.Outline b.Parts [] [] [] [] [] [] [] [] [] []) types (AA (Z1S l b types) 3).2 au6 oM oM (by assumption))) (.cons (.agg (rr5 (.cons (.any _) (.cons (.any _) (.cons (.any _) (.cons (.any _) (.cons (.any _) (.cons (.any _) (.cons (.any _) (.cons (.any _) (.cons (.any _) (.cons (.any _) .nil)))))))))))) (.cons (AvE.refl _) (.cons (AvE.refl _) .nil))))<|AG ?_
  refine dw [] [(229,(Z20 b types l)),(239,DF (Z1Z b types l) (AC.mk (W64 ((Z1Z b types l).X+25)) (W64 ((Z1Z b types l).Y+10))))] [Ap (Z20 b types l).2.1,Bv (.cells (AD.c (Z1Y b types l)) 117),Ap (DF (Z1Z b types l) (AC.mk (W64 ((Z1Z b types l).X+25)) (W64 ((Z1Z b types l).Y+10)))).2.1] ⟨[],[(1000,.cells (BE b (FI AN Ac [.own 100002 8 Aj.length,lst 5 C8.c (Z1T l b types),.list true 4 1 (As 4 1 (XH b types l)),vN,vN,vN,vN])) 41),(100000,Z29 AN),(100001,Z25 Ac),(100002,Z23 Aj)]⟩ (.cons (cWr (BU (Z1Y b types l) 4 au6 au8)) (.cons (GE (Z1Z b types l) (AC.mk (W64 ((Z1Z b types l).X+25)) (W64 ((Z1Z b types l).Y+10)))) .nil)) (.cons rfl (.cons rfl (.cons rfl .nil))) ?_
  exact yn (Cv.trans (vf 100000 6 AN.length (AO Ab.c AN) 131 (K:=[1000]) hX (.cons ⟨rfl,rfl⟩ .nil)) (Cv.trans (vf 100001 8 Ac.length (AO A4.c Ac) 133 (K:=[1000]) hX (.cons ⟨rfl,rfl⟩ .nil)) (Cv.trans (vf 100002 8 Aj.length (AO Be.c Aj) 97 (K:=[1000]) hX (.cons ⟨rfl,rfl⟩ .nil)) (Cv.refl _)))) (.tup []) ⟨Aa rfl,.cells (BE b [lst 6 Ab.c AN,lst 8 A4.c Ac,lst 8 Be.c Aj,lst 5 C8.c (Z1T l b types),.list true 4 1 (As 4 1 (XH b types l)),vN,vN,vN,vN]) 41,by kernel_rfl,Us (y:=.cells (BE b [lst 6 Ab.c AN,lst 8 A4.c Ac,lst 8 Be.c Aj,lst 5 C8.c (Z1T l b types),lst 4 Ar.c [Ar.mk 51 (AP.mk 1 [Z21 b types l] (W64 (3+(AA (Z1Y b types l) 4).1)))],vN,vN,vN,vN]) 41) (.cells _ (rr9 (rr (.cons (BZ true (Fi (c:=Ar.c) (xs:=([Ar.mk 51 (AP.mk 1 [Z21 b types l] (W64 (3+(AA (Z1Y b types l) 4).1)))]:List Ar)) (y:=[(XH b types l)]) (z:=[[.i 51,.i 1,lst 7 AF.c [Z21 b types l],.i (W64 (3+(AA (Z1Y b types l) 4).1))]]) rfl kr kr (.cons (rr (rr (.cons (BZ true (Aq (c:=AF.c) (xs:=([Z21 b types l]:List AF)) rfl kr)) (rr .nil)))) .nil))) (rr (rr (rr (rr .nil)))))))) (by rw [<- hF2];first | (simp only [B7,h3,h4,cond_true,cond_false];done) | (simp only [B7,h3,h4,cond_true,cond_false];kernel_rfl))⟩
 refine AY ?_
 exact yn (Cv.trans (vf 100000 6 AN.length (AO Ab.c AN) 131 (K:=[1000]) hX (.cons ⟨rfl,rfl⟩ .nil)) (Cv.trans (vf 100001 8 Ac.length (AO A4.c Ac) 133 (K:=[1000]) hX (.cons ⟨rfl,rfl⟩ .nil)) (Cv.trans (vf 100002 8 Aj.length (AO Be.c Aj) 97 (K:=[1000]) hX (.cons ⟨rfl,rfl⟩ .nil)) (Cv.refl _)))) (.tup []) ⟨Aa rfl,.cells (BE b [lst 6 Ab.c AN,lst 8 A4.c Ac,lst 8 Be.c Aj,lst 5 C8.c (Z1T l b types),vN,vN,vN,vN,vN]) 41,by kernel_rfl,Us (y:=.cells (BE b [lst 6 Ab.c AN,lst 8 A4.c Ac,lst 8 Be.c Aj,lst 5 C8.c (Z1T l b types),lst 4 Ar.c [],vN,vN,vN,vN]) 41) (.cells _ (rr9 (rr (.cons (Cf 4 Ar.c) (rr (rr (rr (rr .nil)))))))) (by rw [<- hF2];first | (simp only [B7,h3,h4,cond_true,cond_false];done) | (simp only [B7,h3,h4,cond_true,cond_false];kernel_rfl))⟩
end
structure NN (b:AH) (B:AH):Prop where
 lay:B.Layers=b.Layers
 out:B.Outline=b.Outline
 par:B.Parts=b.Parts
 net:B.Nets=b.Nets
 trk:(B.Tracks.length:Int)<=6
 edg:∀ t∈B.Tracks,(t.Shape.Edges.length:Int)<=2
 via:(B.Vias.length:Int)<=3
 pou:(B.Pours.length:Int)<=3
 kee:(B.Keeps.length:Int)<=1
 slo:(B.Slots.length:Int)<=1
theorem qM {b B C:AH} {c:Bool} (h:NN b B) (k:NN b C):NN b (bif c then B else C):=by cases c <;> assumption
theorem UC {α:Type} {c:Bool} {x:α}:((bif c then [x] else []:List α).length:Int)<=1:=by cases c <;> simp
theorem Si (a c:AC) (d:AD):((Ci a c d).1.length:Int)<=2:=by
 unfold Ci
 generalize (bif _ then _ else false:Bool)=q
 cases q with
 | true=>simp
 | false =>
  simp only [cond_false]
  cases decide (((AA d 4).1:Int)=3) <;> simp
theorem Zh (b:AH) (types:List AQ) (l:List (List Int)) (v1:List Ab) (v6:AD) (v7:ByteArray) (v9:Int) (v2:List A4) (v6':AD) (v11:Int) (K0:List Ab->AD->ByteArray->Int->AH) (K1:List A4->AD->Int->AH) (h1:(v1.length:Int)<=6) (he:∀ t∈v1,(t.Shape.Edges.length:Int)<=2) (h2:(v2.length:Int)<=3):∀ (n:Nat) (v:List Be) (d:AD) (k:Int),0<=k->(v.length:Int)<=k->k<=3->((AA v6' 3).1-k).toNat<n->NN b (B7 b types l v1 v6 v7 v9 v2 v6' v11 K0 K1 n v d k)
 | 0,v,d,k,_,_,_,h=>absurd h (Nat.not_lt_zero _)
 | n+1,v,d,k,k0,kv,k3,h=>by
  unfold B7
  have hb:=C5 v6' 3 (by decide) (by decide)
  by_cases hc:k<(AA v6' 3).1
  ·simp only [hc,decide_true,cond_true]
   exact Zh b types l v1 v6 v7 v9 v2 v6' v11 K0 K1 h1 he h2 n _ _ _ (by omega) (by simp only [List.length_append,List.length_cons,List.length_nil];omega) (by omega) (by omega)
  simp only [hc,decide_false,cond_false]
  have hv:(v.length:Int)<=3:=by omega
  repeat (first | exact ⟨rfl,rfl,rfl,rfl,h1,he,h2,hv,UC,UC⟩ | exact ⟨rfl,rfl,rfl,rfl,h1,he,h2,hv,UC,(by simp:((([_]:List Ar).length:Nat):Int)<=1)⟩ | exact ⟨rfl,rfl,rfl,rfl,h1,he,h2,hv,UC,(by simp:((([]:List Ar).length:Nat):Int)<=1)⟩ | refine qM ?_ ?_)
theorem Zi (b:AH) (types:List AQ) (l:List (List Int)) (v1:List Ab) (v6:AD) (v7:ByteArray) (v9:Int) (K0:List Ab->AD->ByteArray->Int->AH) (h1:(v1.length:Int)<=6) (he:∀ t∈v1,(t.Shape.Edges.length:Int)<=2):∀ (n:Nat) (v:List A4) (d:AD) (k:Int),0<=k->(v.length:Int)<=k->k<=3->((AA (AD.mk (AX l 5) 0) 3).1-k).toNat<n->NN b (CM b types l v1 v6 v7 v9 K0 n v d k)
 | 0,v,d,k,_,_,_,h=>absurd h (Nat.not_lt_zero _)
 | n+1,v,d,k,k0,kv,k3,h=>by
  unfold CM
  have hb:=C5 (AD.mk (AX l 5) 0) 3 (by decide) (by decide)
  by_cases hc:k<(AA (AD.mk (AX l 5) 0) 3).1
  ·simp only [hc,decide_true,cond_true]
   exact Zi b types l v1 v6 v7 v9 K0 h1 he n _ _ _ (by omega) (by simp only [List.length_append,List.length_cons,List.length_nil];omega) (by omega) (by omega)
  simp only [hc,decide_false,cond_false]
  exact Zh b types l v1 v6 v7 v9 v d k K0 _ h1 he (by omega) _ _ _ 0 (by omega) (by simp) (by omega) (by omega)
theorem Zj (b:AH) (types:List AQ) (l:List (List Int)):∀ (n:Nat) (v:List Ab) (d:AD) (s:ByteArray) (k:Int),0<=k->(v.length:Int)<=k->k<=6->(∀ t∈v,(t.Shape.Edges.length:Int)<=2)->((AA (Z1E b l) 6).1-k).toNat<n->NN b (B1 b types l n v d s k)
 | 0,v,d,s,k,_,_,_,_,h=>absurd h (Nat.not_lt_zero _)
 | n+1,v,d,s,k,k0,kv,k3,he,h=>by
  unfold B1
  have hb:=C5 (Z1E b l) 6 (by decide) (by decide)
  by_cases hc:k<(AA (Z1E b l) 6).1
  ·simp only [hc,decide_true,cond_true]
   refine Zj b types l n _ _ _ _ (by omega) (by simp only [List.length_append,List.length_cons,List.length_nil];omega) (by omega) (fun t ht => ?_) (by omega)
   rcases List.mem_append.1 ht with ht | ht
   ·exact he t ht
   rw [List.mem_singleton.1 ht];exact Si _ _ _
  simp only [hc,decide_false,cond_false]
  exact Zi b types l v d s k _ (by omega) he _ _ _ 0 (by omega) (by simp) (by omega) (by omega)
theorem Hh (b:AH) (types:List AQ) (l:List (List Int)):NN b (BJ b types l):=by
 have hb:=C5 (Z1E b l) 6 (by decide) (by decide)
 unfold BJ
 exact Zj b types l _ _ _ _ 0 (by omega) (by simp) (by omega) (fun t ht=>by cases ht) (by omega)
end Go.Proofs.YtheobjkgllmnmaaGreat
