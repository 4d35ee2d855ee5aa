/-
  No statement is proved in this text. It holds a part of what the proof of PlaceAt needs.
-/
import Derived.Test.YtdbampcfmjbgmaaPlaceAtQe
namespace Go.Proofs.Ytdbampcfmjbgmaa
set_option maxRecDepth 100000
set_option linter.unusedVariables false
set_option linter.unusedSimpArgs false
open Go.RowKit
section
open Go.RowKit
def Z6t:Blk:=.cells GD 42
variable (v:Nat->Value) (b:AC) (BC:List Bi) (BB:List BQ) (BA:List Az) (A5:List Ba) (BP:List A7) (BO:List Ap) (BH:List A4) (BN:List BT) (v11 v16 v5 v9:Int)
def Z6u:Blk:=.row 2 BP.length (AP A7.c BP) 48
abbrev E6 (t_:List Cl):List Cl:=(.val (v 0))::(.val (v 1))::(.val (v 2))::(.val (v 3))::(.val (v 4))::t_
def Z6v:Blk:=.cells (E6 v [.own 100000 2 BP.length,.val (v 6),.val (v 7),.val (v 8),.val (v 9),.val (v 10),.val (v 11),.val (v 12),.val (v 13),.val (v 14)]) 42
def Z6w (BP:List A7) (b:AC) (v4:Int):Blk:=.row 2 (BP++[b.Nets.getD v4.toNat default]).length (AP A7.c (BP++[b.Nets.getD v4.toNat default])) 48
def Z6x (v:(Nat->Value)) (BP:List A7) (b:AC) (v4:Int):Blk:=.cells (E6 v [.own 61 2 (BP++[b.Nets.getD v4.toNat default]).length,.val (v 6),.val (v 7),.val (v 8),.val (v 9),.val (v 10),.val (v 11),.val (v 12),.val (v 13),.val (v 14)]) 42
def Z6y:Blk:=.cells (E6 v [.own 200100 2 BP.length,.val (v 6),.val (v 7),.val (v 8),.val (v 9),.val (v 10),.val (v 11),.val (v 12),.val (v 13),.val (v 14)]) 42
def Ft (b:AC):Nat->List A7->Int->(List A7)
 | 0,_,_=>default
 | n0+1,BP,v4=>bif decide ((v4:Int)<(b.Nets.length:Int)) then ((Ft b n0) (BP++[b.Nets.getD v4.toNat default]) (v4+1)) else BP
def Ag (b:AC):(List A7):=Ft b (((b.Nets.length:Int)-0).toNat+1) ([]:List A7) 0
abbrev H3 (t_:List (Nat×Tv)):List (Nat×Tv):=(1,tP 200001 0)::(2,tP 200002 0)::(3,tP 200003 0)::t_
abbrev Bh:List (Nat×Tv):=(H3 [])
abbrev Bk:Nat×Blk:=(200001,.cells (AC.c b) 42)
abbrev D2:Nat×Blk:=(200002,.cells GD 42)
abbrev Xq (b:AC) (v:Nat->Value) (xs:List A7):AS:=⟨Bh,[(200003,.cells (E6 v [.own 200100 2 xs.length,.val (v 6),.val (v 7),.val (v 8),.val (v 9),.val (v 10),.val (v 11),.val (v 12),.val (v 13),.val (v 14)]) 42),(Bk b),D2,(200100,.row 2 xs.length (AP A7.c xs) 48)]⟩
theorem au4 {p:Prop} (h:p:=by first | omega | (unfold maxLen;omega) | (simp only [ZM,ZL,ZK];omega)):p:=h
set_option maxHeartbeats 4000000 in
theorem TL (b:AC) (hc:CM b) {c:Code} (hpc:Try.f12.body.bind (Fg [true,true,false,true])=some c):NN Try.prog 229 [200003,200001,200002] c (fun _:Unit=>True) (fun v=>⟨[(1,tP 200001 0),(2,tP 200002 0),(3,tP 200003 0),(4,tI 0)],[(200003,.cells [.val (v 0),.val (v 1),.val (v 2),.val (v 3),.val (v 4),vN,.val (v 6),.val (v 7),.val (v 8),.val (v 9),.val (v 10),.val (v 11),.val (v 12),.val (v 13),.val (v 14)] 42),(200001,.cells (AC.c b) 42),(200002,.cells [.i 0,.i 0,vN,.i 0,vN,vN,vN,vN,vN,vN,vN,vN,vN,vN,vN] 42)]⟩) (fun v _=>Xq b v (Ag b)):=by
 cases hpc
 intro W0 M0 X v hP hFl
 show AWp _ _ _ _ _ _ _ _ ⟨[(1,tP 200001 0),(2,tP 200002 0),(3,tP 200003 0),(4,tI 0)],[(200003,.cells [.val (v 0),.val (v 1),.val (v 2),.val (v 3),.val (v 4),vN,.val (v 6),.val (v 7),.val (v 8),.val (v 9),.val (v 10),.val (v 11),.val (v 12),.val (v 13),.val (v 14)] 42),(200001,.cells (AC.c b) 42),(200002,.cells [.i 0,.i 0,vN,.i 0,vN,vN,vN,vN,vN,vN,vN,vN,vN,vN,vN] 42)]⟩
 have h0:=hc.lParts
 have h1:=hc.lNets
 have h2:=hc.lTracks
 have h3:=hc.lVias
 have h4:=hc.lPours
 have h5:=hc.lKeeps
 have h6:=hc.lSlots
 have h7:=hc.lClasses
 have h8:=hc.lWaivers
 have h9:=hc.lMatches
 have h10:=hc.lRules
 have hr:=hc.rok
 refine AX ?_
 refine Aq (Cv.trans (B4 [1,2,3,4] [200001,200002,200003] (⟨[(1,tP 200001 0),(2,tP 200002 0),(3,tP 200003 0),(4,tI 0)],[(200001,.cells (AC.c b) 42),(200002,Z6t),(200003,.cells [.val (v 0),.val (v 1),.val (v 2),.val (v 3),.val (v 4),vN,.val (v 6),.val (v 7),.val (v 8),.val (v 9),.val (v 10),.val (v 11),.val (v 12),.val (v 13),.val (v 14)] 42)]⟩) kr) (Cv.trans (FP (⟨[(1,tP 200001 0),(2,tP 200002 0),(3,tP 200003 0),(4,tI 0)],[(100000,.row 2 0 (fun _ _=>default) 48),(200001,.cells (AC.c b) 42),(200002,Z6t),(200003,.cells [.val (v 0),.val (v 1),.val (v 2),.val (v 3),.val (v 4),.own 100000 2 0,.val (v 6),.val (v 7),.val (v 8),.val (v 9),.val (v 10),.val (v 11),.val (v 12),.val (v 13),.val (v 14)] 42)]⟩) 100000 2 (fun _ _=>default) 48 [] [(200003,[5])] (K:=[200003,200001,200002]) hP rfl kr kr) (Cv.trans (Fx (⟨[(1,tP 200001 0),(2,tP 200002 0),(3,tP 200003 0),(4,tI 0)],[(100000,.row 2 ([]:List A7).length (AP A7.c ([]:List A7)) 48),(200001,.cells (AC.c b) 42),(200002,Z6t),(200003,.cells [.val (v 0),.val (v 1),.val (v 2),.val (v 3),.val (v 4),.own 100000 2 ([]:List A7).length,.val (v 6),.val (v 7),.val (v 8),.val (v 9),.val (v 10),.val (v 11),.val (v 12),.val (v 13),.val (v 14)] 42)]⟩) 100000 (CL 2 (fun _ _=>default) A7.c)) (Cv.refl _)))) ?_
 refine Bc (ι:=Nat×List A7×Int) (fun x=>⟨[(1,tP 200001 0),(2,tP 200002 0),(3,tP 200003 0),(4,tI x.2.2)],[(100000,.row 2 x.2.1.length (AP A7.c x.2.1) 48),(200001,.cells (AC.c b) 42),(200002,Z6t),(200003,.cells [.val (v 0),.val (v 1),.val (v 2),.val (v 3),.val (v 4),.own 100000 2 x.2.1.length,.val (v 6),.val (v 7),.val (v 8),.val (v 9),.val (v 10),.val (v 11),.val (v 12),.val (v 13),.val (v 14)] 42)]⟩) (fun x=>((b.Nets.length:Int)-x.2.2).toNat<x.1/\(0<=x.2.2/\(x.2.2<=(b.Nets.length:Int)\/x.2.2=0)/\(x.2.1.length:Int)<=0+1*(x.2.2-0))/\Ft b x.1 x.2.1 x.2.2=Ag b) (fun x=>x.1) ?_ (((b.Nets.length:Int)-0).toNat+1,([]:List A7),0) ⟨Nat.lt_succ_self _,⟨ax0,ax0,ax0⟩,(by simp only [Ag,cond_true,cond_false])⟩
 rintro ⟨n0,BP,v4⟩ ⟨hm0,hinv0,hF0⟩
 try dsimp only at hm0 hinv0 hF0
 cases n0 with | zero=>exact nz hm0 | succ n0 => ?_
 have hb:=hc.pin v4.toNat
 refine AB<|AB ?_
 refine rn ⟨[(1,tP 200001 0),(2,tP 200002 0),(3,tP 200003 0),(4,tI v4),(40,tB (decide ((v4:Int)<(b.Nets.length:Int))))],[(100000,Z6u BP),(200001,.cells (AC.c b) 42),(200002,Z6t),(200003,Z6v v BP)]⟩ ?_
 refine AL _ rfl (fun h1 => ?_) (fun h1 => ?_)
 ·have g1:=oT h1
  refine Af<|AF ?_
  refine AB<|AX ?_
  refine dw [1000051] [] [0<=(v4:Int)/\(v4:Int)<((b.Nets.length:Nat):Int),0<=(v4:Int)/\(v4:Int)<((b.Nets.length:Nat):Int),(b.Nets.getD v4.toNat default).Pins.length<=maxLen,(b.Nets.getD v4.toNat default).Pins.length*32<=140737488355328,BP.length=BP.length,BP.length+1<=maxLen,(BP.length+1)*40<=140737488355328] ⟨[(1,tP 200001 0),(2,tP 200002 0),(3,tP 200003 0),(4,tI v4)],[(61,.row 2 (BP.length+1) (fun i_ j_=>if i_<BP.length then (AP A7.c BP) i_ j_ else (As 2 1 (A7.c (b.Nets.getD v4.toNat default))) (i_-BP.length) j_) 48),(200001,.cells (AC.c b) 42),(200002,Z6t),(200003,.cells [.val (v 0),.val (v 1),.val (v 2),.val (v 3),.val (v 4),.own 61 2 (BP.length+1),.val (v 6),.val (v 7),.val (v 8),.val (v 9),.val (v 10),.val (v 11),.val (v 12),.val (v 13),.val (v 14)] 42)]⟩ .nil (.cons au1 (.cons au1 (.cons au4 (.cons au4 (.cons rfl (.cons au4 (.cons au4 .nil)))))))<|A8<|AF ?_
  refine Aq (Cv.trans (BS (⟨[(1,tP 200001 0),(2,tP 200002 0),(3,tP 200003 0),(4,tI v4)],[(61,Z6w BP b v4),(200001,.cells (AC.c b) 42),(200002,Z6t),(200003,Z6x v BP b v4)]⟩) lr (.cons ⟨rfl,Ao 48 (Au (An 2 A7.c BP) (Ae (c:=A7.c) (xs:=([b.Nets.getD v4.toNat default]:List A7)) rfl kr))⟩ (.cons ⟨rfl,.refl _⟩ (.cons ⟨rfl,.refl _⟩ (.cons ⟨rfl,.cells _ (rr (rr (rr (rr (rr (.cons (.own _ _ au0) (rr (rr (rr (rr (rr (rr (rr (rr (rr .nil)))))))))))))))⟩ .nil))))) (Cv.refl _)) ?_
  refine rg ⟨[(1,tP 200001 0),(2,tP 200002 0),(3,tP 200003 0),(4,tI (W64 (v4+1)))],[(61,Z6w BP b v4),(200001,.cells (AC.c b) 42),(200002,Z6t),(200003,Z6x v BP b v4)]⟩ ?_
  (try rw [(show W64 (v4+1)=v4+1 from A1 (by omega) au9)])
  refine AF ?_
  refine ⟨(n0,BP++[b.Nets.getD v4.toNat default],v4+1),⟨?_,?_,(by rw [<- hF0];simp only [Ft,h1,cond_true,cond_false])⟩,Nat.lt_succ_self _,Cv.trans (CC (⟨[(1,tP 200001 0),(2,tP 200002 0),(3,tP 200003 0),(4,tI (v4+1))],[(100000,Z6w BP b v4),(200001,.cells (AC.c b) 42),(200002,Z6t),(200003,.cells [.val (v 0),.val (v 1),.val (v 2),.val (v 3),.val (v 4),.own 100000 2 (BP++[b.Nets.getD v4.toNat default]).length,.val (v 6),.val (v 7),.val (v 8),.val (v 9),.val (v 10),.val (v 11),.val (v 12),.val (v 13),.val (v 14)] 42)]⟩) 61 100000 (K:=[200003,200001,200002]) hP rfl rfl kr kr) (BM kr)⟩
  ·show ((b.Nets.length:Int)-(v4+1)).toNat<n0;omega
  exact ⟨ax0,ax0,ax0⟩
 have g1:=oF h1
 refine BU<|BE ?_
 refine BE<|BV ?_
 exact ⟨_,Cv.trans (B4 [1,2,3] [100000,200001,200002,200003] (⟨[(1,tP 200001 0),(2,tP 200002 0),(3,tP 200003 0)],[(100000,Z6u BP),(200001,.cells (AC.c b) 42),(200002,Z6t),(200003,Z6v v BP)]⟩) kr) (Cv.trans (CC (⟨[(1,tP 200001 0),(2,tP 200002 0),(3,tP 200003 0)],[(200100,Z6u BP),(200001,.cells (AC.c b) 42),(200002,Z6t),(200003,Z6y v BP)]⟩) 100000 200100 (K:=[200003,200001,200002]) hP rfl rfl kr kr) (Cv.trans (B4 [1,2,3] [200003,200001,200002,200100] (⟨[(1,tP 200001 0),(2,tP 200002 0),(3,tP 200003 0)],[(200003,Z6y v BP),(200001,.cells (AC.c b) 42),(200002,Z6t),(200100,Z6u BP)]⟩) kr) (Cv.refl _))),rfl,(),trivial,congrArg (Xq b v) (show BP=_ from (by rw [<- hF0];first | (simp only [Ft,h1,cond_true,cond_false] <;> rfl)))⟩
def Z6z:Blk:=.cells GD 42
def Z6A:Blk:=.row 6 BO.length (AP Ap.c BO) 85
def Z6B:Blk:=.cells (E6 v [.val (v 5),.own 100000 6 BO.length,.val (v 7),.val (v 8),.val (v 9),.val (v 10),.val (v 11),.val (v 12),.val (v 13),.val (v 14)]) 42
def Z6C:A2:=Aj (b.Tracks.getD v5.toNat default).Shape
abbrev VZ:=[Ap.mk (I8 b v5).Id (I8 b v5).Net (I8 b v5).Layer (Z6C b v5)]
def Z6D (BO:List Ap) (b:AC) (v5:Int):Blk:=.row 6 (BO++(VZ b v5)).length (AP Ap.c (BO++(VZ b v5))) 85
def Z6E (v:(Nat->Value)) (BO:List Ap) (b:AC) (v5:Int):Blk:=.cells (E6 v [.val (v 5),.own 83 6 (BO++(VZ b v5)).length,.val (v 7),.val (v 8),.val (v 9),.val (v 10),.val (v 11),.val (v 12),.val (v 13),.val (v 14)]) 42
def Z6F:Blk:=.cells (E6 v [.val (v 5),.own 200102 6 BO.length,.val (v 7),.val (v 8),.val (v 9),.val (v 10),.val (v 11),.val (v 12),.val (v 13),.val (v 14)]) 42
def Em (b:AC):Nat->List Ap->Int->(List Ap)
 | 0,_,_=>default
 | n0+1,BO,v5=>bif decide ((v5:Int)<(b.Tracks.length:Int)) then ((Em b n0) (BO++[Ap.mk (b.Tracks.getD v5.toNat default).Id (b.Tracks.getD v5.toNat default).Net (b.Tracks.getD v5.toNat default).Layer (Z6C b v5)]) (v5+1)) else BO
def AH (b:AC):(List Ap):=Em b (((b.Tracks.length:Int)-0).toNat+1) ([]:List Ap) 0
abbrev P6 (b:AC) (v:Nat->Value) (xs:List Ap):AS:=⟨Bh,[(200003,.cells (E6 v [.val (v 5),.own 200102 6 xs.length,.val (v 7),.val (v 8),.val (v 9),.val (v 10),.val (v 11),.val (v 12),.val (v 13),.val (v 14)]) 42),(Bk b),D2,(200102,.row 6 xs.length (AP Ap.c xs) 85)]⟩
theorem au30 {p:Prop} (h:p:=by first | (with_reducible exact hc.ted _) | (with_reducible exact hc.ked _) | (with_reducible exact hc.sed _) | (with_reducible exact hc.out) | with_reducible assumption | omega | decide | (simp only [List.length_cons,List.length_nil,List.length_append];omega) | assumption):p:=h
set_option maxHeartbeats 4000000 in
theorem Jk (b:AC) (hc:CM b) {c:Code} (hpc:Try.f12.body.bind (Fg [true,true,true,false,true])=some c):NN Try.prog 229 [200003,200001,200002] c (fun _:Unit=>True) (fun v=>⟨[(1,tP 200001 0),(2,tP 200002 0),(3,tP 200003 0),(5,tI 0)],[(200003,.cells [.val (v 0),.val (v 1),.val (v 2),.val (v 3),.val (v 4),.val (v 5),vN,.val (v 7),.val (v 8),.val (v 9),.val (v 10),.val (v 11),.val (v 12),.val (v 13),.val (v 14)] 42),(200001,.cells (AC.c b) 42),(200002,.cells [.i 0,.i 0,vN,.i 0,vN,vN,vN,vN,vN,vN,vN,vN,vN,vN,vN] 42)]⟩) (fun v _=>P6 b v (AH b)):=by
 cases hpc
 intro W0 M0 X v hP hFl
 show AWp _ _ _ _ _ _ _ _ ⟨[(1,tP 200001 0),(2,tP 200002 0),(3,tP 200003 0),(5,tI 0)],[(200003,.cells [.val (v 0),.val (v 1),.val (v 2),.val (v 3),.val (v 4),.val (v 5),vN,.val (v 7),.val (v 8),.val (v 9),.val (v 10),.val (v 11),.val (v 12),.val (v 13),.val (v 14)] 42),(200001,.cells (AC.c b) 42),(200002,.cells [.i 0,.i 0,vN,.i 0,vN,vN,vN,vN,vN,vN,vN,vN,vN,vN,vN] 42)]⟩
 have h0:=hc.lParts
 have h1:=hc.lNets
 have h2:=hc.lTracks
 have h3:=hc.lVias
 have h4:=hc.lPours
 have h5:=hc.lKeeps
 have h6:=hc.lSlots
 have h7:=hc.lClasses
 have h8:=hc.lWaivers
 have h9:=hc.lMatches
 have h10:=hc.lRules
 have hr:=hc.rok
 refine AX ?_
 refine Aq (Cv.trans (B4 [1,2,3,5] [200001,200002,200003] (⟨[(1,tP 200001 0),(2,tP 200002 0),(3,tP 200003 0),(5,tI 0)],[(200001,.cells (AC.c b) 42),(200002,Z6z),(200003,.cells [.val (v 0),.val (v 1),.val (v 2),.val (v 3),.val (v 4),.val (v 5),vN,.val (v 7),.val (v 8),.val (v 9),.val (v 10),.val (v 11),.val (v 12),.val (v 13),.val (v 14)] 42)]⟩) kr) (Cv.trans (FP (⟨[(1,tP 200001 0),(2,tP 200002 0),(3,tP 200003 0),(5,tI 0)],[(100000,.row 6 0 (fun _ _=>default) 85),(200001,.cells (AC.c b) 42),(200002,Z6z),(200003,.cells [.val (v 0),.val (v 1),.val (v 2),.val (v 3),.val (v 4),.val (v 5),.own 100000 6 0,.val (v 7),.val (v 8),.val (v 9),.val (v 10),.val (v 11),.val (v 12),.val (v 13),.val (v 14)] 42)]⟩) 100000 6 (fun _ _=>default) 85 [] [(200003,[6])] (K:=[200003,200001,200002]) hP rfl kr kr) (Cv.trans (Fx (⟨[(1,tP 200001 0),(2,tP 200002 0),(3,tP 200003 0),(5,tI 0)],[(100000,.row 6 ([]:List Ap).length (AP Ap.c ([]:List Ap)) 85),(200001,.cells (AC.c b) 42),(200002,Z6z),(200003,.cells [.val (v 0),.val (v 1),.val (v 2),.val (v 3),.val (v 4),.val (v 5),.own 100000 6 ([]:List Ap).length,.val (v 7),.val (v 8),.val (v 9),.val (v 10),.val (v 11),.val (v 12),.val (v 13),.val (v 14)] 42)]⟩) 100000 (CL 6 (fun _ _=>default) Ap.c)) (Cv.refl _)))) ?_
 refine Bc (ι:=Nat×List Ap×Int) (fun x=>⟨[(1,tP 200001 0),(2,tP 200002 0),(3,tP 200003 0),(5,tI x.2.2)],[(100000,.row 6 x.2.1.length (AP Ap.c x.2.1) 85),(200001,.cells (AC.c b) 42),(200002,Z6z),(200003,.cells [.val (v 0),.val (v 1),.val (v 2),.val (v 3),.val (v 4),.val (v 5),.own 100000 6 x.2.1.length,.val (v 7),.val (v 8),.val (v 9),.val (v 10),.val (v 11),.val (v 12),.val (v 13),.val (v 14)] 42)]⟩) (fun x=>((b.Tracks.length:Int)-x.2.2).toNat<x.1/\(0<=x.2.2/\(x.2.2<=(b.Tracks.length:Int)\/x.2.2=0)/\(x.2.1.length:Int)<=0+1*(x.2.2-0))/\Em b x.1 x.2.1 x.2.2=AH b) (fun x=>x.1) ?_ (((b.Tracks.length:Int)-0).toNat+1,([]:List Ap),0) ⟨Nat.lt_succ_self _,⟨ax0,ax0,ax0⟩,(by simp only [AH,cond_true,cond_false])⟩
 rintro ⟨n0,BO,v5⟩ ⟨hm0,hinv0,hF0⟩
 try dsimp only at hm0 hinv0 hF0
 cases n0 with | zero=>exact nz hm0 | succ n0 => ?_
 refine AB<|AB ?_
 refine rn ⟨[(1,tP 200001 0),(2,tP 200002 0),(3,tP 200003 0),(5,tI v5),(67,tB (decide ((v5:Int)<(b.Tracks.length:Int))))],[(100000,Z6A BO),(200001,.cells (AC.c b) 42),(200002,Z6z),(200003,Z6B v BO)]⟩ ?_
 refine AL _ rfl (fun h1 => ?_) (fun h1 => ?_)
 ·have g1:=oT h1
  refine Af<|AF ?_
  refine AB<|AX<|AB ?_
  refine oc [] [0<=(v5:Int)/\(v5:Int)<((b.Tracks.length:Nat):Int)] .nil (.cons au1 .nil)<|AF<|AB ?_
  refine oc [(77,Bv (b.Tracks.getD v5.toNat default).Shape)] [A0 (Bv (b.Tracks.getD v5.toNat default).Shape).2.1] (.cons (Dm (b.Tracks.getD v5.toNat default).Shape au30) .nil) (.cons rfl .nil)<|AF ?_
  refine rc [] [BO.length=BO.length,BO.length+1<=maxLen,(BO.length+1)*72<=140737488355328] ⟨[(1,tP 200001 0),(2,tP 200002 0),(3,tP 200003 0),(5,tI v5)],[(83,.row 6 (BO.length+1) (fun i_ j_=>if i_<BO.length then (AP Ap.c BO) i_ j_ else (As 6 1 [.i (b.Tracks.getD v5.toNat default).Id,.s (b.Tracks.getD v5.toNat default).Net,.i (b.Tracks.getD v5.toNat default).Layer,.i (Z6C b v5).Kind,lst 7 AQ.c (Z6C b v5).Edges,.i (Z6C b v5).R]) (i_-BO.length) j_) 85),(200001,.cells (AC.c b) 42),(200002,Z6z),(200003,.cells [.val (v 0),.val (v 1),.val (v 2),.val (v 3),.val (v 4),.val (v 5),.own 83 6 (BO.length+1),.val (v 7),.val (v 8),.val (v 9),.val (v 10),.val (v 11),.val (v 12),.val (v 13),.val (v 14)] 42)]⟩ .nil (.cons rfl (.cons au4 (.cons au4 .nil)))<|A8<|AF ?_
  refine Aq (Cv.trans (BS (⟨[(1,tP 200001 0),(2,tP 200002 0),(3,tP 200003 0),(5,tI v5)],[(83,Z6D BO b v5),(200001,.cells (AC.c b) 42),(200002,Z6z),(200003,Z6E v BO b v5)]⟩) lr (.cons ⟨rfl,Ao 85 (Au (An 6 Ap.c BO) (Ae (c:=Ap.c) (xs:=([Ap.mk (b.Tracks.getD v5.toNat default).Id (b.Tracks.getD v5.toNat default).Net (b.Tracks.getD v5.toNat default).Layer (Z6C b v5)]:List Ap)) rfl kr))⟩ (.cons ⟨rfl,.refl _⟩ (.cons ⟨rfl,.refl _⟩ (.cons ⟨rfl,.cells _ (rr (rr (rr (rr (rr (rr (.cons (.own _ _ au0) (rr (rr (rr (rr (rr (rr (rr (rr .nil)))))))))))))))⟩ .nil))))) (Cv.refl _)) ?_
  refine rg ⟨[(1,tP 200001 0),(2,tP 200002 0),(3,tP 200003 0),(5,tI (W64 (v5+1)))],[(83,Z6D BO b v5),(200001,.cells (AC.c b) 42),(200002,Z6z),(200003,Z6E v BO b v5)]⟩ ?_
  (try rw [(show W64 (v5+1)=v5+1 from A1 (by omega) au9)])
  refine AF ?_
  refine ⟨(n0,BO++[Ap.mk (b.Tracks.getD v5.toNat default).Id (b.Tracks.getD v5.toNat default).Net (b.Tracks.getD v5.toNat default).Layer (Z6C b v5)],v5+1),⟨?_,?_,(by rw [<- hF0];simp only [Em,h1,cond_true,cond_false])⟩,Nat.lt_succ_self _,Cv.trans (CC (⟨[(1,tP 200001 0),(2,tP 200002 0),(3,tP 200003 0),(5,tI (v5+1))],[(100000,Z6D BO b v5),(200001,.cells (AC.c b) 42),(200002,Z6z),(200003,.cells [.val (v 0),.val (v 1),.val (v 2),.val (v 3),.val (v 4),.val (v 5),.own 100000 6 (BO++[Ap.mk (b.Tracks.getD v5.toNat default).Id (b.Tracks.getD v5.toNat default).Net (b.Tracks.getD v5.toNat default).Layer (Z6C b v5)]).length,.val (v 7),.val (v 8),.val (v 9),.val (v 10),.val (v 11),.val (v 12),.val (v 13),.val (v 14)] 42)]⟩) 83 100000 (K:=[200003,200001,200002]) hP rfl rfl kr kr) (BM kr)⟩
  ·show ((b.Tracks.length:Int)-(v5+1)).toNat<n0;omega
  exact ⟨ax0,ax0,ax0⟩
 have g1:=oF h1
 refine BU<|BE ?_
 refine BE<|BV ?_
 exact ⟨_,Cv.trans (B4 [1,2,3] [100000,200001,200002,200003] (⟨[(1,tP 200001 0),(2,tP 200002 0),(3,tP 200003 0)],[(100000,Z6A BO),(200001,.cells (AC.c b) 42),(200002,Z6z),(200003,Z6B v BO)]⟩) kr) (Cv.trans (CC (⟨[(1,tP 200001 0),(2,tP 200002 0),(3,tP 200003 0)],[(200102,Z6A BO),(200001,.cells (AC.c b) 42),(200002,Z6z),(200003,Z6F v BO)]⟩) 100000 200102 (K:=[200003,200001,200002]) hP rfl rfl kr kr) (Cv.trans (B4 [1,2,3] [200003,200001,200002,200102] (⟨[(1,tP 200001 0),(2,tP 200002 0),(3,tP 200003 0)],[(200003,Z6F v BO),(200001,.cells (AC.c b) 42),(200002,Z6z),(200102,Z6A BO)]⟩) kr) (Cv.refl _))),rfl,(),trivial,congrArg (P6 b v) (show BO=_ from (by rw [<- hF0];first | (simp only [Em,h1,cond_true,cond_false] <;> rfl)))⟩
def Z6G:Blk:=.cells GD 42
def Z6H:Blk:=.row 8 BH.length (AP A4.c BH) 90
abbrev Cf (t_:List Cl):List Cl:=(.val (v 0))::(.val (v 1))::(.val (v 2))::(.val (v 3))::(.val (v 4))::(.val (v 5))::(.val (v 6))::(.val (v 7))::t_
def Z6I:Blk:=.cells (Cf v [.own 100000 8 BH.length,.val (v 9),.val (v 10),.val (v 11),.val (v 12),.val (v 13),.val (v 14)]) 42
def Z6J (BH:List A4) (b:AC) (v7:Int):Blk:=.row 8 (BH++[b.Pours.getD v7.toNat default]).length (AP A4.c (BH++[b.Pours.getD v7.toNat default])) 90
def Z6K (v:(Nat->Value)) (BH:List A4) (b:AC) (v7:Int):Blk:=.cells (Cf v [.own 106 8 (BH++[b.Pours.getD v7.toNat default]).length,.val (v 9),.val (v 10),.val (v 11),.val (v 12),.val (v 13),.val (v 14)]) 42
def Z6L:Blk:=.cells (Cf v [.own 200104 8 BH.length,.val (v 9),.val (v 10),.val (v 11),.val (v 12),.val (v 13),.val (v 14)]) 42
def FJ (b:AC):Nat->List A4->Int->(List A4)
 | 0,_,_=>default
 | n0+1,BH,v7=>bif decide ((v7:Int)<(b.Pours.length:Int)) then ((FJ b n0) (BH++[b.Pours.getD v7.toNat default]) (v7+1)) else BH
def Ad (b:AC):(List A4):=FJ b (((b.Pours.length:Int)-0).toNat+1) ([]:List A4) 0
abbrev UA (b:AC) (v:Nat->Value) (xs:List A4):AS:=⟨Bh,[(200003,.cells (Cf v [.own 200104 8 xs.length,.val (v 9),.val (v 10),.val (v 11),.val (v 12),.val (v 13),.val (v 14)]) 42),(Bk b),D2,(200104,.row 8 xs.length (AP A4.c xs) 90)]⟩
set_option maxHeartbeats 4000000 in
theorem U6 (b:AC) (hc:CM b) {c:Code} (hpc:Try.f12.body.bind (Fg [true,true,true,true,false,true])=some c):NN Try.prog 229 [200003,200001,200002] c (fun _:Unit=>True) (fun v=>⟨[(1,tP 200001 0),(2,tP 200002 0),(3,tP 200003 0),(7,tI 0)],[(200003,.cells [.val (v 0),.val (v 1),.val (v 2),.val (v 3),.val (v 4),.val (v 5),.val (v 6),.val (v 7),vN,.val (v 9),.val (v 10),.val (v 11),.val (v 12),.val (v 13),.val (v 14)] 42),(200001,.cells (AC.c b) 42),(200002,.cells [.i 0,.i 0,vN,.i 0,vN,vN,vN,vN,vN,vN,vN,vN,vN,vN,vN] 42)]⟩) (fun v _=>UA b v (Ad b)):=by
 cases hpc
 intro W0 M0 X v hP hFl
 show AWp _ _ _ _ _ _ _ _ ⟨[(1,tP 200001 0),(2,tP 200002 0),(3,tP 200003 0),(7,tI 0)],[(200003,.cells [.val (v 0),.val (v 1),.val (v 2),.val (v 3),.val (v 4),.val (v 5),.val (v 6),.val (v 7),vN,.val (v 9),.val (v 10),.val (v 11),.val (v 12),.val (v 13),.val (v 14)] 42),(200001,.cells (AC.c b) 42),(200002,.cells [.i 0,.i 0,vN,.i 0,vN,vN,vN,vN,vN,vN,vN,vN,vN,vN,vN] 42)]⟩
 have h0:=hc.lParts
 have h1:=hc.lNets
 have h2:=hc.lTracks
 have h3:=hc.lVias
 have h4:=hc.lPours
 have h5:=hc.lKeeps
 have h6:=hc.lSlots
 have h7:=hc.lClasses
 have h8:=hc.lWaivers
 have h9:=hc.lMatches
 have h10:=hc.lRules
 have hr:=hc.rok
 refine AX ?_
 refine Aq (Cv.trans (B4 [1,2,3,7] [200001,200002,200003] (⟨[(1,tP 200001 0),(2,tP 200002 0),(3,tP 200003 0),(7,tI 0)],[(200001,.cells (AC.c b) 42),(200002,Z6G),(200003,.cells [.val (v 0),.val (v 1),.val (v 2),.val (v 3),.val (v 4),.val (v 5),.val (v 6),.val (v 7),vN,.val (v 9),.val (v 10),.val (v 11),.val (v 12),.val (v 13),.val (v 14)] 42)]⟩) kr) (Cv.trans (FP (⟨[(1,tP 200001 0),(2,tP 200002 0),(3,tP 200003 0),(7,tI 0)],[(100000,.row 8 0 (fun _ _=>default) 90),(200001,.cells (AC.c b) 42),(200002,Z6G),(200003,.cells [.val (v 0),.val (v 1),.val (v 2),.val (v 3),.val (v 4),.val (v 5),.val (v 6),.val (v 7),.own 100000 8 0,.val (v 9),.val (v 10),.val (v 11),.val (v 12),.val (v 13),.val (v 14)] 42)]⟩) 100000 8 (fun _ _=>default) 90 [] [(200003,[8])] (K:=[200003,200001,200002]) hP rfl kr kr) (Cv.trans (Fx (⟨[(1,tP 200001 0),(2,tP 200002 0),(3,tP 200003 0),(7,tI 0)],[(100000,.row 8 ([]:List A4).length (AP A4.c ([]:List A4)) 90),(200001,.cells (AC.c b) 42),(200002,Z6G),(200003,.cells [.val (v 0),.val (v 1),.val (v 2),.val (v 3),.val (v 4),.val (v 5),.val (v 6),.val (v 7),.own 100000 8 ([]:List A4).length,.val (v 9),.val (v 10),.val (v 11),.val (v 12),.val (v 13),.val (v 14)] 42)]⟩) 100000 (CL 8 (fun _ _=>default) A4.c)) (Cv.refl _)))) ?_
 refine Bc (ι:=Nat×List A4×Int) (fun x=>⟨[(1,tP 200001 0),(2,tP 200002 0),(3,tP 200003 0),(7,tI x.2.2)],[(100000,.row 8 x.2.1.length (AP A4.c x.2.1) 90),(200001,.cells (AC.c b) 42),(200002,Z6G),(200003,.cells [.val (v 0),.val (v 1),.val (v 2),.val (v 3),.val (v 4),.val (v 5),.val (v 6),.val (v 7),.own 100000 8 x.2.1.length,.val (v 9),.val (v 10),.val (v 11),.val (v 12),.val (v 13),.val (v 14)] 42)]⟩) (fun x=>((b.Pours.length:Int)-x.2.2).toNat<x.1/\(0<=x.2.2/\(x.2.2<=(b.Pours.length:Int)\/x.2.2=0)/\(x.2.1.length:Int)<=0+1*(x.2.2-0))/\FJ b x.1 x.2.1 x.2.2=Ad b) (fun x=>x.1) ?_ (((b.Pours.length:Int)-0).toNat+1,([]:List A4),0) ⟨Nat.lt_succ_self _,⟨ax0,ax0,ax0⟩,(by simp only [Ad,cond_true,cond_false])⟩
 rintro ⟨n0,BH,v7⟩ ⟨hm0,hinv0,hF0⟩
 try dsimp only at hm0 hinv0 hF0
 cases n0 with | zero=>exact nz hm0 | succ n0 => ?_
 have hb:=hc.rec' v7.toNat
 refine AB<|AB ?_
 refine rn ⟨[(1,tP 200001 0),(2,tP 200002 0),(3,tP 200003 0),(7,tI v7),(89,tB (decide ((v7:Int)<(b.Pours.length:Int))))],[(100000,Z6H BH),(200001,.cells (AC.c b) 42),(200002,Z6G),(200003,Z6I v BH)]⟩ ?_
 refine AL _ rfl (fun h1 => ?_) (fun h1 => ?_)
 ·have g1:=oT h1
  refine Af<|AF ?_
  refine AB<|AX<|AB ?_
  refine rc [] [0<=(v7:Int)/\(v7:Int)<((b.Pours.length:Nat):Int)] ⟨[(1,tP 200001 0),(2,tP 200002 0),(3,tP 200003 0),(7,tI v7),(8,tP 8 0)],[(8,.cells (A4.c (b.Pours.getD v7.toNat default)) 90),(100000,Z6H BH),(200001,.cells (AC.c b) 42),(200002,Z6G),(200003,Z6I v BH)]⟩ .nil (.cons au1 .nil)<|AF<|AB ?_
  refine C4 DV [1000097] [] [] [1,2,3,7,8] [8,100000,200001,200002,200003] [(b.Pours.getD v7.toNat default).Rects.length<=maxLen,(b.Pours.getD v7.toNat default).Rects.length*32<=140737488355328] ⟨[(1,tP 200001 0),(2,tP 200002 0),(3,tP 200003 0),(7,tI v7),(8,tP 8 0)],[(8,.cells (A4.c (b.Pours.getD v7.toNat default)) 90),(100000,Z6H BH),(200001,.cells (AC.c b) 42),(200002,Z6G),(200003,Z6I v BH)]⟩ .nil kr (.cons au4 (.cons au4 .nil))<|AF ?_
  refine rc [] [BH.length=BH.length,BH.length+1<=maxLen,(BH.length+1)*88<=140737488355328] ⟨[(1,tP 200001 0),(2,tP 200002 0),(3,tP 200003 0),(7,tI v7)],[(106,.row 8 (BH.length+1) (fun i_ j_=>if i_<BH.length then (AP A4.c BH) i_ j_ else (As 8 1 (A4.c (b.Pours.getD v7.toNat default))) (i_-BH.length) j_) 90),(200001,.cells (AC.c b) 42),(200002,Z6G),(200003,.cells [.val (v 0),.val (v 1),.val (v 2),.val (v 3),.val (v 4),.val (v 5),.val (v 6),.val (v 7),.own 106 8 (BH.length+1),.val (v 9),.val (v 10),.val (v 11),.val (v 12),.val (v 13),.val (v 14)] 42)]⟩ .nil (.cons rfl (.cons au4 (.cons au4 .nil)))<|A8<|AF ?_
  refine Aq (Cv.trans (BS (⟨[(1,tP 200001 0),(2,tP 200002 0),(3,tP 200003 0),(7,tI v7)],[(106,Z6J BH b v7),(200001,.cells (AC.c b) 42),(200002,Z6G),(200003,Z6K v BH b v7)]⟩) lr (.cons ⟨rfl,Ao 90 (Au (An 8 A4.c BH) (Ae (c:=A4.c) (xs:=([b.Pours.getD v7.toNat default]:List A4)) rfl kr))⟩ (.cons ⟨rfl,.refl _⟩ (.cons ⟨rfl,.refl _⟩ (.cons ⟨rfl,.cells _ (rr (rr (rr (rr (rr (rr (rr (rr (.cons (.own _ _ au0) (rr (rr (rr (rr (rr (rr .nil)))))))))))))))⟩ .nil))))) (Cv.refl _)) ?_
  refine rg ⟨[(1,tP 200001 0),(2,tP 200002 0),(3,tP 200003 0),(7,tI (W64 (v7+1)))],[(106,Z6J BH b v7),(200001,.cells (AC.c b) 42),(200002,Z6G),(200003,Z6K v BH b v7)]⟩ ?_
  (try rw [(show W64 (v7+1)=v7+1 from A1 (by omega) au9)])
  refine AF ?_
  refine ⟨(n0,BH++[b.Pours.getD v7.toNat default],v7+1),⟨?_,?_,(by rw [<- hF0];simp only [FJ,h1,cond_true,cond_false])⟩,Nat.lt_succ_self _,Cv.trans (CC (⟨[(1,tP 200001 0),(2,tP 200002 0),(3,tP 200003 0),(7,tI (v7+1))],[(100000,Z6J BH b v7),(200001,.cells (AC.c b) 42),(200002,Z6G),(200003,.cells [.val (v 0),.val (v 1),.val (v 2),.val (v 3),.val (v 4),.val (v 5),.val (v 6),.val (v 7),.own 100000 8 (BH++[b.Pours.getD v7.toNat default]).length,.val (v 9),.val (v 10),.val (v 11),.val (v 12),.val (v 13),.val (v 14)] 42)]⟩) 106 100000 (K:=[200003,200001,200002]) hP rfl rfl kr kr) (BM kr)⟩
  ·show ((b.Pours.length:Int)-(v7+1)).toNat<n0;omega
  exact ⟨ax0,ax0,ax0⟩
 have g1:=oF h1
 refine BU<|BE ?_
 refine BE<|BV ?_
 exact ⟨_,Cv.trans (B4 [1,2,3] [100000,200001,200002,200003] (⟨[(1,tP 200001 0),(2,tP 200002 0),(3,tP 200003 0)],[(100000,Z6H BH),(200001,.cells (AC.c b) 42),(200002,Z6G),(200003,Z6I v BH)]⟩) kr) (Cv.trans (CC (⟨[(1,tP 200001 0),(2,tP 200002 0),(3,tP 200003 0)],[(200104,Z6H BH),(200001,.cells (AC.c b) 42),(200002,Z6G),(200003,Z6L v BH)]⟩) 100000 200104 (K:=[200003,200001,200002]) hP rfl rfl kr kr) (Cv.trans (B4 [1,2,3] [200003,200001,200002,200104] (⟨[(1,tP 200001 0),(2,tP 200002 0),(3,tP 200003 0)],[(200003,Z6L v BH),(200001,.cells (AC.c b) 42),(200002,Z6G),(200104,Z6H BH)]⟩) kr) (Cv.refl _))),rfl,(),trivial,congrArg (UA b v) (show BH=_ from (by rw [<- hF0];first | (simp only [FJ,h1,cond_true,cond_false] <;> rfl)))⟩
def Z6M:Blk:=.cells GD 42
def Z6N:Blk:=.row 5 BN.length (AP BT.c BN) 93
def Z6O:Blk:=.cells (Cf v [.val (v 8),.own 100000 5 BN.length,.val (v 10),.val (v 11),.val (v 12),.val (v 13),.val (v 14)]) 42
def Z6P:A2:=Aj (b.Keeps.getD v9.toNat default).Shape
abbrev Vg:=[BT.mk (b.Keeps.getD v9.toNat default).Id (b.Keeps.getD v9.toNat default).Layer (Z6P b v9)]
def Z6Q (BN:List BT) (b:AC) (v9:Int):Blk:=.row 5 (BN++(Vg b v9)).length (AP BT.c (BN++(Vg b v9))) 93
def Z6R (v:(Nat->Value)) (BN:List BT) (b:AC) (v9:Int):Blk:=.cells (Cf v [.val (v 8),.own 128 5 (BN++(Vg b v9)).length,.val (v 10),.val (v 11),.val (v 12),.val (v 13),.val (v 14)]) 42
def Z6S:Blk:=.cells (Cf v [.val (v 8),.own 200106 5 BN.length,.val (v 10),.val (v 11),.val (v 12),.val (v 13),.val (v 14)]) 42
def FK (b:AC):Nat->List BT->Int->(List BT)
 | 0,_,_=>default
 | n0+1,BN,v9=>bif decide ((v9:Int)<(b.Keeps.length:Int)) then ((FK b n0) (BN++[BT.mk (b.Keeps.getD v9.toNat default).Id (b.Keeps.getD v9.toNat default).Layer (Z6P b v9)]) (v9+1)) else BN
def Aa (b:AC):(List BT):=FK b (((b.Keeps.length:Int)-0).toNat+1) ([]:List BT) 0
abbrev UB (b:AC) (v:Nat->Value) (xs:List BT):AS:=⟨Bh,[(200003,.cells (Cf v [.val (v 8),.own 200106 5 xs.length,.val (v 10),.val (v 11),.val (v 12),.val (v 13),.val (v 14)]) 42),(Bk b),D2,(200106,.row 5 xs.length (AP BT.c xs) 93)]⟩
set_option maxHeartbeats 4000000 in
theorem LU (b:AC) (hc:CM b) {c:Code} (hpc:Try.f12.body.bind (Fg [true,true,true,true,true,false,true])=some c):NN Try.prog 229 [200003,200001,200002] c (fun _:Unit=>True) (fun v=>⟨[(1,tP 200001 0),(2,tP 200002 0),(3,tP 200003 0),(9,tI 0)],[(200003,.cells [.val (v 0),.val (v 1),.val (v 2),.val (v 3),.val (v 4),.val (v 5),.val (v 6),.val (v 7),.val (v 8),vN,.val (v 10),.val (v 11),.val (v 12),.val (v 13),.val (v 14)] 42),(200001,.cells (AC.c b) 42),(200002,.cells [.i 0,.i 0,vN,.i 0,vN,vN,vN,vN,vN,vN,vN,vN,vN,vN,vN] 42)]⟩) (fun v _=>UB b v (Aa b)):=by
 cases hpc
 intro W0 M0 X v hP hFl
 show AWp _ _ _ _ _ _ _ _ ⟨[(1,tP 200001 0),(2,tP 200002 0),(3,tP 200003 0),(9,tI 0)],[(200003,.cells [.val (v 0),.val (v 1),.val (v 2),.val (v 3),.val (v 4),.val (v 5),.val (v 6),.val (v 7),.val (v 8),vN,.val (v 10),.val (v 11),.val (v 12),.val (v 13),.val (v 14)] 42),(200001,.cells (AC.c b) 42),(200002,.cells [.i 0,.i 0,vN,.i 0,vN,vN,vN,vN,vN,vN,vN,vN,vN,vN,vN] 42)]⟩
 have h0:=hc.lParts
 have h1:=hc.lNets
 have h2:=hc.lTracks
 have h3:=hc.lVias
 have h4:=hc.lPours
 have h5:=hc.lKeeps
 have h6:=hc.lSlots
 have h7:=hc.lClasses
 have h8:=hc.lWaivers
 have h9:=hc.lMatches
 have h10:=hc.lRules
 have hr:=hc.rok
 refine AX ?_
 refine Aq (Cv.trans (B4 [1,2,3,9] [200001,200002,200003] (⟨[(1,tP 200001 0),(2,tP 200002 0),(3,tP 200003 0),(9,tI 0)],[(200001,.cells (AC.c b) 42),(200002,Z6M),(200003,.cells [.val (v 0),.val (v 1),.val (v 2),.val (v 3),.val (v 4),.val (v 5),.val (v 6),.val (v 7),.val (v 8),vN,.val (v 10),.val (v 11),.val (v 12),.val (v 13),.val (v 14)] 42)]⟩) kr) (Cv.trans (FP (⟨[(1,tP 200001 0),(2,tP 200002 0),(3,tP 200003 0),(9,tI 0)],[(100000,.row 5 0 (fun _ _=>default) 93),(200001,.cells (AC.c b) 42),(200002,Z6M),(200003,.cells [.val (v 0),.val (v 1),.val (v 2),.val (v 3),.val (v 4),.val (v 5),.val (v 6),.val (v 7),.val (v 8),.own 100000 5 0,.val (v 10),.val (v 11),.val (v 12),.val (v 13),.val (v 14)] 42)]⟩) 100000 5 (fun _ _=>default) 93 [] [(200003,[9])] (K:=[200003,200001,200002]) hP rfl kr kr) (Cv.trans (Fx (⟨[(1,tP 200001 0),(2,tP 200002 0),(3,tP 200003 0),(9,tI 0)],[(100000,.row 5 ([]:List BT).length (AP BT.c ([]:List BT)) 93),(200001,.cells (AC.c b) 42),(200002,Z6M),(200003,.cells [.val (v 0),.val (v 1),.val (v 2),.val (v 3),.val (v 4),.val (v 5),.val (v 6),.val (v 7),.val (v 8),.own 100000 5 ([]:List BT).length,.val (v 10),.val (v 11),.val (v 12),.val (v 13),.val (v 14)] 42)]⟩) 100000 (CL 5 (fun _ _=>default) BT.c)) (Cv.refl _)))) ?_
 refine Bc (ι:=Nat×List BT×Int) (fun x=>⟨[(1,tP 200001 0),(2,tP 200002 0),(3,tP 200003 0),(9,tI x.2.2)],[(100000,.row 5 x.2.1.length (AP BT.c x.2.1) 93),(200001,.cells (AC.c b) 42),(200002,Z6M),(200003,.cells [.val (v 0),.val (v 1),.val (v 2),.val (v 3),.val (v 4),.val (v 5),.val (v 6),.val (v 7),.val (v 8),.own 100000 5 x.2.1.length,.val (v 10),.val (v 11),.val (v 12),.val (v 13),.val (v 14)] 42)]⟩) (fun x=>((b.Keeps.length:Int)-x.2.2).toNat<x.1/\(0<=x.2.2/\(x.2.2<=(b.Keeps.length:Int)\/x.2.2=0)/\(x.2.1.length:Int)<=0+1*(x.2.2-0))/\FK b x.1 x.2.1 x.2.2=Aa b) (fun x=>x.1) ?_ (((b.Keeps.length:Int)-0).toNat+1,([]:List BT),0) ⟨Nat.lt_succ_self _,⟨ax0,ax0,ax0⟩,(by simp only [Aa,cond_true,cond_false])⟩
 rintro ⟨n0,BN,v9⟩ ⟨hm0,hinv0,hF0⟩
 try dsimp only at hm0 hinv0 hF0
 cases n0 with | zero=>exact nz hm0 | succ n0 => ?_
 refine AB<|AB ?_
 refine rn ⟨[(1,tP 200001 0),(2,tP 200002 0),(3,tP 200003 0),(9,tI v9),(112,tB (decide ((v9:Int)<(b.Keeps.length:Int))))],[(100000,Z6N BN),(200001,.cells (AC.c b) 42),(200002,Z6M),(200003,Z6O v BN)]⟩ ?_
 refine AL _ rfl (fun h1 => ?_) (fun h1 => ?_)
 ·have g1:=oT h1
  refine Af<|AF ?_
  refine AB<|AX<|AB ?_
  refine oc [] [0<=(v9:Int)/\(v9:Int)<((b.Keeps.length:Nat):Int)] .nil (.cons au1 .nil)<|AF<|AB ?_
  refine oc [(122,Bv (b.Keeps.getD v9.toNat default).Shape)] [A0 (Bv (b.Keeps.getD v9.toNat default).Shape).2.1] (.cons (Dm (b.Keeps.getD v9.toNat default).Shape au30) .nil) (.cons rfl .nil)<|AF ?_
  refine rc [] [BN.length=BN.length,BN.length+1<=maxLen,(BN.length+1)*56<=140737488355328] ⟨[(1,tP 200001 0),(2,tP 200002 0),(3,tP 200003 0),(9,tI v9)],[(128,.row 5 (BN.length+1) (fun i_ j_=>if i_<BN.length then (AP BT.c BN) i_ j_ else (As 5 1 [.i (b.Keeps.getD v9.toNat default).Id,.i (b.Keeps.getD v9.toNat default).Layer,.i (Z6P b v9).Kind,lst 7 AQ.c (Z6P b v9).Edges,.i (Z6P b v9).R]) (i_-BN.length) j_) 93),(200001,.cells (AC.c b) 42),(200002,Z6M),(200003,.cells [.val (v 0),.val (v 1),.val (v 2),.val (v 3),.val (v 4),.val (v 5),.val (v 6),.val (v 7),.val (v 8),.own 128 5 (BN.length+1),.val (v 10),.val (v 11),.val (v 12),.val (v 13),.val (v 14)] 42)]⟩ .nil (.cons rfl (.cons au4 (.cons au4 .nil)))<|A8<|AF ?_
  refine Aq (Cv.trans (BS (⟨[(1,tP 200001 0),(2,tP 200002 0),(3,tP 200003 0),(9,tI v9)],[(128,Z6Q BN b v9),(200001,.cells (AC.c b) 42),(200002,Z6M),(200003,Z6R v BN b v9)]⟩) lr (.cons ⟨rfl,Ao 93 (Au (An 5 BT.c BN) (Ae (c:=BT.c) (xs:=([BT.mk (b.Keeps.getD v9.toNat default).Id (b.Keeps.getD v9.toNat default).Layer (Z6P b v9)]:List BT)) rfl kr))⟩ (.cons ⟨rfl,.refl _⟩ (.cons ⟨rfl,.refl _⟩ (.cons ⟨rfl,.cells _ (rr (rr (rr (rr (rr (rr (rr (rr (rr (.cons (.own _ _ au0) (rr (rr (rr (rr (rr .nil)))))))))))))))⟩ .nil))))) (Cv.refl _)) ?_
  refine rg ⟨[(1,tP 200001 0),(2,tP 200002 0),(3,tP 200003 0),(9,tI (W64 (v9+1)))],[(128,Z6Q BN b v9),(200001,.cells (AC.c b) 42),(200002,Z6M),(200003,Z6R v BN b v9)]⟩ ?_
  (try rw [(show W64 (v9+1)=v9+1 from A1 (by omega) au9)])
  refine AF ?_
  refine ⟨(n0,BN++[BT.mk (b.Keeps.getD v9.toNat default).Id (b.Keeps.getD v9.toNat default).Layer (Z6P b v9)],v9+1),⟨?_,?_,(by rw [<- hF0];simp only [FK,h1,cond_true,cond_false])⟩,Nat.lt_succ_self _,Cv.trans (CC (⟨[(1,tP 200001 0),(2,tP 200002 0),(3,tP 200003 0),(9,tI (v9+1))],[(100000,Z6Q BN b v9),(200001,.cells (AC.c b) 42),(200002,Z6M),(200003,.cells [.val (v 0),.val (v 1),.val (v 2),.val (v 3),.val (v 4),.val (v 5),.val (v 6),.val (v 7),.val (v 8),.own 100000 5 (BN++[BT.mk (b.Keeps.getD v9.toNat default).Id (b.Keeps.getD v9.toNat default).Layer (Z6P b v9)]).length,.val (v 10),.val (v 11),.val (v 12),.val (v 13),.val (v 14)] 42)]⟩) 128 100000 (K:=[200003,200001,200002]) hP rfl rfl kr kr) (BM kr)⟩
  ·show ((b.Keeps.length:Int)-(v9+1)).toNat<n0;omega
  exact ⟨ax0,ax0,ax0⟩
 have g1:=oF h1
 refine BU<|BE ?_
 refine BE<|BV ?_
 exact ⟨_,Cv.trans (B4 [1,2,3] [100000,200001,200002,200003] (⟨[(1,tP 200001 0),(2,tP 200002 0),(3,tP 200003 0)],[(100000,Z6N BN),(200001,.cells (AC.c b) 42),(200002,Z6M),(200003,Z6O v BN)]⟩) kr) (Cv.trans (CC (⟨[(1,tP 200001 0),(2,tP 200002 0),(3,tP 200003 0)],[(200106,Z6N BN),(200001,.cells (AC.c b) 42),(200002,Z6M),(200003,Z6S v BN)]⟩) 100000 200106 (K:=[200003,200001,200002]) hP rfl rfl kr kr) (Cv.trans (B4 [1,2,3] [200003,200001,200002,200106] (⟨[(1,tP 200001 0),(2,tP 200002 0),(3,tP 200003 0)],[(200003,Z6S v BN),(200001,.cells (AC.c b) 42),(200002,Z6M),(200106,Z6N BN)]⟩) kr) (Cv.refl _))),rfl,(),trivial,congrArg (UB b v) (show BN=_ from (by rw [<- hF0];first | (simp only [FK,h1,cond_true,cond_false] <;> rfl)))⟩
def Z6T:Blk:=.cells GD 42
def Z6U:Blk:=.row 4 BC.length (AP Bi.c BC) 95
def Z6V:Blk:=.cells (Cf v [.val (v 8),.val (v 9),.own 100000 4 BC.length,.val (v 11),.val (v 12),.val (v 13),.val (v 14)]) 42
def Z6W:A2:=Aj (b.Slots.getD v11.toNat default).Shape
abbrev VR:=[Bi.mk (b.Slots.getD v11.toNat default).Id (Z6W b v11)]
def Z6X (BC:List Bi) (b:AC) (v11:Int):Blk:=.row 4 (BC++(VR b v11)).length (AP Bi.c (BC++(VR b v11))) 95
def Z6Y (v:(Nat->Value)) (BC:List Bi) (b:AC) (v11:Int):Blk:=.cells (Cf v [.val (v 8),.val (v 9),.own 150 4 (BC++(VR b v11)).length,.val (v 11),.val (v 12),.val (v 13),.val (v 14)]) 42
def Z6Z:Blk:=.cells (Cf v [.val (v 8),.val (v 9),.own 200108 4 BC.length,.val (v 11),.val (v 12),.val (v 13),.val (v 14)]) 42
def FH (b:AC):Nat->List Bi->Int->(List Bi)
 | 0,_,_=>default
 | n0+1,BC,v11=>bif decide ((v11:Int)<(b.Slots.length:Int)) then ((FH b n0) (BC++[Bi.mk (b.Slots.getD v11.toNat default).Id (Z6W b v11)]) (v11+1)) else BC
def AY (b:AC):(List Bi):=FH b (((b.Slots.length:Int)-0).toNat+1) ([]:List Bi) 0
abbrev T8 (b:AC) (v:Nat->Value) (xs:List Bi):AS:=⟨Bh,[(200003,.cells (Cf v [.val (v 8),.val (v 9),.own 200108 4 xs.length,.val (v 11),.val (v 12),.val (v 13),.val (v 14)]) 42),(Bk b),D2,(200108,.row 4 xs.length (AP Bi.c xs) 95)]⟩
set_option maxHeartbeats 4000000 in
theorem LS (b:AC) (hc:CM b) {c:Code} (hpc:Try.f12.body.bind (Fg [true,true,true,true,true,true,false,true])=some c):NN Try.prog 229 [200003,200001,200002] c (fun _:Unit=>True) (fun v=>⟨[(1,tP 200001 0),(2,tP 200002 0),(3,tP 200003 0),(11,tI 0)],[(200003,.cells [.val (v 0),.val (v 1),.val (v 2),.val (v 3),.val (v 4),.val (v 5),.val (v 6),.val (v 7),.val (v 8),.val (v 9),vN,.val (v 11),.val (v 12),.val (v 13),.val (v 14)] 42),(200001,.cells (AC.c b) 42),(200002,.cells [.i 0,.i 0,vN,.i 0,vN,vN,vN,vN,vN,vN,vN,vN,vN,vN,vN] 42)]⟩) (fun v _=>T8 b v (AY b)):=by
 cases hpc
 intro W0 M0 X v hP hFl
 show AWp _ _ _ _ _ _ _ _ ⟨[(1,tP 200001 0),(2,tP 200002 0),(3,tP 200003 0),(11,tI 0)],[(200003,.cells [.val (v 0),.val (v 1),.val (v 2),.val (v 3),.val (v 4),.val (v 5),.val (v 6),.val (v 7),.val (v 8),.val (v 9),vN,.val (v 11),.val (v 12),.val (v 13),.val (v 14)] 42),(200001,.cells (AC.c b) 42),(200002,.cells [.i 0,.i 0,vN,.i 0,vN,vN,vN,vN,vN,vN,vN,vN,vN,vN,vN] 42)]⟩
 have h0:=hc.lParts
 have h1:=hc.lNets
 have h2:=hc.lTracks
 have h3:=hc.lVias
 have h4:=hc.lPours
 have h5:=hc.lKeeps
 have h6:=hc.lSlots
 have h7:=hc.lClasses
 have h8:=hc.lWaivers
 have h9:=hc.lMatches
 have h10:=hc.lRules
 have hr:=hc.rok
 refine AX ?_
 refine Aq (Cv.trans (B4 [1,2,3,11] [200001,200002,200003] (⟨[(1,tP 200001 0),(2,tP 200002 0),(3,tP 200003 0),(11,tI 0)],[(200001,.cells (AC.c b) 42),(200002,Z6T),(200003,.cells [.val (v 0),.val (v 1),.val (v 2),.val (v 3),.val (v 4),.val (v 5),.val (v 6),.val (v 7),.val (v 8),.val (v 9),vN,.val (v 11),.val (v 12),.val (v 13),.val (v 14)] 42)]⟩) kr) (Cv.trans (FP (⟨[(1,tP 200001 0),(2,tP 200002 0),(3,tP 200003 0),(11,tI 0)],[(100000,.row 4 0 (fun _ _=>default) 95),(200001,.cells (AC.c b) 42),(200002,Z6T),(200003,.cells [.val (v 0),.val (v 1),.val (v 2),.val (v 3),.val (v 4),.val (v 5),.val (v 6),.val (v 7),.val (v 8),.val (v 9),.own 100000 4 0,.val (v 11),.val (v 12),.val (v 13),.val (v 14)] 42)]⟩) 100000 4 (fun _ _=>default) 95 [] [(200003,[10])] (K:=[200003,200001,200002]) hP rfl kr kr) (Cv.trans (Fx (⟨[(1,tP 200001 0),(2,tP 200002 0),(3,tP 200003 0),(11,tI 0)],[(100000,.row 4 ([]:List Bi).length (AP Bi.c ([]:List Bi)) 95),(200001,.cells (AC.c b) 42),(200002,Z6T),(200003,.cells [.val (v 0),.val (v 1),.val (v 2),.val (v 3),.val (v 4),.val (v 5),.val (v 6),.val (v 7),.val (v 8),.val (v 9),.own 100000 4 ([]:List Bi).length,.val (v 11),.val (v 12),.val (v 13),.val (v 14)] 42)]⟩) 100000 (CL 4 (fun _ _=>default) Bi.c)) (Cv.refl _)))) ?_
 refine Bc (ι:=Nat×List Bi×Int) (fun x=>⟨[(1,tP 200001 0),(2,tP 200002 0),(3,tP 200003 0),(11,tI x.2.2)],[(100000,.row 4 x.2.1.length (AP Bi.c x.2.1) 95),(200001,.cells (AC.c b) 42),(200002,Z6T),(200003,.cells [.val (v 0),.val (v 1),.val (v 2),.val (v 3),.val (v 4),.val (v 5),.val (v 6),.val (v 7),.val (v 8),.val (v 9),.own 100000 4 x.2.1.length,.val (v 11),.val (v 12),.val (v 13),.val (v 14)] 42)]⟩) (fun x=>((b.Slots.length:Int)-x.2.2).toNat<x.1/\(0<=x.2.2/\(x.2.2<=(b.Slots.length:Int)\/x.2.2=0)/\(x.2.1.length:Int)<=0+1*(x.2.2-0))/\FH b x.1 x.2.1 x.2.2=AY b) (fun x=>x.1) ?_ (((b.Slots.length:Int)-0).toNat+1,([]:List Bi),0) ⟨Nat.lt_succ_self _,⟨ax0,ax0,ax0⟩,(by simp only [AY,cond_true,cond_false])⟩
 rintro ⟨n0,BC,v11⟩ ⟨hm0,hinv0,hF0⟩
 try dsimp only at hm0 hinv0 hF0
 cases n0 with | zero=>exact nz hm0 | succ n0 => ?_
 refine AB<|AB ?_
 refine rn ⟨[(1,tP 200001 0),(2,tP 200002 0),(3,tP 200003 0),(11,tI v11),(134,tB (decide ((v11:Int)<(b.Slots.length:Int))))],[(100000,Z6U BC),(200001,.cells (AC.c b) 42),(200002,Z6T),(200003,Z6V v BC)]⟩ ?_
 refine AL _ rfl (fun h1 => ?_) (fun h1 => ?_)
 ·have g1:=oT h1
  refine Af<|AF ?_
  refine AB<|AX<|AB ?_
  refine oc [] [0<=(v11:Int)/\(v11:Int)<((b.Slots.length:Nat):Int)] .nil (.cons au1 .nil)<|AF<|AB ?_
  refine oc [(144,Bv (b.Slots.getD v11.toNat default).Shape)] [A0 (Bv (b.Slots.getD v11.toNat default).Shape).2.1] (.cons (Dm (b.Slots.getD v11.toNat default).Shape au30) .nil) (.cons rfl .nil)<|AF ?_
  refine rc [] [BC.length=BC.length,BC.length+1<=maxLen,(BC.length+1)*48<=140737488355328] ⟨[(1,tP 200001 0),(2,tP 200002 0),(3,tP 200003 0),(11,tI v11)],[(150,.row 4 (BC.length+1) (fun i_ j_=>if i_<BC.length then (AP Bi.c BC) i_ j_ else (As 4 1 [.i (b.Slots.getD v11.toNat default).Id,.i (Z6W b v11).Kind,lst 7 AQ.c (Z6W b v11).Edges,.i (Z6W b v11).R]) (i_-BC.length) j_) 95),(200001,.cells (AC.c b) 42),(200002,Z6T),(200003,.cells [.val (v 0),.val (v 1),.val (v 2),.val (v 3),.val (v 4),.val (v 5),.val (v 6),.val (v 7),.val (v 8),.val (v 9),.own 150 4 (BC.length+1),.val (v 11),.val (v 12),.val (v 13),.val (v 14)] 42)]⟩ .nil (.cons rfl (.cons au4 (.cons au4 .nil)))<|A8<|AF ?_
  refine Aq (Cv.trans (BS (⟨[(1,tP 200001 0),(2,tP 200002 0),(3,tP 200003 0),(11,tI v11)],[(150,Z6X BC b v11),(200001,.cells (AC.c b) 42),(200002,Z6T),(200003,Z6Y v BC b v11)]⟩) lr (.cons ⟨rfl,Ao 95 (Au (An 4 Bi.c BC) (Ae (c:=Bi.c) (xs:=([Bi.mk (b.Slots.getD v11.toNat default).Id (Z6W b v11)]:List Bi)) rfl kr))⟩ (.cons ⟨rfl,.refl _⟩ (.cons ⟨rfl,.refl _⟩ (.cons ⟨rfl,.cells _ (rr (rr (rr (rr (rr (rr (rr (rr (rr (rr (.cons (.own _ _ au0) (rr (rr (rr (rr .nil)))))))))))))))⟩ .nil))))) (Cv.refl _)) ?_
  refine rg ⟨[(1,tP 200001 0),(2,tP 200002 0),(3,tP 200003 0),(11,tI (W64 (v11+1)))],[(150,Z6X BC b v11),(200001,.cells (AC.c b) 42),(200002,Z6T),(200003,Z6Y v BC b v11)]⟩ ?_
  (try rw [(show W64 (v11+1)=v11+1 from A1 (by omega) au9)])
  refine AF ?_
  refine ⟨(n0,BC++[Bi.mk (b.Slots.getD v11.toNat default).Id (Z6W b v11)],v11+1),⟨?_,?_,(by rw [<- hF0];simp only [FH,h1,cond_true,cond_false])⟩,Nat.lt_succ_self _,Cv.trans (CC (⟨[(1,tP 200001 0),(2,tP 200002 0),(3,tP 200003 0),(11,tI (v11+1))],[(100000,Z6X BC b v11),(200001,.cells (AC.c b) 42),(200002,Z6T),(200003,.cells [.val (v 0),.val (v 1),.val (v 2),.val (v 3),.val (v 4),.val (v 5),.val (v 6),.val (v 7),.val (v 8),.val (v 9),.own 100000 4 (BC++[Bi.mk (b.Slots.getD v11.toNat default).Id (Z6W b v11)]).length,.val (v 11),.val (v 12),.val (v 13),.val (v 14)] 42)]⟩) 150 100000 (K:=[200003,200001,200002]) hP rfl rfl kr kr) (BM kr)⟩
  ·show ((b.Slots.length:Int)-(v11+1)).toNat<n0;omega
  exact ⟨ax0,ax0,ax0⟩
 have g1:=oF h1
 refine BU<|BE ?_
 refine BE<|BV ?_
 exact ⟨_,Cv.trans (B4 [1,2,3] [100000,200001,200002,200003] (⟨[(1,tP 200001 0),(2,tP 200002 0),(3,tP 200003 0)],[(100000,Z6U BC),(200001,.cells (AC.c b) 42),(200002,Z6T),(200003,Z6V v BC)]⟩) kr) (Cv.trans (CC (⟨[(1,tP 200001 0),(2,tP 200002 0),(3,tP 200003 0)],[(200108,Z6U BC),(200001,.cells (AC.c b) 42),(200002,Z6T),(200003,Z6Z v BC)]⟩) 100000 200108 (K:=[200003,200001,200002]) hP rfl rfl kr kr) (Cv.trans (B4 [1,2,3] [200003,200001,200002,200108] (⟨[(1,tP 200001 0),(2,tP 200002 0),(3,tP 200003 0)],[(200003,Z6Z v BC),(200001,.cells (AC.c b) 42),(200002,Z6T),(200108,Z6U BC)]⟩) kr) (Cv.refl _))),rfl,(),trivial,congrArg (T8 b v) (show BC=_ from (by rw [<- hF0];first | (simp only [FH,h1,cond_true,cond_false] <;> rfl)))⟩
def Z70:Blk:=.cells GD 42
def Z71:Blk:=.row 2 BB.length (AP BQ.c BB) 98
abbrev GF (t_:List Cl):List Cl:=(.val (v 8))::(.val (v 9))::(.val (v 10))::t_
def Z72:Blk:=.cells (Cf v (GF v [.own 100000 2 BB.length,.val (v 12),.val (v 13),.val (v 14)])) 42
def Z73 (BB:List BQ) (b:AC) (v13:Int):Blk:=.row 2 (BB++[b.Classes.getD v13.toNat default]).length (AP BQ.c (BB++[b.Classes.getD v13.toNat default])) 98
def Z74 (v:(Nat->Value)) (BB:List BQ) (b:AC) (v13:Int):Blk:=.cells (Cf v (GF v [.own 177 2 (BB++[b.Classes.getD v13.toNat default]).length,.val (v 12),.val (v 13),.val (v 14)])) 42
def Z75:Blk:=.cells (Cf v (GF v [.own 200110 2 BB.length,.val (v 12),.val (v 13),.val (v 14)])) 42
def EJ (b:AC):Nat->List BQ->Int->(List BQ)
 | 0,_,_=>default
 | n0+1,BB,v13=>bif decide ((v13:Int)<(b.Classes.length:Int)) then ((EJ b n0) (BB++[b.Classes.getD v13.toNat default]) (v13+1)) else BB
def AN (b:AC):(List BQ):=EJ b (((b.Classes.length:Int)-0).toNat+1) ([]:List BQ) 0
abbrev Oc (b:AC) (v:Nat->Value) (xs:List BQ):AS:=⟨Bh,[(200003,.cells (Cf v (GF v [.own 200110 2 xs.length,.val (v 12),.val (v 13),.val (v 14)])) 42),(Bk b),D2,(200110,.row 2 xs.length (AP BQ.c xs) 98)]⟩
set_option maxHeartbeats 4000000 in
theorem IM (b:AC) (hc:CM b) {c:Code} (hpc:Try.f12.body.bind (Fg [true,true,true,true,true,true,true,false,true])=some c):NN Try.prog 229 [200003,200001,200002] c (fun _:Unit=>True) (fun v=>⟨[(1,tP 200001 0),(2,tP 200002 0),(3,tP 200003 0),(13,tI 0)],[(200003,.cells [.val (v 0),.val (v 1),.val (v 2),.val (v 3),.val (v 4),.val (v 5),.val (v 6),.val (v 7),.val (v 8),.val (v 9),.val (v 10),vN,.val (v 12),.val (v 13),.val (v 14)] 42),(200001,.cells (AC.c b) 42),(200002,.cells [.i 0,.i 0,vN,.i 0,vN,vN,vN,vN,vN,vN,vN,vN,vN,vN,vN] 42)]⟩) (fun v _=>Oc b v (AN b)):=by
 cases hpc
 intro W0 M0 X v hP hFl
 show AWp _ _ _ _ _ _ _ _ ⟨[(1,tP 200001 0),(2,tP 200002 0),(3,tP 200003 0),(13,tI 0)],[(200003,.cells [.val (v 0),.val (v 1),.val (v 2),.val (v 3),.val (v 4),.val (v 5),.val (v 6),.val (v 7),.val (v 8),.val (v 9),.val (v 10),vN,.val (v 12),.val (v 13),.val (v 14)] 42),(200001,.cells (AC.c b) 42),(200002,.cells [.i 0,.i 0,vN,.i 0,vN,vN,vN,vN,vN,vN,vN,vN,vN,vN,vN] 42)]⟩
 have h0:=hc.lParts
 have h1:=hc.lNets
 have h2:=hc.lTracks
 have h3:=hc.lVias
 have h4:=hc.lPours
 have h5:=hc.lKeeps
 have h6:=hc.lSlots
 have h7:=hc.lClasses
 have h8:=hc.lWaivers
 have h9:=hc.lMatches
 have h10:=hc.lRules
 have hr:=hc.rok
 refine AX ?_
 refine Aq (Cv.trans (B4 [1,2,3,13] [200001,200002,200003] (⟨[(1,tP 200001 0),(2,tP 200002 0),(3,tP 200003 0),(13,tI 0)],[(200001,.cells (AC.c b) 42),(200002,Z70),(200003,.cells [.val (v 0),.val (v 1),.val (v 2),.val (v 3),.val (v 4),.val (v 5),.val (v 6),.val (v 7),.val (v 8),.val (v 9),.val (v 10),vN,.val (v 12),.val (v 13),.val (v 14)] 42)]⟩) kr) (Cv.trans (FP (⟨[(1,tP 200001 0),(2,tP 200002 0),(3,tP 200003 0),(13,tI 0)],[(100000,.row 2 0 (fun _ _=>default) 98),(200001,.cells (AC.c b) 42),(200002,Z70),(200003,.cells [.val (v 0),.val (v 1),.val (v 2),.val (v 3),.val (v 4),.val (v 5),.val (v 6),.val (v 7),.val (v 8),.val (v 9),.val (v 10),.own 100000 2 0,.val (v 12),.val (v 13),.val (v 14)] 42)]⟩) 100000 2 (fun _ _=>default) 98 [] [(200003,[11])] (K:=[200003,200001,200002]) hP rfl kr kr) (Cv.trans (Fx (⟨[(1,tP 200001 0),(2,tP 200002 0),(3,tP 200003 0),(13,tI 0)],[(100000,.row 2 ([]:List BQ).length (AP BQ.c ([]:List BQ)) 98),(200001,.cells (AC.c b) 42),(200002,Z70),(200003,.cells [.val (v 0),.val (v 1),.val (v 2),.val (v 3),.val (v 4),.val (v 5),.val (v 6),.val (v 7),.val (v 8),.val (v 9),.val (v 10),.own 100000 2 ([]:List BQ).length,.val (v 12),.val (v 13),.val (v 14)] 42)]⟩) 100000 (CL 2 (fun _ _=>default) BQ.c)) (Cv.refl _)))) ?_
 refine Bc (ι:=Nat×List BQ×Int) (fun x=>⟨[(1,tP 200001 0),(2,tP 200002 0),(3,tP 200003 0),(13,tI x.2.2)],[(100000,.row 2 x.2.1.length (AP BQ.c x.2.1) 98),(200001,.cells (AC.c b) 42),(200002,Z70),(200003,.cells [.val (v 0),.val (v 1),.val (v 2),.val (v 3),.val (v 4),.val (v 5),.val (v 6),.val (v 7),.val (v 8),.val (v 9),.val (v 10),.own 100000 2 x.2.1.length,.val (v 12),.val (v 13),.val (v 14)] 42)]⟩) (fun x=>((b.Classes.length:Int)-x.2.2).toNat<x.1/\(0<=x.2.2/\(x.2.2<=(b.Classes.length:Int)\/x.2.2=0)/\(x.2.1.length:Int)<=0+1*(x.2.2-0))/\EJ b x.1 x.2.1 x.2.2=AN b) (fun x=>x.1) ?_ (((b.Classes.length:Int)-0).toNat+1,([]:List BQ),0) ⟨Nat.lt_succ_self _,⟨ax0,ax0,ax0⟩,(by simp only [AN,cond_true,cond_false])⟩
 rintro ⟨n0,BB,v13⟩ ⟨hm0,hinv0,hF0⟩
 try dsimp only at hm0 hinv0 hF0
 cases n0 with | zero=>exact nz hm0 | succ n0 => ?_
 have hb:=hc.cnt v13.toNat
 refine AB<|AB ?_
 refine rn ⟨[(1,tP 200001 0),(2,tP 200002 0),(3,tP 200003 0),(13,tI v13),(156,tB (decide ((v13:Int)<(b.Classes.length:Int))))],[(100000,Z71 BB),(200001,.cells (AC.c b) 42),(200002,Z70),(200003,Z72 v BB)]⟩ ?_
 refine AL _ rfl (fun h1 => ?_) (fun h1 => ?_)
 ·have g1:=oT h1
  refine Af<|AF ?_
  refine AB<|AX ?_
  refine dw [1000167] [] [0<=(v13:Int)/\(v13:Int)<((b.Classes.length:Nat):Int),0<=(v13:Int)/\(v13:Int)<((b.Classes.length:Nat):Int),(b.Classes.getD v13.toNat default).Nets.length<=maxLen,(b.Classes.getD v13.toNat default).Nets.length*16<=140737488355328,BB.length=BB.length,BB.length+1<=maxLen,(BB.length+1)*40<=140737488355328] ⟨[(1,tP 200001 0),(2,tP 200002 0),(3,tP 200003 0),(13,tI v13)],[(177,.row 2 (BB.length+1) (fun i_ j_=>if i_<BB.length then (AP BQ.c BB) i_ j_ else (As 2 1 (BQ.c (b.Classes.getD v13.toNat default))) (i_-BB.length) j_) 98),(200001,.cells (AC.c b) 42),(200002,Z70),(200003,.cells [.val (v 0),.val (v 1),.val (v 2),.val (v 3),.val (v 4),.val (v 5),.val (v 6),.val (v 7),.val (v 8),.val (v 9),.val (v 10),.own 177 2 (BB.length+1),.val (v 12),.val (v 13),.val (v 14)] 42)]⟩ .nil (.cons au1 (.cons au1 (.cons au4 (.cons au4 (.cons rfl (.cons au4 (.cons au4 .nil)))))))<|A8<|AF ?_
  refine Aq (Cv.trans (BS (⟨[(1,tP 200001 0),(2,tP 200002 0),(3,tP 200003 0),(13,tI v13)],[(177,Z73 BB b v13),(200001,.cells (AC.c b) 42),(200002,Z70),(200003,Z74 v BB b v13)]⟩) lr (.cons ⟨rfl,Ao 98 (Au (An 2 BQ.c BB) (Ae (c:=BQ.c) (xs:=([b.Classes.getD v13.toNat default]:List BQ)) rfl kr))⟩ (.cons ⟨rfl,.refl _⟩ (.cons ⟨rfl,.refl _⟩ (.cons ⟨rfl,.cells _ (rr (rr (rr (rr (rr (rr (rr (rr (rr (rr (rr (.cons (.own _ _ au0) (rr (rr (rr .nil)))))))))))))))⟩ .nil))))) (Cv.refl _)) ?_
  refine rg ⟨[(1,tP 200001 0),(2,tP 200002 0),(3,tP 200003 0),(13,tI (W64 (v13+1)))],[(177,Z73 BB b v13),(200001,.cells (AC.c b) 42),(200002,Z70),(200003,Z74 v BB b v13)]⟩ ?_
  (try rw [(show W64 (v13+1)=v13+1 from A1 (by omega) au9)])
  refine AF ?_
  refine ⟨(n0,BB++[b.Classes.getD v13.toNat default],v13+1),⟨?_,?_,(by rw [<- hF0];simp only [EJ,h1,cond_true,cond_false])⟩,Nat.lt_succ_self _,Cv.trans (CC (⟨[(1,tP 200001 0),(2,tP 200002 0),(3,tP 200003 0),(13,tI (v13+1))],[(100000,Z73 BB b v13),(200001,.cells (AC.c b) 42),(200002,Z70),(200003,.cells [.val (v 0),.val (v 1),.val (v 2),.val (v 3),.val (v 4),.val (v 5),.val (v 6),.val (v 7),.val (v 8),.val (v 9),.val (v 10),.own 100000 2 (BB++[b.Classes.getD v13.toNat default]).length,.val (v 12),.val (v 13),.val (v 14)] 42)]⟩) 177 100000 (K:=[200003,200001,200002]) hP rfl rfl kr kr) (BM kr)⟩
  ·show ((b.Classes.length:Int)-(v13+1)).toNat<n0;omega
  exact ⟨ax0,ax0,ax0⟩
 have g1:=oF h1
 refine BU<|BE ?_
 refine BE<|BV ?_
 exact ⟨_,Cv.trans (B4 [1,2,3] [100000,200001,200002,200003] (⟨[(1,tP 200001 0),(2,tP 200002 0),(3,tP 200003 0)],[(100000,Z71 BB),(200001,.cells (AC.c b) 42),(200002,Z70),(200003,Z72 v BB)]⟩) kr) (Cv.trans (CC (⟨[(1,tP 200001 0),(2,tP 200002 0),(3,tP 200003 0)],[(200110,Z71 BB),(200001,.cells (AC.c b) 42),(200002,Z70),(200003,Z75 v BB)]⟩) 100000 200110 (K:=[200003,200001,200002]) hP rfl rfl kr kr) (Cv.trans (B4 [1,2,3] [200003,200001,200002,200110] (⟨[(1,tP 200001 0),(2,tP 200002 0),(3,tP 200003 0)],[(200003,Z75 v BB),(200001,.cells (AC.c b) 42),(200002,Z70),(200110,Z71 BB)]⟩) kr) (Cv.refl _))),rfl,(),trivial,congrArg (Oc b v) (show BB=_ from (by rw [<- hF0];first | (simp only [EJ,h1,cond_true,cond_false] <;> rfl)))⟩
def Z76:Blk:=.cells GD 42
def Z77:Blk:=.row 3 A5.length (AP Ba.c A5) 100
def Z78:Blk:=.cells (Cf v (GF v [.val (v 11),.val (v 12),.val (v 13),.own 100000 3 A5.length])) 42
def Z79 (A5:List Ba) (b:AC) (v14:Int):Blk:=.row 3 (A5++[b.Matches.getD v14.toNat default]).length (AP Ba.c (A5++[b.Matches.getD v14.toNat default])) 100
def Z7a (v:(Nat->Value)) (A5:List Ba) (b:AC) (v14:Int):Blk:=.cells (Cf v (GF v [.val (v 11),.val (v 12),.val (v 13),.own 200 3 (A5++[b.Matches.getD v14.toNat default]).length])) 42
def Z7b:Blk:=.cells (Cf v (GF v [.val (v 11),.val (v 12),.val (v 13),.own 200112 3 A5.length])) 42
def EI (b:AC):Nat->List Ba->Int->(List Ba)
 | 0,_,_=>default
 | n0+1,A5,v14=>bif decide ((v14:Int)<(b.Matches.length:Int)) then ((EI b n0) (A5++[b.Matches.getD v14.toNat default]) (v14+1)) else A5
def AM (b:AC):(List Ba):=EI b (((b.Matches.length:Int)-0).toNat+1) ([]:List Ba) 0
abbrev Ob (b:AC) (v:Nat->Value) (xs:List Ba):AS:=⟨Bh,[(200003,.cells (Cf v (GF v [.val (v 11),.val (v 12),.val (v 13),.own 200112 3 xs.length])) 42),(Bk b),D2,(200112,.row 3 xs.length (AP Ba.c xs) 100)]⟩
set_option maxHeartbeats 4000000 in
theorem IL (b:AC) (hc:CM b) {c:Code} (hpc:Try.f12.body.bind (Fg [true,true,true,true,true,true,true,true,false,true])=some c):NN Try.prog 229 [200003,200001,200002] c (fun _:Unit=>True) (fun v=>⟨[(1,tP 200001 0),(2,tP 200002 0),(3,tP 200003 0),(14,tI 0)],[(200003,.cells [.val (v 0),.val (v 1),.val (v 2),.val (v 3),.val (v 4),.val (v 5),.val (v 6),.val (v 7),.val (v 8),.val (v 9),.val (v 10),.val (v 11),.val (v 12),.val (v 13),vN] 42),(200001,.cells (AC.c b) 42),(200002,.cells [.i 0,.i 0,vN,.i 0,vN,vN,vN,vN,vN,vN,vN,vN,vN,vN,vN] 42)]⟩) (fun v _=>Ob b v (AM b)):=by
 cases hpc
 intro W0 M0 X v hP hFl
 show AWp _ _ _ _ _ _ _ _ ⟨[(1,tP 200001 0),(2,tP 200002 0),(3,tP 200003 0),(14,tI 0)],[(200003,.cells [.val (v 0),.val (v 1),.val (v 2),.val (v 3),.val (v 4),.val (v 5),.val (v 6),.val (v 7),.val (v 8),.val (v 9),.val (v 10),.val (v 11),.val (v 12),.val (v 13),vN] 42),(200001,.cells (AC.c b) 42),(200002,.cells [.i 0,.i 0,vN,.i 0,vN,vN,vN,vN,vN,vN,vN,vN,vN,vN,vN] 42)]⟩
 have h0:=hc.lParts
 have h1:=hc.lNets
 have h2:=hc.lTracks
 have h3:=hc.lVias
 have h4:=hc.lPours
 have h5:=hc.lKeeps
 have h6:=hc.lSlots
 have h7:=hc.lClasses
 have h8:=hc.lWaivers
 have h9:=hc.lMatches
 have h10:=hc.lRules
 have hr:=hc.rok
 refine AX ?_
 refine Aq (Cv.trans (B4 [1,2,3,14] [200001,200002,200003] (⟨[(1,tP 200001 0),(2,tP 200002 0),(3,tP 200003 0),(14,tI 0)],[(200001,.cells (AC.c b) 42),(200002,Z76),(200003,.cells [.val (v 0),.val (v 1),.val (v 2),.val (v 3),.val (v 4),.val (v 5),.val (v 6),.val (v 7),.val (v 8),.val (v 9),.val (v 10),.val (v 11),.val (v 12),.val (v 13),vN] 42)]⟩) kr) (Cv.trans (FP (⟨[(1,tP 200001 0),(2,tP 200002 0),(3,tP 200003 0),(14,tI 0)],[(100000,.row 3 0 (fun _ _=>default) 100),(200001,.cells (AC.c b) 42),(200002,Z76),(200003,.cells [.val (v 0),.val (v 1),.val (v 2),.val (v 3),.val (v 4),.val (v 5),.val (v 6),.val (v 7),.val (v 8),.val (v 9),.val (v 10),.val (v 11),.val (v 12),.val (v 13),.own 100000 3 0] 42)]⟩) 100000 3 (fun _ _=>default) 100 [] [(200003,[14])] (K:=[200003,200001,200002]) hP rfl kr kr) (Cv.trans (Fx (⟨[(1,tP 200001 0),(2,tP 200002 0),(3,tP 200003 0),(14,tI 0)],[(100000,.row 3 ([]:List Ba).length (AP Ba.c ([]:List Ba)) 100),(200001,.cells (AC.c b) 42),(200002,Z76),(200003,.cells [.val (v 0),.val (v 1),.val (v 2),.val (v 3),.val (v 4),.val (v 5),.val (v 6),.val (v 7),.val (v 8),.val (v 9),.val (v 10),.val (v 11),.val (v 12),.val (v 13),.own 100000 3 ([]:List Ba).length] 42)]⟩) 100000 (CL 3 (fun _ _=>default) Ba.c)) (Cv.refl _)))) ?_
 refine Bc (ι:=Nat×List Ba×Int) (fun x=>⟨[(1,tP 200001 0),(2,tP 200002 0),(3,tP 200003 0),(14,tI x.2.2)],[(100000,.row 3 x.2.1.length (AP Ba.c x.2.1) 100),(200001,.cells (AC.c b) 42),(200002,Z76),(200003,.cells [.val (v 0),.val (v 1),.val (v 2),.val (v 3),.val (v 4),.val (v 5),.val (v 6),.val (v 7),.val (v 8),.val (v 9),.val (v 10),.val (v 11),.val (v 12),.val (v 13),.own 100000 3 x.2.1.length] 42)]⟩) (fun x=>((b.Matches.length:Int)-x.2.2).toNat<x.1/\(0<=x.2.2/\(x.2.2<=(b.Matches.length:Int)\/x.2.2=0)/\(x.2.1.length:Int)<=0+1*(x.2.2-0))/\EI b x.1 x.2.1 x.2.2=AM b) (fun x=>x.1) ?_ (((b.Matches.length:Int)-0).toNat+1,([]:List Ba),0) ⟨Nat.lt_succ_self _,⟨ax0,ax0,ax0⟩,(by simp only [AM,cond_true,cond_false])⟩
 rintro ⟨n0,A5,v14⟩ ⟨hm0,hinv0,hF0⟩
 try dsimp only at hm0 hinv0 hF0
 cases n0 with | zero=>exact nz hm0 | succ n0 => ?_
 have hb:=hc.mnt v14.toNat
 refine AB<|AB ?_
 refine rn ⟨[(1,tP 200001 0),(2,tP 200002 0),(3,tP 200003 0),(14,tI v14),(183,tB (decide ((v14:Int)<(b.Matches.length:Int))))],[(100000,Z77 A5),(200001,.cells (AC.c b) 42),(200002,Z76),(200003,Z78 v A5)]⟩ ?_
 refine AL _ rfl (fun h1 => ?_) (fun h1 => ?_)
 ·have g1:=oT h1
  refine Af<|AF ?_
  refine AB<|AX<|AB ?_
  refine rc [] [0<=(v14:Int)/\(v14:Int)<((b.Matches.length:Nat):Int)] ⟨[(1,tP 200001 0),(2,tP 200002 0),(3,tP 200003 0),(14,tI v14),(15,tP 15 0)],[(15,.cells (Ba.c (b.Matches.getD v14.toNat default)) 100),(100000,Z77 A5),(200001,.cells (AC.c b) 42),(200002,Z76),(200003,Z78 v A5)]⟩ .nil (.cons au1 .nil)<|AF<|AB ?_
  refine C4 DV [1000191] [] [] [1,2,3,14,15] [15,100000,200001,200002,200003] [(b.Matches.getD v14.toNat default).Nets.length<=maxLen,(b.Matches.getD v14.toNat default).Nets.length*16<=140737488355328] ⟨[(1,tP 200001 0),(2,tP 200002 0),(3,tP 200003 0),(14,tI v14),(15,tP 15 0)],[(15,.cells (Ba.c (b.Matches.getD v14.toNat default)) 100),(100000,Z77 A5),(200001,.cells (AC.c b) 42),(200002,Z76),(200003,Z78 v A5)]⟩ .nil kr (.cons au4 (.cons au4 .nil))<|AF ?_
  refine rc [] [A5.length=A5.length,A5.length+1<=maxLen,(A5.length+1)*48<=140737488355328] ⟨[(1,tP 200001 0),(2,tP 200002 0),(3,tP 200003 0),(14,tI v14)],[(200,.row 3 (A5.length+1) (fun i_ j_=>if i_<A5.length then (AP Ba.c A5) i_ j_ else (As 3 1 (Ba.c (b.Matches.getD v14.toNat default))) (i_-A5.length) j_) 100),(200001,.cells (AC.c b) 42),(200002,Z76),(200003,.cells [.val (v 0),.val (v 1),.val (v 2),.val (v 3),.val (v 4),.val (v 5),.val (v 6),.val (v 7),.val (v 8),.val (v 9),.val (v 10),.val (v 11),.val (v 12),.val (v 13),.own 200 3 (A5.length+1)] 42)]⟩ .nil (.cons rfl (.cons au4 (.cons au4 .nil)))<|A8<|AF ?_
  refine Aq (Cv.trans (BS (⟨[(1,tP 200001 0),(2,tP 200002 0),(3,tP 200003 0),(14,tI v14)],[(200,Z79 A5 b v14),(200001,.cells (AC.c b) 42),(200002,Z76),(200003,Z7a v A5 b v14)]⟩) lr (.cons ⟨rfl,Ao 100 (Au (An 3 Ba.c A5) (Ae (c:=Ba.c) (xs:=([b.Matches.getD v14.toNat default]:List Ba)) rfl kr))⟩ (.cons ⟨rfl,.refl _⟩ (.cons ⟨rfl,.refl _⟩ (.cons ⟨rfl,.cells _ (rr (rr (rr (rr (rr (rr (rr (rr (rr (rr (rr (rr (rr (rr (.cons (.own _ _ au0) .nil)))))))))))))))⟩ .nil))))) (Cv.refl _)) ?_
  refine rg ⟨[(1,tP 200001 0),(2,tP 200002 0),(3,tP 200003 0),(14,tI (W64 (v14+1)))],[(200,Z79 A5 b v14),(200001,.cells (AC.c b) 42),(200002,Z76),(200003,Z7a v A5 b v14)]⟩ ?_
  (try rw [(show W64 (v14+1)=v14+1 from A1 (by omega) au9)])
  refine AF ?_
  refine ⟨(n0,A5++[b.Matches.getD v14.toNat default],v14+1),⟨?_,?_,(by rw [<- hF0];simp only [EI,h1,cond_true,cond_false])⟩,Nat.lt_succ_self _,Cv.trans (CC (⟨[(1,tP 200001 0),(2,tP 200002 0),(3,tP 200003 0),(14,tI (v14+1))],[(100000,Z79 A5 b v14),(200001,.cells (AC.c b) 42),(200002,Z76),(200003,.cells [.val (v 0),.val (v 1),.val (v 2),.val (v 3),.val (v 4),.val (v 5),.val (v 6),.val (v 7),.val (v 8),.val (v 9),.val (v 10),.val (v 11),.val (v 12),.val (v 13),.own 100000 3 (A5++[b.Matches.getD v14.toNat default]).length] 42)]⟩) 200 100000 (K:=[200003,200001,200002]) hP rfl rfl kr kr) (BM kr)⟩
  ·show ((b.Matches.length:Int)-(v14+1)).toNat<n0;omega
  exact ⟨ax0,ax0,ax0⟩
 have g1:=oF h1
 refine BU<|BE ?_
 refine BE<|BV ?_
 exact ⟨_,Cv.trans (B4 [1,2,3] [100000,200001,200002,200003] (⟨[(1,tP 200001 0),(2,tP 200002 0),(3,tP 200003 0)],[(100000,Z77 A5),(200001,.cells (AC.c b) 42),(200002,Z76),(200003,Z78 v A5)]⟩) kr) (Cv.trans (CC (⟨[(1,tP 200001 0),(2,tP 200002 0),(3,tP 200003 0)],[(200112,Z77 A5),(200001,.cells (AC.c b) 42),(200002,Z76),(200003,Z7b v A5)]⟩) 100000 200112 (K:=[200003,200001,200002]) hP rfl rfl kr kr) (Cv.trans (B4 [1,2,3] [200003,200001,200002,200112] (⟨[(1,tP 200001 0),(2,tP 200002 0),(3,tP 200003 0)],[(200003,Z7b v A5),(200001,.cells (AC.c b) 42),(200002,Z76),(200112,Z77 A5)]⟩) kr) (Cv.refl _))),rfl,(),trivial,congrArg (Ob b v) (show A5=_ from (by rw [<- hF0];first | (simp only [EI,h1,cond_true,cond_false] <;> rfl)))⟩
def Z7c:Blk:=.cells GD 42
def Z7d:Blk:=.row 20 BA.length (AP Az.c BA) 107
def Z7e:Blk:=.cells (Cf v (GF v [.val (v 11),.own 100000 20 BA.length,.val (v 13),.val (v 14)])) 42
def Z7f:Bg:=Jq (b.Rules.getD v16.toNat default).A
def Z7g:Bg:=Jq (b.Rules.getD v16.toNat default).B
abbrev Zt:=[Az.mk (b.Rules.getD v16.toNat default).Name (b.Rules.getD v16.toNat default).Priority (b.Rules.getD v16.toNat default).What (Z7f b v16) (Z7g b v16) (b.Rules.getD v16.toNat default).Value]
def Z7h (BA:List Az) (b:AC) (v16:Int):Blk:=.row 20 (BA++(Zt b v16)).length (AP Az.c (BA++(Zt b v16))) 107
def Z7i (v:(Nat->Value)) (BA:List Az) (b:AC) (v16:Int):Blk:=.cells (Cf v (GF v [.val (v 11),.own 226 20 (BA++(Zt b v16)).length,.val (v 13),.val (v 14)])) 42
def Z7j:Blk:=.cells (Cf v (GF v [.val (v 11),.own 200114 20 BA.length,.val (v 13),.val (v 14)])) 42
def FI (b:AC):Nat->List Az->Int->(List Az)
 | 0,_,_=>default
 | n0+1,BA,v16=>bif decide ((v16:Int)<(b.Rules.length:Int)) then ((FI b n0) (BA++[Az.mk (b.Rules.getD v16.toNat default).Name (b.Rules.getD v16.toNat default).Priority (b.Rules.getD v16.toNat default).What (Z7f b v16) (Z7g b v16) (b.Rules.getD v16.toNat default).Value]) (v16+1)) else BA
def AO (b:AC):(List Az):=FI b (((b.Rules.length:Int)-0).toNat+1) ([]:List Az) 0
abbrev T9 (b:AC) (v:Nat->Value) (xs:List Az):AS:=⟨Bh,[(200003,.cells (Cf v (GF v [.val (v 11),.own 200114 20 xs.length,.val (v 13),.val (v 14)])) 42),(Bk b),D2,(200114,.row 20 xs.length (AP Az.c xs) 107)]⟩
set_option maxHeartbeats 4000000 in
theorem LT (b:AC) (hc:CM b) {c:Code} (hpc:Try.f12.body.bind (Fg [true,true,true,true,true,true,true,true,true,false,true])=some c):NN Try.prog 229 [200003,200001,200002] c (fun _:Unit=>True) (fun v=>⟨[(1,tP 200001 0),(2,tP 200002 0),(3,tP 200003 0),(16,tI 0)],[(200003,.cells [.val (v 0),.val (v 1),.val (v 2),.val (v 3),.val (v 4),.val (v 5),.val (v 6),.val (v 7),.val (v 8),.val (v 9),.val (v 10),.val (v 11),vN,.val (v 13),.val (v 14)] 42),(200001,.cells (AC.c b) 42),(200002,.cells [.i 0,.i 0,vN,.i 0,vN,vN,vN,vN,vN,vN,vN,vN,vN,vN,vN] 42)]⟩) (fun v _=>T9 b v (AO b)):=by
 cases hpc
 intro W0 M0 X v hP hFl
 show AWp _ _ _ _ _ _ _ _ ⟨[(1,tP 200001 0),(2,tP 200002 0),(3,tP 200003 0),(16,tI 0)],[(200003,.cells [.val (v 0),.val (v 1),.val (v 2),.val (v 3),.val (v 4),.val (v 5),.val (v 6),.val (v 7),.val (v 8),.val (v 9),.val (v 10),.val (v 11),vN,.val (v 13),.val (v 14)] 42),(200001,.cells (AC.c b) 42),(200002,.cells [.i 0,.i 0,vN,.i 0,vN,vN,vN,vN,vN,vN,vN,vN,vN,vN,vN] 42)]⟩
 have h0:=hc.lParts
 have h1:=hc.lNets
 have h2:=hc.lTracks
 have h3:=hc.lVias
 have h4:=hc.lPours
 have h5:=hc.lKeeps
 have h6:=hc.lSlots
 have h7:=hc.lClasses
 have h8:=hc.lWaivers
 have h9:=hc.lMatches
 have h10:=hc.lRules
 have hr:=hc.rok
 refine AX ?_
 refine Aq (Cv.trans (B4 [1,2,3,16] [200001,200002,200003] (⟨[(1,tP 200001 0),(2,tP 200002 0),(3,tP 200003 0),(16,tI 0)],[(200001,.cells (AC.c b) 42),(200002,Z7c),(200003,.cells [.val (v 0),.val (v 1),.val (v 2),.val (v 3),.val (v 4),.val (v 5),.val (v 6),.val (v 7),.val (v 8),.val (v 9),.val (v 10),.val (v 11),vN,.val (v 13),.val (v 14)] 42)]⟩) kr) (Cv.trans (FP (⟨[(1,tP 200001 0),(2,tP 200002 0),(3,tP 200003 0),(16,tI 0)],[(100000,.row 20 0 (fun _ _=>default) 107),(200001,.cells (AC.c b) 42),(200002,Z7c),(200003,.cells [.val (v 0),.val (v 1),.val (v 2),.val (v 3),.val (v 4),.val (v 5),.val (v 6),.val (v 7),.val (v 8),.val (v 9),.val (v 10),.val (v 11),.own 100000 20 0,.val (v 13),.val (v 14)] 42)]⟩) 100000 20 (fun _ _=>default) 107 [] [(200003,[12])] (K:=[200003,200001,200002]) hP rfl kr kr) (Cv.trans (Fx (⟨[(1,tP 200001 0),(2,tP 200002 0),(3,tP 200003 0),(16,tI 0)],[(100000,.row 20 ([]:List Az).length (AP Az.c ([]:List Az)) 107),(200001,.cells (AC.c b) 42),(200002,Z7c),(200003,.cells [.val (v 0),.val (v 1),.val (v 2),.val (v 3),.val (v 4),.val (v 5),.val (v 6),.val (v 7),.val (v 8),.val (v 9),.val (v 10),.val (v 11),.own 100000 20 ([]:List Az).length,.val (v 13),.val (v 14)] 42)]⟩) 100000 (CL 20 (fun _ _=>default) Az.c)) (Cv.refl _)))) ?_
 refine Bc (ι:=Nat×List Az×Int) (fun x=>⟨[(1,tP 200001 0),(2,tP 200002 0),(3,tP 200003 0),(16,tI x.2.2)],[(100000,.row 20 x.2.1.length (AP Az.c x.2.1) 107),(200001,.cells (AC.c b) 42),(200002,Z7c),(200003,.cells [.val (v 0),.val (v 1),.val (v 2),.val (v 3),.val (v 4),.val (v 5),.val (v 6),.val (v 7),.val (v 8),.val (v 9),.val (v 10),.val (v 11),.own 100000 20 x.2.1.length,.val (v 13),.val (v 14)] 42)]⟩) (fun x=>((b.Rules.length:Int)-x.2.2).toNat<x.1/\(0<=x.2.2/\(x.2.2<=(b.Rules.length:Int)\/x.2.2=0)/\(x.2.1.length:Int)<=0+1*(x.2.2-0))/\FI b x.1 x.2.1 x.2.2=AO b) (fun x=>x.1) ?_ (((b.Rules.length:Int)-0).toNat+1,([]:List Az),0) ⟨Nat.lt_succ_self _,⟨ax0,ax0,ax0⟩,(by simp only [AO,cond_true,cond_false])⟩
 rintro ⟨n0,BA,v16⟩ ⟨hm0,hinv0,hF0⟩
 try dsimp only at hm0 hinv0 hF0
 cases n0 with | zero=>exact nz hm0 | succ n0 => ?_
 refine AB<|AB ?_
 refine rn ⟨[(1,tP 200001 0),(2,tP 200002 0),(3,tP 200003 0),(16,tI v16),(206,tB (decide ((v16:Int)<(b.Rules.length:Int))))],[(100000,Z7d BA),(200001,.cells (AC.c b) 42),(200002,Z7c),(200003,Z7e v BA)]⟩ ?_
 refine AL _ rfl (fun h1 => ?_) (fun h1 => ?_)
 ·have g1:=oT h1
  refine Af<|AF ?_
  refine AB<|AX<|AB ?_
  refine oc [] [0<=(v16:Int)/\(v16:Int)<((b.Rules.length:Nat):Int)] .nil (.cons au1 .nil)<|AF<|AB ?_
  refine oc [(216,Gf (b.Rules.getD v16.toNat default).A)] [A0 (Gf (b.Rules.getD v16.toNat default).A).2.1] (.cons (O1 (b.Rules.getD v16.toNat default).A (by first | exact (LC hr _).1 | exact (LC hr _).2)) .nil) (.cons rfl .nil)<|AF<|AB ?_
  refine oc [(220,Gf (b.Rules.getD v16.toNat default).B)] [A0 (Gf (b.Rules.getD v16.toNat default).B).2.1] (.cons (O1 (b.Rules.getD v16.toNat default).B (by first | exact (LC hr _).1 | exact (LC hr _).2)) .nil) (.cons rfl .nil)<|AF ?_
  refine rc [] [BA.length=BA.length,BA.length+1<=maxLen,(BA.length+1)*216<=140737488355328] ⟨[(1,tP 200001 0),(2,tP 200002 0),(3,tP 200003 0),(16,tI v16)],[(226,.row 20 (BA.length+1) (fun i_ j_=>if i_<BA.length then (AP Az.c BA) i_ j_ else (As 20 1 [.s (b.Rules.getD v16.toNat default).Name,.i (b.Rules.getD v16.toNat default).Priority,.i (b.Rules.getD v16.toNat default).What,.i (Z7f b v16).Op,.s (Z7f b v16).Text,.i (Z7f b v16).N,.i (Z7f b v16).Box.X0,.i (Z7f b v16).Box.Y0,.i (Z7f b v16).Box.X1,.i (Z7f b v16).Box.Y1,opL (Z7f b v16).L,.i (Z7g b v16).Op,.s (Z7g b v16).Text,.i (Z7g b v16).N,.i (Z7g b v16).Box.X0,.i (Z7g b v16).Box.Y0,.i (Z7g b v16).Box.X1,.i (Z7g b v16).Box.Y1,opL (Z7g b v16).L,.i (b.Rules.getD v16.toNat default).Value]) (i_-BA.length) j_) 107),(200001,.cells (AC.c b) 42),(200002,Z7c),(200003,.cells [.val (v 0),.val (v 1),.val (v 2),.val (v 3),.val (v 4),.val (v 5),.val (v 6),.val (v 7),.val (v 8),.val (v 9),.val (v 10),.val (v 11),.own 226 20 (BA.length+1),.val (v 13),.val (v 14)] 42)]⟩ .nil (.cons rfl (.cons au4 (.cons au4 .nil)))<|A8<|AF ?_
  refine Aq (Cv.trans (BS (⟨[(1,tP 200001 0),(2,tP 200002 0),(3,tP 200003 0),(16,tI v16)],[(226,Z7h BA b v16),(200001,.cells (AC.c b) 42),(200002,Z7c),(200003,Z7i v BA b v16)]⟩) lr (.cons ⟨rfl,Ao 107 (Au (An 20 Az.c BA) (Ae (c:=Az.c) (xs:=([Az.mk (b.Rules.getD v16.toNat default).Name (b.Rules.getD v16.toNat default).Priority (b.Rules.getD v16.toNat default).What (Z7f b v16) (Z7g b v16) (b.Rules.getD v16.toNat default).Value]:List Az)) rfl kr))⟩ (.cons ⟨rfl,.refl _⟩ (.cons ⟨rfl,.refl _⟩ (.cons ⟨rfl,.cells _ (rr (rr (rr (rr (rr (rr (rr (rr (rr (rr (rr (rr (.cons (.own _ _ au0) (rr (rr .nil)))))))))))))))⟩ .nil))))) (Cv.refl _)) ?_
  refine rg ⟨[(1,tP 200001 0),(2,tP 200002 0),(3,tP 200003 0),(16,tI (W64 (v16+1)))],[(226,Z7h BA b v16),(200001,.cells (AC.c b) 42),(200002,Z7c),(200003,Z7i v BA b v16)]⟩ ?_
  (try rw [(show W64 (v16+1)=v16+1 from A1 (by omega) au9)])
  refine AF ?_
  refine ⟨(n0,BA++[Az.mk (b.Rules.getD v16.toNat default).Name (b.Rules.getD v16.toNat default).Priority (b.Rules.getD v16.toNat default).What (Z7f b v16) (Z7g b v16) (b.Rules.getD v16.toNat default).Value],v16+1),⟨?_,?_,(by rw [<- hF0];simp only [FI,h1,cond_true,cond_false])⟩,Nat.lt_succ_self _,Cv.trans (CC (⟨[(1,tP 200001 0),(2,tP 200002 0),(3,tP 200003 0),(16,tI (v16+1))],[(100000,Z7h BA b v16),(200001,.cells (AC.c b) 42),(200002,Z7c),(200003,.cells [.val (v 0),.val (v 1),.val (v 2),.val (v 3),.val (v 4),.val (v 5),.val (v 6),.val (v 7),.val (v 8),.val (v 9),.val (v 10),.val (v 11),.own 100000 20 (BA++[Az.mk (b.Rules.getD v16.toNat default).Name (b.Rules.getD v16.toNat default).Priority (b.Rules.getD v16.toNat default).What (Z7f b v16) (Z7g b v16) (b.Rules.getD v16.toNat default).Value]).length,.val (v 13),.val (v 14)] 42)]⟩) 226 100000 (K:=[200003,200001,200002]) hP rfl rfl kr kr) (BM kr)⟩
  ·show ((b.Rules.length:Int)-(v16+1)).toNat<n0;omega
  exact ⟨ax0,ax0,ax0⟩
 have g1:=oF h1
 refine BU<|BE ?_
 refine BE<|BV ?_
 exact ⟨_,Cv.trans (B4 [1,2,3] [100000,200001,200002,200003] (⟨[(1,tP 200001 0),(2,tP 200002 0),(3,tP 200003 0)],[(100000,Z7d BA),(200001,.cells (AC.c b) 42),(200002,Z7c),(200003,Z7e v BA)]⟩) kr) (Cv.trans (CC (⟨[(1,tP 200001 0),(2,tP 200002 0),(3,tP 200003 0)],[(200114,Z7d BA),(200001,.cells (AC.c b) 42),(200002,Z7c),(200003,Z7j v BA)]⟩) 100000 200114 (K:=[200003,200001,200002]) hP rfl rfl kr kr) (Cv.trans (B4 [1,2,3] [200003,200001,200002,200114] (⟨[(1,tP 200001 0),(2,tP 200002 0),(3,tP 200003 0)],[(200003,Z7j v BA),(200001,.cells (AC.c b) 42),(200002,Z7c),(200114,Z7d BA)]⟩) kr) (Cv.refl _))),rfl,(),trivial,congrArg (T9 b v) (show BA=_ from (by rw [<- hF0];first | (simp only [FI,h1,cond_true,cond_false] <;> rfl)))⟩
end
section
open Go.RowKit
def Z7k:Blk:=.cells GD 42
variable (b:AC)
abbrev Gq:=Aj b.Outline
abbrev Lk:Cl:=.own 26 7 b.Parts.length
abbrev Ds (t_:List Cl):List Cl:=(.i b.Layers)::(.i (Gq b).Kind)::(lst 7 AQ.c (Gq b).Edges)::(.i (Gq b).R)::(Lk b)::t_
abbrev Zx:List Cl:=[vN,vN,.own 30 8 b.Vias.length,vN,vN,vN,vN,vN,.own 34 3 b.Waivers.length,vN]
abbrev Sa:List Cl:=(Ds b (Zx b))
def Z7l:Blk:=.cells (Sa b) 42
abbrev H9:=AP AG.c b.Parts
def Z7m:Blk:=.row 7 b.Parts.length (H9 b) 59
abbrev HN:=AP Bo.c b.Vias
def Z7n:Blk:=.row 8 b.Vias.length (HN b) 87
abbrev HW:=AP BF.c b.Waivers
def Z7o:Blk:=.row 3 b.Waivers.length (HW b) 102
abbrev Zy:List Cl:=[.own 200100 2 (Ag b).length,vN,.own 30 8 b.Vias.length,vN,vN,vN,vN,vN,.own 34 3 b.Waivers.length,vN]
abbrev V3:List Cl:=(Ds b (Zy b))
def Z7p:Blk:=.cells (V3 b) 42
abbrev H7:=AP A7.c (Ag b)
def Z7q:Blk:=.row 2 (Ag b).length (H7 b) 48
abbrev Lm:Cl:=.own 200100 2 (Ag b).length
abbrev Nb:Cl:=.own 200102 6 (AH b).length
abbrev B8 (t_:List Cl):List Cl:=(.i b.Layers)::(.i (Gq b).Kind)::(lst 7 AQ.c (Gq b).Edges)::(.i (Gq b).R)::(Lk b)::(Lm b)::(Nb b)::(.own 30 8 b.Vias.length)::t_
abbrev VN:List Cl:=[vN,vN,vN,vN,vN,.own 34 3 b.Waivers.length,vN]
abbrev V7:List Cl:=(B8 b (VN b))
def Z7r:Blk:=.cells (V7 b) 42
abbrev HO:=AP Ap.c (AH b)
def Z7s:Blk:=.row 6 (AH b).length (HO b) 85
abbrev Na:Cl:=.own 200104 8 (Ad b).length
abbrev Qx:Cl:=.own 34 3 b.Waivers.length
abbrev RK (t_:List Cl):List Cl:=(Na b)::vN::vN::vN::vN::(Qx b)::t_
def Z7t:Blk:=.cells (B8 b (RK b [vN])) 42
def Z7u:Blk:=.row 8 (Ad b).length (AP A4.c (Ad b)) 90
abbrev Ll:Cl:=.own 200106 5 (Aa b).length
abbrev RM (t_:List Cl):List Cl:=(Na b)::(Ll b)::vN::vN::vN::(Qx b)::t_
def Z7v:Blk:=.cells (B8 b (RM b [vN])) 42
abbrev HR:=AP BT.c (Aa b)
def Z7w:Blk:=.row 5 (Aa b).length (HR b) 93
abbrev Qz:Cl:=.own 200108 4 (AY b).length
abbrev E7 (t_:List Cl):List Cl:=(Na b)::(Ll b)::(Qz b)::t_
abbrev Q3:List Cl:=E7 b [vN,vN,.own 34 3 b.Waivers.length,vN]
def Z7x:Blk:=.cells (B8 b (Q3 b)) 42
abbrev HP:=AP Bi.c (AY b)
def Z7y:Blk:=.row 4 (AY b).length (HP b) 95
abbrev Qy:Cl:=.own 200110 2 (AN b).length
abbrev Nf (t_:List Cl):List Cl:=(Qy b)::vN::(Qx b)::t_
def Z7z:Blk:=.cells (B8 b (E7 b (Nf b [vN]))) 42
abbrev HS:=AP BQ.c (AN b)
def Z7A:Blk:=.row 2 (AN b).length (HS b) 98
abbrev Q1:List Cl:=E7 b (Nf b [.own 200112 3 (AM b).length])
def Z7B:Blk:=.cells (B8 b (Q1 b)) 42
abbrev Gm:=AP Ba.c (AM b)
def Z7C:Blk:=.row 3 (AM b).length (Gm b) 100
abbrev Ln (t_:List Cl):List Cl:=(Qy b)::(.own 200114 20 (AO b).length)::t_
abbrev OH:List Cl:=(B8 b (E7 b (Ln b [.own 34 3 b.Waivers.length,.own 200112 3 (AM b).length])))
abbrev VV:=Aj b.Outline
abbrev RL (t_:List Cl):List Cl:=(.i b.Layers)::(.i (VV b).Kind)::(lst 7 AQ.c (VV b).Edges)::(.i (VV b).R)::(Lk b)::t_
abbrev Nd (t_:List Cl):List Cl:=(Lm b)::(Nb b)::t_
def Z7D:Blk:=.cells (OH b) 42
abbrev HQ:=AP Az.c (AO b)
def Z7E:Blk:=.row 20 (AO b).length (HQ b) 107
def vCpA (b:AC):Tv:=.av (.agg (OH b))
def hCpA (b:AC):List (Nat×Blk):=[(26,.row 7 b.Parts.length (AP AG.c b.Parts) 59),(200100,.row 2 (Ag b).length (AP A7.c (Ag b)) 48),(200102,.row 6 (AH b).length (AP Ap.c (AH b)) 85),(30,.row 8 b.Vias.length (AP Bo.c b.Vias) 87),(200104,.row 8 (Ad b).length (AP A4.c (Ad b)) 90),(200106,.row 5 (Aa b).length (AP BT.c (Aa b)) 93),(200108,.row 4 (AY b).length (AP Bi.c (AY b)) 95),(200110,.row 2 (AN b).length (AP BQ.c (AN b)) 98),(200114,.row 20 (AO b).length (AP Az.c (AO b)) 107),(34,.row 3 b.Waivers.length (AP BF.c b.Waivers) 102),(200112,.row 3 (AM b).length (AP Ba.c (AM b)) 100)]
abbrev Xg:List Cl:=(RL b (Zx b))
abbrev aH:List Cl:=(RL b (Nd b [.own 30 8 b.Vias.length,vN,vN,vN,vN,vN,.own 34 3 b.Waivers.length,vN]))
abbrev Z7:List Cl:=(RL b (Zy b))
abbrev Lo (t_:List Cl):List Cl:=(.i b.Layers)::(.i (Gq b).Kind)::(lst 7 AQ.c (Gq b).Edges)::(.i (Gq b).R)::t_
abbrev XY:Nat×Blk:=(3,.cells (Lo b [.own 26 7 (0+b.Parts.length),vN,vN,.own 30 8 (0+b.Vias.length),vN,vN,vN,vN,vN,.own 34 3 (0+b.Waivers.length),vN]) 42)
abbrev I6:List (Nat×Tv):=[(1,tP 1 0),(2,tP 2 0),(3,tP 3 0)]
abbrev R8:List (Nat×Tv):=(H3 [(11,tI 0)])
abbrev R7:List (Nat×Tv):=(H3 [(13,tI 0)])
abbrev R6:List (Nat×Tv):=(H3 [(14,tI 0)])
abbrev R5:List (Nat×Tv):=(H3 [(16,tI 0)])
abbrev R4:List (Nat×Tv):=(H3 [(4,tI 0)])
abbrev R3:List (Nat×Tv):=(H3 [(5,tI 0)])
abbrev R2:List (Nat×Tv):=(H3 [(7,tI 0)])
abbrev R1:List (Nat×Tv):=(H3 [(9,tI 0)])
abbrev Iv (t_:List (Nat×Blk)):List (Nat×Blk):=(26,Z7m b)::(30,Z7n b)::(34,Z7o b)::(Bk b)::(200002,Z7k)::t_
abbrev bP:List (Nat×Blk):=(Iv b [(200003,Z7B b),(200100,Z7q b),(200102,Z7s b),(200104,Z7u b),(200106,Z7w b),(200108,Z7y b),(200110,Z7A b),(200112,Z7C b)])
abbrev GJ:Nat×Blk:=(1,.cells (AC.c b) 42)
abbrev bI:List (Nat×Blk):=(Iv b [(200003,Z7z b),(200100,Z7q b),(200102,Z7s b),(200104,Z7u b),(200106,Z7w b),(200108,Z7y b),(200110,Z7A b)])
abbrev bB:List (Nat×Blk):=(Iv b [(200003,Z7x b),(200100,Z7q b),(200102,Z7s b),(200104,Z7u b),(200106,Z7w b),(200108,Z7y b)])
abbrev Rx:List (Nat×Tv):=[(1,tP 1 0),(2,tP 2 0),(3,tP 3 0),(4,tI 0)]
abbrev Rr:Nat×Blk:=(200114,.row 20 (AO b).length (HQ b) 107)
abbrev aS:List (Nat×Blk):=(Iv b [(200003,Z7v b),(200100,Z7q b),(200102,Z7s b),(200104,Z7u b),(200106,Z7w b)])
abbrev Rq:Nat×Blk:=(200112,.row 3 (AM b).length (Gm b) 100)
abbrev Rn:List (Nat×Blk):=[(Bk b),D2,(200102,.row 6 (AH b).length (HO b) 85)]
abbrev Rm:List (Nat×Blk):=[(Bk b),D2,(200106,.row 5 (Aa b).length (HR b) 93)]
abbrev Rl:List (Nat×Blk):=[(Bk b),D2,(200108,.row 4 (AY b).length (HP b) 95)]
abbrev Rk:List (Nat×Blk):=[(Bk b),D2,(200110,.row 2 (AN b).length (HS b) 98)]
abbrev aP:List (Nat×Blk):=(Iv b [(200003,Z7t b),(200100,Z7q b),(200102,Z7s b),(200104,Z7u b)])
abbrev Iz:List (Nat×Tv):=[(2,tP 200002 0)]
abbrev Va:List (Nat×Blk):=[(Bk b),D2,(200100,.row 2 (Ag b).length (H7 b) 48)]
abbrev aN:List (Nat×Blk):=(Iv b [(200003,Z7r b),(200100,Z7q b),(200102,Z7s b)])
abbrev aC:List (Nat×Blk):=(Iv b [(200003,Z7p b),(200100,Z7q b)])
abbrev RX:Cl:=.own 200114 20 (AO b).length
abbrev RV:Cl:=.own 200102 6 (AH b).length
abbrev RU:Cl:=.own 200106 5 (Aa b).length
abbrev RS:Cl:=.own 200108 4 (AY b).length
abbrev RR:Cl:=.own 200110 2 (AN b).length
abbrev RQ:Cl:=.own 200112 3 (AM b).length
abbrev ET (t_:List Cl):List Cl:=(.i b.Layers)::(.i (Aj b.Outline).Kind)::(lst 7 AQ.c (Aj b.Outline).Edges)::(.i (Aj b.Outline).R)::(Lk b)::(Lm b)::(Nb b)::(.own 30 8 b.Vias.length)::t_
theorem au27 {p:Prop} (h:p:=by first | (with_reducible exact hc.out) | with_reducible assumption | omega | decide | (simp only [List.length_cons,List.length_nil,List.length_append];omega) | assumption):p:=h
set_option maxHeartbeats 4000000 in
theorem qCpA (b:AC) (hc:CM b):Frs Try.prog 12 [.agg (AC.c b)] (fun _:Unit=>True) (fun _=>vCpA b) (fun _=>hCpA b):=by
 refine Jl Try.func12 rfl kr kr kr fun W0 M0 X hP hFl => ?_
 have h0:=hc.lParts
 have h1:=hc.lNets
 have h2:=hc.lTracks
 have h3:=hc.lVias
 have h4:=hc.lPours
 have h5:=hc.lKeeps
 have h6:=hc.lSlots
 have h7:=hc.lClasses
 have h8:=hc.lWaivers
 have h9:=hc.lMatches
 have h10:=hc.lRules
 have hr:=hc.rok
 refine AB<|on<|AB ?_
 refine dw [23,27,31] [(22,Bv b.Outline)] [A0 (Bv b.Outline).2.1,0=0,0+b.Parts.length<=maxLen,(0+b.Parts.length)*72<=140737488355328,0=0,0+b.Vias.length<=maxLen,(0+b.Vias.length)*72<=140737488355328,0=0,0+b.Waivers.length<=maxLen,(0+b.Waivers.length)*32<=140737488355328] ⟨I6,[(GJ b),(2,Z7k),(XY b),(26,.row 7 (0+b.Parts.length) (fun i_ j_=>if i_<0 then (As 7 0 []) i_ j_ else (AP AG.c b.Parts) (i_-0) j_) 59),(30,.row 8 (0+b.Vias.length) (fun i_ j_=>if i_<0 then (As 8 0 []) i_ j_ else (AP Bo.c b.Vias) (i_-0) j_) 87),(34,.row 3 (0+b.Waivers.length) (fun i_ j_=>if i_<0 then (As 3 0 []) i_ j_ else (AP BF.c b.Waivers) (i_-0) j_) 102)]⟩ (.cons (Dm b.Outline au27) .nil) (.cons rfl (.cons rfl (.cons au4 (.cons au4 (.cons rfl (.cons au4 (.cons au4 (.cons rfl (.cons au4 (.cons au4 .nil))))))))))<|AF ?_
 refine Aq (Cv.trans (BS (⟨I6,[(GJ b),(2,Z7k),(3,Z7l b),(26,Z7m b),(30,Z7n b),(34,Z7o b)]⟩) lr (.cons ⟨rfl,.refl _⟩ (.cons ⟨rfl,.refl _⟩ (.cons ⟨rfl,.cells _ (rr4 (.cons (.own _ _ au0) (rr (rr (.cons (.own _ _ au0) (rr (rr (rr (rr (rr (.cons (.own _ _ au0) (rr .nil))))))))))))⟩ (.cons ⟨rfl,Ao 59 (Au (Ae (c:=AG.c) (xs:=(([]:List AG):List AG)) rfl kr) (An 7 AG.c b.Parts))⟩ (.cons ⟨rfl,Ao 87 (Au (Ae (c:=Bo.c) (xs:=(([]:List Bo):List Bo)) rfl kr) (An 8 Bo.c b.Vias))⟩ (.cons ⟨rfl,Ao 102 (Au (Ae (c:=BF.c) (xs:=(([]:List BF):List BF)) rfl kr) (An 3 BF.c b.Waivers))⟩ .nil))))))) (Cv.refl _))<|AB<|AB ?_
 refine rn ⟨Rx,[(GJ b),(2,Z7k),(3,Z7l b),(26,Z7m b),(30,Z7n b),(34,Z7o b)]⟩ ?_
 refine Aq (Cv.trans (vr 3 200003 (K:=[]) hP) (Cv.trans (vr 1 200001 (K:=[]) hP) (Cv.trans (wr (⟨R4,[(Bk b),(200002,Z7k),(200003,Z7l b),(26,Z7m b),(30,Z7n b),(34,Z7o b)]⟩) 2 200002 (K:=[]) hP) (Cv.refl _)))) ?_
 refine B5 (ι:=Unit) (I:=fun _=>True) 200003 (Xg b) 42 (mkB 15 5) [1,2,3,4] [200001,200002] (fun _=>Bh) (fun _=>lEB 15 5 (Lm b)) (fun _=>(Va b)) (fun _=>⟨Bh,[(200003,Z7p b),(Bk b),(200002,Z7k),(200100,Z7q b),(26,Z7m b),(30,Z7n b),(34,Z7o b)]⟩) hP hFl (TL b hc kr) (fun _ _ => ?_)
 refine AF ?_
 refine Aq (Cv.trans (ck (⟨Bh,(aC b)⟩)) (Cv.refl _))<|AB<|AB ?_
 refine rn ⟨R3,(aC b)⟩ ?_
 refine B5 (ι:=Unit) (I:=fun _=>True) 200003 (Z7 b) 42 (mkB 15 6) [1,2,3,5] [200001,200002] (fun _=>Bh) (fun _=>lEB 15 6 (RV b)) (fun _=>(Rn b)) (fun _=>⟨Bh,[(200003,Z7r b),(Bk b),(200002,Z7k),(200102,Z7s b),(26,Z7m b),(30,Z7n b),(34,Z7o b),(200100,Z7q b)]⟩) hP hFl (Jk b hc kr) (fun _ _ => ?_)
 refine AF ?_
 refine Aq (Cv.trans (ck (⟨Bh,(aN b)⟩)) (Cv.refl _))<|AB<|AB ?_
 refine rn ⟨R2,(aN b)⟩ ?_
 refine B5 (ι:=Unit) (I:=fun _=>True) 200003 (aH b) 42 (mkB 15 8) [1,2,3,7] [200001,200002] (fun _=>Bh) (fun _=>lEB 15 8 (Na b)) (fun _=>[(Bk b),D2,(200104,.row 8 (Ad b).length (AP A4.c (Ad b)) 90)]) (fun _=>⟨Bh,[(200003,Z7t b),(Bk b),(200002,Z7k),(200104,Z7u b),(26,Z7m b),(30,Z7n b),(34,Z7o b),(200100,Z7q b),(200102,Z7s b)]⟩) hP hFl (U6 b hc kr) (fun _ _ => ?_)
 refine AF ?_
 refine Aq (Cv.trans (ck (⟨Bh,(aP b)⟩)) (Cv.refl _))<|AB<|AB ?_
 refine rn ⟨R1,(aP b)⟩ ?_
 refine B5 (ι:=Unit) (I:=fun _=>True) 200003 (ET b (RK b [vN])) 42 (mkB 15 9) [1,2,3,9] [200001,200002] (fun _=>Bh) (fun _=>lEB 15 9 (RU b)) (fun _=>(Rm b)) (fun _=>⟨Bh,[(200003,Z7v b),(Bk b),(200002,Z7k),(200106,Z7w b),(26,Z7m b),(30,Z7n b),(34,Z7o b),(200100,Z7q b),(200102,Z7s b),(200104,Z7u b)]⟩) hP hFl (LU b hc kr) (fun _ _ => ?_)
 refine AF ?_
 refine Aq (Cv.trans (ck (⟨Bh,(aS b)⟩)) (Cv.refl _))<|AB<|AB ?_
 refine rn ⟨R8,(aS b)⟩ ?_
 refine B5 (ι:=Unit) (I:=fun _=>True) 200003 (ET b (RM b [vN])) 42 (mkB 15 10) [1,2,3,11] [200001,200002] (fun _=>Bh) (fun _=>lEB 15 10 (RS b)) (fun _=>(Rl b)) (fun _=>⟨Bh,[(200003,Z7x b),(Bk b),(200002,Z7k),(200108,Z7y b),(26,Z7m b),(30,Z7n b),(34,Z7o b),(200100,Z7q b),(200102,Z7s b),(200104,Z7u b),(200106,Z7w b)]⟩) hP hFl (LS b hc kr) (fun _ _ => ?_)
 refine AF ?_
 refine Aq (Cv.trans (ck (⟨Bh,(bB b)⟩)) (Cv.refl _))<|AB<|AB ?_
 refine rn ⟨R7,(bB b)⟩ ?_
 refine B5 (ι:=Unit) (I:=fun _=>True) 200003 (ET b (Q3 b)) 42 (mkB 15 11) [1,2,3,13] [200001,200002] (fun _=>Bh) (fun _=>lEB 15 11 (RR b)) (fun _=>(Rk b)) (fun _=>⟨Bh,[(200003,Z7z b),(Bk b),(200002,Z7k),(200110,Z7A b),(26,Z7m b),(30,Z7n b),(34,Z7o b),(200100,Z7q b),(200102,Z7s b),(200104,Z7u b),(200106,Z7w b),(200108,Z7y b)]⟩) hP hFl (IM b hc kr) (fun _ _ => ?_)
 refine AF ?_
 refine Aq (Cv.trans (ck (⟨Bh,(bI b)⟩)) (Cv.refl _))<|AB<|AB ?_
 refine rn ⟨R6,(bI b)⟩ ?_
 refine B5 (ι:=Unit) (I:=fun _=>True) 200003 (ET b (E7 b (Nf b [vN]))) 42 (mkB 15 14) [1,2,3,14] [200001,200002] (fun _=>Bh) (fun _=>lEB 15 14 (RQ b)) (fun _=>[(Bk b),D2,(Rq b)]) (fun _=>⟨Bh,[(200003,Z7B b),(Bk b),(200002,Z7k),(200112,Z7C b),(26,Z7m b),(30,Z7n b),(34,Z7o b),(200100,Z7q b),(200102,Z7s b),(200104,Z7u b),(200106,Z7w b),(200108,Z7y b),(200110,Z7A b)]⟩) hP hFl (IL b hc kr) (fun _ _ => ?_)
 refine AF ?_
 refine Aq (Cv.trans (ck (⟨Bh,(bP b)⟩)) (Cv.refl _))<|AB<|AB ?_
 refine rn ⟨R5,(bP b)⟩ ?_
 refine B5 (ι:=Unit) (I:=fun _=>True) 200003 (ET b (Q1 b)) 42 (mkB 15 12) [1,2,3,16] [200001,200002] (fun _=>Bh) (fun _=>lEB 15 12 (RX b)) (fun _=>[(Bk b),D2,(Rr b)]) (fun _=>⟨Bh,[(200003,Z7D b),(Bk b),(200002,Z7k),(200114,Z7E b),(26,Z7m b),(30,Z7n b),(34,Z7o b),(200100,Z7q b),(200102,Z7s b),(200104,Z7u b),(200106,Z7w b),(200108,Z7y b),(200110,Z7A b),(200112,Z7C b)]⟩) hP hFl (LT b hc kr) (fun _ _ => ?_)
 refine AF ?_
 refine Aq (Cv.trans (ck (⟨Bh,(Iv b [(200003,Z7D b),(200100,Z7q b),(200102,Z7s b),(200104,Z7u b),(200106,Z7w b),(200108,Z7y b),(200110,Z7A b),(200112,Z7C b),(200114,Z7E b)])⟩)) (Cv.refl _))<|AB ?_
 refine rn ⟨Iz,[(26,Z7m b),(30,Z7n b),(34,Z7o b),(200002,Z7D b),(200100,Z7q b),(200102,Z7s b),(200104,Z7u b),(200106,Z7w b),(200108,Z7y b),(200110,Z7A b),(200112,Z7C b),(200114,Z7E b)]⟩<|Ac ?_
 refine ⟨_,Cv.trans (ck (⟨Iz,[(26,Z7m b),(200100,Z7q b),(200102,Z7s b),(30,Z7n b),(200104,Z7u b),(200106,Z7w b),(200108,Z7y b),(200110,Z7A b),(200114,Z7E b),(34,Z7o b),(200112,Z7C b),(200002,Z7D b)]⟩)) (Cv.refl _),.inl rfl,vCpA b,by kernel_rfl,kP (m:=[(200002,.cells (OH b) 42)]) kr⟩
end
theorem IX {α:Type} (len:Nat) (g:Nat->List α->Int->List α) (e:Int->α) (h:∀ m acc (v:Int),g (m+1) acc v=bif decide (v<(len:Int)) then g m (acc++[e v]) (v+1) else acc) :
  ∀ (n:Nat) (acc:List α) (v:Nat),len-v<n->g n acc (v:Int)=acc++(List.range' v (len-v)).map fun (k:Nat)=>e (k:Int)
 | 0,acc,v,hn=>absurd hn (Nat.not_lt_zero _)
 | n+1,acc,v,hn=>by
  rw [h]
  by_cases hc:v<len
  ·rw [decide_eq_true (by omega),cond_true,show ((v:Int)+1)=((v+1:Nat):Int) by omega,IX len g e h n _ (v+1) (by omega),show len-v=(len-(v+1))+1 by omega,List.range'_succ,List.map_cons,List.append_assoc,List.singleton_append]
  rw [decide_eq_false (by omega),cond_false,show len-v=0 by omega];simp
theorem eZ (b:AC):(Ag b).length=b.Nets.length:=by
 have h:=IX b.Nets.length (Ft b) _ (fun _ _ _=>rfl) (((b.Nets.length:Int)-0).toNat+1) [] 0 (by omega)
 have h2:Ag b=_:=h
 rw [h2];simp
theorem Ws (b:AC):(AH b).length=b.Tracks.length:=by
 have h:=IX b.Tracks.length (Em b) _ (fun _ _ _=>rfl) (((b.Tracks.length:Int)-0).toNat+1) [] 0 (by omega)
 have h2:AH b=_:=h
 rw [h2];simp
theorem QO (b:AC):(Ad b).length=b.Pours.length:=by
 have h:=IX b.Pours.length (FJ b) _ (fun _ _ _=>rfl) (((b.Pours.length:Int)-0).toNat+1) [] 0 (by omega)
 have h2:Ad b=_:=h
 rw [h2];simp
theorem QP (b:AC):(Aa b).length=b.Keeps.length:=by
 have h:=IX b.Keeps.length (FK b) _ (fun _ _ _=>rfl) (((b.Keeps.length:Int)-0).toNat+1) [] 0 (by omega)
 have h2:Aa b=_:=h
 rw [h2];simp
theorem ZV (b:AC):(AY b).length=b.Slots.length:=by
 have h:=IX b.Slots.length (FH b) _ (fun _ _ _=>rfl) (((b.Slots.length:Int)-0).toNat+1) [] 0 (by omega)
 have h2:AY b=_:=h
 rw [h2];simp
theorem Uj (b:AC):(AN b).length=b.Classes.length:=by
 have h:=IX b.Classes.length (EJ b) _ (fun _ _ _=>rfl) (((b.Classes.length:Int)-0).toNat+1) [] 0 (by omega)
 have h2:AN b=_:=h
 rw [h2];simp
theorem Ui (b:AC):(AM b).length=b.Matches.length:=by
 have h:=IX b.Matches.length (EI b) _ (fun _ _ _=>rfl) (((b.Matches.length:Int)-0).toNat+1) [] 0 (by omega)
 have h2:AM b=_:=h
 rw [h2];simp
theorem ZW (b:AC):(AO b).length=b.Rules.length:=by
 have h:=IX b.Rules.length (FI b) _ (fun _ _ _=>rfl) (((b.Rules.length:Int)-0).toNat+1) [] 0 (by omega)
 have h2:AO b=_:=h
 rw [h2];simp
theorem tmb {x n:Int} (hx:0<=x):0<n->0<=Int.tmod x n/\Int.tmod x n<n:=fun hn=>⟨Int.tmod_nonneg _ hx,Int.tmod_lt_of_pos _ hn⟩
theorem oz {n:Nat} (h:(0:Int)<(n:Int)):(n:Int)≠0:=by omega
theorem oi2 {K:Int} {n:Nat} (hK:0<=K) (h:(0:Int)<(n:Int)):(Int.tmod K (n:Int)).toNat<n:=by have:=tmb hK h;omega
theorem oi3 {K:Int} {n:Nat} (hK:0<=K) (h:(0:Int)<(n:Int)):(Int.tmod K (n:Int)).toNat-(0:Int).toNat<=n:=by have:=tmb hK h;omega
theorem oi4 {K:Int} {n:Nat} (hK:0<=K) (h:(0:Int)<(n:Int)):0<=(0:Int)/\(0:Int)<=Int.tmod K (n:Int)/\Int.tmod K (n:Int)<=(n:Int):=by have:=tmb hK h;omega
theorem oi5 {N:Int} {n:Nat} (hN:0<=N):0<=(0:Int)/\(0:Int)<=min (n:Int) (Int.tmod N 4)/\min (n:Int) (Int.tmod N 4)<=(n:Int):=by have:=tmb hN (n:=4) (by decide);omega
theorem ow {K:Int} {n:Nat} (hK:0<=K) (h:(0:Int)<(n:Int)) (hl:(n:Int)<=2000000):W64 (Int.tmod K (n:Int)+1)=Int.tmod K (n:Int)+1:=by have:=tmb hK h;exact A1 (by omega) (by omega)
theorem oi6 {K:Int} {n:Nat} (hK:0<=K) (h:(0:Int)<(n:Int)) (hl:(n:Int)<=2000000):(W64 (Int.tmod K (n:Int)+1)).toNat+(((n:Nat):Int).toNat-(W64 (Int.tmod K (n:Int)+1)).toNat)<=n:=by rw [ow hK h hl];have:=tmb hK h;omega
theorem oi7 {K:Int} {n:Nat} (hK:0<=K) (h:(0:Int)<(n:Int)) (hl:(n:Int)<=2000000):0<=W64 (Int.tmod K (n:Int)+1)/\W64 (Int.tmod K (n:Int)+1)<=(n:Int)/\(n:Int)<=(n:Int):=by rw [ow hK h hl];have:=tmb hK h;omega
theorem oi8 {N:Int} (hN:0<=N):0<=Int.tmod N 4/\Int.tmod N 4<((4:Nat):Int):=tmb hN (by decide)
theorem oi9 {N:Int} (hN:0<=N):0<=Int.tmod N 6/\Int.tmod N 6<((6:Nat):Int):=tmb hN (by decide)
theorem ol1 {n c:Nat} (hl:(n:Int)<=2000000) (hc:c<=100):(n+1)*c<=140737488355328:=Nat.le_trans (Nat.mul_le_mul (show n+1<=2000001 by omega) hc) (by decide)
theorem ol2 {n:Nat} (hl:(n:Int)<=2000000):n+1<=maxLen:=by unfold maxLen;omega
theorem ol0 {K:Int} {n:Nat} (hK:0<=K) (h:(0:Int)<(n:Int)) (hl:(n:Int)<=2000000):((Int.tmod K (n:Int)).toNat-(0:Int).toNat)+(((n:Nat):Int).toNat-(W64 (Int.tmod K (n:Int)+1)).toNat)<=2000000:=by rw [ow hK h hl];have:=tmb hK h;omega
theorem ol3 {K:Int} {n:Nat} (hK:0<=K) (h:(0:Int)<(n:Int)) (hl:(n:Int)<=2000000):((Int.tmod K (n:Int)).toNat-(0:Int).toNat)+(((n:Nat):Int).toNat-(W64 (Int.tmod K (n:Int)+1)).toNat)<=maxLen:=Nat.le_trans (ol0 hK h hl) (by unfold maxLen;decide)
theorem ol4 {K:Int} {n:Nat} (hK:0<=K) (h:(0:Int)<(n:Int)) (hl:(n:Int)<=2000000):(((Int.tmod K (n:Int)).toNat-(0:Int).toNat)+(((n:Nat):Int).toNat-(W64 (Int.tmod K (n:Int)+1)).toNat))*72<=140737488355328:=Nat.le_trans (Nat.mul_le_mul (ol0 hK h hl) (Nat.le_refl _)) (by decide)
theorem w79 {N:Int} (hN:0<=N):0<=W64 (79+Int.tmod N 4)/\W64 (79+Int.tmod N 4)<=82:=by have:=tmb hN (n:=4) (by decide);rw [A1 (by omega) (by omega)];omega
theorem fB {b:AC} (hc:CM b):((Ag b).length:Int)<=2000000:=by rw [eZ];have:=hc.lNets;omega
theorem Wt {b:AC} (hc:CM b):((AH b).length:Int)<=2000000:=by rw [Ws];have:=hc.lTracks;omega
theorem ZZ {b:AC} (hc:CM b):((Ad b).length:Int)<=2000000:=by rw [QO];have:=hc.lPours;omega
theorem Zb {b:AC} (hc:CM b):((Aa b).length:Int)<=2000000:=by rw [QP];have:=hc.lKeeps;omega
theorem ZX {b:AC} (hc:CM b):((AY b).length:Int)<=2000000:=by rw [ZV];have:=hc.lSlots;omega
theorem Um {b:AC} (hc:CM b):((AN b).length:Int)<=2000000:=by rw [Uj];have:=hc.lClasses;omega
theorem Ul {b:AC} (hc:CM b):((AM b).length:Int)<=2000000:=by rw [Ui];have:=hc.lMatches;omega
theorem ZY {b:AC} (hc:CM b):((AO b).length:Int)<=2000000:=by rw [ZW];have:=hc.lRules;omega
theorem Za {b:AC} (hc:CM b):(b.Parts.length:Int)<=2000000:=by have:=hc.lParts;omega
theorem fA {b:AC} (hc:CM b):(b.Vias.length:Int)<=2000000:=by have:=hc.lVias;omega
theorem Uk {b:AC} (hc:CM b):(b.Waivers.length:Int)<=2000000:=by have:=hc.lWaivers;omega
section
open Go.RowKit
def Z7F:Blk:=.cells GD 42
variable (b:AC) (v5_9:List BT) (q:C5) (v10:Int)
def Z7G:Blk:=.row 7 b.Parts.length (H9 b) 59
def Z7H:Blk:=.row 2 (Ag b).length (H7 b) 48
def Z7I:Blk:=.row 6 (AH b).length (HO b) 85
def Z7J:Blk:=.row 8 b.Vias.length (HN b) 87
def Z7K:Blk:=.row 8 (Ad b).length (AP A4.c (Ad b)) 90
def Z7L:Blk:=.row 5 (Aa b).length (HR b) 93
def Z7M:Blk:=.row 4 (AY b).length (HP b) 95
def Z7N:Blk:=.row 2 (AN b).length (HS b) 98
def Z7O:Blk:=.row 20 (AO b).length (HQ b) 107
def Z7P:Blk:=.row 3 b.Waivers.length (HW b) 102
def Z7Q:Blk:=.row 3 (AM b).length (Gm b) 100
def Z7R:Blk:=.cells (OH b) 42
abbrev Nw:=Int.tmod (AK q.e1 48) 6
def Z7S (q:C5) (b:AC):Blk:=.cells [.i (Nw q),.i (Gq b).Kind,lst 7 AQ.c (Gq b).Edges,.i (Gq b).R,.own 26 7 b.Parts.length,.own 200100 2 (Ag b).length,.own 200102 6 (AH b).length,.own 30 8 b.Vias.length,.own 200104 8 (Ad b).length,.own 200106 5 (Aa b).length,.own 200108 4 (AY b).length,.own 200110 2 (AN b).length,.own 200114 20 (AO b).length,.own 34 3 b.Waivers.length,.own 200112 3 (AM b).length] 42
abbrev E9:=DQ (AK q.e1 48)
def Z7T:Blk:=.cells [.i b.Layers,.i (E9 q).Kind,lst 7 AQ.c (E9 q).Edges,.i (E9 q).R,.own 26 7 b.Parts.length,.own 200100 2 (Ag b).length,.own 200102 6 (AH b).length,.own 30 8 b.Vias.length,.own 200104 8 (Ad b).length,.own 200106 5 (Aa b).length,.own 200108 4 (AY b).length,.own 200110 2 (AN b).length,.own 200114 20 (AO b).length,.own 34 3 b.Waivers.length,.own 200112 3 (AM b).length] 42
def Z7U:Tv:=tB (decide ((0:Int)<((b.Parts.length:Nat):Int)))
abbrev Yo (q:C5) (b:AC):=(Int.tmod (AK q.e2 64) ((b.Parts.length:Nat):Int))
abbrev HX:=(b.Parts.getD (Yo q b).toNat default)
abbrev Vp:=b.Parts.set (Yo q b).toNat (AG.mk (W64 ((AK q.e1 48)-1)) (HX b q).Ref (HX b q).Type' (HX b q).At (HX b q).Turn (HX b q).Under)
def Z7V:Blk:=.cells (Lo b [.own 26 7 (Vp b q).length,.own 200100 2 (Ag b).length,.own 200102 6 (AH b).length,.own 30 8 b.Vias.length,.own 200104 8 (Ad b).length,.own 200106 5 (Aa b).length,.own 200108 4 (AY b).length,.own 200110 2 (AN b).length,.own 200114 20 (AO b).length,.own 34 3 b.Waivers.length,.own 200112 3 (AM b).length]) 42
def Z7W:Blk:=.row 7 (Vp b q).length (AP AG.c (Vp b q)) 59
abbrev Ce:=BI (AK q.e1 48)
abbrev Vj:=b.Parts.set (Yo q b).toNat (AG.mk (HX b q).Id (Ce q) (HX b q).Type' (HX b q).At (HX b q).Turn (HX b q).Under)
def Z7X:Blk:=.cells (Lo b [.own 26 7 (Vj b q).length,.own 200100 2 (Ag b).length,.own 200102 6 (AH b).length,.own 30 8 b.Vias.length,.own 200104 8 (Ad b).length,.own 200106 5 (Aa b).length,.own 200108 4 (AY b).length,.own 200110 2 (AN b).length,.own 200114 20 (AO b).length,.own 34 3 b.Waivers.length,.own 200112 3 (AM b).length]) 42
def Z7Y:Blk:=.row 7 (Vj b q).length (AP AG.c (Vj b q)) 59
abbrev Vo:=b.Parts.set (Yo q b).toNat (AG.mk (HX b q).Id (HX b q).Ref (HX b q).Type' (HX b q).At (W64 ((AK q.e1 48)-1)) (HX b q).Under)
def Z7Z:Blk:=.cells (Lo b [.own 26 7 (Vo b q).length,.own 200100 2 (Ag b).length,.own 200102 6 (AH b).length,.own 30 8 b.Vias.length,.own 200104 8 (Ad b).length,.own 200106 5 (Aa b).length,.own 200108 4 (AY b).length,.own 200110 2 (AN b).length,.own 200114 20 (AO b).length,.own 34 3 b.Waivers.length,.own 200112 3 (AM b).length]) 42
def Z80:Blk:=.row 7 (Vo b q).length (AP AG.c (Vo b q)) 59
abbrev V6:=(b.Parts.set (Yo q b).toNat (AG.mk (HX b q).Id (HX b q).Ref (HX b q).Type' (AE.mk (([AK q.e1 48,67108864,67108664,(-67108865)]:List Int).getD (Int.tmod (AK q.e1 48) 4).toNat 0) (HX b q).At.Y) (HX b q).Turn (HX b q).Under))
def Z81:Blk:=.cells (Lo b [.own 26 7 (V6 b q).length,.own 200100 2 (Ag b).length,.own 200102 6 (AH b).length,.own 30 8 b.Vias.length,.own 200104 8 (Ad b).length,.own 200106 5 (Aa b).length,.own 200108 4 (AY b).length,.own 200110 2 (AN b).length,.own 200114 20 (AO b).length,.own 34 3 b.Waivers.length,.own 200112 3 (AM b).length]) 42
def Z82:Blk:=.row 7 (V6 b q).length (AP AG.c (V6 b q)) 59
abbrev SH (q:C5) (b:AC):=(Int.tmod (AK q.e2 64) (((Ag b).length:Nat):Int))
abbrev VY (q:C5) (b:AC):=A7.mk (Ce q) ((Ag b).getD (SH q b).toNat default).Pins
def Z83:Blk:=.cells (Ds b [.own 200100 2 ((Ag b).set (SH q b).toNat (VY q b)).length,.own 200102 6 (AH b).length,.own 30 8 b.Vias.length,.own 200104 8 (Ad b).length,.own 200106 5 (Aa b).length,.own 200108 4 (AY b).length,.own 200110 2 (AN b).length,.own 200114 20 (AO b).length,.own 34 3 b.Waivers.length,.own 200112 3 (AM b).length]) 42
def Z84:Blk:=.row 2 ((Ag b).set (SH q b).toNat (VY q b)).length (AP A7.c ((Ag b).set (SH q b).toNat (VY q b))) 48
def Z85:Blk:=.cells (Ds b [.own 176 2 ((Ag b)++[A7.mk (Ce q) [AU.mk ({ data := #[82,49] }:ByteArray) ({ data := #[80,50] }:ByteArray)]]).length,.own 200102 6 (AH b).length,.own 30 8 b.Vias.length,.own 200104 8 (Ad b).length,.own 200106 5 (Aa b).length,.own 200108 4 (AY b).length,.own 200110 2 (AN b).length,.own 200114 20 (AO b).length,.own 34 3 b.Waivers.length,.own 200112 3 (AM b).length]) 42
def Z86:Blk:=.row 2 ((Ag b)++[A7.mk (Ce q) [AU.mk ({ data := #[82,49] }:ByteArray) ({ data := #[80,50] }:ByteArray)]]).length (AP A7.c ((Ag b)++[A7.mk (Ce q) [AU.mk ({ data := #[82,49] }:ByteArray) ({ data := #[80,50] }:ByteArray)]])) 48
def Z87:Blk:=.cells (Ds b [lst 2 A7.c ((Ag b).take (min ((Ag b).length:Int) (Int.tmod (AK q.e1 48) 4):Int).toNat),.own 200102 6 (AH b).length,.own 30 8 b.Vias.length,.own 200104 8 (Ad b).length,.own 200106 5 (Aa b).length,.own 200108 4 (AY b).length,.own 200110 2 (AN b).length,.own 200114 20 (AO b).length,.own 34 3 b.Waivers.length,.own 200112 3 (AM b).length]) 42
abbrev L8:=Int.tmod (AK q.e2 64) 3
abbrev Ve:=[Ap.mk (W64 (10+(AK q.e1 48))) (BI (AK q.e2 64)) (W64 (1+(L8 q))) (E9 q)]
def Z88:Blk:=.cells (Ds b [.own 200100 2 (Ag b).length,.own 205 6 ((AH b)++(Ve q)).length,.own 30 8 b.Vias.length,.own 200104 8 (Ad b).length,.own 200106 5 (Aa b).length,.own 200108 4 (AY b).length,.own 200110 2 (AN b).length,.own 200114 20 (AO b).length,.own 34 3 b.Waivers.length,.own 200112 3 (AM b).length]) 42
def Z89:Blk:=.row 6 ((AH b)++(Ve q)).length (AP Ap.c ((AH b)++(Ve q))) 85
def Z8a:Tv:=tB (decide ((0:Int)<(((AH b).length:Nat):Int)))
abbrev HF (q:C5) (b:AC):=(Int.tmod (AK q.e2 64) (((AH b).length:Nat):Int))
abbrev V1:=Ap.mk ((AH b).getD (HF q b).toNat default).Id ((AH b).getD (HF q b).toNat default).Net (W64 ((Int.tmod (AK q.e1 48) 4)+1)) ((AH b).getD (HF q b).toNat default).Shape
def Z8b:Blk:=.cells (Ds b [.own 200100 2 (Ag b).length,.own 200102 6 ((AH b).set (HF q b).toNat (V1 b q)).length,.own 30 8 b.Vias.length,.own 200104 8 (Ad b).length,.own 200106 5 (Aa b).length,.own 200108 4 (AY b).length,.own 200110 2 (AN b).length,.own 200114 20 (AO b).length,.own 34 3 b.Waivers.length,.own 200112 3 (AM b).length]) 42
def Z8c:Blk:=.row 6 ((AH b).set (HF q b).toNat (V1 b q)).length (AP Ap.c ((AH b).set (HF q b).toNat (V1 b q))) 85
abbrev V4:=(Oy (AH b) ((Int.tmod (AK q.e2 64) (((AH b).length:Nat):Int):Int).toNat-(0:Int).toNat) (W64 ((HF q b)+1):Int).toNat (((((AH b).length:Nat):Int):Int).toNat-(W64 ((HF q b)+1):Int).toNat))
def Z8d:Blk:=.cells (Ds b [.own 200100 2 (Ag b).length,.own 248 6 (V4 b q).length,.own 30 8 b.Vias.length,.own 200104 8 (Ad b).length,.own 200106 5 (Aa b).length,.own 200108 4 (AY b).length,.own 200110 2 (AN b).length,.own 200114 20 (AO b).length,.own 34 3 b.Waivers.length,.own 200112 3 (AM b).length]) 42
def Z8e:Blk:=.row 6 (V4 b q).length (AP Ap.c (V4 b q)) 85
abbrev Px:=Int.tmod (AK q.e1 48) 9
abbrev Pw:=Int.tmod (AK q.e2 64) 9
abbrev Vc:=AE.mk (W64 (10*(AK q.e1 48))) (W64 (5*(AK q.e2 64)))
abbrev Ri:=Int.tdiv (Int.tmod (AK q.e1 48) 3) 2
def Z8f:Blk:=.cells (Ds b (Nd b [.own 275 8 (b.Vias++[Bo.mk (W64 (60+(AK q.e1 48))) ({ data := #[71,78,68] }:ByteArray) (Vc q) (W64 (8-(Px q))) (Pw q) (W64 (1+(Int.tmod (AK q.e2 64) 2))) (W64 (2+(W64 (Ri q))))]).length,.own 200104 8 (Ad b).length,.own 200106 5 (Aa b).length,.own 200108 4 (AY b).length,.own 200110 2 (AN b).length,.own 200114 20 (AO b).length,.own 34 3 b.Waivers.length,.own 200112 3 (AM b).length])) 42
def Z8g:Blk:=.row 8 (b.Vias++[Bo.mk (W64 (60+(AK q.e1 48))) ({ data := #[71,78,68] }:ByteArray) (Vc q) (W64 (8-(Px q))) (Pw q) (W64 (1+(Int.tmod (AK q.e2 64) 2))) (W64 (2+(W64 (Ri q))))]).length (AP Bo.c (b.Vias++[Bo.mk (W64 (60+(AK q.e1 48))) ({ data := #[71,78,68] }:ByteArray) (Vc q) (W64 (8-(Px q))) (Pw q) (W64 (1+(Int.tmod (AK q.e2 64) 2))) (W64 (2+(W64 (Ri q))))])) 87
abbrev pY (q:C5) (b:AC):=(Int.tmod (AK q.e2 64) ((b.Vias.length:Nat):Int))
abbrev Mp:=(b.Vias.getD (pY q b).toNat default)
abbrev V2:=b.Vias.set (pY q b).toNat (Bo.mk (Mp b q).Id (Mp b q).Net (AE.mk (W64 ((Mp b q).At.X+(W64 (3*(AK q.e1 48))))) (Mp b q).At.Y) (Mp b q).R (Mp b q).Drill (Mp b q).From (Mp b q).To)
def Z8h:Blk:=.cells (Ds b (Nd b [.own 30 8 (V2 b q).length,.own 200104 8 (Ad b).length,.own 200106 5 (Aa b).length,.own 200108 4 (AY b).length,.own 200110 2 (AN b).length,.own 200114 20 (AO b).length,.own 34 3 b.Waivers.length,.own 200112 3 (AM b).length])) 42
def Z8i:Blk:=.row 8 (V2 b q).length (AP Bo.c (V2 b q)) 87
abbrev Vf:=[Ai.mk (Int.tmod (AK q.e2 64) 7) 1 (W64 (2+(Int.tmod (AK q.e1 48) 8))) 3]
abbrev L7:=Int.tmod (AK q.e2 64) 5
def Z8j:Blk:=.cells (B8 b [.own 333 8 ((Ad b)++[A4.mk (W64 (70+(AK q.e1 48))) ({ data := #[78,49] }:ByteArray) (W64 (1+(L8 q))) (([20,0,1,33554432,10,134217728]:List Int).getD (Nw q).toNat 0) 0 (W64 ((L7 q)-1)) 3 (Vf q)]).length,.own 200106 5 (Aa b).length,.own 200108 4 (AY b).length,.own 200110 2 (AN b).length,.own 200114 20 (AO b).length,.own 34 3 b.Waivers.length,.own 200112 3 (AM b).length]) 42
def Z8k:Blk:=.row 8 ((Ad b)++[A4.mk (W64 (70+(AK q.e1 48))) ({ data := #[78,49] }:ByteArray) (W64 (1+(L8 q))) (([20,0,1,33554432,10,134217728]:List Int).getD (Nw q).toNat 0) 0 (W64 ((L7 q)-1)) 3 (Vf q)]).length (AP A4.c ((Ad b)++[A4.mk (W64 (70+(AK q.e1 48))) ({ data := #[78,49] }:ByteArray) (W64 (1+(L8 q))) (([20,0,1,33554432,10,134217728]:List Int).getD (Nw q).toNat 0) 0 (W64 ((L7 q)-1)) 3 (Vf q)])) 90
abbrev Vd:=[BT.mk (W64 (80+(AK q.e1 48))) (W64 ((L7 q)-1)) (E9 q)]
def Z8l:Blk:=.cells (B8 b [.own 200104 8 (Ad b).length,.own 386 5 ((Aa b)++(Vd q)).length,.own 200108 4 (AY b).length,.own 200110 2 (AN b).length,.own 200114 20 (AO b).length,.own 34 3 b.Waivers.length,.own 200112 3 (AM b).length]) 42
def Z8m:Blk:=.row 5 ((Aa b)++(Vd q)).length (AP BT.c ((Aa b)++(Vd q))) 93
abbrev VQ:=[Bi.mk (W64 (90+(AK q.e1 48))) (E9 q)]
def Z8n:Blk:=.cells (B8 b [.own 200104 8 (Ad b).length,.own 200106 5 (Aa b).length,.own 398 4 ((AY b)++(VQ q)).length,.own 200110 2 (AN b).length,.own 200114 20 (AO b).length,.own 34 3 b.Waivers.length,.own 200112 3 (AM b).length]) 42
def Z8o:Blk:=.row 4 ((AY b)++(VQ q)).length (AP Bi.c ((AY b)++(VQ q))) 95
def Z8p:Blk:=.cells (B8 b (E7 b [.own 411 2 ((AN b)++[BQ.mk (Ce q) [BI (AK q.e2 64)]]).length,.own 200114 20 (AO b).length,.own 34 3 b.Waivers.length,.own 200112 3 (AM b).length])) 42
def Z8q:Blk:=.row 2 ((AN b)++[BQ.mk (Ce q) [BI (AK q.e2 64)]]).length (AP BQ.c ((AN b)++[BQ.mk (Ce q) [BI (AK q.e2 64)]])) 98
def Z8r:Blk:=.cells (B8 b (E7 b (Ln b [.own 34 3 b.Waivers.length,.own 426 3 ((AM b)++[Ba.mk (Ce q) [({ data := #[78,49] }:ByteArray),BI (AK q.e2 64)] (W64 ((AK q.e2 64)-1))]).length]))) 42
def Z8s:Blk:=.row 3 ((AM b)++[Ba.mk (Ce q) [({ data := #[78,49] }:ByteArray),BI (AK q.e2 64)] (W64 ((AK q.e2 64)-1))]).length (AP Ba.c ((AM b)++[Ba.mk (Ce q) [({ data := #[78,49] }:ByteArray),BI (AK q.e2 64)] (W64 ((AK q.e2 64)-1))])) 100
abbrev RO:=Int.tmod (AK q.e2 64) 13
def Z8t:Blk:=.cells (B8 b (E7 b (Ln b [.own 438 3 (b.Waivers++[BF.mk (W64 (1+(AK q.e1 48))) (RO q) ({ data := #[99,50] }:ByteArray)]).length,.own 200112 3 (AM b).length]))) 42
def Z8u:Blk:=.row 3 (b.Waivers++[BF.mk (W64 (1+(AK q.e1 48))) (RO q) ({ data := #[99,50] }:ByteArray)]).length (AP BF.c (b.Waivers++[BF.mk (W64 (1+(AK q.e1 48))) (RO q) ({ data := #[99,50] }:ByteArray)])) 102
abbrev L9 (q:C5) (b:AC):=(Int.tmod (AK q.e2 64) (((AO b).length:Nat):Int))
abbrev Zw (q:C5) (b:AC):=(L9 q b)
abbrev Z0:=(Az.mk ((AO b).getD (Zw q b).toNat default).Name ((AO b).getD (Zw q b).toNat default).Priority ((AO b).getD (Zw q b).toNat default).What ((AO b).getD (Zw q b).toNat default).A ((AO b).getD (Zw q b).toNat default).B (W64 ((AK q.e1 48)-1)))
def Z8v:Blk:=.cells (B8 b (E7 b [.own 200110 2 (AN b).length,.own 200114 20 ((AO b).set (Zw q b).toNat (Z0 b q)).length,.own 34 3 b.Waivers.length,.own 200112 3 (AM b).length])) 42
def Z8w:Blk:=.row 20 ((AO b).set (Zw q b).toNat (Z0 b q)).length (AP Az.c ((AO b).set (Zw q b).toNat (Z0 b q))) 107
abbrev V5:=(Oy b.Parts ((Int.tmod (AK q.e2 64) ((b.Parts.length:Nat):Int):Int).toNat-(0:Int).toNat) (W64 ((Yo q b)+1):Int).toNat ((((b.Parts.length:Nat):Int):Int).toNat-(W64 ((Yo q b)+1):Int).toNat))
def Z8x:Blk:=.cells (Lo b [.own 480 7 (V5 b q).length,.own 200100 2 (Ag b).length,.own 200102 6 (AH b).length,.own 30 8 b.Vias.length,.own 200104 8 (Ad b).length,.own 200106 5 (Aa b).length,.own 200108 4 (AY b).length,.own 200110 2 (AN b).length,.own 200114 20 (AO b).length,.own 34 3 b.Waivers.length,.own 200112 3 (AM b).length]) 42
def Z8y:Blk:=.row 7 (V5 b q).length (AP AG.c (V5 b q)) 59
abbrev Vr:=Ap.mk ((AH b).getD (HF q b).toNat default).Id (Ce q) ((AH b).getD (HF q b).toNat default).Layer ((AH b).getD (HF q b).toNat default).Shape
def Z8z:Blk:=.cells (Ds b [.own 200100 2 (Ag b).length,.own 200102 6 ((AH b).set (HF q b).toNat (Vr b q)).length,.own 30 8 b.Vias.length,.own 200104 8 (Ad b).length,.own 200106 5 (Aa b).length,.own 200108 4 (AY b).length,.own 200110 2 (AN b).length,.own 200114 20 (AO b).length,.own 34 3 b.Waivers.length,.own 200112 3 (AM b).length]) 42
def Z8A:Blk:=.row 6 ((AH b).set (HF q b).toNat (Vr b q)).length (AP Ap.c ((AH b).set (HF q b).toNat (Vr b q))) 85
def Z8B:Blk:=.cells (B8 b [.own 200104 8 (Ad b).length,.own 200106 5 v5_9.length,.own 200108 4 (AY b).length,.own 200110 2 (AN b).length,.own 200114 20 (AO b).length,.own 34 3 b.Waivers.length,.own 200112 3 (AM b).length]) 42
abbrev Rj:=[BT.mk (W64 (100+v10)) 0 (C7 (AE.mk v10 0) 1)]
def Z8C:Blk:=.cells (B8 b [.own 200104 8 (Ad b).length,.own 38 5 (v5_9++(Rj v10)).length,.own 200108 4 (AY b).length,.own 200110 2 (AN b).length,.own 200114 20 (AO b).length,.own 34 3 b.Waivers.length,.own 200112 3 (AM b).length]) 42
def Z8D:Blk:=.row 5 (v5_9++(Rj v10)).length (AP BT.c (v5_9++(Rj v10))) 93
def Z8E:Blk:=.cells (B8 b [.own 200104 8 (Ad b).length,.own 200106 5 (v5_9++(Rj v10)).length,.own 200108 4 (AY b).length,.own 200110 2 (AN b).length,.own 200114 20 (AO b).length,.own 34 3 b.Waivers.length,.own 200112 3 (AM b).length]) 42
def Fq (b:AC) (q:C5):Nat->List BT->Int->AC
 | 0,_,_=>default
 | n0+1,v5_9,v10=>bif decide ((v10:Int)<(W64 (79+(Int.tmod (AK q.e1 48) 4)))) then ((Fq b q n0) (v5_9++[BT.mk (W64 (100+v10)) 0 (C7 (AE.mk v10 0) 1)]) (v10+1)) else (AC.mk b.Layers (Aj b.Outline) b.Parts (Ag b) (AH b) b.Vias (Ad b) v5_9 (AY b) (AN b) (AO b) b.Waivers (AM b))
def B1 (b:AC) (q:C5):AC:=bif decide (((AK q.e0 26):Int)=0) then (AC.mk (Int.tmod (AK q.e1 48) 6) (Aj b.Outline) b.Parts (Ag b) (AH b) b.Vias (Ad b) (Aa b) (AY b) (AN b) (AO b) b.Waivers (AM b)) else (bif decide (((AK q.e0 26):Int)=1) then (AC.mk b.Layers (DQ (AK q.e1 48)) b.Parts (Ag b) (AH b) b.Vias (Ad b) (Aa b) (AY b) (AN b) (AO b) b.Waivers (AM b)) else (bif decide (((AK q.e0 26):Int)=2) then (bif decide ((0:Int)<((b.Parts.length:Nat):Int)) then (AC.mk b.Layers (Aj b.Outline) (b.Parts.set (Int.tmod (AK q.e2 64) ((b.Parts.length:Nat):Int)).toNat (AG.mk (W64 ((AK q.e1 48)-1)) (b.Parts.getD (Int.tmod (AK q.e2 64) ((b.Parts.length:Nat):Int)).toNat default).Ref (b.Parts.getD (Int.tmod (AK q.e2 64) ((b.Parts.length:Nat):Int)).toNat default).Type' (b.Parts.getD (Int.tmod (AK q.e2 64) ((b.Parts.length:Nat):Int)).toNat default).At (b.Parts.getD (Int.tmod (AK q.e2 64) ((b.Parts.length:Nat):Int)).toNat default).Turn (b.Parts.getD (Int.tmod (AK q.e2 64) ((b.Parts.length:Nat):Int)).toNat default).Under)) (Ag b) (AH b) b.Vias (Ad b) (Aa b) (AY b) (AN b) (AO b) b.Waivers (AM b)) else (AC.mk b.Layers (Aj b.Outline) b.Parts (Ag b) (AH b) b.Vias (Ad b) (Aa b) (AY b) (AN b) (AO b) b.Waivers (AM b))) else (bif decide (((AK q.e0 26):Int)=3) then (bif decide ((0:Int)<((b.Parts.length:Nat):Int)) then (AC.mk b.Layers (Aj b.Outline) (b.Parts.set (Int.tmod (AK q.e2 64) ((b.Parts.length:Nat):Int)).toNat (AG.mk (b.Parts.getD (Int.tmod (AK q.e2 64) ((b.Parts.length:Nat):Int)).toNat default).Id (BI (AK q.e1 48)) (b.Parts.getD (Int.tmod (AK q.e2 64) ((b.Parts.length:Nat):Int)).toNat default).Type' (b.Parts.getD (Int.tmod (AK q.e2 64) ((b.Parts.length:Nat):Int)).toNat default).At (b.Parts.getD (Int.tmod (AK q.e2 64) ((b.Parts.length:Nat):Int)).toNat default).Turn (b.Parts.getD (Int.tmod (AK q.e2 64) ((b.Parts.length:Nat):Int)).toNat default).Under)) (Ag b) (AH b) b.Vias (Ad b) (Aa b) (AY b) (AN b) (AO b) b.Waivers (AM b)) else (AC.mk b.Layers (Aj b.Outline) b.Parts (Ag b) (AH b) b.Vias (Ad b) (Aa b) (AY b) (AN b) (AO b) b.Waivers (AM b))) else (bif decide (((AK q.e0 26):Int)=4) then (bif decide ((0:Int)<((b.Parts.length:Nat):Int)) then (AC.mk b.Layers (Aj b.Outline) (b.Parts.set (Int.tmod (AK q.e2 64) ((b.Parts.length:Nat):Int)).toNat (AG.mk (b.Parts.getD (Int.tmod (AK q.e2 64) ((b.Parts.length:Nat):Int)).toNat default).Id (b.Parts.getD (Int.tmod (AK q.e2 64) ((b.Parts.length:Nat):Int)).toNat default).Ref (b.Parts.getD (Int.tmod (AK q.e2 64) ((b.Parts.length:Nat):Int)).toNat default).Type' (b.Parts.getD (Int.tmod (AK q.e2 64) ((b.Parts.length:Nat):Int)).toNat default).At (W64 ((AK q.e1 48)-1)) (b.Parts.getD (Int.tmod (AK q.e2 64) ((b.Parts.length:Nat):Int)).toNat default).Under)) (Ag b) (AH b) b.Vias (Ad b) (Aa b) (AY b) (AN b) (AO b) b.Waivers (AM b)) else (AC.mk b.Layers (Aj b.Outline) b.Parts (Ag b) (AH b) b.Vias (Ad b) (Aa b) (AY b) (AN b) (AO b) b.Waivers (AM b))) else (bif decide (((AK q.e0 26):Int)=5) then (bif decide ((0:Int)<((b.Parts.length:Nat):Int)) then (AC.mk b.Layers (Aj b.Outline) (b.Parts.set (Int.tmod (AK q.e2 64) ((b.Parts.length:Nat):Int)).toNat (AG.mk (b.Parts.getD (Int.tmod (AK q.e2 64) ((b.Parts.length:Nat):Int)).toNat default).Id (b.Parts.getD (Int.tmod (AK q.e2 64) ((b.Parts.length:Nat):Int)).toNat default).Ref (b.Parts.getD (Int.tmod (AK q.e2 64) ((b.Parts.length:Nat):Int)).toNat default).Type' (AE.mk (([AK q.e1 48,67108864,67108664,(-67108865)]:List Int).getD (Int.tmod (AK q.e1 48) 4).toNat 0) (b.Parts.getD (Int.tmod (AK q.e2 64) ((b.Parts.length:Nat):Int)).toNat default).At.Y) (b.Parts.getD (Int.tmod (AK q.e2 64) ((b.Parts.length:Nat):Int)).toNat default).Turn (b.Parts.getD (Int.tmod (AK q.e2 64) ((b.Parts.length:Nat):Int)).toNat default).Under)) (Ag b) (AH b) b.Vias (Ad b) (Aa b) (AY b) (AN b) (AO b) b.Waivers (AM b)) else (AC.mk b.Layers (Aj b.Outline) b.Parts (Ag b) (AH b) b.Vias (Ad b) (Aa b) (AY b) (AN b) (AO b) b.Waivers (AM b))) else (bif decide (((AK q.e0 26):Int)=6) then (bif decide ((0:Int)<(((Ag b).length:Nat):Int)) then (AC.mk b.Layers (Aj b.Outline) b.Parts ((Ag b).set (Int.tmod (AK q.e2 64) (((Ag b).length:Nat):Int)).toNat (A7.mk (BI (AK q.e1 48)) ((Ag b).getD (Int.tmod (AK q.e2 64) (((Ag b).length:Nat):Int)).toNat default).Pins)) (AH b) b.Vias (Ad b) (Aa b) (AY b) (AN b) (AO b) b.Waivers (AM b)) else (AC.mk b.Layers (Aj b.Outline) b.Parts (Ag b) (AH b) b.Vias (Ad b) (Aa b) (AY b) (AN b) (AO b) b.Waivers (AM b))) else (bif decide (((AK q.e0 26):Int)=8) then (AC.mk b.Layers (Aj b.Outline) b.Parts ((Ag b)++[A7.mk (BI (AK q.e1 48)) [AU.mk ({ data := #[82,49] }:ByteArray) ({ data := #[80,50] }:ByteArray)]]) (AH b) b.Vias (Ad b) (Aa b) (AY b) (AN b) (AO b) b.Waivers (AM b)) else (bif decide (((AK q.e0 26):Int)=9) then (AC.mk b.Layers (Aj b.Outline) b.Parts ((Ag b).take (min ((Ag b).length:Int) (Int.tmod (AK q.e1 48) 4):Int).toNat) (AH b) b.Vias (Ad b) (Aa b) (AY b) (AN b) (AO b) b.Waivers (AM b)) else (bif decide (((AK q.e0 26):Int)=10) then (AC.mk b.Layers (Aj b.Outline) b.Parts (Ag b) ((AH b)++[Ap.mk (W64 (10+(AK q.e1 48))) (BI (AK q.e2 64)) (W64 (1+(Int.tmod (AK q.e2 64) 3))) (DQ (AK q.e1 48))]) b.Vias (Ad b) (Aa b) (AY b) (AN b) (AO b) b.Waivers (AM b)) else (bif decide (((AK q.e0 26):Int)=11) then (bif decide ((0:Int)<(((AH b).length:Nat):Int)) then (AC.mk b.Layers (Aj b.Outline) b.Parts (Ag b) ((AH b).set (Int.tmod (AK q.e2 64) (((AH b).length:Nat):Int)).toNat (Ap.mk ((AH b).getD (Int.tmod (AK q.e2 64) (((AH b).length:Nat):Int)).toNat default).Id ((AH b).getD (Int.tmod (AK q.e2 64) (((AH b).length:Nat):Int)).toNat default).Net (W64 ((Int.tmod (AK q.e1 48) 4)+1)) ((AH b).getD (Int.tmod (AK q.e2 64) (((AH b).length:Nat):Int)).toNat default).Shape)) b.Vias (Ad b) (Aa b) (AY b) (AN b) (AO b) b.Waivers (AM b)) else (AC.mk b.Layers (Aj b.Outline) b.Parts (Ag b) (AH b) b.Vias (Ad b) (Aa b) (AY b) (AN b) (AO b) b.Waivers (AM b))) else (bif decide (((AK q.e0 26):Int)=12) then (bif decide ((0:Int)<(((AH b).length:Nat):Int)) then (AC.mk b.Layers (Aj b.Outline) b.Parts (Ag b) (Oy (AH b) ((Int.tmod (AK q.e2 64) (((AH b).length:Nat):Int):Int).toNat-(0:Int).toNat) (W64 ((Int.tmod (AK q.e2 64) (((AH b).length:Nat):Int))+1):Int).toNat (((((AH b).length:Nat):Int):Int).toNat-(W64 ((Int.tmod (AK q.e2 64) (((AH b).length:Nat):Int))+1):Int).toNat)) b.Vias (Ad b) (Aa b) (AY b) (AN b) (AO b) b.Waivers (AM b)) else (AC.mk b.Layers (Aj b.Outline) b.Parts (Ag b) (AH b) b.Vias (Ad b) (Aa b) (AY b) (AN b) (AO b) b.Waivers (AM b))) else (bif decide (((AK q.e0 26):Int)=13) then (AC.mk b.Layers (Aj b.Outline) b.Parts (Ag b) (AH b) (b.Vias++[Bo.mk (W64 (60+(AK q.e1 48))) ({ data := #[71,78,68] }:ByteArray) (AE.mk (W64 (10*(AK q.e1 48))) (W64 (5*(AK q.e2 64)))) (W64 (8-(Int.tmod (AK q.e1 48) 9))) (Int.tmod (AK q.e2 64) 9) (W64 (1+(Int.tmod (AK q.e2 64) 2))) (W64 (2+(W64 (Int.tdiv (Int.tmod (AK q.e1 48) 3) 2))))]) (Ad b) (Aa b) (AY b) (AN b) (AO b) b.Waivers (AM b)) else (bif decide (((AK q.e0 26):Int)=14) then (bif decide ((0:Int)<((b.Vias.length:Nat):Int)) then (AC.mk b.Layers (Aj b.Outline) b.Parts (Ag b) (AH b) (b.Vias.set (Int.tmod (AK q.e2 64) ((b.Vias.length:Nat):Int)).toNat (Bo.mk (b.Vias.getD (Int.tmod (AK q.e2 64) ((b.Vias.length:Nat):Int)).toNat default).Id (b.Vias.getD (Int.tmod (AK q.e2 64) ((b.Vias.length:Nat):Int)).toNat default).Net (AE.mk (W64 ((b.Vias.getD (Int.tmod (AK q.e2 64) ((b.Vias.length:Nat):Int)).toNat default).At.X+(W64 (3*(AK q.e1 48))))) (b.Vias.getD (Int.tmod (AK q.e2 64) ((b.Vias.length:Nat):Int)).toNat default).At.Y) (b.Vias.getD (Int.tmod (AK q.e2 64) ((b.Vias.length:Nat):Int)).toNat default).R (b.Vias.getD (Int.tmod (AK q.e2 64) ((b.Vias.length:Nat):Int)).toNat default).Drill (b.Vias.getD (Int.tmod (AK q.e2 64) ((b.Vias.length:Nat):Int)).toNat default).From (b.Vias.getD (Int.tmod (AK q.e2 64) ((b.Vias.length:Nat):Int)).toNat default).To)) (Ad b) (Aa b) (AY b) (AN b) (AO b) b.Waivers (AM b)) else (AC.mk b.Layers (Aj b.Outline) b.Parts (Ag b) (AH b) b.Vias (Ad b) (Aa b) (AY b) (AN b) (AO b) b.Waivers (AM b))) else (bif decide (((AK q.e0 26):Int)=15) then (AC.mk b.Layers (Aj b.Outline) b.Parts (Ag b) (AH b) b.Vias ((Ad b)++[A4.mk (W64 (70+(AK q.e1 48))) ({ data := #[78,49] }:ByteArray) (W64 (1+(Int.tmod (AK q.e2 64) 3))) (([20,0,1,33554432,10,134217728]:List Int).getD (Int.tmod (AK q.e1 48) 6).toNat 0) 0 (W64 ((Int.tmod (AK q.e2 64) 5)-1)) 3 [Ai.mk (Int.tmod (AK q.e2 64) 7) 1 (W64 (2+(Int.tmod (AK q.e1 48) 8))) 3]]) (Aa b) (AY b) (AN b) (AO b) b.Waivers (AM b)) else (bif decide (((AK q.e0 26):Int)=17) then (AC.mk b.Layers (Aj b.Outline) b.Parts (Ag b) (AH b) b.Vias (Ad b) ((Aa b)++[BT.mk (W64 (80+(AK q.e1 48))) (W64 ((Int.tmod (AK q.e2 64) 5)-1)) (DQ (AK q.e1 48))]) (AY b) (AN b) (AO b) b.Waivers (AM b)) else (bif decide (((AK q.e0 26):Int)=18) then (AC.mk b.Layers (Aj b.Outline) b.Parts (Ag b) (AH b) b.Vias (Ad b) (Aa b) ((AY b)++[Bi.mk (W64 (90+(AK q.e1 48))) (DQ (AK q.e1 48))]) (AN b) (AO b) b.Waivers (AM b)) else (bif decide (((AK q.e0 26):Int)=19) then (AC.mk b.Layers (Aj b.Outline) b.Parts (Ag b) (AH b) b.Vias (Ad b) (Aa b) (AY b) ((AN b)++[BQ.mk (BI (AK q.e1 48)) [BI (AK q.e2 64)]]) (AO b) b.Waivers (AM b)) else (bif decide (((AK q.e0 26):Int)=20) then (AC.mk b.Layers (Aj b.Outline) b.Parts (Ag b) (AH b) b.Vias (Ad b) (Aa b) (AY b) (AN b) (AO b) b.Waivers ((AM b)++[Ba.mk (BI (AK q.e1 48)) [({ data := #[78,49] }:ByteArray),BI (AK q.e2 64)] (W64 ((AK q.e2 64)-1))])) else (bif decide (((AK q.e0 26):Int)=21) then (AC.mk b.Layers (Aj b.Outline) b.Parts (Ag b) (AH b) b.Vias (Ad b) (Aa b) (AY b) (AN b) (AO b) (b.Waivers++[BF.mk (W64 (1+(AK q.e1 48))) (Int.tmod (AK q.e2 64) 13) ({ data := #[99,50] }:ByteArray)]) (AM b)) else (bif decide (((AK q.e0 26):Int)=22) then (bif decide ((0:Int)<(((AO b).length:Nat):Int)) then (AC.mk b.Layers (Aj b.Outline) b.Parts (Ag b) (AH b) b.Vias (Ad b) (Aa b) (AY b) (AN b) ((AO b).set (Int.tmod (AK q.e2 64) (((AO b).length:Nat):Int)).toNat (Az.mk ((AO b).getD (Int.tmod (AK q.e2 64) (((AO b).length:Nat):Int)).toNat default).Name ((AO b).getD (Int.tmod (AK q.e2 64) (((AO b).length:Nat):Int)).toNat default).Priority ((AO b).getD (Int.tmod (AK q.e2 64) (((AO b).length:Nat):Int)).toNat default).What ((AO b).getD (Int.tmod (AK q.e2 64) (((AO b).length:Nat):Int)).toNat default).A ((AO b).getD (Int.tmod (AK q.e2 64) (((AO b).length:Nat):Int)).toNat default).B (W64 ((AK q.e1 48)-1)))) b.Waivers (AM b)) else (AC.mk b.Layers (Aj b.Outline) b.Parts (Ag b) (AH b) b.Vias (Ad b) (Aa b) (AY b) (AN b) (AO b) b.Waivers (AM b))) else (bif decide (((AK q.e0 26):Int)=23) then (bif decide ((0:Int)<((b.Parts.length:Nat):Int)) then (AC.mk b.Layers (Aj b.Outline) (Oy b.Parts ((Int.tmod (AK q.e2 64) ((b.Parts.length:Nat):Int):Int).toNat-(0:Int).toNat) (W64 ((Int.tmod (AK q.e2 64) ((b.Parts.length:Nat):Int))+1):Int).toNat ((((b.Parts.length:Nat):Int):Int).toNat-(W64 ((Int.tmod (AK q.e2 64) ((b.Parts.length:Nat):Int))+1):Int).toNat)) (Ag b) (AH b) b.Vias (Ad b) (Aa b) (AY b) (AN b) (AO b) b.Waivers (AM b)) else (AC.mk b.Layers (Aj b.Outline) b.Parts (Ag b) (AH b) b.Vias (Ad b) (Aa b) (AY b) (AN b) (AO b) b.Waivers (AM b))) else (bif decide (((AK q.e0 26):Int)=24) then (bif decide ((0:Int)<(((AH b).length:Nat):Int)) then (AC.mk b.Layers (Aj b.Outline) b.Parts (Ag b) ((AH b).set (Int.tmod (AK q.e2 64) (((AH b).length:Nat):Int)).toNat (Ap.mk ((AH b).getD (Int.tmod (AK q.e2 64) (((AH b).length:Nat):Int)).toNat default).Id (BI (AK q.e1 48)) ((AH b).getD (Int.tmod (AK q.e2 64) (((AH b).length:Nat):Int)).toNat default).Layer ((AH b).getD (Int.tmod (AK q.e2 64) (((AH b).length:Nat):Int)).toNat default).Shape)) b.Vias (Ad b) (Aa b) (AY b) (AN b) (AO b) b.Waivers (AM b)) else (AC.mk b.Layers (Aj b.Outline) b.Parts (Ag b) (AH b) b.Vias (Ad b) (Aa b) (AY b) (AN b) (AO b) b.Waivers (AM b))) else (Fq b q (((W64 (79+(Int.tmod (AK q.e1 48) 4)))-0).toNat+1) (Aa b) 0)))))))))))))))))))))))
abbrev Nn:List Av:=[.agg (AC.c b),.agg (C5.c q)]
def XL:CT:=(9,(Nn b q),.val [] (.av (.agg (AC.c (B1 b q)))))
abbrev EL:List (Nat×Blk):=[(4,Z7F),(5,Z7R b),(26,Z7G b),(30,Z7J b),(34,Z7P b),(200100,Z7H b),(200102,Z7I b),(200104,Z7K b),(200106,Z7L b),(200108,Z7M b),(200110,Z7N b),(200112,Z7Q b),(200114,Z7O b)]
abbrev I4:AS:=⟨[(4,tP 4 0)],[(4,Z7R b),(26,Z7G b),(30,Z7J b),(34,Z7P b),(200100,Z7H b),(200102,Z7I b),(200104,Z7K b),(200106,Z7L b),(200108,Z7M b),(200110,Z7N b),(200112,Z7Q b),(200114,Z7O b)]⟩
abbrev lM:Nat×Tv:=(6,tI (AK q.e1 48))
abbrev aK:Nat×Tv:=(7,tI (AK q.e2 64))
abbrev EQ:Nat×Tv:=(21,tI (AK q.e0 26))
abbrev DW:List (Nat×Tv):=[(4,tP 4 0),(5,tP 5 0)]
abbrev B6 (t_:List (Nat×Tv)):List (Nat×Tv):=(4,tP 4 0)::(5,tP 5 0)::(lM q)::(aK q)::t_
abbrev SA:Bool:=(decide (((AK q.e0 26):Int)=5))
abbrev OQ:List (Nat×Tv):=(B6 q [(EQ q),(101,tB (SA q))])
abbrev R9:Bool:=(decide (((AK q.e0 26):Int)=6))
abbrev OP:List (Nat×Tv):=(B6 q [(EQ q),(123,tB (R9 q))])
abbrev OD:Bool:=(decide (((AK q.e0 26):Int)=7))
abbrev OO:List (Nat×Tv):=(B6 q [(EQ q),(140,tB (OD q))])
abbrev RZ:Bool:=(decide (((AK q.e0 26):Int)=9))
abbrev ON:List (Nat×Tv):=(B6 q [(EQ q),(178,tB (RZ q))])
abbrev SF:Bool:=(decide (((AK q.e0 26):Int)=0))
abbrev OM:List (Nat×Tv):=(B6 q [(EQ q),(40,tB (SF q))])
abbrev SE:Bool:=(decide (((AK q.e0 26):Int)=1))
abbrev OL:List (Nat×Tv):=(B6 q [(EQ q),(45,tB (SE q))])
abbrev SD:Bool:=(decide (((AK q.e0 26):Int)=2))
abbrev OJ:List (Nat×Tv):=(B6 q [(EQ q),(50,tB (SD q))])
abbrev SC:Bool:=(decide (((AK q.e0 26):Int)=3))
abbrev OI:List (Nat×Tv):=(B6 q [(EQ q),(67,tB (SC q))])
abbrev SB:Bool:=(decide (((AK q.e0 26):Int)=4))
abbrev OG:List (Nat×Tv):=(B6 q [(EQ q),(84,tB (SB q))])
abbrev Du:Nat×Blk:=(3,.cells (C5.c q) 23)
abbrev Rg:Bool:=(decide (((AK q.e0 26):Int)=10))
abbrev ST:List (Nat×Tv):=(B6 q [(EQ q),(190,tB (Rg q))])
abbrev Rf:Bool:=(decide (((AK q.e0 26):Int)=11))
abbrev SS:List (Nat×Tv):=(B6 q [(EQ q),(207,tB (Rf q))])
abbrev Re:Bool:=(decide (((AK q.e0 26):Int)=12))
abbrev SR:List (Nat×Tv):=(B6 q [(EQ q),(225,tB (Re q))])
abbrev Rd:Bool:=(decide (((AK q.e0 26):Int)=13))
abbrev SP:List (Nat×Tv):=(B6 q [(EQ q),(250,tB (Rd q))])
abbrev Rc:Bool:=(decide (((AK q.e0 26):Int)=14))
abbrev SO:List (Nat×Tv):=(B6 q [(EQ q),(277,tB (Rc q))])
abbrev Rb:Bool:=(decide (((AK q.e0 26):Int)=15))
abbrev SN:List (Nat×Tv):=(B6 q [(EQ q),(307,tB (Rb q))])
abbrev SG:Bool:=(decide (((AK q.e0 26):Int)=16))
abbrev SM:List (Nat×Tv):=(B6 q [(EQ q),(335,tB (SG q))])
abbrev Ra:Bool:=(decide (((AK q.e0 26):Int)=8))
abbrev SK:List (Nat×Tv):=(B6 q [(EQ q),(166,tB (Ra q))])
abbrev N7:Nat×Tv:=(11,.av (.agg (AC.c b)))
abbrev OB:List (Nat×Tv):=[(3,tP 3 0),(4,tP 4 0),(N7 b)]
abbrev N5:List (Nat×Tv):=[(2,tP 2 0),(3,tP 3 0),(4,tP 4 0)]
abbrev N4:List (Nat×Tv):=[(3,tP 3 0),(4,tP 4 0),(5,tP 5 0)]
abbrev aX:List (Nat×Blk):=[(4,Z7F),(5,Z8C b v5_9 v10),(26,Z7G b),(30,Z7J b),(34,Z7P b),(38,Z8D v5_9 v10),(200100,Z7H b),(200102,Z7I b),(200104,Z7K b),(200108,Z7M b),(200110,Z7N b),(200112,Z7Q b),(200114,Z7O b)]
abbrev Z9:List Cl:=[.i (Int.tmod (AK q.e2 64) 7),.i 1,.i (W64 (2+(Int.tmod (AK q.e1 48) 8))),.i 3]
abbrev KF (t_:List (Nat×Tv)):List (Nat×Tv):=(4,tP 4 0)::(5,tP 5 0)::(lM q)::t_
theorem au20 {p:Prop} (h:p:=by first | (with_reducible exact hc) | (with_reducible exact hN) | (with_reducible exact hK) | (with_reducible exact hN.1) | (with_reducible exact hK.1) | with_reducible assumption | omega | decide | (simp only [List.length_cons,List.length_nil,List.length_append];omega) | assumption):p:=h
theorem au12 {p:Prop} (h:p:=by first | decide | with_reducible exact oz (by with_reducible assumption)):p:=h
theorem au5 {p:Prop} (h:p:=by first | with_reducible exact tmb hK.1 (by with_reducible assumption) | with_reducible exact oi2 hK.1 (by with_reducible assumption) | with_reducible exact oi4 hK.1 (by with_reducible assumption) | with_reducible exact oi3 hK.1 (by with_reducible assumption) | with_reducible exact oi5 hN.1 | with_reducible exact oi8 hN.1 | with_reducible exact oi9 hN.1 | with_reducible exact oi7 hK.1 (by with_reducible assumption) (by with_reducible assumption) | with_reducible exact oi6 hK.1 (by with_reducible assumption) (by with_reducible assumption) | omega):p:=h
theorem au15 {p:Prop} (h:p:=by first | with_reducible exact ol1 (by with_reducible assumption) (by decide) | with_reducible exact ol2 (by with_reducible assumption) | with_reducible exact ol4 hK.1 (by with_reducible assumption) (by with_reducible assumption) | with_reducible exact ol3 hK.1 (by with_reducible assumption) (by with_reducible assumption) | omega):p:=h
set_option maxHeartbeats 40000000 in
theorem nG (b:AC) (q:C5) (hc:CM b) (hq7:¬ (AK q.e0 26:Int)=7) (hq16:¬ (AK q.e0 26:Int)=16):PuP 9 (XL b q).2.1 (.av (.agg (AC.c (B1 b q)))):=by
 refine pwf Try.func9 fun W0 M0 => ?_
 have hN:0<=AK q.e1 48/\AK q.e1 48<48:=Ik _ _ (by decide) (by decide)
 have hK0:=Ik q.e2 64 (by decide) (by decide)
 have hK:0<=AK q.e2 64/\AK q.e2 64<64:=hK0
 have hlNets:=fB hc
 have hlTracks:=Wt hc
 have hlPours:=ZZ hc
 have hlKeeps:=Zb hc
 have hlSlots:=ZX hc
 have hlClasses:=Um hc
 have hlMatches:=Ul hc
 have hlRules:=ZY hc
 have hlParts:=Za hc
 have hlVias:=fA hc
 have hlWaivers:=Uk hc
 refine AB<|rn ⟨N5,[(2,.cells (AC.c b) 42),(Du q),(4,Z7F)]⟩<|AB ?_
 refine Dc ?_
 refine FS DV 1 [] [] [] [3,4,11] [3,4] [] ⟨(OB b),[(Du q),(4,Z7F)]⟩ .nil kr .nil ?_
 refine Hs (ι:=Unit) (I:=fun _=>True) (fun _=>⟨[(3,tP 3 0),(4,tP 4 0),(N7 b),(12,.av (.agg (OH b)))],[(26,Z7G b),(200100,Z7H b),(200102,Z7I b),(30,Z7J b),(200104,Z7K b),(200106,Z7L b),(200108,Z7M b),(200110,Z7N b),(200114,Z7O b),(34,Z7P b),(200112,Z7Q b),(Du q),(4,Z7F)]⟩) hk0 ⟨⟨_,_,rfl,rfl,⟨fun _=>default,by kernel_rfl⟩,by kernel_rfl⟩,fun _ _=>by kernel_rfl,rfl,rfl⟩ (qCpA b au20) (fun _=>by kernel_rfl) (fun _=>by kernel_rfl) (fun _ _ => ?_)
 refine Ea DV [] [] [] [3,4,5] [3,4,5,26,30,34,200100,200102,200104,200106,200108,200110,200112,200114] [] ⟨N4,[(Du q),(4,Z7F),(5,Z7R b),(26,Z7G b),(30,Z7J b),(34,Z7P b),(200100,Z7H b),(200102,Z7I b),(200104,Z7K b),(200106,Z7L b),(200108,Z7M b),(200110,Z7N b),(200112,Z7Q b),(200114,Z7O b)]⟩ .nil kr .nil<|AF<|AB ?_
 refine oc [(15,Ej q.e1 48)] [0<=(1:Int)/\(1:Int)<(3:Int),A0 (Ej q.e1 48).2.1] (.cons (GR q.e1 48 au20) .nil) (.cons (by decide) (.cons rfl .nil))<|AF<|AB ?_
 refine oc [(18,Ej q.e2 64)] [0<=(2:Int)/\(2:Int)<(3:Int),A0 (Ej q.e2 64).2.1] (.cons (GR q.e2 64 au20) .nil) (.cons (by decide) (.cons rfl .nil))<|AF ?_
 refine AB<|AB ?_
 refine oc [(21,Ej q.e0 26)] [0<=(0:Int)/\(0:Int)<(3:Int),A0 (Ej q.e0 26).2.1] (.cons (GR q.e0 26 au20) .nil) (.cons (by decide) (.cons rfl .nil))<|AF ?_
 refine AX<|AB ?_
 refine rn ⟨(OM q),(EL b)⟩ ?_
 refine AL _ rfl (fun h1 => ?_) (fun h1 => ?_)
 ·have g1:=oT h1
  refine oc [] [(6:Int)≠0] .nil (.cons au12 .nil)<|A8 ?_
  refine AF<|AB ?_
  refine on<|Ac ?_
  exact zy (Cv.trans (Bu [26,200100,200102,30,200104,200106,200108,200110,200114,34,200112] hk0) (Cv.refl _)) (by simp only [B1,h1,cond_true,cond_false] <;> kernel_rfl)
 have g1:=oF h1
 refine AB<|rn ⟨(OL q),(EL b)⟩ ?_
 refine AL _ rfl (fun h2 => ?_) (fun h2 => ?_)
 ·refine oq 48 (FQ (AK q.e1 48)) (Ja (AK q.e1 48))<|A8 ?_
  refine AF<|AB ?_
  refine on<|Ac ?_
  exact zy (Cv.trans (Bu [26,200100,200102,30,200104,200106,200108,200110,200114,34,200112] hk0) (Cv.refl _)) (by simp only [B1,h1,h2,cond_true,cond_false] <;> kernel_rfl)
 have g2:=oF h2
 refine AB<|rn ⟨(OJ q),(EL b)⟩ ?_
 refine AL _ rfl (fun h3 => ?_) (fun h3 => ?_)
 ·have g3:=oT h3
  refine AB<|rn ⟨(B6 q [(55,Z7U b)]),(EL b)⟩ ?_
  refine AL _ rfl (fun h4 => ?_) (fun h4 => ?_)
  ·have g4:=oT h4
   refine od [] [] [(((b.Parts.length:Nat):Int):Int)≠0,0<=(Int.tmod (AK q.e2 64) ((b.Parts.length:Nat):Int):Int)/\(Int.tmod (AK q.e2 64) ((b.Parts.length:Nat):Int):Int)<((b.Parts.length:Nat):Int),(Int.tmod (AK q.e2 64) ((b.Parts.length:Nat):Int)).toNat<b.Parts.length] .nil (.cons au12 (.cons au5 (.cons au5 .nil)))<|A8<|AF ?_
   refine Aq (Cr 26 (EC (l:=[.i (W64 ((AK q.e1 48)-1))]) (off:=0) (q:=1) (k:=(Int.tmod (AK q.e2 64) ((b.Parts.length:Nat):Int)).toNat) (An 7 AG.c b.Parts) au5 (AG.mk (W64 ((AK q.e1 48)-1)) (b.Parts.getD (Int.tmod (AK q.e2 64) ((b.Parts.length:Nat):Int)).toNat default).Ref (b.Parts.getD (Int.tmod (AK q.e2 64) ((b.Parts.length:Nat):Int)).toNat default).Type' (b.Parts.getD (Int.tmod (AK q.e2 64) ((b.Parts.length:Nat):Int)).toNat default).At (b.Parts.getD (Int.tmod (AK q.e2 64) ((b.Parts.length:Nat):Int)).toNat default).Turn (b.Parts.getD (Int.tmod (AK q.e2 64) ((b.Parts.length:Nat):Int)).toNat default).Under) (Dq kr)))<|AB ?_
   refine on<|Ac ?_
   exact zy (Cv.trans (Bu [26,200100,200102,30,200104,200106,200108,200110,200114,34,200112] hk0) (Cv.refl _)) (by simp only [B1,h1,h2,h3,h4,cond_true,cond_false] <;> kernel_rfl)
  refine Af<|A8 ?_
  refine AF<|AB ?_
  refine rn (I4 b)<|Ac ?_
  exact zy (Cv.trans (Bu [26,200100,200102,30,200104,200106,200108,200110,200114,34,200112] hk0) (Cv.refl _)) (by simp only [B1,h1,h2,h3,h4,cond_true,cond_false] <;> kernel_rfl)
 have g3:=oF h3
 refine AB<|rn ⟨(OI q),(EL b)⟩ ?_
 refine AL _ rfl (fun h4 => ?_) (fun h4 => ?_)
 ·have g4:=oT h4
  refine AB<|rn ⟨(B6 q [(72,Z7U b)]),(EL b)⟩ ?_
  refine AL _ rfl (fun h5 => ?_) (fun h5 => ?_)
  ·have g5:=oT h5
   refine od [] [(81,CX (AK q.e1 48))] [(((b.Parts.length:Nat):Int):Int)≠0,A0 (CX (AK q.e1 48)).2.1,0<=(Int.tmod (AK q.e2 64) ((b.Parts.length:Nat):Int):Int)/\(Int.tmod (AK q.e2 64) ((b.Parts.length:Nat):Int):Int)<((b.Parts.length:Nat):Int),(Int.tmod (AK q.e2 64) ((b.Parts.length:Nat):Int)).toNat<b.Parts.length] (.cons (EE (AK q.e1 48) au20) .nil) (.cons au12 (.cons rfl (.cons au5 (.cons au5 .nil))))<|A8<|AF ?_
   refine Aq (Cr 26 (EC (l:=[.s (BI (AK q.e1 48))]) (off:=1) (q:=1) (k:=(Int.tmod (AK q.e2 64) ((b.Parts.length:Nat):Int)).toNat) (An 7 AG.c b.Parts) au5 (AG.mk (b.Parts.getD (Int.tmod (AK q.e2 64) ((b.Parts.length:Nat):Int)).toNat default).Id (BI (AK q.e1 48)) (b.Parts.getD (Int.tmod (AK q.e2 64) ((b.Parts.length:Nat):Int)).toNat default).Type' (b.Parts.getD (Int.tmod (AK q.e2 64) ((b.Parts.length:Nat):Int)).toNat default).At (b.Parts.getD (Int.tmod (AK q.e2 64) ((b.Parts.length:Nat):Int)).toNat default).Turn (b.Parts.getD (Int.tmod (AK q.e2 64) ((b.Parts.length:Nat):Int)).toNat default).Under) (Dq kr)))<|AB ?_
   refine on<|Ac ?_
   exact zy (Cv.trans (Bu [26,200100,200102,30,200104,200106,200108,200110,200114,34,200112] hk0) (Cv.refl _)) (by simp only [B1,h1,h2,h3,h4,h5,cond_true,cond_false] <;> kernel_rfl)
  refine Af<|A8 ?_
  refine AF<|AB ?_
  refine rn (I4 b)<|Ac ?_
  exact zy (Cv.trans (Bu [26,200100,200102,30,200104,200106,200108,200110,200114,34,200112] hk0) (Cv.refl _)) (by simp only [B1,h1,h2,h3,h4,h5,cond_true,cond_false] <;> kernel_rfl)
 have g4:=oF h4
 refine AB<|rn ⟨(OG q),(EL b)⟩ ?_
 refine AL _ rfl (fun h5 => ?_) (fun h5 => ?_)
 ·have g5:=oT h5
  refine AB<|rn ⟨(B6 q [(89,Z7U b)]),(EL b)⟩ ?_
  refine AL _ rfl (fun h6 => ?_) (fun h6 => ?_)
  ·have g6:=oT h6
   refine od [] [] [(((b.Parts.length:Nat):Int):Int)≠0,0<=(Int.tmod (AK q.e2 64) ((b.Parts.length:Nat):Int):Int)/\(Int.tmod (AK q.e2 64) ((b.Parts.length:Nat):Int):Int)<((b.Parts.length:Nat):Int),(Int.tmod (AK q.e2 64) ((b.Parts.length:Nat):Int)).toNat<b.Parts.length] .nil (.cons au12 (.cons au5 (.cons au5 .nil)))<|A8<|AF ?_
   refine Aq (Cr 26 (EC (l:=[.i (W64 ((AK q.e1 48)-1))]) (off:=5) (q:=1) (k:=(Int.tmod (AK q.e2 64) ((b.Parts.length:Nat):Int)).toNat) (An 7 AG.c b.Parts) au5 (AG.mk (b.Parts.getD (Int.tmod (AK q.e2 64) ((b.Parts.length:Nat):Int)).toNat default).Id (b.Parts.getD (Int.tmod (AK q.e2 64) ((b.Parts.length:Nat):Int)).toNat default).Ref (b.Parts.getD (Int.tmod (AK q.e2 64) ((b.Parts.length:Nat):Int)).toNat default).Type' (b.Parts.getD (Int.tmod (AK q.e2 64) ((b.Parts.length:Nat):Int)).toNat default).At (W64 ((AK q.e1 48)-1)) (b.Parts.getD (Int.tmod (AK q.e2 64) ((b.Parts.length:Nat):Int)).toNat default).Under) (Dq kr)))<|AB ?_
   refine on<|Ac ?_
   exact zy (Cv.trans (Bu [26,200100,200102,30,200104,200106,200108,200110,200114,34,200112] hk0) (Cv.refl _)) (by simp only [B1,h1,h2,h3,h4,h5,h6,cond_true,cond_false] <;> kernel_rfl)
  refine Af<|A8 ?_
  refine AF<|AB ?_
  refine rn (I4 b)<|Ac ?_
  exact zy (Cv.trans (Bu [26,200100,200102,30,200104,200106,200108,200110,200114,34,200112] hk0) (Cv.refl _)) (by simp only [B1,h1,h2,h3,h4,h5,h6,cond_true,cond_false] <;> kernel_rfl)
 have g5:=oF h5
 refine AB<|rn ⟨(OQ q),(EL b)⟩ ?_
 refine AL _ rfl (fun h6 => ?_) (fun h6 => ?_)
 ·have g6:=oT h6
  refine AB<|rn ⟨(B6 q [(106,Z7U b)]),(EL b)⟩ ?_
  refine AL _ rfl (fun h7 => ?_) (fun h7 => ?_)
  ·have g7:=oT h7
   refine od [] [] [(((b.Parts.length:Nat):Int):Int)≠0,(4:Int)≠0,0<=(Int.tmod (AK q.e1 48) 4:Int)/\(Int.tmod (AK q.e1 48) 4:Int)<((4:Nat):Int),0<=(Int.tmod (AK q.e2 64) ((b.Parts.length:Nat):Int):Int)/\(Int.tmod (AK q.e2 64) ((b.Parts.length:Nat):Int):Int)<((b.Parts.length:Nat):Int),(Int.tmod (AK q.e2 64) ((b.Parts.length:Nat):Int)).toNat<b.Parts.length] .nil (.cons au12 (.cons au12 (.cons au5 (.cons au5 (.cons au5 .nil)))))<|A8<|AF ?_
   refine Aq (Cr 26 (EC (l:=[.i (([AK q.e1 48,67108864,67108664,(-67108865)]:List Int).getD (Int.tmod (AK q.e1 48) 4).toNat 0)]) (off:=3) (q:=1) (k:=(Int.tmod (AK q.e2 64) ((b.Parts.length:Nat):Int)).toNat) (An 7 AG.c b.Parts) au5 (AG.mk (b.Parts.getD (Int.tmod (AK q.e2 64) ((b.Parts.length:Nat):Int)).toNat default).Id (b.Parts.getD (Int.tmod (AK q.e2 64) ((b.Parts.length:Nat):Int)).toNat default).Ref (b.Parts.getD (Int.tmod (AK q.e2 64) ((b.Parts.length:Nat):Int)).toNat default).Type' (AE.mk (([AK q.e1 48,67108864,67108664,(-67108865)]:List Int).getD (Int.tmod (AK q.e1 48) 4).toNat 0) (b.Parts.getD (Int.tmod (AK q.e2 64) ((b.Parts.length:Nat):Int)).toNat default).At.Y) (b.Parts.getD (Int.tmod (AK q.e2 64) ((b.Parts.length:Nat):Int)).toNat default).Turn (b.Parts.getD (Int.tmod (AK q.e2 64) ((b.Parts.length:Nat):Int)).toNat default).Under) (Dq kr)))<|AB ?_
   refine on<|Ac ?_
   exact zy (Cv.trans (Bu [26,200100,200102,30,200104,200106,200108,200110,200114,34,200112] hk0) (Cv.refl _)) (by simp only [B1,h1,h2,h3,h4,h5,h6,h7,cond_true,cond_false] <;> kernel_rfl)
  refine Af<|A8 ?_
  refine AF<|AB ?_
  refine rn (I4 b)<|Ac ?_
  exact zy (Cv.trans (Bu [26,200100,200102,30,200104,200106,200108,200110,200114,34,200112] hk0) (Cv.refl _)) (by simp only [B1,h1,h2,h3,h4,h5,h6,h7,cond_true,cond_false] <;> kernel_rfl)
 have g6:=oF h6
 refine AB<|rn ⟨(OP q),(EL b)⟩ ?_
 refine AL _ rfl (fun h7 => ?_) (fun h7 => ?_)
 ·have g7:=oT h7
  refine AB<|rn ⟨(B6 q [(128,tB (decide ((0:Int)<(((Ag b).length:Nat):Int))))]),(EL b)⟩ ?_
  refine AL _ rfl (fun h8 => ?_) (fun h8 => ?_)
  ·have g8:=oT h8
   refine od [] [(137,CX (AK q.e1 48))] [((((Ag b).length:Nat):Int):Int)≠0,A0 (CX (AK q.e1 48)).2.1,0<=(Int.tmod (AK q.e2 64) (((Ag b).length:Nat):Int):Int)/\(Int.tmod (AK q.e2 64) (((Ag b).length:Nat):Int):Int)<(((Ag b).length:Nat):Int),(Int.tmod (AK q.e2 64) (((Ag b).length:Nat):Int)).toNat<(Ag b).length] (.cons (EE (AK q.e1 48) au20) .nil) (.cons au12 (.cons rfl (.cons au5 (.cons au5 .nil))))<|A8<|AF ?_
   refine Aq (Cr 200100 (EC (l:=[.s (BI (AK q.e1 48))]) (off:=0) (q:=1) (k:=(Int.tmod (AK q.e2 64) (((Ag b).length:Nat):Int)).toNat) (An 2 A7.c (Ag b)) au5 (A7.mk (BI (AK q.e1 48)) ((Ag b).getD (Int.tmod (AK q.e2 64) (((Ag b).length:Nat):Int)).toNat default).Pins) (Dq kr)))<|AB ?_
   refine on<|Ac ?_
   exact zy (Cv.trans (Bu [26,200100,200102,30,200104,200106,200108,200110,200114,34,200112] hk0) (Cv.refl _)) (by simp only [B1,h1,h2,h3,h4,h5,h6,h7,h8,cond_true,cond_false] <;> kernel_rfl)
  refine Af<|A8 ?_
  refine AF<|AB ?_
  refine rn (I4 b)<|Ac ?_
  exact zy (Cv.trans (Bu [26,200100,200102,30,200104,200106,200108,200110,200114,34,200112] hk0) (Cv.refl _)) (by simp only [B1,h1,h2,h3,h4,h5,h6,h7,h8,cond_true,cond_false] <;> kernel_rfl)
 have g7:=oF h7
 refine AB<|rn ⟨(OO q),(EL b)⟩ ?_
 have h8:(OD q)=false:=(decide_eq_false hq7)
 have g8:=oF h8
 refine AL _ rfl (fun h=>absurd (h8.symm.trans h) (by decide)) (fun _ => ?_)
 refine AB<|rn ⟨(SK q),(EL b)⟩ ?_
 refine AL _ rfl (fun h9 => ?_) (fun h9 => ?_)
 ·have g9:=oT h9
  refine dw [] [(171,CX (AK q.e1 48))] [A0 (CX (AK q.e1 48)).2.1,(Ag b).length=(Ag b).length,(Ag b).length+1<=maxLen,((Ag b).length+1)*40<=140737488355328] ⟨DW,[(4,Z7F),(5,.cells (Ds b [.own 176 2 ((Ag b).length+1),.own 200102 6 (AH b).length,.own 30 8 b.Vias.length,.own 200104 8 (Ad b).length,.own 200106 5 (Aa b).length,.own 200108 4 (AY b).length,.own 200110 2 (AN b).length,.own 200114 20 (AO b).length,.own 34 3 b.Waivers.length,.own 200112 3 (AM b).length]) 42),(26,Z7G b),(30,Z7J b),(34,Z7P b),(176,.row 2 ((Ag b).length+1) (fun i_ j_=>if i_<(Ag b).length then (H7 b) i_ j_ else (As 2 1 [.s (Ce q),.list true 2 1 (As 2 1 [.s ({ data := #[82,49] }:ByteArray),.s ({ data := #[80,50] }:ByteArray)])]) (i_-(Ag b).length) j_) 48),(200102,Z7I b),(200104,Z7K b),(200106,Z7L b),(200108,Z7M b),(200110,Z7N b),(200112,Z7Q b),(200114,Z7O b)]⟩ (.cons (EE (AK q.e1 48) au20) .nil) (.cons rfl (.cons rfl (.cons au15 (.cons au15 .nil))))<|A8<|AF ?_
  refine Aq (Cv.trans (BS (⟨DW,[(4,Z7F),(5,Z85 b q),(26,Z7G b),(30,Z7J b),(34,Z7P b),(176,Z86 b q),(200102,Z7I b),(200104,Z7K b),(200106,Z7L b),(200108,Z7M b),(200110,Z7N b),(200112,Z7Q b),(200114,Z7O b)]⟩) lr (.cons ⟨rfl,.refl _⟩ (.cons ⟨rfl,.cells _ (rr5 (.cons (.own _ _ au0) (rr (rr (rr (rr (rr (rr (rr (rr (rr .nil)))))))))))⟩ (.cons ⟨rfl,.refl _⟩ (.cons ⟨rfl,.refl _⟩ (.cons ⟨rfl,.refl _⟩ (.cons ⟨rfl,Ao 48 (Au (An 2 A7.c (Ag b)) (Dg (c:=A7.c) (xs:=([A7.mk (BI (AK q.e1 48)) [AU.mk ({ data := #[82,49] }:ByteArray) ({ data := #[80,50] }:ByteArray)]]:List A7)) (y:=[[.s (BI (AK q.e1 48)),.list true 2 1 (As 2 1 [.s ({ data := #[82,49] }:ByteArray),.s ({ data := #[80,50] }:ByteArray)])]]) (z:=[[.s (BI (AK q.e1 48)),lst 2 AU.c [AU.mk ({ data := #[82,49] }:ByteArray) ({ data := #[80,50] }:ByteArray)]]]) rfl kr kr (.cons (rr (.cons (Bm true (Ae (c:=AU.c) (xs:=([AU.mk ({ data := #[82,49] }:ByteArray) ({ data := #[80,50] }:ByteArray)]:List AU)) rfl kr)) .nil)) .nil)))⟩ lr))))))) (Cv.refl _))<|AB ?_
  refine on<|Ac ?_
  exact zy (Cv.trans (Bu [26,176,200102,30,200104,200106,200108,200110,200114,34,200112] hk0) (Cv.refl _)) (by simp only [B1,h1,h2,h3,h4,h5,h6,h7,h8,h9,cond_true,cond_false] <;> kernel_rfl)
 have g9:=oF h9
 refine AB<|rn ⟨(ON q),(EL b)⟩ ?_
 refine AL _ rfl (fun h10 => ?_) (fun h10 => ?_)
 ·have g10:=oT h10
  refine Aq (Cv.trans (Hq (⟨(ON q),[(4,Z7F),(5,.cells (Ds b [lst 2 A7.c (Ag b),.own 200102 6 (AH b).length,.own 30 8 b.Vias.length,.own 200104 8 (Ad b).length,.own 200106 5 (Aa b).length,.own 200108 4 (AY b).length,.own 200110 2 (AN b).length,.own 200114 20 (AO b).length,.own 34 3 b.Waivers.length,.own 200112 3 (AM b).length]) 42),(26,Z7G b),(30,Z7J b),(34,Z7P b),(200102,Z7I b),(200104,Z7K b),(200106,Z7L b),(200108,Z7M b),(200110,Z7N b),(200112,Z7Q b),(200114,Z7O b)]⟩) 200100 hk0) (Cv.refl _)) ?_
  refine rc [] [(4:Int)≠0,0<=(0:Int)/\(0:Int)<=(min ((Ag b).length:Int) (Int.tmod (AK q.e1 48) 4):Int)/\(min ((Ag b).length:Int) (Int.tmod (AK q.e1 48) 4):Int)<=(((Ag b).length:Nat):Int)] ⟨DW,[(4,Z7F),(5,.cells (Ds b [.list false 2 ((min ((Ag b).length:Int) (Int.tmod (AK q.e1 48) 4):Int).toNat-(0:Int).toNat) (fun i_ j_=>(H7 b) (i_+(0:Int).toNat) j_),.own 200102 6 (AH b).length,.own 30 8 b.Vias.length,.own 200104 8 (Ad b).length,.own 200106 5 (Aa b).length,.own 200108 4 (AY b).length,.own 200110 2 (AN b).length,.own 200114 20 (AO b).length,.own 34 3 b.Waivers.length,.own 200112 3 (AM b).length]) 42),(26,Z7G b),(30,Z7J b),(34,Z7P b),(200102,Z7I b),(200104,Z7K b),(200106,Z7L b),(200108,Z7M b),(200110,Z7N b),(200112,Z7Q b),(200114,Z7O b)]⟩ .nil (.cons au12 (.cons au5 .nil))<|A8<|AF ?_
  refine Aq (Cv.trans (BS (⟨DW,[(4,Z7F),(5,Z87 b q),(26,Z7G b),(30,Z7J b),(34,Z7P b),(200102,Z7I b),(200104,Z7K b),(200106,Z7L b),(200108,Z7M b),(200110,Z7N b),(200112,Z7Q b),(200114,Z7O b)]⟩) lr (.cons ⟨rfl,.refl _⟩ (.cons ⟨rfl,.cells _ (rr5 (.cons (Bm false (P0 (b:=min ((Ag b).length:Int) (Int.tmod (AK q.e1 48) 4)) (An 2 A7.c (Ag b)) (by have hc:=(show 0<=(0:Int)/\(0:Int)<=(min ((Ag b).length:Int) (Int.tmod (AK q.e1 48) 4):Int)/\(min ((Ag b).length:Int) (Int.tmod (AK q.e1 48) 4):Int)<=(((Ag b).length:Nat):Int) from au5);exact hc.2.1) (by have hc:=(show 0<=(0:Int)/\(0:Int)<=(min ((Ag b).length:Int) (Int.tmod (AK q.e1 48) 4):Int)/\(min ((Ag b).length:Int) (Int.tmod (AK q.e1 48) 4):Int)<=(((Ag b).length:Nat):Int) from au5);exact hc.2.2))) (rr (rr (rr (rr (rr (rr (rr (rr (rr .nil)))))))))))⟩ lr))) (Cv.refl _))<|AB ?_
  refine on<|Ac ?_
  exact zy (Cv.trans (Bu [26,200102,30,200104,200106,200108,200110,200114,34,200112] hk0) (Cv.refl _)) (by simp only [B1,h1,h2,h3,h4,h5,h6,h7,h8,h9,h10,cond_true,cond_false] <;> kernel_rfl)
 have g10:=oF h10
 refine AB<|rn ⟨(ST q),(EL b)⟩ ?_
 refine AL _ rfl (fun h11 => ?_) (fun h11 => ?_)
 ·have g11:=oT h11
  refine dw [] [(197,CX (AK q.e2 64)),(202,FQ (AK q.e1 48))] [A0 (CX (AK q.e2 64)).2.1,(3:Int)≠0,A0 (FQ (AK q.e1 48)).2.1,(AH b).length=(AH b).length,(AH b).length+1<=maxLen,((AH b).length+1)*72<=140737488355328] ⟨DW,[(4,Z7F),(5,.cells (Ds b [.own 200100 2 (Ag b).length,.own 205 6 ((AH b).length+1),.own 30 8 b.Vias.length,.own 200104 8 (Ad b).length,.own 200106 5 (Aa b).length,.own 200108 4 (AY b).length,.own 200110 2 (AN b).length,.own 200114 20 (AO b).length,.own 34 3 b.Waivers.length,.own 200112 3 (AM b).length]) 42),(26,Z7G b),(30,Z7J b),(34,Z7P b),(205,.row 6 ((AH b).length+1) (fun i_ j_=>if i_<(AH b).length then (HO b) i_ j_ else (As 6 1 [.i (W64 (10+(AK q.e1 48))),.s (BI (AK q.e2 64)),.i (W64 (1+(L8 q))),.i (E9 q).Kind,lst 7 AQ.c (E9 q).Edges,.i (E9 q).R]) (i_-(AH b).length) j_) 85),(200100,Z7H b),(200104,Z7K b),(200106,Z7L b),(200108,Z7M b),(200110,Z7N b),(200112,Z7Q b),(200114,Z7O b)]⟩ (.cons (EE (AK q.e2 64) au20) (.cons (Ja (AK q.e1 48)) .nil)) (.cons rfl (.cons au12 (.cons rfl (.cons rfl (.cons au15 (.cons au15 .nil))))))<|A8<|AF ?_
  refine Aq (Cv.trans (BS (⟨DW,[(4,Z7F),(5,Z88 b q),(26,Z7G b),(30,Z7J b),(34,Z7P b),(205,Z89 b q),(200100,Z7H b),(200104,Z7K b),(200106,Z7L b),(200108,Z7M b),(200110,Z7N b),(200112,Z7Q b),(200114,Z7O b)]⟩) lr (.cons ⟨rfl,.refl _⟩ (.cons ⟨rfl,.cells _ (rr5 (rr (.cons (.own _ _ au0) (rr (rr (rr (rr (rr (rr (rr (rr .nil)))))))))))⟩ (.cons ⟨rfl,.refl _⟩ (.cons ⟨rfl,.refl _⟩ (.cons ⟨rfl,.refl _⟩ (.cons ⟨rfl,Ao 85 (Au (An 6 Ap.c (AH b)) (Ae (c:=Ap.c) (xs:=([Ap.mk (W64 (10+(AK q.e1 48))) (BI (AK q.e2 64)) (W64 (1+(Int.tmod (AK q.e2 64) 3))) (DQ (AK q.e1 48))]:List Ap)) rfl kr))⟩ lr))))))) (Cv.refl _))<|AB ?_
  refine on<|Ac ?_
  exact zy (Cv.trans (Bu [26,200100,205,30,200104,200106,200108,200110,200114,34,200112] hk0) (Cv.refl _)) (by simp only [B1,h1,h2,h3,h4,h5,h6,h7,h8,h9,h10,h11,cond_true,cond_false] <;> kernel_rfl)
 have g11:=oF h11
 refine AB<|rn ⟨(SS q),(EL b)⟩ ?_
 refine AL _ rfl (fun h12 => ?_) (fun h12 => ?_)
 ·have g12:=oT h12
  refine AB<|rn ⟨(B6 q [(212,Z8a b)]),(EL b)⟩ ?_
  refine AL _ rfl (fun h13 => ?_) (fun h13 => ?_)
  ·have g13:=oT h13
   refine od [] [] [((((AH b).length:Nat):Int):Int)≠0,(4:Int)≠0,0<=(Int.tmod (AK q.e2 64) (((AH b).length:Nat):Int):Int)/\(Int.tmod (AK q.e2 64) (((AH b).length:Nat):Int):Int)<(((AH b).length:Nat):Int),(Int.tmod (AK q.e2 64) (((AH b).length:Nat):Int)).toNat<(AH b).length] .nil (.cons au12 (.cons au12 (.cons au5 (.cons au5 .nil))))<|A8<|AF ?_
   refine Aq (Cr 200102 (EC (l:=[.i (W64 ((Int.tmod (AK q.e1 48) 4)+1))]) (off:=2) (q:=1) (k:=(Int.tmod (AK q.e2 64) (((AH b).length:Nat):Int)).toNat) (An 6 Ap.c (AH b)) au5 (Ap.mk ((AH b).getD (Int.tmod (AK q.e2 64) (((AH b).length:Nat):Int)).toNat default).Id ((AH b).getD (Int.tmod (AK q.e2 64) (((AH b).length:Nat):Int)).toNat default).Net (W64 ((Int.tmod (AK q.e1 48) 4)+1)) ((AH b).getD (Int.tmod (AK q.e2 64) (((AH b).length:Nat):Int)).toNat default).Shape) (Dq kr)))<|AB ?_
   refine on<|Ac ?_
   exact zy (Cv.trans (Bu [26,200100,200102,30,200104,200106,200108,200110,200114,34,200112] hk0) (Cv.refl _)) (by simp only [B1,h1,h2,h3,h4,h5,h6,h7,h8,h9,h10,h11,h12,h13,cond_true,cond_false] <;> kernel_rfl)
  refine Af<|A8 ?_
  refine AF<|AB ?_
  refine rn (I4 b)<|Ac ?_
  exact zy (Cv.trans (Bu [26,200100,200102,30,200104,200106,200108,200110,200114,34,200112] hk0) (Cv.refl _)) (by simp only [B1,h1,h2,h3,h4,h5,h6,h7,h8,h9,h10,h11,h12,h13,cond_true,cond_false] <;> kernel_rfl)
 have g12:=oF h12
 refine AB<|rn ⟨(SR q),(EL b)⟩ ?_
 refine AL _ rfl (fun h13 => ?_) (fun h13 => ?_)
 ·have g13:=oT h13
  refine AB<|rn ⟨[(4,tP 4 0),(5,tP 5 0),(aK q),(230,Z8a b)],(EL b)⟩ ?_
  refine AL _ rfl (fun h14 => ?_) (fun h14 => ?_)
  ·have g14:=oT h14
   refine od [] [] [((((AH b).length:Nat):Int):Int)≠0,(AH b).length=(AH b).length,0<=(0:Int)/\(0:Int)<=(Int.tmod (AK q.e2 64) (((AH b).length:Nat):Int):Int)/\(Int.tmod (AK q.e2 64) (((AH b).length:Nat):Int):Int)<=(((AH b).length:Nat):Int),((((AH b).length:Nat):Int):Int)≠0,(AH b).length=(AH b).length,0<=(W64 ((Int.tmod (AK q.e2 64) (((AH b).length:Nat):Int))+1):Int)/\(W64 ((Int.tmod (AK q.e2 64) (((AH b).length:Nat):Int))+1):Int)<=((((AH b).length:Nat):Int):Int)/\((((AH b).length:Nat):Int):Int)<=(((AH b).length:Nat):Int),(0:Int).toNat=0,(Int.tmod (AK q.e2 64) (((AH b).length:Nat):Int):Int).toNat-(0:Int).toNat<=(AH b).length,(W64 ((Int.tmod (AK q.e2 64) (((AH b).length:Nat):Int))+1):Int).toNat+(((((AH b).length:Nat):Int):Int).toNat-(W64 ((Int.tmod (AK q.e2 64) (((AH b).length:Nat):Int))+1):Int).toNat)<=(AH b).length,((Int.tmod (AK q.e2 64) (((AH b).length:Nat):Int):Int).toNat-(0:Int).toNat)+(((((AH b).length:Nat):Int):Int).toNat-(W64 ((Int.tmod (AK q.e2 64) (((AH b).length:Nat):Int))+1):Int).toNat)<=maxLen,(((Int.tmod (AK q.e2 64) (((AH b).length:Nat):Int):Int).toNat-(0:Int).toNat)+(((((AH b).length:Nat):Int):Int).toNat-(W64 ((Int.tmod (AK q.e2 64) (((AH b).length:Nat):Int))+1):Int).toNat))*72<=140737488355328] .nil (.cons au12 (.cons rfl (.cons au5 (.cons au12 (.cons rfl (.cons au5 (.cons rfl (.cons au5 (.cons au5 (.cons au15 (.cons au15 .nil)))))))))))<|A8<|AF ?_
   refine Aq (Cr 248 (P1 (n1:=(Int.tmod (AK q.e2 64) (((AH b).length:Nat):Int):Int).toNat-(0:Int).toNat) (lo2:=(W64 ((Int.tmod (AK q.e2 64) (((AH b).length:Nat):Int))+1):Int).toNat) (n2:=((((AH b).length:Nat):Int):Int).toNat-(W64 ((Int.tmod (AK q.e2 64) (((AH b).length:Nat):Int))+1):Int).toNat) (An 6 Ap.c (AH b)) au5 au5))<|AB ?_
   refine on<|Ac ?_
   exact zy (Cv.trans (Bu [26,200100,248,30,200104,200106,200108,200110,200114,34,200112] hk0) (Cv.refl _)) (by simp only [B1,h1,h2,h3,h4,h5,h6,h7,h8,h9,h10,h11,h12,h13,h14,cond_true,cond_false] <;> kernel_rfl)
  refine Af<|A8 ?_
  refine AF<|AB ?_
  refine rn (I4 b)<|Ac ?_
  exact zy (Cv.trans (Bu [26,200100,200102,30,200104,200106,200108,200110,200114,34,200112] hk0) (Cv.refl _)) (by simp only [B1,h1,h2,h3,h4,h5,h6,h7,h8,h9,h10,h11,h12,h13,h14,cond_true,cond_false] <;> kernel_rfl)
 have g13:=oF h13
 refine AB<|rn ⟨(SP q),(EL b)⟩ ?_
 refine AL _ rfl (fun h14 => ?_) (fun h14 => ?_)
 ·have g14:=oT h14
  refine rc [] [(9:Int)≠0,(9:Int)≠0,(2:Int)≠0,(3:Int)≠0,(2:Int)≠0,b.Vias.length=b.Vias.length,b.Vias.length+1<=maxLen,(b.Vias.length+1)*72<=140737488355328] ⟨DW,[(4,Z7F),(5,.cells (Ds b (Nd b [.own 275 8 (b.Vias.length+1),.own 200104 8 (Ad b).length,.own 200106 5 (Aa b).length,.own 200108 4 (AY b).length,.own 200110 2 (AN b).length,.own 200114 20 (AO b).length,.own 34 3 b.Waivers.length,.own 200112 3 (AM b).length])) 42),(26,Z7G b),(34,Z7P b),(275,.row 8 (b.Vias.length+1) (fun i_ j_=>if i_<b.Vias.length then (HN b) i_ j_ else (As 8 1 [.i (W64 (60+(AK q.e1 48))),.s ({ data := #[71,78,68] }:ByteArray),.i (W64 (10*(AK q.e1 48))),.i (W64 (5*(AK q.e2 64))),.i (W64 (8-(Px q))),.i (Pw q),.i (W64 (1+(Int.tmod (AK q.e2 64) 2))),.i (W64 (2+(W64 (Ri q))))]) (i_-b.Vias.length) j_) 87),(200100,Z7H b),(200102,Z7I b),(200104,Z7K b),(200106,Z7L b),(200108,Z7M b),(200110,Z7N b),(200112,Z7Q b),(200114,Z7O b)]⟩ .nil (.cons au12 (.cons au12 (.cons au12 (.cons au12 (.cons au12 (.cons rfl (.cons au15 (.cons au15 .nil))))))))<|A8<|AF ?_
  refine Aq (Cv.trans (BS (⟨DW,[(4,Z7F),(5,Z8f b q),(26,Z7G b),(34,Z7P b),(275,Z8g b q),(200100,Z7H b),(200102,Z7I b),(200104,Z7K b),(200106,Z7L b),(200108,Z7M b),(200110,Z7N b),(200112,Z7Q b),(200114,Z7O b)]⟩) lr (.cons ⟨rfl,.refl _⟩ (.cons ⟨rfl,.cells _ (rr5 (rr2 (.cons (.own _ _ au0) (rr (rr (rr (rr (rr (rr (rr .nil))))))))))⟩ (.cons ⟨rfl,.refl _⟩ (.cons ⟨rfl,.refl _⟩ (.cons ⟨rfl,Ao 87 (Au (An 8 Bo.c b.Vias) (Ae (c:=Bo.c) (xs:=([Bo.mk (W64 (60+(AK q.e1 48))) ({ data := #[71,78,68] }:ByteArray) (AE.mk (W64 (10*(AK q.e1 48))) (W64 (5*(AK q.e2 64)))) (W64 (8-(Int.tmod (AK q.e1 48) 9))) (Int.tmod (AK q.e2 64) 9) (W64 (1+(Int.tmod (AK q.e2 64) 2))) (W64 (2+(W64 (Int.tdiv (Int.tmod (AK q.e1 48) 3) 2))))]:List Bo)) rfl kr))⟩ lr)))))) (Cv.refl _))<|AB ?_
  refine on<|Ac ?_
  exact zy (Cv.trans (Bu [26,200100,200102,275,200104,200106,200108,200110,200114,34,200112] hk0) (Cv.refl _)) (by simp only [B1,h1,h2,h3,h4,h5,h6,h7,h8,h9,h10,h11,h12,h13,h14,cond_true,cond_false] <;> kernel_rfl)
 have g14:=oF h14
 refine AB<|rn ⟨(SO q),(EL b)⟩ ?_
 refine AL _ rfl (fun h15 => ?_) (fun h15 => ?_)
 ·have g15:=oT h15
  refine AB<|rn ⟨(B6 q [(282,tB (decide ((0:Int)<((b.Vias.length:Nat):Int))))]),(EL b)⟩ ?_
  refine AL _ rfl (fun h16 => ?_) (fun h16 => ?_)
  ·have g16:=oT h16
   refine od [] [] [(((b.Vias.length:Nat):Int):Int)≠0,(((b.Vias.length:Nat):Int):Int)≠0,0<=(Int.tmod (AK q.e2 64) ((b.Vias.length:Nat):Int):Int)/\(Int.tmod (AK q.e2 64) ((b.Vias.length:Nat):Int):Int)<((b.Vias.length:Nat):Int),(Int.tmod (AK q.e2 64) ((b.Vias.length:Nat):Int)).toNat<b.Vias.length,0<=(Int.tmod (AK q.e2 64) ((b.Vias.length:Nat):Int):Int)/\(Int.tmod (AK q.e2 64) ((b.Vias.length:Nat):Int):Int)<((b.Vias.length:Nat):Int),(Int.tmod (AK q.e2 64) ((b.Vias.length:Nat):Int)).toNat<b.Vias.length] .nil (.cons au12 (.cons au12 (.cons au5 (.cons au5 (.cons au5 (.cons au5 .nil))))))<|A8<|AF ?_
   refine Aq (Cr 30 (EC (l:=[.i (W64 ((b.Vias.getD (Int.tmod (AK q.e2 64) ((b.Vias.length:Nat):Int)).toNat default).At.X+(W64 (3*(AK q.e1 48)))))]) (off:=2) (q:=1) (k:=(Int.tmod (AK q.e2 64) ((b.Vias.length:Nat):Int)).toNat) (An 8 Bo.c b.Vias) au5 (Bo.mk (b.Vias.getD (Int.tmod (AK q.e2 64) ((b.Vias.length:Nat):Int)).toNat default).Id (b.Vias.getD (Int.tmod (AK q.e2 64) ((b.Vias.length:Nat):Int)).toNat default).Net (AE.mk (W64 ((b.Vias.getD (Int.tmod (AK q.e2 64) ((b.Vias.length:Nat):Int)).toNat default).At.X+(W64 (3*(AK q.e1 48))))) (b.Vias.getD (Int.tmod (AK q.e2 64) ((b.Vias.length:Nat):Int)).toNat default).At.Y) (b.Vias.getD (Int.tmod (AK q.e2 64) ((b.Vias.length:Nat):Int)).toNat default).R (b.Vias.getD (Int.tmod (AK q.e2 64) ((b.Vias.length:Nat):Int)).toNat default).Drill (b.Vias.getD (Int.tmod (AK q.e2 64) ((b.Vias.length:Nat):Int)).toNat default).From (b.Vias.getD (Int.tmod (AK q.e2 64) ((b.Vias.length:Nat):Int)).toNat default).To) (Dq kr)))<|AB ?_
   refine on<|Ac ?_
   exact zy (Cv.trans (Bu [26,200100,200102,30,200104,200106,200108,200110,200114,34,200112] hk0) (Cv.refl _)) (by simp only [B1,h1,h2,h3,h4,h5,h6,h7,h8,h9,h10,h11,h12,h13,h14,h15,h16,cond_true,cond_false] <;> kernel_rfl)
  refine Af<|A8 ?_
  refine AF<|AB ?_
  refine rn (I4 b)<|Ac ?_
  exact zy (Cv.trans (Bu [26,200100,200102,30,200104,200106,200108,200110,200114,34,200112] hk0) (Cv.refl _)) (by simp only [B1,h1,h2,h3,h4,h5,h6,h7,h8,h9,h10,h11,h12,h13,h14,h15,h16,cond_true,cond_false] <;> kernel_rfl)
 have g15:=oF h15
 refine AB<|rn ⟨(SN q),(EL b)⟩ ?_
 refine AL _ rfl (fun h16 => ?_) (fun h16 => ?_)
 ·have g16:=oT h16
  refine dw [] [] [(3:Int)≠0,(6:Int)≠0,0<=(Int.tmod (AK q.e1 48) 6:Int)/\(Int.tmod (AK q.e1 48) 6:Int)<((6:Nat):Int),(5:Int)≠0,(7:Int)≠0,(8:Int)≠0,(Ad b).length=(Ad b).length,(Ad b).length+1<=maxLen,((Ad b).length+1)*88<=140737488355328] ⟨DW,[(4,Z7F),(5,.cells (B8 b [.own 333 8 ((Ad b).length+1),.own 200106 5 (Aa b).length,.own 200108 4 (AY b).length,.own 200110 2 (AN b).length,.own 200114 20 (AO b).length,.own 34 3 b.Waivers.length,.own 200112 3 (AM b).length]) 42),(26,Z7G b),(30,Z7J b),(34,Z7P b),(333,.row 8 ((Ad b).length+1) (fun i_ j_=>if i_<(Ad b).length then (AP A4.c (Ad b)) i_ j_ else (As 8 1 [.i (W64 (70+(AK q.e1 48))),.s ({ data := #[78,49] }:ByteArray),.i (W64 (1+(L8 q))),.i (([20,0,1,33554432,10,134217728]:List Int).getD (Nw q).toNat 0),.i 0,.i (W64 ((L7 q)-1)),.i 3,.list true 4 1 (As 4 1 (Z9 q))]) (i_-(Ad b).length) j_) 90),(200100,Z7H b),(200102,Z7I b),(200106,Z7L b),(200108,Z7M b),(200110,Z7N b),(200112,Z7Q b),(200114,Z7O b)]⟩ .nil (.cons au12 (.cons au12 (.cons au5 (.cons au12 (.cons au12 (.cons au12 (.cons rfl (.cons au15 (.cons au15 .nil)))))))))<|A8<|AF ?_
  refine Aq (Cv.trans (BS (⟨DW,[(4,Z7F),(5,Z8j b q),(26,Z7G b),(30,Z7J b),(34,Z7P b),(333,Z8k b q),(200100,Z7H b),(200102,Z7I b),(200106,Z7L b),(200108,Z7M b),(200110,Z7N b),(200112,Z7Q b),(200114,Z7O b)]⟩) lr (.cons ⟨rfl,.refl _⟩ (.cons ⟨rfl,.cells _ (rr5 (rr3 (.cons (.own _ _ au0) (rr (rr (rr (rr (rr (rr .nil)))))))))⟩ (.cons ⟨rfl,.refl _⟩ (.cons ⟨rfl,.refl _⟩ (.cons ⟨rfl,.refl _⟩ (.cons ⟨rfl,Ao 90 (Au (An 8 A4.c (Ad b)) (Dg (c:=A4.c) (xs:=([A4.mk (W64 (70+(AK q.e1 48))) ({ data := #[78,49] }:ByteArray) (W64 (1+(Int.tmod (AK q.e2 64) 3))) (([20,0,1,33554432,10,134217728]:List Int).getD (Int.tmod (AK q.e1 48) 6).toNat 0) 0 (W64 ((Int.tmod (AK q.e2 64) 5)-1)) 3 [Ai.mk (Int.tmod (AK q.e2 64) 7) 1 (W64 (2+(Int.tmod (AK q.e1 48) 8))) 3]]:List A4)) (y:=[[.i (W64 (70+(AK q.e1 48))),.s ({ data := #[78,49] }:ByteArray),.i (W64 (1+(Int.tmod (AK q.e2 64) 3))),.i (([20,0,1,33554432,10,134217728]:List Int).getD (Int.tmod (AK q.e1 48) 6).toNat 0),.i 0,.i (W64 ((Int.tmod (AK q.e2 64) 5)-1)),.i 3,.list true 4 1 (As 4 1 (Z9 q))]]) (z:=[[.i (W64 (70+(AK q.e1 48))),.s ({ data := #[78,49] }:ByteArray),.i (W64 (1+(Int.tmod (AK q.e2 64) 3))),.i (([20,0,1,33554432,10,134217728]:List Int).getD (Int.tmod (AK q.e1 48) 6).toNat 0),.i 0,.i (W64 ((Int.tmod (AK q.e2 64) 5)-1)),.i 3,lst 4 Ai.c [Ai.mk (Int.tmod (AK q.e2 64) 7) 1 (W64 (2+(Int.tmod (AK q.e1 48) 8))) 3]]]) rfl kr kr (.cons (rr5 (rr2 (.cons (Bm true (Ae (c:=Ai.c) (xs:=([Ai.mk (Int.tmod (AK q.e2 64) 7) 1 (W64 (2+(Int.tmod (AK q.e1 48) 8))) 3]:List Ai)) rfl kr)) .nil))) .nil)))⟩ lr))))))) (Cv.refl _))<|AB ?_
  refine on<|Ac ?_
  exact zy (Cv.trans (Bu [26,200100,200102,30,333,200106,200108,200110,200114,34,200112] hk0) (Cv.refl _)) (by simp only [B1,h1,h2,h3,h4,h5,h6,h7,h8,h9,h10,h11,h12,h13,h14,h15,h16,cond_true,cond_false] <;> kernel_rfl)
 have g16:=oF h16
 refine AB<|rn ⟨(SM q),(EL b)⟩ ?_
 have h17:(SG q)=false:=(decide_eq_false hq16)
 have g17:=oF h17
 refine AL _ rfl (fun h=>absurd (h17.symm.trans h) (by decide)) (fun _ => ?_)
 refine AB<|rn ⟨(B6 q [(EQ q),(373,tB (decide (((AK q.e0 26):Int)=17)))]),(EL b)⟩ ?_
 refine AL _ rfl (fun h18 => ?_) (fun h18 => ?_)
 ·have g18:=oT h18
  refine dw [] [(383,FQ (AK q.e1 48))] [(5:Int)≠0,A0 (FQ (AK q.e1 48)).2.1,(Aa b).length=(Aa b).length,(Aa b).length+1<=maxLen,((Aa b).length+1)*56<=140737488355328] ⟨DW,[(4,Z7F),(5,.cells (B8 b [.own 200104 8 (Ad b).length,.own 386 5 ((Aa b).length+1),.own 200108 4 (AY b).length,.own 200110 2 (AN b).length,.own 200114 20 (AO b).length,.own 34 3 b.Waivers.length,.own 200112 3 (AM b).length]) 42),(26,Z7G b),(30,Z7J b),(34,Z7P b),(386,.row 5 ((Aa b).length+1) (fun i_ j_=>if i_<(Aa b).length then (HR b) i_ j_ else (As 5 1 [.i (W64 (80+(AK q.e1 48))),.i (W64 ((L7 q)-1)),.i (E9 q).Kind,lst 7 AQ.c (E9 q).Edges,.i (E9 q).R]) (i_-(Aa b).length) j_) 93),(200100,Z7H b),(200102,Z7I b),(200104,Z7K b),(200108,Z7M b),(200110,Z7N b),(200112,Z7Q b),(200114,Z7O b)]⟩ (.cons (Ja (AK q.e1 48)) .nil) (.cons au12 (.cons rfl (.cons rfl (.cons au15 (.cons au15 .nil)))))<|A8<|AF ?_
  refine Aq (Cv.trans (BS (⟨DW,[(4,Z7F),(5,Z8l b q),(26,Z7G b),(30,Z7J b),(34,Z7P b),(386,Z8m b q),(200100,Z7H b),(200102,Z7I b),(200104,Z7K b),(200108,Z7M b),(200110,Z7N b),(200112,Z7Q b),(200114,Z7O b)]⟩) lr (.cons ⟨rfl,.refl _⟩ (.cons ⟨rfl,.cells _ (rr9 (.cons (.own _ _ au0) (rr (rr (rr (rr (rr .nil)))))))⟩ (.cons ⟨rfl,.refl _⟩ (.cons ⟨rfl,.refl _⟩ (.cons ⟨rfl,.refl _⟩ (.cons ⟨rfl,Ao 93 (Au (An 5 BT.c (Aa b)) (Ae (c:=BT.c) (xs:=([BT.mk (W64 (80+(AK q.e1 48))) (W64 ((Int.tmod (AK q.e2 64) 5)-1)) (DQ (AK q.e1 48))]:List BT)) rfl kr))⟩ lr))))))) (Cv.refl _))<|AB ?_
  refine on<|Ac ?_
  exact zy (Cv.trans (Bu [26,200100,200102,30,200104,386,200108,200110,200114,34,200112] hk0) (Cv.refl _)) (by simp only [B1,h1,h2,h3,h4,h5,h6,h7,h8,h9,h10,h11,h12,h13,h14,h15,h16,h17,h18,cond_true,cond_false] <;> kernel_rfl)
 have g18:=oF h18
 refine AB<|rn ⟨(B6 q [(EQ q),(388,tB (decide (((AK q.e0 26):Int)=18)))]),(EL b)⟩ ?_
 refine AL _ rfl (fun h19 => ?_) (fun h19 => ?_)
 ·have g19:=oT h19
  refine dw [] [(395,FQ (AK q.e1 48))] [A0 (FQ (AK q.e1 48)).2.1,(AY b).length=(AY b).length,(AY b).length+1<=maxLen,((AY b).length+1)*48<=140737488355328] ⟨DW,[(4,Z7F),(5,.cells (B8 b [.own 200104 8 (Ad b).length,.own 200106 5 (Aa b).length,.own 398 4 ((AY b).length+1),.own 200110 2 (AN b).length,.own 200114 20 (AO b).length,.own 34 3 b.Waivers.length,.own 200112 3 (AM b).length]) 42),(26,Z7G b),(30,Z7J b),(34,Z7P b),(398,.row 4 ((AY b).length+1) (fun i_ j_=>if i_<(AY b).length then (HP b) i_ j_ else (As 4 1 [.i (W64 (90+(AK q.e1 48))),.i (E9 q).Kind,lst 7 AQ.c (E9 q).Edges,.i (E9 q).R]) (i_-(AY b).length) j_) 95),(200100,Z7H b),(200102,Z7I b),(200104,Z7K b),(200106,Z7L b),(200110,Z7N b),(200112,Z7Q b),(200114,Z7O b)]⟩ (.cons (Ja (AK q.e1 48)) .nil) (.cons rfl (.cons rfl (.cons au15 (.cons au15 .nil))))<|A8<|AF ?_
  refine Aq (Cv.trans (BS (⟨DW,[(4,Z7F),(5,Z8n b q),(26,Z7G b),(30,Z7J b),(34,Z7P b),(398,Z8o b q),(200100,Z7H b),(200102,Z7I b),(200104,Z7K b),(200106,Z7L b),(200110,Z7N b),(200112,Z7Q b),(200114,Z7O b)]⟩) lr (.cons ⟨rfl,.refl _⟩ (.cons ⟨rfl,.cells _ (rr9 (rr (.cons (.own _ _ au0) (rr (rr (rr (rr .nil)))))))⟩ (.cons ⟨rfl,.refl _⟩ (.cons ⟨rfl,.refl _⟩ (.cons ⟨rfl,.refl _⟩ (.cons ⟨rfl,Ao 95 (Au (An 4 Bi.c (AY b)) (Ae (c:=Bi.c) (xs:=([Bi.mk (W64 (90+(AK q.e1 48))) (DQ (AK q.e1 48))]:List Bi)) rfl kr))⟩ lr))))))) (Cv.refl _))<|AB ?_
  refine on<|Ac ?_
  exact zy (Cv.trans (Bu [26,200100,200102,30,200104,200106,398,200110,200114,34,200112] hk0) (Cv.refl _)) (by simp only [B1,h1,h2,h3,h4,h5,h6,h7,h8,h9,h10,h11,h12,h13,h14,h15,h16,h17,h18,h19,cond_true,cond_false] <;> kernel_rfl)
 have g19:=oF h19
 refine AB<|rn ⟨(B6 q [(EQ q),(400,tB (decide (((AK q.e0 26):Int)=19)))]),(EL b)⟩ ?_
 refine AL _ rfl (fun h20 => ?_) (fun h20 => ?_)
 ·have g20:=oT h20
  refine dw [] [(405,CX (AK q.e1 48)),(407,CX (AK q.e2 64))] [A0 (CX (AK q.e1 48)).2.1,A0 (CX (AK q.e2 64)).2.1,(AN b).length=(AN b).length,(AN b).length+1<=maxLen,((AN b).length+1)*40<=140737488355328] ⟨DW,[(4,Z7F),(5,.cells (B8 b (E7 b [.own 411 2 ((AN b).length+1),.own 200114 20 (AO b).length,.own 34 3 b.Waivers.length,.own 200112 3 (AM b).length])) 42),(26,Z7G b),(30,Z7J b),(34,Z7P b),(411,.row 2 ((AN b).length+1) (fun i_ j_=>if i_<(AN b).length then (HS b) i_ j_ else (As 2 1 [.s (Ce q),.list true 1 1 (As 1 1 [.s (BI (AK q.e2 64))])]) (i_-(AN b).length) j_) 98),(200100,Z7H b),(200102,Z7I b),(200104,Z7K b),(200106,Z7L b),(200108,Z7M b),(200112,Z7Q b),(200114,Z7O b)]⟩ (.cons (EE (AK q.e1 48) au20) (.cons (EE (AK q.e2 64) au20) .nil)) (.cons rfl (.cons rfl (.cons rfl (.cons au15 (.cons au15 .nil)))))<|A8<|AF ?_
  refine Aq (Cv.trans (BS (⟨DW,[(4,Z7F),(5,Z8p b q),(26,Z7G b),(30,Z7J b),(34,Z7P b),(411,Z8q b q),(200100,Z7H b),(200102,Z7I b),(200104,Z7K b),(200106,Z7L b),(200108,Z7M b),(200112,Z7Q b),(200114,Z7O b)]⟩) lr (.cons ⟨rfl,.refl _⟩ (.cons ⟨rfl,.cells _ (rr9 (rr2 (.cons (.own _ _ au0) (rr (rr (rr .nil))))))⟩ (.cons ⟨rfl,.refl _⟩ (.cons ⟨rfl,.refl _⟩ (.cons ⟨rfl,.refl _⟩ (.cons ⟨rfl,Ao 98 (Au (An 2 BQ.c (AN b)) (Dg (c:=BQ.c) (xs:=([BQ.mk (BI (AK q.e1 48)) [BI (AK q.e2 64)]]:List BQ)) (y:=[[.s (BI (AK q.e1 48)),.list true 1 1 (As 1 1 [.s (BI (AK q.e2 64))])]]) (z:=[[.s (BI (AK q.e1 48)),lst 1 (fun x=>[.s x]) [BI (AK q.e2 64)]]]) rfl kr kr (.cons (rr (.cons (Bm true (Ae (c:=(fun x=>[.s x])) (xs:=([BI (AK q.e2 64)]:List ByteArray)) rfl kr)) .nil)) .nil)))⟩ lr))))))) (Cv.refl _))<|AB ?_
  refine on<|Ac ?_
  exact zy (Cv.trans (Bu [26,200100,200102,30,200104,200106,200108,411,200114,34,200112] hk0) (Cv.refl _)) (by simp only [B1,h1,h2,h3,h4,h5,h6,h7,h8,h9,h10,h11,h12,h13,h14,h15,h16,h17,h18,h19,h20,cond_true,cond_false] <;> kernel_rfl)
 have g20:=oF h20
 refine AB<|rn ⟨(B6 q [(EQ q),(413,tB (decide (((AK q.e0 26):Int)=20)))]),(EL b)⟩ ?_
 refine AL _ rfl (fun h21 => ?_) (fun h21 => ?_)
 ·have g21:=oT h21
  refine dw [] [(418,CX (AK q.e1 48)),(420,CX (AK q.e2 64))] [A0 (CX (AK q.e1 48)).2.1,A0 (CX (AK q.e2 64)).2.1,(AM b).length=(AM b).length,(AM b).length+1<=maxLen,((AM b).length+1)*48<=140737488355328] ⟨DW,[(4,Z7F),(5,.cells (B8 b (E7 b (Ln b [.own 34 3 b.Waivers.length,.own 426 3 ((AM b).length+1)]))) 42),(26,Z7G b),(30,Z7J b),(34,Z7P b),(426,.row 3 ((AM b).length+1) (fun i_ j_=>if i_<(AM b).length then (Gm b) i_ j_ else (As 3 1 [.s (Ce q),.list true 1 2 (As 1 2 [.s ({ data := #[78,49] }:ByteArray),.s (BI (AK q.e2 64))]),.i (W64 ((AK q.e2 64)-1))]) (i_-(AM b).length) j_) 100),(200100,Z7H b),(200102,Z7I b),(200104,Z7K b),(200106,Z7L b),(200108,Z7M b),(200110,Z7N b),(200114,Z7O b)]⟩ (.cons (EE (AK q.e1 48) au20) (.cons (EE (AK q.e2 64) au20) .nil)) (.cons rfl (.cons rfl (.cons rfl (.cons au15 (.cons au15 .nil)))))<|A8<|AF ?_
  refine Aq (Cv.trans (BS (⟨DW,[(4,Z7F),(5,Z8r b q),(26,Z7G b),(30,Z7J b),(34,Z7P b),(426,Z8s b q),(200100,Z7H b),(200102,Z7I b),(200104,Z7K b),(200106,Z7L b),(200108,Z7M b),(200110,Z7N b),(200114,Z7O b)]⟩) lr (.cons ⟨rfl,.refl _⟩ (.cons ⟨rfl,.cells _ (rr9 (rr5 (.cons (.own _ _ au0) .nil)))⟩ (.cons ⟨rfl,.refl _⟩ (.cons ⟨rfl,.refl _⟩ (.cons ⟨rfl,.refl _⟩ (.cons ⟨rfl,Ao 100 (Au (An 3 Ba.c (AM b)) (Dg (c:=Ba.c) (xs:=([Ba.mk (BI (AK q.e1 48)) [({ data := #[78,49] }:ByteArray),BI (AK q.e2 64)] (W64 ((AK q.e2 64)-1))]:List Ba)) (y:=[[.s (BI (AK q.e1 48)),.list true 1 2 (As 1 2 [.s ({ data := #[78,49] }:ByteArray),.s (BI (AK q.e2 64))]),.i (W64 ((AK q.e2 64)-1))]]) (z:=[[.s (BI (AK q.e1 48)),lst 1 (fun x=>[.s x]) [({ data := #[78,49] }:ByteArray),BI (AK q.e2 64)],.i (W64 ((AK q.e2 64)-1))]]) rfl kr kr (.cons (rr (.cons (Bm true (Ae (c:=(fun x=>[.s x])) (xs:=([({ data := #[78,49] }:ByteArray),BI (AK q.e2 64)]:List ByteArray)) rfl kr)) (rr .nil))) .nil)))⟩ lr))))))) (Cv.refl _))<|AB ?_
  refine on<|Ac ?_
  exact zy (Cv.trans (Bu [26,200100,200102,30,200104,200106,200108,200110,200114,34,426] hk0) (Cv.refl _)) (by simp only [B1,h1,h2,h3,h4,h5,h6,h7,h8,h9,h10,h11,h12,h13,h14,h15,h16,h17,h18,h19,h20,h21,cond_true,cond_false] <;> kernel_rfl)
 have g21:=oF h21
 refine AB<|rn ⟨(B6 q [(EQ q),(428,tB (decide (((AK q.e0 26):Int)=21)))]),(EL b)⟩ ?_
 refine AL _ rfl (fun h22 => ?_) (fun h22 => ?_)
 ·have g22:=oT h22
  refine rc [] [(13:Int)≠0,b.Waivers.length=b.Waivers.length,b.Waivers.length+1<=maxLen,(b.Waivers.length+1)*32<=140737488355328] ⟨DW,[(4,Z7F),(5,.cells (B8 b (E7 b (Ln b [.own 438 3 (b.Waivers.length+1),.own 200112 3 (AM b).length]))) 42),(26,Z7G b),(30,Z7J b),(438,.row 3 (b.Waivers.length+1) (fun i_ j_=>if i_<b.Waivers.length then (HW b) i_ j_ else (As 3 1 [.i (W64 (1+(AK q.e1 48))),.i (RO q),.s ({ data := #[99,50] }:ByteArray)]) (i_-b.Waivers.length) j_) 102),(200100,Z7H b),(200102,Z7I b),(200104,Z7K b),(200106,Z7L b),(200108,Z7M b),(200110,Z7N b),(200112,Z7Q b),(200114,Z7O b)]⟩ .nil (.cons au12 (.cons rfl (.cons au15 (.cons au15 .nil))))<|A8<|AF ?_
  refine Aq (Cv.trans (BS (⟨DW,[(4,Z7F),(5,Z8t b q),(26,Z7G b),(30,Z7J b),(438,Z8u b q),(200100,Z7H b),(200102,Z7I b),(200104,Z7K b),(200106,Z7L b),(200108,Z7M b),(200110,Z7N b),(200112,Z7Q b),(200114,Z7O b)]⟩) lr (.cons ⟨rfl,.refl _⟩ (.cons ⟨rfl,.cells _ (rr9 (rr4 (.cons (.own _ _ au0) (rr .nil))))⟩ (.cons ⟨rfl,.refl _⟩ (.cons ⟨rfl,.refl _⟩ (.cons ⟨rfl,Ao 102 (Au (An 3 BF.c b.Waivers) (Ae (c:=BF.c) (xs:=([BF.mk (W64 (1+(AK q.e1 48))) (Int.tmod (AK q.e2 64) 13) ({ data := #[99,50] }:ByteArray)]:List BF)) rfl kr))⟩ lr)))))) (Cv.refl _))<|AB ?_
  refine on<|Ac ?_
  exact zy (Cv.trans (Bu [26,200100,200102,30,200104,200106,200108,200110,200114,438,200112] hk0) (Cv.refl _)) (by simp only [B1,h1,h2,h3,h4,h5,h6,h7,h8,h9,h10,h11,h12,h13,h14,h15,h16,h17,h18,h19,h20,h21,h22,cond_true,cond_false] <;> kernel_rfl)
 have g22:=oF h22
 refine AB<|rn ⟨(B6 q [(EQ q),(440,tB (decide (((AK q.e0 26):Int)=22)))]),(EL b)⟩ ?_
 refine AL _ rfl (fun h23 => ?_) (fun h23 => ?_)
 ·have g23:=oT h23
  refine AB<|rn ⟨(B6 q [(445,tB (decide ((0:Int)<(((AO b).length:Nat):Int))))]),(EL b)⟩ ?_
  refine AL _ rfl (fun h24 => ?_) (fun h24 => ?_)
  ·have g24:=oT h24
   refine od [] [] [((((AO b).length:Nat):Int):Int)≠0,0<=(Int.tmod (AK q.e2 64) (((AO b).length:Nat):Int):Int)/\(Int.tmod (AK q.e2 64) (((AO b).length:Nat):Int):Int)<(((AO b).length:Nat):Int),(Int.tmod (AK q.e2 64) (((AO b).length:Nat):Int)).toNat<(AO b).length] .nil (.cons au12 (.cons au5 (.cons au5 .nil)))<|A8<|AF ?_
   refine Aq (Cr 200114 (EC (l:=[.i (W64 ((AK q.e1 48)-1))]) (off:=19) (q:=1) (k:=(Int.tmod (AK q.e2 64) (((AO b).length:Nat):Int)).toNat) (An 20 Az.c (AO b)) au5 (Az.mk ((AO b).getD (Int.tmod (AK q.e2 64) (((AO b).length:Nat):Int)).toNat default).Name ((AO b).getD (Int.tmod (AK q.e2 64) (((AO b).length:Nat):Int)).toNat default).Priority ((AO b).getD (Int.tmod (AK q.e2 64) (((AO b).length:Nat):Int)).toNat default).What ((AO b).getD (Int.tmod (AK q.e2 64) (((AO b).length:Nat):Int)).toNat default).A ((AO b).getD (Int.tmod (AK q.e2 64) (((AO b).length:Nat):Int)).toNat default).B (W64 ((AK q.e1 48)-1))) (Dq kr)))<|AB ?_
   refine on<|Ac ?_
   exact zy (Cv.trans (Bu [26,200100,200102,30,200104,200106,200108,200110,200114,34,200112] hk0) (Cv.refl _)) (by simp only [B1,h1,h2,h3,h4,h5,h6,h7,h8,h9,h10,h11,h12,h13,h14,h15,h16,h17,h18,h19,h20,h21,h22,h23,h24,cond_true,cond_false] <;> kernel_rfl)
  refine Af<|A8 ?_
  refine AF<|AB ?_
  refine rn (I4 b)<|Ac ?_
  exact zy (Cv.trans (Bu [26,200100,200102,30,200104,200106,200108,200110,200114,34,200112] hk0) (Cv.refl _)) (by simp only [B1,h1,h2,h3,h4,h5,h6,h7,h8,h9,h10,h11,h12,h13,h14,h15,h16,h17,h18,h19,h20,h21,h22,h23,h24,cond_true,cond_false] <;> kernel_rfl)
 have g23:=oF h23
 refine AB<|rn ⟨(B6 q [(EQ q),(457,tB (decide (((AK q.e0 26):Int)=23)))]),(EL b)⟩ ?_
 refine AL _ rfl (fun h24 => ?_) (fun h24 => ?_)
 ·have g24:=oT h24
  refine AB<|rn ⟨[(4,tP 4 0),(5,tP 5 0),(aK q),(462,Z7U b)],(EL b)⟩ ?_
  refine AL _ rfl (fun h25 => ?_) (fun h25 => ?_)
  ·have g25:=oT h25
   refine od [] [] [(((b.Parts.length:Nat):Int):Int)≠0,b.Parts.length=b.Parts.length,0<=(0:Int)/\(0:Int)<=(Int.tmod (AK q.e2 64) ((b.Parts.length:Nat):Int):Int)/\(Int.tmod (AK q.e2 64) ((b.Parts.length:Nat):Int):Int)<=((b.Parts.length:Nat):Int),(((b.Parts.length:Nat):Int):Int)≠0,b.Parts.length=b.Parts.length,0<=(W64 ((Int.tmod (AK q.e2 64) ((b.Parts.length:Nat):Int))+1):Int)/\(W64 ((Int.tmod (AK q.e2 64) ((b.Parts.length:Nat):Int))+1):Int)<=(((b.Parts.length:Nat):Int):Int)/\(((b.Parts.length:Nat):Int):Int)<=((b.Parts.length:Nat):Int),(0:Int).toNat=0,(Int.tmod (AK q.e2 64) ((b.Parts.length:Nat):Int):Int).toNat-(0:Int).toNat<=b.Parts.length,(W64 ((Int.tmod (AK q.e2 64) ((b.Parts.length:Nat):Int))+1):Int).toNat+((((b.Parts.length:Nat):Int):Int).toNat-(W64 ((Int.tmod (AK q.e2 64) ((b.Parts.length:Nat):Int))+1):Int).toNat)<=b.Parts.length,((Int.tmod (AK q.e2 64) ((b.Parts.length:Nat):Int):Int).toNat-(0:Int).toNat)+((((b.Parts.length:Nat):Int):Int).toNat-(W64 ((Int.tmod (AK q.e2 64) ((b.Parts.length:Nat):Int))+1):Int).toNat)<=maxLen,(((Int.tmod (AK q.e2 64) ((b.Parts.length:Nat):Int):Int).toNat-(0:Int).toNat)+((((b.Parts.length:Nat):Int):Int).toNat-(W64 ((Int.tmod (AK q.e2 64) ((b.Parts.length:Nat):Int))+1):Int).toNat))*72<=140737488355328] .nil (.cons au12 (.cons rfl (.cons au5 (.cons au12 (.cons rfl (.cons au5 (.cons rfl (.cons au5 (.cons au5 (.cons au15 (.cons au15 .nil)))))))))))<|A8<|AF ?_
   refine Aq (Cr 480 (P1 (n1:=(Int.tmod (AK q.e2 64) ((b.Parts.length:Nat):Int):Int).toNat-(0:Int).toNat) (lo2:=(W64 ((Int.tmod (AK q.e2 64) ((b.Parts.length:Nat):Int))+1):Int).toNat) (n2:=(((b.Parts.length:Nat):Int):Int).toNat-(W64 ((Int.tmod (AK q.e2 64) ((b.Parts.length:Nat):Int))+1):Int).toNat) (An 7 AG.c b.Parts) au5 au5))<|AB ?_
   refine on<|Ac ?_
   exact zy (Cv.trans (Bu [480,200100,200102,30,200104,200106,200108,200110,200114,34,200112] hk0) (Cv.refl _)) (by simp only [B1,h1,h2,h3,h4,h5,h6,h7,h8,h9,h10,h11,h12,h13,h14,h15,h16,h17,h18,h19,h20,h21,h22,h23,h24,h25,cond_true,cond_false] <;> kernel_rfl)
  refine Af<|A8 ?_
  refine AF<|AB ?_
  refine rn (I4 b)<|Ac ?_
  exact zy (Cv.trans (Bu [26,200100,200102,30,200104,200106,200108,200110,200114,34,200112] hk0) (Cv.refl _)) (by simp only [B1,h1,h2,h3,h4,h5,h6,h7,h8,h9,h10,h11,h12,h13,h14,h15,h16,h17,h18,h19,h20,h21,h22,h23,h24,h25,cond_true,cond_false] <;> kernel_rfl)
 have g24:=oF h24
 refine AB<|rn ⟨(B6 q [(482,tB (decide (((AK q.e0 26):Int)=24)))]),(EL b)⟩ ?_
 refine AL _ rfl (fun h25 => ?_) (fun h25 => ?_)
 ·have g25:=oT h25
  refine AB<|rn ⟨(B6 q [(487,Z8a b)]),(EL b)⟩ ?_
  refine AL _ rfl (fun h26 => ?_) (fun h26 => ?_)
  ·have g26:=oT h26
   refine od [] [(496,CX (AK q.e1 48))] [((((AH b).length:Nat):Int):Int)≠0,A0 (CX (AK q.e1 48)).2.1,0<=(Int.tmod (AK q.e2 64) (((AH b).length:Nat):Int):Int)/\(Int.tmod (AK q.e2 64) (((AH b).length:Nat):Int):Int)<(((AH b).length:Nat):Int),(Int.tmod (AK q.e2 64) (((AH b).length:Nat):Int)).toNat<(AH b).length] (.cons (EE (AK q.e1 48) au20) .nil) (.cons au12 (.cons rfl (.cons au5 (.cons au5 .nil))))<|A8<|AF ?_
   refine Aq (Cr 200102 (EC (l:=[.s (BI (AK q.e1 48))]) (off:=1) (q:=1) (k:=(Int.tmod (AK q.e2 64) (((AH b).length:Nat):Int)).toNat) (An 6 Ap.c (AH b)) au5 (Ap.mk ((AH b).getD (Int.tmod (AK q.e2 64) (((AH b).length:Nat):Int)).toNat default).Id (BI (AK q.e1 48)) ((AH b).getD (Int.tmod (AK q.e2 64) (((AH b).length:Nat):Int)).toNat default).Layer ((AH b).getD (Int.tmod (AK q.e2 64) (((AH b).length:Nat):Int)).toNat default).Shape) (Dq kr)))<|AB ?_
   refine on<|Ac ?_
   exact zy (Cv.trans (Bu [26,200100,200102,30,200104,200106,200108,200110,200114,34,200112] hk0) (Cv.refl _)) (by simp only [B1,h1,h2,h3,h4,h5,h6,h7,h8,h9,h10,h11,h12,h13,h14,h15,h16,h17,h18,h19,h20,h21,h22,h23,h24,h25,h26,cond_true,cond_false] <;> kernel_rfl)
  refine Af<|A8 ?_
  refine AF<|AB ?_
  refine rn (I4 b)<|Ac ?_
  exact zy (Cv.trans (Bu [26,200100,200102,30,200104,200106,200108,200110,200114,34,200112] hk0) (Cv.refl _)) (by simp only [B1,h1,h2,h3,h4,h5,h6,h7,h8,h9,h10,h11,h12,h13,h14,h15,h16,h17,h18,h19,h20,h21,h22,h23,h24,h25,h26,cond_true,cond_false] <;> kernel_rfl)
 have g25:=oF h25
 refine AB<|rn ⟨(KF q [(10,tI 0)]),(EL b)⟩<|AX ?_
 refine Bc (ι:=Nat×List BT×Int) (fun x=>⟨(KF q [(10,tI x.2.2)]),[(4,Z7F),(5,.cells (B8 b [.own 200104 8 (Ad b).length,.own 200106 5 x.2.1.length,.own 200108 4 (AY b).length,.own 200110 2 (AN b).length,.own 200114 20 (AO b).length,.own 34 3 b.Waivers.length,.own 200112 3 (AM b).length]) 42),(26,Z7G b),(30,Z7J b),(34,Z7P b),(200100,Z7H b),(200102,Z7I b),(200104,Z7K b),(200106,.row 5 x.2.1.length (AP BT.c x.2.1) 93),(200108,Z7M b),(200110,Z7N b),(200112,Z7Q b),(200114,Z7O b)]⟩) (fun x=>((W64 (79+(Int.tmod (AK q.e1 48) 4)))-x.2.2).toNat<x.1/\(0<=x.2.2/\(x.2.2<=(W64 (79+(Int.tmod (AK q.e1 48) 4)))\/x.2.2=0)/\(x.2.1.length:Int)<=((Aa b).length:Int)+1*(x.2.2-0))/\Fq b q x.1 x.2.1 x.2.2=B1 b q) (fun x=>x.1) ?_ (((W64 (79+(Int.tmod (AK q.e1 48) 4)))-0).toNat+1,Aa b,0) ⟨Nat.lt_succ_self _,⟨ax0,ax0,ax0⟩,(by simp only [B1,h1,h2,h3,h4,h5,h6,h7,h8,h9,h10,h11,h12,h13,h14,h15,h16,h17,h18,h19,h20,h21,h22,h23,h24,h25,cond_true,cond_false])⟩
 rintro ⟨n0,v5_9,v10⟩ ⟨hm0,hinv0,hF0⟩
 try dsimp only at hm0 hinv0 hF0
 cases n0 with | zero=>exact nz hm0 | succ n0 => ?_
 have hw7:=w79 hN.1
 have hk9:((Aa b).length:Int)<=1000000:=by rw [QP];exact hc.lKeeps
 have hv9:(v5_9.length:Int)<=2000000:=by omega
 refine AB<|AB ?_
 refine rc [] [(4:Int)≠0] ⟨(KF q [(10,tI v10),(26,tB (decide ((v10:Int)<(W64 (79+(Int.tmod (AK q.e1 48) 4))))))]),[(4,Z7F),(5,Z8B b v5_9),(26,Z7G b),(30,Z7J b),(34,Z7P b),(200100,Z7H b),(200102,Z7I b),(200104,Z7K b),(200106,.row 5 v5_9.length (AP BT.c v5_9) 93),(200108,Z7M b),(200110,Z7N b),(200112,Z7Q b),(200114,Z7O b)]⟩ .nil (.cons au12 .nil)<|AF ?_
 refine AL _ rfl (fun h26 => ?_) (fun h26 => ?_)
 ·have g26:=oT h26
  refine Af<|AF ?_
  refine AB<|AX ?_
  refine dw [] [(35,Ia (AE.mk v10 0) 1)] [A0 (Ia (AE.mk v10 0) 1).2.1,v5_9.length=v5_9.length,v5_9.length+1<=maxLen,(v5_9.length+1)*56<=140737488355328] ⟨(KF q [(10,tI v10)]),[(4,Z7F),(5,.cells (B8 b [.own 200104 8 (Ad b).length,.own 38 5 (v5_9.length+1),.own 200108 4 (AY b).length,.own 200110 2 (AN b).length,.own 200114 20 (AO b).length,.own 34 3 b.Waivers.length,.own 200112 3 (AM b).length]) 42),(26,Z7G b),(30,Z7J b),(34,Z7P b),(38,.row 5 (v5_9.length+1) (fun i_ j_=>if i_<v5_9.length then (AP BT.c v5_9) i_ j_ else (As 5 1 [.i (W64 (100+v10)),.i 0,.i (C7 (AE.mk v10 0) 1).Kind,lst 7 AQ.c (C7 (AE.mk v10 0) 1).Edges,.i (C7 (AE.mk v10 0) 1).R]) (i_-v5_9.length) j_) 93),(200100,Z7H b),(200102,Z7I b),(200104,Z7K b),(200108,Z7M b),(200110,Z7N b),(200112,Z7Q b),(200114,Z7O b)]⟩ (.cons (NQ (AE.mk v10 0) 1) .nil) (.cons rfl (.cons rfl (.cons au15 (.cons au15 .nil))))<|A8<|AF ?_
  refine Aq (Cv.trans (BS (⟨(KF q [(10,tI v10)]),(aX b v5_9 v10)⟩) lr (.cons ⟨rfl,.refl _⟩ (.cons ⟨rfl,.cells _ (rr9 (.cons (.own _ _ au0) (rr (rr (rr (rr (rr .nil)))))))⟩ (.cons ⟨rfl,.refl _⟩ (.cons ⟨rfl,.refl _⟩ (.cons ⟨rfl,.refl _⟩ (.cons ⟨rfl,Ao 93 (Au (An 5 BT.c v5_9) (Ae (c:=BT.c) (xs:=([BT.mk (W64 (100+v10)) 0 (C7 (AE.mk v10 0) 1)]:List BT)) rfl kr))⟩ lr))))))) (Cv.refl _)) ?_
  refine rg ⟨(KF q [(10,tI (W64 (v10+1)))]),(aX b v5_9 v10)⟩ ?_
  (try rw [(show W64 (v10+1)=v10+1 from A1 oM au9)])
  refine AF ?_
  refine ⟨(n0,v5_9++[BT.mk (W64 (100+v10)) 0 (C7 (AE.mk v10 0) 1)],v10+1),⟨?_,?_,(by rw [<- hF0];simp only [Fq,h26,cond_true,cond_false])⟩,Nat.lt_succ_self _,Cv.trans (vr 38 200106 hk0) (Cv.trans (vk [4,5,6,10] [4,5,26,30,34,200100,200102,200104,200106,200108,200110,200112,200114]) (BM kr))⟩
  ·show ((W64 (79+(Int.tmod (AK q.e1 48) 4)))-(v10+1)).toNat<n0;omega
  exact ⟨ax0,ax0,ax0⟩
 refine BU<|BE ?_
 refine BE<|BV ?_
 refine A8<|AF<|AB ?_
 refine on<|Ac ?_
 exact zy (Cv.trans (Bu [26,200100,200102,30,200104,200106,200108,200110,200114,34,200112] hk0) (Cv.refl _)) (by rw [<- hF0];simp only [Fq,h26,cond_true,cond_false] <;> kernel_rfl)
end
section
open Go.RowKit
def Z8F:Blk:=.cells GD 42
variable (b:AC) (v:Nat->Value)
def Z8G:Blk:=.cells (E6 v [.own 61 2 1,.val (v 6),.val (v 7),.val (v 8),.val (v 9),.val (v 10),.val (v 11),.val (v 12),.val (v 13),.val (v 14)]) 42
abbrev Cy:=b.Nets.getD 0 default
def Z8H:Blk:=.row 2 (Cy b).Pins.length (AP AU.c (Cy b).Pins) 25
def Z8I:Blk:=.rowx 2 1 (fun _ _=>default) 48 [(0,[.s (Cy b).Name,.own 58 2 (Cy b).Pins.length])]
abbrev N9:List Cl:=[.s (Cy b).Name,.own 100000 2 (Cy b).Pins.length]
def Z8J:Blk:=.rowx 2 1 (fun _ _=>default) 48 [(0,(N9 b))]
def Z8K:Blk:=.cells (E6 v [.own 100001 2 1,.val (v 6),.val (v 7),.val (v 8),.val (v 9),.val (v 10),.val (v 11),.val (v 12),.val (v 13),.val (v 14)]) 42
def Z8L:Blk:=.cells (E6 v [.own 61 2 2,.val (v 6),.val (v 7),.val (v 8),.val (v 9),.val (v 10),.val (v 11),.val (v 12),.val (v 13),.val (v 14)]) 42
abbrev Cx:=b.Nets.getD 1 default
def Z8M:Blk:=.row 2 (Cx b).Pins.length (AP AU.c (Cx b).Pins) 25
def Z8N:Blk:=.rowx 2 2 (fun i_ j_=>if i_<1 then (fun _ _=>default) i_ j_ else (fun _ _=>default) (i_-1) j_) 48 [(0,(N9 b)),(1,[.s (Cx b).Name,.own 58 2 (Cx b).Pins.length])]
abbrev VT:List Cl:=[.s (Cx b).Name,.own 100002 2 (Cx b).Pins.length]
def Z8O:Blk:=.rowx 2 2 (fun i_ j_=>if i_<1 then (fun _ _=>default) i_ j_ else (fun _ _=>default) (i_-1) j_) 48 [(0,(N9 b)),(1,(VT b))]
def Z8P:Blk:=.cells (E6 v [.own 100003 2 2,.val (v 6),.val (v 7),.val (v 8),.val (v 9),.val (v 10),.val (v 11),.val (v 12),.val (v 13),.val (v 14)]) 42
def Z8Q:Blk:=.cells (E6 v [.own 61 2 3,.val (v 6),.val (v 7),.val (v 8),.val (v 9),.val (v 10),.val (v 11),.val (v 12),.val (v 13),.val (v 14)]) 42
abbrev Cw:=b.Nets.getD 2 default
def Z8R:Blk:=.row 2 (Cw b).Pins.length (AP AU.c (Cw b).Pins) 25
def Z8S:Blk:=.rowx 2 3 (fun i_ j_=>if i_<2 then (fun i_ j_=>if i_<1 then (fun _ _=>default) i_ j_ else (fun _ _=>default) (i_-1) j_) i_ j_ else (fun _ _=>default) (i_-2) j_) 48 [(0,(N9 b)),(1,(VT b)),(2,[.s (Cw b).Name,.own 58 2 (Cw b).Pins.length])]
def Z8T:Blk:=.rowx 2 3 (fun i_ j_=>if i_<2 then (fun i_ j_=>if i_<1 then (fun _ _=>default) i_ j_ else (fun _ _=>default) (i_-1) j_) i_ j_ else (fun _ _=>default) (i_-2) j_) 48 [(0,(N9 b)),(1,(VT b)),(2,[.s (Cw b).Name,.own 100004 2 (Cw b).Pins.length])]
def Z8U:Blk:=.cells (E6 v [.own 100005 2 3,.val (v 6),.val (v 7),.val (v 8),.val (v 9),.val (v 10),.val (v 11),.val (v 12),.val (v 13),.val (v 14)]) 42
def Z8V:Blk:=.cells (E6 v [.own 200260 2 3,.val (v 6),.val (v 7),.val (v 8),.val (v 9),.val (v 10),.val (v 11),.val (v 12),.val (v 13),.val (v 14)]) 42
abbrev KY:List Cl:=[.s (Cy b).Name,.own 200261 2 (Cy b).Pins.length]
abbrev KX:List Cl:=[.s (Cx b).Name,.own 200262 2 (Cx b).Pins.length]
abbrev KW:List Cl:=[.s (Cw b).Name,.own 200263 2 (Cw b).Pins.length]
def Z8W:Blk:=.rowx 2 3 (fun i_ j_=>if i_<2 then (fun i_ j_=>if i_<1 then (fun _ _=>default) i_ j_ else (fun _ _=>default) (i_-1) j_) i_ j_ else (fun _ _=>default) (i_-2) j_) 48 [(0,(KY b)),(1,(KX b)),(2,(KW b))]
abbrev sCxN3 (b:AC) (v:Nat->Value):AS:=⟨Bh,[(200003,Z8V v),(Bk b),(200002,Z8F),(200260,Z8W b),(200261,Z8H b),(200262,Z8M b),(200263,Z8R b)]⟩
theorem au24 {p:Prop} (h:p:=by first | decide | omega | (rw [hlen];decide) | (rw [show (b.Nets.length:Int)=3 from hlen];decide)):p:=h
theorem au8 {p:Prop} (h:p:=by first | decide | omega | (unfold maxLen;omega) | (simp only [ZM,ZL,ZK];omega)):p:=h
set_option maxHeartbeats 4000000 in
theorem gCxN3 (b:AC) (hc:CM b) (hlen:(b.Nets.length:Int)=3) {c:Code} (hpc:Try.f12.body.bind (Fg [true,true,false,true])=some c):NN Try.prog 229 [200003,200001,200002] c (fun _:Unit=>True) (fun v=>⟨[(1,tP 200001 0),(2,tP 200002 0),(3,tP 200003 0),(4,tI 0)],[(200003,.cells [.val (v 0),.val (v 1),.val (v 2),.val (v 3),.val (v 4),vN,.val (v 6),.val (v 7),.val (v 8),.val (v 9),.val (v 10),.val (v 11),.val (v 12),.val (v 13),.val (v 14)] 42),(200001,.cells (AC.c b) 42),(200002,.cells [.i 0,.i 0,vN,.i 0,vN,vN,vN,vN,vN,vN,vN,vN,vN,vN,vN] 42)]⟩) (fun v _=>sCxN3 b v):=by
 cases hpc
 intro W0 M0 X v hP hFl
 show AWp _ _ _ _ _ _ _ _ ⟨[(1,tP 200001 0),(2,tP 200002 0),(3,tP 200003 0),(4,tI 0)],[(200003,.cells [.val (v 0),.val (v 1),.val (v 2),.val (v 3),.val (v 4),vN,.val (v 6),.val (v 7),.val (v 8),.val (v 9),.val (v 10),.val (v 11),.val (v 12),.val (v 13),.val (v 14)] 42),(200001,.cells (AC.c b) 42),(200002,.cells [.i 0,.i 0,vN,.i 0,vN,vN,vN,vN,vN,vN,vN,vN,vN,vN,vN] 42)]⟩
 have h0:=hc.lParts
 have h1:=hc.lNets
 have h2:=hc.lTracks
 have h3:=hc.lVias
 have h4:=hc.lPours
 have h5:=hc.lKeeps
 have h6:=hc.lSlots
 have h7:=hc.lClasses
 have h8:=hc.lWaivers
 have h9:=hc.lMatches
 have h10:=hc.lRules
 have hr:=hc.rok
 have hb0:=hc.pin 0
 have hb1:=hc.pin 1
 have hb2:=hc.pin 2
 refine AX ?_
 refine Dy 4 ?_
 refine B7<|AB<|AB ?_
 refine rn ⟨[(1,tP 200001 0),(2,tP 200002 0),(3,tP 200003 0),(4,tI 0),(40,tB (decide ((0:Int)<(b.Nets.length:Int))))],[(200001,.cells (AC.c b) 42),(200002,Z8F),(200003,.cells [.val (v 0),.val (v 1),.val (v 2),.val (v 3),.val (v 4),vN,.val (v 6),.val (v 7),.val (v 8),.val (v 9),.val (v 10),.val (v 11),.val (v 12),.val (v 13),.val (v 14)] 42)]⟩ ?_
 have h1:(decide ((0:Int)<(b.Nets.length:Int)))=true:=(by rw [hlen];decide)
 have g1:=oT h1
 refine AL _ rfl (fun _ => ?_) (fun h=>absurd (h1.symm.trans h) (by decide))
 refine Af<|AF ?_
 refine AB<|AX ?_
 refine dw [51] [] [0<=(0:Int)/\(0:Int)<((b.Nets.length:Nat):Int),0<=(0:Int)/\(0:Int)<((b.Nets.length:Nat):Int),0=0,0+(b.Nets.getD 0 default).Pins.length<=maxLen,(0+(b.Nets.getD 0 default).Pins.length)*32<=140737488355328,1=1,0<1,1<=maxLen,1*40<=140737488355328] ⟨[(1,tP 200001 0),(2,tP 200002 0),(3,tP 200003 0),(4,tI 0)],[(58,.row 2 (0+(b.Nets.getD 0 default).Pins.length) (fun i_ j_=>if i_<0 then (As 2 0 []) i_ j_ else (AP AU.c (b.Nets.getD 0 default).Pins) (i_-0) j_) 25),(61,.rowx 2 1 (fun _ _=>default) 48 [(0,[.s (b.Nets.getD 0 default).Name,.own 58 2 (0+(b.Nets.getD 0 default).Pins.length)])]),(200001,.cells (AC.c b) 42),(200002,Z8F),(200003,Z8G v)]⟩ .nil (.cons au24 (.cons au24 (.cons rfl (.cons au8 (.cons au8 (.cons rfl (.cons (by decide) (.cons au8 (.cons au8 .nil)))))))))<|A8<|AF ?_
 refine Aq (Cv.trans (BS (⟨[(1,tP 200001 0),(2,tP 200002 0),(3,tP 200003 0),(4,tI 0)],[(58,Z8H b),(61,Z8I b),(200001,.cells (AC.c b) 42),(200002,Z8F),(200003,Z8G v)]⟩) lr (.cons ⟨rfl,Ao 25 (Au (Ae (c:=AU.c) (xs:=(([]:List AU):List AU)) rfl kr) (An 2 AU.c (b.Nets.getD 0 default).Pins))⟩ (.cons ⟨rfl,.rowx _ _ _ _ (.cons ⟨rfl,(rr (.cons (.own _ _ au0) .nil))⟩ .nil)⟩ lr))) (Cv.refl _)) ?_
 refine rn ⟨[(1,tP 200001 0),(2,tP 200002 0),(3,tP 200003 0),(4,tI 1)],[(58,Z8H b),(61,Z8I b),(200001,.cells (AC.c b) 42),(200002,Z8F),(200003,Z8G v)]⟩ ?_
 refine B7 ?_
 refine Aq (Cv.trans (CC (⟨[(1,tP 200001 0),(2,tP 200002 0),(3,tP 200003 0),(4,tI 1)],[(100000,Z8H b),(61,Z8J b),(200001,.cells (AC.c b) 42),(200002,Z8F),(200003,Z8G v)]⟩) 58 100000 (K:=[200003,200001,200002]) hP rfl rfl kr kr) (Cv.trans (CC (⟨[(1,tP 200001 0),(2,tP 200002 0),(3,tP 200003 0),(4,tI 1)],[(100000,Z8H b),(100001,Z8J b),(200001,.cells (AC.c b) 42),(200002,Z8F),(200003,Z8K v)]⟩) 61 100001 (K:=[200003,200001,200002]) hP rfl rfl kr kr) (Cv.refl _)))<|AB<|AB ?_
 refine rn ⟨[(1,tP 200001 0),(2,tP 200002 0),(3,tP 200003 0),(4,tI 1),(40,tB (decide ((1:Int)<(b.Nets.length:Int))))],[(100000,Z8H b),(100001,Z8J b),(200001,.cells (AC.c b) 42),(200002,Z8F),(200003,Z8K v)]⟩ ?_
 have h2:(decide ((1:Int)<(b.Nets.length:Int)))=true:=(by rw [hlen];decide)
 have g2:=oT h2
 refine AL _ rfl (fun _ => ?_) (fun h=>absurd (h2.symm.trans h) (by decide))
 refine Af<|AF ?_
 refine AB<|AX ?_
 refine dw [51] [] [0<=(1:Int)/\(1:Int)<((b.Nets.length:Nat):Int),0<=(1:Int)/\(1:Int)<((b.Nets.length:Nat):Int),0=0,0+(b.Nets.getD 1 default).Pins.length<=maxLen,(0+(b.Nets.getD 1 default).Pins.length)*32<=140737488355328,1=1,1=1,0<1,1+1<=maxLen,(1+1)*40<=140737488355328] ⟨[(1,tP 200001 0),(2,tP 200002 0),(3,tP 200003 0),(4,tI 1)],[(58,.row 2 (0+(b.Nets.getD 1 default).Pins.length) (fun i_ j_=>if i_<0 then (As 2 0 []) i_ j_ else (AP AU.c (b.Nets.getD 1 default).Pins) (i_-0) j_) 25),(61,.rowx 2 2 (fun i_ j_=>if i_<1 then (fun _ _=>default) i_ j_ else (fun _ _=>default) (i_-1) j_) 48 [(0,[.s (b.Nets.getD 0 default).Name,.own 100000 2 (b.Nets.getD 0 default).Pins.length]),(1,[.s (b.Nets.getD 1 default).Name,.own 58 2 (0+(b.Nets.getD 1 default).Pins.length)])]),(100000,Z8H b),(200001,.cells (AC.c b) 42),(200002,Z8F),(200003,Z8L v)]⟩ .nil (.cons au24 (.cons au24 (.cons rfl (.cons au8 (.cons au8 (.cons rfl (.cons rfl (.cons (by decide) (.cons au8 (.cons au8 .nil))))))))))<|A8<|AF ?_
 refine Aq (Cv.trans (BS (⟨[(1,tP 200001 0),(2,tP 200002 0),(3,tP 200003 0),(4,tI 1)],[(58,Z8M b),(61,Z8N b),(100000,Z8H b),(200001,.cells (AC.c b) 42),(200002,Z8F),(200003,Z8L v)]⟩) lr (.cons ⟨rfl,Ao 25 (Au (Ae (c:=AU.c) (xs:=(([]:List AU):List AU)) rfl kr) (An 2 AU.c (b.Nets.getD 1 default).Pins))⟩ (.cons ⟨rfl,.rowx _ _ _ _ (.cons ⟨rfl,(rr (rr .nil))⟩ (.cons ⟨rfl,(rr (.cons (.own _ _ au0) .nil))⟩ .nil))⟩ lr))) (Cv.refl _)) ?_
 refine rn ⟨[(1,tP 200001 0),(2,tP 200002 0),(3,tP 200003 0),(4,tI 2)],[(58,Z8M b),(61,Z8N b),(100000,Z8H b),(200001,.cells (AC.c b) 42),(200002,Z8F),(200003,Z8L v)]⟩ ?_
 refine B7 ?_
 refine Aq (Cv.trans (CC (⟨[(1,tP 200001 0),(2,tP 200002 0),(3,tP 200003 0),(4,tI 2)],[(100002,Z8M b),(61,Z8O b),(100000,Z8H b),(200001,.cells (AC.c b) 42),(200002,Z8F),(200003,Z8L v)]⟩) 58 100002 (K:=[200003,200001,200002]) hP rfl rfl kr kr) (Cv.trans (CC (⟨[(1,tP 200001 0),(2,tP 200002 0),(3,tP 200003 0),(4,tI 2)],[(100002,Z8M b),(100003,Z8O b),(100000,Z8H b),(200001,.cells (AC.c b) 42),(200002,Z8F),(200003,Z8P v)]⟩) 61 100003 (K:=[200003,200001,200002]) hP rfl rfl kr kr) (Cv.refl _)))<|AB<|AB ?_
 refine rn ⟨[(1,tP 200001 0),(2,tP 200002 0),(3,tP 200003 0),(4,tI 2),(40,tB (decide ((2:Int)<(b.Nets.length:Int))))],[(100000,Z8H b),(100002,Z8M b),(100003,Z8O b),(200001,.cells (AC.c b) 42),(200002,Z8F),(200003,Z8P v)]⟩ ?_
 have h3:(decide ((2:Int)<(b.Nets.length:Int)))=true:=(by rw [hlen];decide)
 have g3:=oT h3
 refine AL _ rfl (fun _ => ?_) (fun h=>absurd (h3.symm.trans h) (by decide))
 refine Af<|AF ?_
 refine AB<|AX ?_
 refine dw [51] [] [0<=(2:Int)/\(2:Int)<((b.Nets.length:Nat):Int),0<=(2:Int)/\(2:Int)<((b.Nets.length:Nat):Int),0=0,0+(b.Nets.getD 2 default).Pins.length<=maxLen,(0+(b.Nets.getD 2 default).Pins.length)*32<=140737488355328,2=2,1=1,0<1,2+1<=maxLen,(2+1)*40<=140737488355328] ⟨[(1,tP 200001 0),(2,tP 200002 0),(3,tP 200003 0),(4,tI 2)],[(58,.row 2 (0+(b.Nets.getD 2 default).Pins.length) (fun i_ j_=>if i_<0 then (As 2 0 []) i_ j_ else (AP AU.c (b.Nets.getD 2 default).Pins) (i_-0) j_) 25),(61,.rowx 2 3 (fun i_ j_=>if i_<2 then (fun i_ j_=>if i_<1 then (fun _ _=>default) i_ j_ else (fun _ _=>default) (i_-1) j_) i_ j_ else (fun _ _=>default) (i_-2) j_) 48 [(0,[.s (b.Nets.getD 0 default).Name,.own 100000 2 (b.Nets.getD 0 default).Pins.length]),(1,[.s (b.Nets.getD 1 default).Name,.own 100002 2 (b.Nets.getD 1 default).Pins.length]),(2,[.s (b.Nets.getD 2 default).Name,.own 58 2 (0+(b.Nets.getD 2 default).Pins.length)])]),(100000,Z8H b),(100002,Z8M b),(200001,.cells (AC.c b) 42),(200002,Z8F),(200003,Z8Q v)]⟩ .nil (.cons au24 (.cons au24 (.cons rfl (.cons au8 (.cons au8 (.cons rfl (.cons rfl (.cons (by decide) (.cons au8 (.cons au8 .nil))))))))))<|A8<|AF ?_
 refine Aq (Cv.trans (BS (⟨[(1,tP 200001 0),(2,tP 200002 0),(3,tP 200003 0),(4,tI 2)],[(58,Z8R b),(61,Z8S b),(100000,Z8H b),(100002,Z8M b),(200001,.cells (AC.c b) 42),(200002,Z8F),(200003,Z8Q v)]⟩) lr (.cons ⟨rfl,Ao 25 (Au (Ae (c:=AU.c) (xs:=(([]:List AU):List AU)) rfl kr) (An 2 AU.c (b.Nets.getD 2 default).Pins))⟩ (.cons ⟨rfl,.rowx _ _ _ _ (.cons ⟨rfl,(rr (rr .nil))⟩ (.cons ⟨rfl,(rr (rr .nil))⟩ (.cons ⟨rfl,(rr (.cons (.own _ _ au0) .nil))⟩ .nil)))⟩ lr))) (Cv.refl _)) ?_
 refine rn ⟨[(1,tP 200001 0),(2,tP 200002 0),(3,tP 200003 0),(4,tI 3)],[(58,Z8R b),(61,Z8S b),(100000,Z8H b),(100002,Z8M b),(200001,.cells (AC.c b) 42),(200002,Z8F),(200003,Z8Q v)]⟩ ?_
 refine B7 ?_
 refine Aq (Cv.trans (CC (⟨[(1,tP 200001 0),(2,tP 200002 0),(3,tP 200003 0),(4,tI 3)],[(100004,Z8R b),(61,Z8T b),(100000,Z8H b),(100002,Z8M b),(200001,.cells (AC.c b) 42),(200002,Z8F),(200003,Z8Q v)]⟩) 58 100004 (K:=[200003,200001,200002]) hP rfl rfl kr kr) (Cv.trans (CC (⟨[(1,tP 200001 0),(2,tP 200002 0),(3,tP 200003 0),(4,tI 3)],[(100004,Z8R b),(100005,Z8T b),(100000,Z8H b),(100002,Z8M b),(200001,.cells (AC.c b) 42),(200002,Z8F),(200003,Z8U v)]⟩) 61 100005 (K:=[200003,200001,200002]) hP rfl rfl kr kr) (Cv.refl _)))<|AB<|AB ?_
 refine rn ⟨[(1,tP 200001 0),(2,tP 200002 0),(3,tP 200003 0),(4,tI 3),(40,tB (decide ((3:Int)<(b.Nets.length:Int))))],[(100000,Z8H b),(100002,Z8M b),(100004,Z8R b),(100005,Z8T b),(200001,.cells (AC.c b) 42),(200002,Z8F),(200003,Z8U v)]⟩ ?_
 have h4:(decide ((3:Int)<(b.Nets.length:Int)))=false:=(by rw [hlen];decide)
 have g4:=oF h4
 refine AL _ rfl (fun h=>absurd (h4.symm.trans h) (by decide)) (fun _ => ?_)
 refine BU<|BE ?_
 refine BE<|BV ?_
 exact ⟨_,Cv.trans (B4 [1,2,3] [100000,100002,100004,100005,200001,200002,200003] (⟨[(1,tP 200001 0),(2,tP 200002 0),(3,tP 200003 0)],[(100000,Z8H b),(100002,Z8M b),(100004,Z8R b),(100005,Z8T b),(200001,.cells (AC.c b) 42),(200002,Z8F),(200003,Z8U v)]⟩) kr) (Cv.trans (CC (⟨[(1,tP 200001 0),(2,tP 200002 0),(3,tP 200003 0)],[(100000,Z8H b),(100002,Z8M b),(100004,Z8R b),(200260,Z8T b),(200001,.cells (AC.c b) 42),(200002,Z8F),(200003,Z8V v)]⟩) 100005 200260 (K:=[200003,200001,200002]) hP rfl rfl kr kr) (Cv.trans (CC (⟨[(1,tP 200001 0),(2,tP 200002 0),(3,tP 200003 0)],[(200261,Z8H b),(100002,Z8M b),(100004,Z8R b),(200260,.rowx 2 3 (fun i_ j_=>if i_<2 then (fun i_ j_=>if i_<1 then (fun _ _=>default) i_ j_ else (fun _ _=>default) (i_-1) j_) i_ j_ else (fun _ _=>default) (i_-2) j_) 48 [(0,[.s (b.Nets.getD 0 default).Name,.own 200261 2 (b.Nets.getD 0 default).Pins.length]),(1,[.s (b.Nets.getD 1 default).Name,.own 100002 2 (b.Nets.getD 1 default).Pins.length]),(2,[.s (b.Nets.getD 2 default).Name,.own 100004 2 (b.Nets.getD 2 default).Pins.length])]),(200001,.cells (AC.c b) 42),(200002,Z8F),(200003,Z8V v)]⟩) 100000 200261 (K:=[200003,200001,200002]) hP rfl rfl kr kr) (Cv.trans (CC (⟨[(1,tP 200001 0),(2,tP 200002 0),(3,tP 200003 0)],[(200261,Z8H b),(200262,Z8M b),(100004,Z8R b),(200260,.rowx 2 3 (fun i_ j_=>if i_<2 then (fun i_ j_=>if i_<1 then (fun _ _=>default) i_ j_ else (fun _ _=>default) (i_-1) j_) i_ j_ else (fun _ _=>default) (i_-2) j_) 48 [(0,[.s (b.Nets.getD 0 default).Name,.own 200261 2 (b.Nets.getD 0 default).Pins.length]),(1,[.s (b.Nets.getD 1 default).Name,.own 200262 2 (b.Nets.getD 1 default).Pins.length]),(2,[.s (b.Nets.getD 2 default).Name,.own 100004 2 (b.Nets.getD 2 default).Pins.length])]),(200001,.cells (AC.c b) 42),(200002,Z8F),(200003,Z8V v)]⟩) 100002 200262 (K:=[200003,200001,200002]) hP rfl rfl kr kr) (Cv.trans (CC (⟨[(1,tP 200001 0),(2,tP 200002 0),(3,tP 200003 0)],[(200261,Z8H b),(200262,Z8M b),(200263,Z8R b),(200260,Z8W b),(200001,.cells (AC.c b) 42),(200002,Z8F),(200003,Z8V v)]⟩) 100004 200263 (K:=[200003,200001,200002]) hP rfl rfl kr kr) (Cv.trans (B4 [1,2,3] [200003,200001,200002,200260,200261,200262,200263] (⟨[(1,tP 200001 0),(2,tP 200002 0),(3,tP 200003 0)],[(200003,Z8V v),(200001,.cells (AC.c b) 42),(200002,Z8F),(200260,Z8W b),(200261,Z8H b),(200262,Z8M b),(200263,Z8R b)]⟩) kr) (Cv.refl _)))))),rfl,(),trivial,rfl⟩
end
section
open Go.RowKit
def Z8X:Blk:=.cells GD 42
variable (b:AC)
def Z8Y:Blk:=.cells (Sa b) 42
def Z8Z:Blk:=.row 7 b.Parts.length (H9 b) 59
def Z90:Blk:=.row 8 b.Vias.length (HN b) 87
def Z91:Blk:=.row 3 b.Waivers.length (HW b) 102
def Z92:Blk:=.cells (Ds b [.own 200260 2 3,vN,.own 30 8 b.Vias.length,vN,vN,vN,vN,vN,.own 34 3 b.Waivers.length,vN]) 42
def Z93:Blk:=.rowx 2 3 (fun i_ j_=>if i_<2 then (fun i_ j_=>if i_<1 then (fun _ _=>default) i_ j_ else (fun _ _=>default) (i_-1) j_) i_ j_ else (fun _ _=>default) (i_-2) j_) 48 [(0,(KY b)),(1,(KX b)),(2,(KW b))]
def Z94:Blk:=.row 2 (Cy b).Pins.length (AP AU.c (Cy b).Pins) 25
def Z95:Blk:=.row 2 (Cx b).Pins.length (AP AU.c (Cx b).Pins) 25
def Z96:Blk:=.row 2 (Cw b).Pins.length (AP AU.c (Cw b).Pins) 25
abbrev KJ (t_:List Cl):List Cl:=(.i b.Layers)::(.i (Gq b).Kind)::(lst 7 AQ.c (Gq b).Edges)::(.i (Gq b).R)::(Lk b)::(.own 200260 2 3)::(Nb b)::(.own 30 8 b.Vias.length)::t_
def Z97:Blk:=.cells (KJ b (VN b)) 42
def Z98:Blk:=.row 6 (AH b).length (HO b) 85
def Z99:Blk:=.cells (KJ b (RK b [vN])) 42
def Z9a:Blk:=.row 8 (Ad b).length (AP A4.c (Ad b)) 90
def Z9b:Blk:=.cells (KJ b (RM b [vN])) 42
def Z9c:Blk:=.row 5 (Aa b).length (HR b) 93
def Z9d:Blk:=.cells (KJ b (Q3 b)) 42
def Z9e:Blk:=.row 4 (AY b).length (HP b) 95
def Z9f:Blk:=.cells (KJ b (E7 b (Nf b [vN]))) 42
def Z9g:Blk:=.row 2 (AN b).length (HS b) 98
def Z9h:Blk:=.cells (KJ b (Q1 b)) 42
def Z9i:Blk:=.row 3 (AM b).length (Gm b) 100
abbrev Xa:List Cl:=(KJ b (E7 b (Ln b [.own 34 3 b.Waivers.length,.own 200112 3 (AM b).length])))
def Z9j:Blk:=.cells (Xa b) 42
def Z9k:Blk:=.row 20 (AO b).length (HQ b) 107
def lQ (b:AC):Tv:=.av (.agg (Xa b))
def hCyN3 (b:AC):List (Nat×Blk):=[(26,.row 7 b.Parts.length (AP AG.c b.Parts) 59),(200260,.rowx 2 3 (fun i_ j_=>if i_<2 then (fun i_ j_=>if i_<1 then (fun _ _=>default) i_ j_ else (fun _ _=>default) (i_-1) j_) i_ j_ else (fun _ _=>default) (i_-2) j_) 48 [(0,[.s (b.Nets.getD 0 default).Name,.own 200261 2 (b.Nets.getD 0 default).Pins.length]),(1,[.s (b.Nets.getD 1 default).Name,.own 200262 2 (b.Nets.getD 1 default).Pins.length]),(2,[.s (b.Nets.getD 2 default).Name,.own 200263 2 (b.Nets.getD 2 default).Pins.length])]),(200102,.row 6 (AH b).length (AP Ap.c (AH b)) 85),(30,.row 8 b.Vias.length (AP Bo.c b.Vias) 87),(200104,.row 8 (Ad b).length (AP A4.c (Ad b)) 90),(200106,.row 5 (Aa b).length (AP BT.c (Aa b)) 93),(200108,.row 4 (AY b).length (AP Bi.c (AY b)) 95),(200110,.row 2 (AN b).length (AP BQ.c (AN b)) 98),(200114,.row 20 (AO b).length (AP Az.c (AO b)) 107),(34,.row 3 b.Waivers.length (AP BF.c b.Waivers) 102),(200112,.row 3 (AM b).length (AP Ba.c (AM b)) 100),(200261,.row 2 (b.Nets.getD 0 default).Pins.length (AP AU.c (b.Nets.getD 0 default).Pins) 25),(200262,.row 2 (b.Nets.getD 1 default).Pins.length (AP AU.c (b.Nets.getD 1 default).Pins) 25),(200263,.row 2 (b.Nets.getD 2 default).Pins.length (AP AU.c (b.Nets.getD 2 default).Pins) 25)]
abbrev Iu (t_:List (Nat×Blk)):List (Nat×Blk):=(26,Z8Z b)::(30,Z90 b)::(34,Z91 b)::(Bk b)::(200002,Z8X)::t_
abbrev bZ:List (Nat×Blk):=(Iu b [(200003,Z9h b),(200102,Z98 b),(200104,Z9a b),(200106,Z9c b),(200108,Z9e b),(200110,Z9g b),(200112,Z9i b),(200260,Z93 b),(200261,Z94 b),(200262,Z95 b),(200263,Z96 b)])
abbrev bX:List (Nat×Blk):=(Iu b [(200003,Z9f b),(200102,Z98 b),(200104,Z9a b),(200106,Z9c b),(200108,Z9e b),(200110,Z9g b),(200260,Z93 b),(200261,Z94 b),(200262,Z95 b),(200263,Z96 b)])
abbrev bT:List (Nat×Blk):=(Iu b [(200003,Z9d b),(200102,Z98 b),(200104,Z9a b),(200106,Z9c b),(200108,Z9e b),(200260,Z93 b),(200261,Z94 b),(200262,Z95 b),(200263,Z96 b)])
abbrev bO:List (Nat×Blk):=(Iu b [(200003,Z9b b),(200102,Z98 b),(200104,Z9a b),(200106,Z9c b),(200260,Z93 b),(200261,Z94 b),(200262,Z95 b),(200263,Z96 b)])
abbrev bH:List (Nat×Blk):=(Iu b [(200003,Z99 b),(200102,Z98 b),(200104,Z9a b),(200260,Z93 b),(200261,Z94 b),(200262,Z95 b),(200263,Z96 b)])
abbrev bA:List (Nat×Blk):=(Iu b [(200003,Z97 b),(200102,Z98 b),(200260,Z93 b),(200261,Z94 b),(200262,Z95 b),(200263,Z96 b)])
abbrev aR:List (Nat×Blk):=(Iu b [(200003,Z92 b),(200260,Z93 b),(200261,Z94 b),(200262,Z95 b),(200263,Z96 b)])
abbrev KK (t_:List Cl):List Cl:=(.i b.Layers)::(.i (Aj b.Outline).Kind)::(lst 7 AQ.c (Aj b.Outline).Edges)::(.i (Aj b.Outline).R)::(Lk b)::(.own 200260 2 3)::(Nb b)::(.own 30 8 b.Vias.length)::t_
set_option maxHeartbeats 4000000 in
theorem qCyN3 (b:AC) (hc:CM b) (hlen:(b.Nets.length:Int)=3):Frs Try.prog 12 [.agg (AC.c b)] (fun _:Unit=>True) (fun _=>lQ b) (fun _=>hCyN3 b):=by
 refine Jl Try.func12 rfl kr kr kr fun W0 M0 X hP hFl => ?_
 have h0:=hc.lParts
 have h1:=hc.lNets
 have h2:=hc.lTracks
 have h3:=hc.lVias
 have h4:=hc.lPours
 have h5:=hc.lKeeps
 have h6:=hc.lSlots
 have h7:=hc.lClasses
 have h8:=hc.lWaivers
 have h9:=hc.lMatches
 have h10:=hc.lRules
 have hr:=hc.rok
 refine AB<|on<|AB ?_
 refine dw [23,27,31] [(22,Bv b.Outline)] [A0 (Bv b.Outline).2.1,0=0,0+b.Parts.length<=maxLen,(0+b.Parts.length)*72<=140737488355328,0=0,0+b.Vias.length<=maxLen,(0+b.Vias.length)*72<=140737488355328,0=0,0+b.Waivers.length<=maxLen,(0+b.Waivers.length)*32<=140737488355328] ⟨I6,[(GJ b),(2,Z8X),(XY b),(26,.row 7 (0+b.Parts.length) (fun i_ j_=>if i_<0 then (As 7 0 []) i_ j_ else (AP AG.c b.Parts) (i_-0) j_) 59),(30,.row 8 (0+b.Vias.length) (fun i_ j_=>if i_<0 then (As 8 0 []) i_ j_ else (AP Bo.c b.Vias) (i_-0) j_) 87),(34,.row 3 (0+b.Waivers.length) (fun i_ j_=>if i_<0 then (As 3 0 []) i_ j_ else (AP BF.c b.Waivers) (i_-0) j_) 102)]⟩ (.cons (Dm b.Outline au27) .nil) (.cons rfl (.cons rfl (.cons au4 (.cons au4 (.cons rfl (.cons au4 (.cons au4 (.cons rfl (.cons au4 (.cons au4 .nil))))))))))<|AF ?_
 refine Aq (Cv.trans (BS (⟨I6,[(GJ b),(2,Z8X),(3,Z8Y b),(26,Z8Z b),(30,Z90 b),(34,Z91 b)]⟩) lr (.cons ⟨rfl,.refl _⟩ (.cons ⟨rfl,.refl _⟩ (.cons ⟨rfl,.cells _ (rr4 (.cons (.own _ _ au0) (rr (rr (.cons (.own _ _ au0) (rr (rr (rr (rr (rr (.cons (.own _ _ au0) (rr .nil))))))))))))⟩ (.cons ⟨rfl,Ao 59 (Au (Ae (c:=AG.c) (xs:=(([]:List AG):List AG)) rfl kr) (An 7 AG.c b.Parts))⟩ (.cons ⟨rfl,Ao 87 (Au (Ae (c:=Bo.c) (xs:=(([]:List Bo):List Bo)) rfl kr) (An 8 Bo.c b.Vias))⟩ (.cons ⟨rfl,Ao 102 (Au (Ae (c:=BF.c) (xs:=(([]:List BF):List BF)) rfl kr) (An 3 BF.c b.Waivers))⟩ .nil))))))) (Cv.refl _))<|AB<|AB ?_
 refine rn ⟨Rx,[(GJ b),(2,Z8X),(3,Z8Y b),(26,Z8Z b),(30,Z90 b),(34,Z91 b)]⟩ ?_
 refine Aq (Cv.trans (vr 3 200003 (K:=[]) hP) (Cv.trans (vr 1 200001 (K:=[]) hP) (Cv.trans (wr (⟨R4,[(Bk b),(200002,Z8X),(200003,Z8Y b),(26,Z8Z b),(30,Z90 b),(34,Z91 b)]⟩) 2 200002 (K:=[]) hP) (Cv.refl _)))) ?_
 refine B5 (ι:=Unit) (I:=fun _=>True) 200003 (Xg b) 42 (mkB 15 5) [1,2,3,4] [200001,200002] (fun _=>Bh) (fun _=>lEB 15 5 (.own 200260 2 3)) (fun _=>[(Bk b),D2,(200260,.rowx 2 3 (fun i_ j_=>if i_<2 then (fun i_ j_=>if i_<1 then (fun _ _=>default) i_ j_ else (fun _ _=>default) (i_-1) j_) i_ j_ else (fun _ _=>default) (i_-2) j_) 48 [(0,[.s (b.Nets.getD 0 default).Name,.own 200261 2 (b.Nets.getD 0 default).Pins.length]),(1,[.s (b.Nets.getD 1 default).Name,.own 200262 2 (b.Nets.getD 1 default).Pins.length]),(2,[.s (b.Nets.getD 2 default).Name,.own 200263 2 (b.Nets.getD 2 default).Pins.length])]),(200261,.row 2 (b.Nets.getD 0 default).Pins.length (AP AU.c (b.Nets.getD 0 default).Pins) 25),(200262,.row 2 (b.Nets.getD 1 default).Pins.length (AP AU.c (b.Nets.getD 1 default).Pins) 25),(200263,.row 2 (b.Nets.getD 2 default).Pins.length (AP AU.c (b.Nets.getD 2 default).Pins) 25)]) (fun _=>⟨Bh,[(200003,Z92 b),(Bk b),(200002,Z8X),(200260,Z93 b),(200261,Z94 b),(200262,Z95 b),(200263,Z96 b),(26,Z8Z b),(30,Z90 b),(34,Z91 b)]⟩) hP hFl (gCxN3 b hc hlen kr) (fun _ _ => ?_)
 refine AF ?_
 refine Aq (Cv.trans (ck (⟨Bh,(aR b)⟩)) (Cv.refl _))<|AB<|AB ?_
 refine rn ⟨R3,(aR b)⟩ ?_
 refine B5 (ι:=Unit) (I:=fun _=>True) 200003 [.i b.Layers,.i (Aj b.Outline).Kind,lst 7 AQ.c (Aj b.Outline).Edges,.i (Aj b.Outline).R,.own 26 7 b.Parts.length,.own 200260 2 3,vN,.own 30 8 b.Vias.length,vN,vN,vN,vN,vN,.own 34 3 b.Waivers.length,vN] 42 (mkB 15 6) [1,2,3,5] [200001,200002] (fun _=>Bh) (fun _=>lEB 15 6 (RV b)) (fun _=>(Rn b)) (fun _=>⟨Bh,[(200003,Z97 b),(Bk b),(200002,Z8X),(200102,Z98 b),(26,Z8Z b),(30,Z90 b),(34,Z91 b),(200260,Z93 b),(200261,Z94 b),(200262,Z95 b),(200263,Z96 b)]⟩) hP hFl (Jk b hc kr) (fun _ _ => ?_)
 refine AF ?_
 refine Aq (Cv.trans (ck (⟨Bh,(bA b)⟩)) (Cv.refl _))<|AB<|AB ?_
 refine rn ⟨R2,(bA b)⟩ ?_
 refine B5 (ι:=Unit) (I:=fun _=>True) 200003 (KK b (VN b)) 42 (mkB 15 8) [1,2,3,7] [200001,200002] (fun _=>Bh) (fun _=>lEB 15 8 (Na b)) (fun _=>[(Bk b),D2,(200104,.row 8 (Ad b).length (AP A4.c (Ad b)) 90)]) (fun _=>⟨Bh,[(200003,Z99 b),(Bk b),(200002,Z8X),(200104,Z9a b),(26,Z8Z b),(30,Z90 b),(34,Z91 b),(200102,Z98 b),(200260,Z93 b),(200261,Z94 b),(200262,Z95 b),(200263,Z96 b)]⟩) hP hFl (U6 b hc kr) (fun _ _ => ?_)
 refine AF ?_
 refine Aq (Cv.trans (ck (⟨Bh,(bH b)⟩)) (Cv.refl _))<|AB<|AB ?_
 refine rn ⟨R1,(bH b)⟩ ?_
 refine B5 (ι:=Unit) (I:=fun _=>True) 200003 (KK b (RK b [vN])) 42 (mkB 15 9) [1,2,3,9] [200001,200002] (fun _=>Bh) (fun _=>lEB 15 9 (RU b)) (fun _=>(Rm b)) (fun _=>⟨Bh,[(200003,Z9b b),(Bk b),(200002,Z8X),(200106,Z9c b),(26,Z8Z b),(30,Z90 b),(34,Z91 b),(200102,Z98 b),(200104,Z9a b),(200260,Z93 b),(200261,Z94 b),(200262,Z95 b),(200263,Z96 b)]⟩) hP hFl (LU b hc kr) (fun _ _ => ?_)
 refine AF ?_
 refine Aq (Cv.trans (ck (⟨Bh,(bO b)⟩)) (Cv.refl _))<|AB<|AB ?_
 refine rn ⟨R8,(bO b)⟩ ?_
 refine B5 (ι:=Unit) (I:=fun _=>True) 200003 (KK b (RM b [vN])) 42 (mkB 15 10) [1,2,3,11] [200001,200002] (fun _=>Bh) (fun _=>lEB 15 10 (RS b)) (fun _=>(Rl b)) (fun _=>⟨Bh,[(200003,Z9d b),(Bk b),(200002,Z8X),(200108,Z9e b),(26,Z8Z b),(30,Z90 b),(34,Z91 b),(200102,Z98 b),(200104,Z9a b),(200106,Z9c b),(200260,Z93 b),(200261,Z94 b),(200262,Z95 b),(200263,Z96 b)]⟩) hP hFl (LS b hc kr) (fun _ _ => ?_)
 refine AF ?_
 refine Aq (Cv.trans (ck (⟨Bh,(bT b)⟩)) (Cv.refl _))<|AB<|AB ?_
 refine rn ⟨R7,(bT b)⟩ ?_
 refine B5 (ι:=Unit) (I:=fun _=>True) 200003 (KK b (Q3 b)) 42 (mkB 15 11) [1,2,3,13] [200001,200002] (fun _=>Bh) (fun _=>lEB 15 11 (RR b)) (fun _=>(Rk b)) (fun _=>⟨Bh,[(200003,Z9f b),(Bk b),(200002,Z8X),(200110,Z9g b),(26,Z8Z b),(30,Z90 b),(34,Z91 b),(200102,Z98 b),(200104,Z9a b),(200106,Z9c b),(200108,Z9e b),(200260,Z93 b),(200261,Z94 b),(200262,Z95 b),(200263,Z96 b)]⟩) hP hFl (IM b hc kr) (fun _ _ => ?_)
 refine AF ?_
 refine Aq (Cv.trans (ck (⟨Bh,(bX b)⟩)) (Cv.refl _))<|AB<|AB ?_
 refine rn ⟨R6,(bX b)⟩ ?_
 refine B5 (ι:=Unit) (I:=fun _=>True) 200003 (KK b (E7 b (Nf b [vN]))) 42 (mkB 15 14) [1,2,3,14] [200001,200002] (fun _=>Bh) (fun _=>lEB 15 14 (RQ b)) (fun _=>[(Bk b),D2,(Rq b)]) (fun _=>⟨Bh,[(200003,Z9h b),(Bk b),(200002,Z8X),(200112,Z9i b),(26,Z8Z b),(30,Z90 b),(34,Z91 b),(200102,Z98 b),(200104,Z9a b),(200106,Z9c b),(200108,Z9e b),(200110,Z9g b),(200260,Z93 b),(200261,Z94 b),(200262,Z95 b),(200263,Z96 b)]⟩) hP hFl (IL b hc kr) (fun _ _ => ?_)
 refine AF ?_
 refine Aq (Cv.trans (ck (⟨Bh,(bZ b)⟩)) (Cv.refl _))<|AB<|AB ?_
 refine rn ⟨R5,(bZ b)⟩ ?_
 refine B5 (ι:=Unit) (I:=fun _=>True) 200003 (KK b (Q1 b)) 42 (mkB 15 12) [1,2,3,16] [200001,200002] (fun _=>Bh) (fun _=>lEB 15 12 (RX b)) (fun _=>[(Bk b),D2,(Rr b)]) (fun _=>⟨Bh,[(200003,Z9j b),(Bk b),(200002,Z8X),(200114,Z9k b),(26,Z8Z b),(30,Z90 b),(34,Z91 b),(200102,Z98 b),(200104,Z9a b),(200106,Z9c b),(200108,Z9e b),(200110,Z9g b),(200112,Z9i b),(200260,Z93 b),(200261,Z94 b),(200262,Z95 b),(200263,Z96 b)]⟩) hP hFl (LT b hc kr) (fun _ _ => ?_)
 refine AF ?_
 refine Aq (Cv.trans (ck (⟨Bh,(Iu b [(200003,Z9j b),(200102,Z98 b),(200104,Z9a b),(200106,Z9c b),(200108,Z9e b),(200110,Z9g b),(200112,Z9i b),(200114,Z9k b),(200260,Z93 b),(200261,Z94 b),(200262,Z95 b),(200263,Z96 b)])⟩)) (Cv.refl _))<|AB ?_
 refine rn ⟨Iz,[(26,Z8Z b),(30,Z90 b),(34,Z91 b),(200002,Z9j b),(200102,Z98 b),(200104,Z9a b),(200106,Z9c b),(200108,Z9e b),(200110,Z9g b),(200112,Z9i b),(200114,Z9k b),(200260,Z93 b),(200261,Z94 b),(200262,Z95 b),(200263,Z96 b)]⟩<|Ac ?_
 refine ⟨_,Cv.trans (ck (⟨Iz,[(26,Z8Z b),(200260,Z93 b),(200102,Z98 b),(30,Z90 b),(200104,Z9a b),(200106,Z9c b),(200108,Z9e b),(200110,Z9g b),(200114,Z9k b),(34,Z91 b),(200112,Z9i b),(200261,Z94 b),(200262,Z95 b),(200263,Z96 b),(200002,Z9j b)]⟩)) (Cv.refl _),.inl rfl,lQ b,by kernel_rfl,kP (m:=[(200002,.cells (KK b (E7 b (Ln b [.own 34 3 b.Waivers.length,.own 200112 3 (AM b).length]))) 42)]) kr⟩
end
section
open Go.RowKit
def Z9l:Blk:=.cells GD 42
variable (b:AC) (q:C5)
def Z9m:Blk:=.row 7 b.Parts.length (H9 b) 59
def Z9n:Blk:=.rowx 2 3 (fun i_ j_=>if i_<2 then (fun i_ j_=>if i_<1 then (fun _ _=>default) i_ j_ else (fun _ _=>default) (i_-1) j_) i_ j_ else (fun _ _=>default) (i_-2) j_) 48 [(0,(KY b)),(1,(KX b)),(2,(KW b))]
def Z9o:Blk:=.row 6 (AH b).length (HO b) 85
def Z9p:Blk:=.row 8 b.Vias.length (HN b) 87
def Z9q:Blk:=.row 8 (Ad b).length (AP A4.c (Ad b)) 90
def Z9r:Blk:=.row 5 (Aa b).length (HR b) 93
def Z9s:Blk:=.row 4 (AY b).length (HP b) 95
def Z9t:Blk:=.row 2 (AN b).length (HS b) 98
def Z9u:Blk:=.row 20 (AO b).length (HQ b) 107
def Z9v:Blk:=.row 3 b.Waivers.length (HW b) 102
def Z9w:Blk:=.row 3 (AM b).length (Gm b) 100
def Z9x:Blk:=.row 2 (Cy b).Pins.length (AP AU.c (Cy b).Pins) 25
def Z9y:Blk:=.row 2 (Cx b).Pins.length (AP AU.c (Cx b).Pins) 25
def Z9z:Blk:=.row 2 (Cw b).Pins.length (AP AU.c (Cw b).Pins) 25
def Z9A:Blk:=.cells (Xa b) 42
def Z9B:Blk:=.row 2 ((Cy b).Pins++[AU.mk (Ce q) ({ data := #[80,49] }:ByteArray)]).length (AP AU.c ((Cy b).Pins++[AU.mk (Ce q) ({ data := #[80,49] }:ByteArray)])) 25
def Z9C:Blk:=.rowx 2 3 (fun i_ j_=>if i_<2 then (fun i_ j_=>if i_<1 then (fun _ _=>default) i_ j_ else (fun _ _=>default) (i_-1) j_) i_ j_ else (fun _ _=>default) (i_-2) j_) 48 [(0,[.s (Cy b).Name,.own 163 2 ((Cy b).Pins++[AU.mk (Ce q) ({ data := #[80,49] }:ByteArray)]).length]),(1,(KX b)),(2,(KW b))]
def Z9D:Blk:=.row 2 ((Cx b).Pins++[AU.mk (Ce q) ({ data := #[80,49] }:ByteArray)]).length (AP AU.c ((Cx b).Pins++[AU.mk (Ce q) ({ data := #[80,49] }:ByteArray)])) 25
def Z9E:Blk:=.rowx 2 3 (fun i_ j_=>if i_<2 then (fun i_ j_=>if i_<1 then (fun _ _=>default) i_ j_ else (fun _ _=>default) (i_-1) j_) i_ j_ else (fun _ _=>default) (i_-2) j_) 48 [(0,(KY b)),(1,[.s (Cx b).Name,.own 163 2 ((Cx b).Pins++[AU.mk (Ce q) ({ data := #[80,49] }:ByteArray)]).length]),(2,(KW b))]
def Z9F:Blk:=.row 2 ((Cw b).Pins++[AU.mk (Ce q) ({ data := #[80,49] }:ByteArray)]).length (AP AU.c ((Cw b).Pins++[AU.mk (Ce q) ({ data := #[80,49] }:ByteArray)])) 25
def Z9G:Blk:=.rowx 2 3 (fun i_ j_=>if i_<2 then (fun i_ j_=>if i_<1 then (fun _ _=>default) i_ j_ else (fun _ _=>default) (i_-1) j_) i_ j_ else (fun _ _=>default) (i_-2) j_) 48 [(0,(KY b)),(1,(KX b)),(2,[.s (Cw b).Name,.own 163 2 ((Cw b).Pins++[AU.mk (Ce q) ({ data := #[80,49] }:ByteArray)]).length])]
def NE (b:AC) (q:C5):AC:=bif decide (((Int.tmod (AK q.e2 64) ((3:Nat):Int)).toNat:Nat)=0) then (AC.mk b.Layers (Aj b.Outline) b.Parts [A7.mk (b.Nets.getD 0 default).Name ((b.Nets.getD 0 default).Pins++[AU.mk (BI (AK q.e1 48)) ({ data := #[80,49] }:ByteArray)]),b.Nets.getD 1 default,b.Nets.getD 2 default] (AH b) b.Vias (Ad b) (Aa b) (AY b) (AN b) (AO b) b.Waivers (AM b)) else (bif decide (((Int.tmod (AK q.e2 64) ((3:Nat):Int)).toNat:Nat)=1) then (AC.mk b.Layers (Aj b.Outline) b.Parts [b.Nets.getD 0 default,A7.mk (b.Nets.getD 1 default).Name ((b.Nets.getD 1 default).Pins++[AU.mk (BI (AK q.e1 48)) ({ data := #[80,49] }:ByteArray)]),b.Nets.getD 2 default] (AH b) b.Vias (Ad b) (Aa b) (AY b) (AN b) (AO b) b.Waivers (AM b)) else (AC.mk b.Layers (Aj b.Outline) b.Parts [b.Nets.getD 0 default,b.Nets.getD 1 default,A7.mk (b.Nets.getD 2 default).Name ((b.Nets.getD 2 default).Pins++[AU.mk (BI (AK q.e1 48)) ({ data := #[80,49] }:ByteArray)])] (AH b) b.Vias (Ad b) (Aa b) (AY b) (AN b) (AO b) b.Waivers (AM b)))
def cOddN:CT:=(9,(Nn b q),.val [] (.av (.agg (AC.c (NE b q)))))
abbrev KH (t_:List (Nat×Blk)):List (Nat×Blk):=(4,Z9l)::(5,Z9A b)::(26,Z9m b)::(30,Z9p b)::(34,Z9v b)::t_
abbrev J0:List (Nat×Blk):=(KH b [(200102,Z9o b),(200104,Z9q b),(200106,Z9r b),(200108,Z9s b),(200110,Z9t b),(200112,Z9w b),(200114,Z9u b),(200260,Z9n b),(200261,Z9x b),(200262,Z9y b),(200263,Z9z b)])
abbrev Ly (t_:List (Nat×Blk)):List (Nat×Blk):=(4,Z9A b)::(26,Z9m b)::(30,Z9p b)::(34,Z9v b)::(200102,Z9o b)::(200104,Z9q b)::(200106,Z9r b)::(200108,Z9s b)::(200110,Z9t b)::(200112,Z9w b)::(200114,Z9u b)::t_
theorem au16 {p:Prop} (h:p:=by first | (with_reducible exact hc) | (with_reducible exact hlen) | (with_reducible exact hN) | (with_reducible exact hK) | (with_reducible exact hN.1) | (with_reducible exact hK.1) | with_reducible assumption | omega | decide | (simp only [List.length_cons,List.length_nil,List.length_append];omega) | assumption):p:=h
set_option maxHeartbeats 40000000 in
theorem pOddN (b:AC) (q:C5) (hc:CM b) (hq:AK q.e0 26=7) (hlen:(b.Nets.length:Int)=3):PuP 9 (cOddN b q).2.1 (.av (.agg (AC.c (NE b q)))):=by
 refine pwf Try.func9 fun W0 M0 => ?_
 have hl0:=hc.lParts
 have hl1:=hc.lNets
 have hl2:=hc.lTracks
 have hl3:=hc.lVias
 have hl4:=hc.lPours
 have hl5:=hc.lKeeps
 have hl6:=hc.lSlots
 have hl7:=hc.lClasses
 have hl8:=hc.lWaivers
 have hl9:=hc.lMatches
 have hl10:=hc.lRules
 have hN:0<=AK q.e1 48/\AK q.e1 48<48:=Ik _ _ (by decide) (by decide)
 have hK0:=Ik q.e2 64 (by decide) (by decide)
 have hK:0<=AK q.e2 64/\AK q.e2 64<64:=hK0
 have hb0:=hc.pin 0
 have hb1:=hc.pin 1
 have hb2:=hc.pin 2
 refine AB<|rn ⟨N5,[(2,.cells (AC.c b) 42),(Du q),(4,Z9l)]⟩<|AB ?_
 refine Dc ?_
 refine FS DV 1 [] [] [] [3,4,11] [3,4] [] ⟨(OB b),[(Du q),(4,Z9l)]⟩ .nil kr .nil ?_
 refine Hs (ι:=Unit) (I:=fun _=>True) (fun _=>⟨[(3,tP 3 0),(4,tP 4 0),(N7 b),(12,.av (.agg (Xa b)))],[(26,Z9m b),(200260,Z9n b),(200102,Z9o b),(30,Z9p b),(200104,Z9q b),(200106,Z9r b),(200108,Z9s b),(200110,Z9t b),(200114,Z9u b),(34,Z9v b),(200112,Z9w b),(200261,Z9x b),(200262,Z9y b),(200263,Z9z b),(Du q),(4,Z9l)]⟩) hk0 ⟨⟨_,_,rfl,rfl,⟨fun _=>default,by kernel_rfl⟩,by kernel_rfl⟩,fun _ _=>by kernel_rfl,rfl,rfl⟩ (qCyN3 b au16 au16) (fun _=>by kernel_rfl) (fun _=>by kernel_rfl) (fun _ _ => ?_)
 refine Ea DV [] [] [] [3,4,5] [3,4,5,26,30,34,200102,200104,200106,200108,200110,200112,200114,200260,200261,200262,200263] [] ⟨N4,[(Du q),(4,Z9l),(5,Z9A b),(26,Z9m b),(30,Z9p b),(34,Z9v b),(200102,Z9o b),(200104,Z9q b),(200106,Z9r b),(200108,Z9s b),(200110,Z9t b),(200112,Z9w b),(200114,Z9u b),(200260,Z9n b),(200261,Z9x b),(200262,Z9y b),(200263,Z9z b)]⟩ .nil kr .nil<|AF<|AB ?_
 refine oc [(15,Ej q.e1 48)] [0<=(1:Int)/\(1:Int)<(3:Int),A0 (Ej q.e1 48).2.1] (.cons (GR q.e1 48 au16) .nil) (.cons (by decide) (.cons rfl .nil))<|AF<|AB ?_
 refine oc [(18,Ej q.e2 64)] [0<=(2:Int)/\(2:Int)<(3:Int),A0 (Ej q.e2 64).2.1] (.cons (GR q.e2 64 au16) .nil) (.cons (by decide) (.cons rfl .nil))<|AF ?_
 refine AB<|AB ?_
 refine oc [(21,Ej q.e0 26)] [0<=(0:Int)/\(0:Int)<(3:Int),A0 (Ej q.e0 26).2.1] (.cons (GR q.e0 26 au16) .nil) (.cons (by decide) (.cons rfl .nil))<|AF ?_
 refine AX<|AB ?_
 refine rn ⟨(OM q),(J0 b)⟩ ?_
 have h1:(SF q)=false:=(decide_eq_false fun e=>absurd (hq.symm.trans e) (by decide))
 have g1:=oF h1
 refine AL _ rfl (fun h=>absurd (h1.symm.trans h) (by decide)) (fun _ => ?_)
 refine AB<|rn ⟨(OL q),(J0 b)⟩ ?_
 have h2:(SE q)=false:=(decide_eq_false fun e=>absurd (hq.symm.trans e) (by decide))
 have g2:=oF h2
 refine AL _ rfl (fun h=>absurd (h2.symm.trans h) (by decide)) (fun _ => ?_)
 refine AB<|rn ⟨(OJ q),(J0 b)⟩ ?_
 have h3:(SD q)=false:=(decide_eq_false fun e=>absurd (hq.symm.trans e) (by decide))
 have g3:=oF h3
 refine AL _ rfl (fun h=>absurd (h3.symm.trans h) (by decide)) (fun _ => ?_)
 refine AB<|rn ⟨(OI q),(J0 b)⟩ ?_
 have h4:(SC q)=false:=(decide_eq_false fun e=>absurd (hq.symm.trans e) (by decide))
 have g4:=oF h4
 refine AL _ rfl (fun h=>absurd (h4.symm.trans h) (by decide)) (fun _ => ?_)
 refine AB<|rn ⟨(OG q),(J0 b)⟩ ?_
 have h5:(SB q)=false:=(decide_eq_false fun e=>absurd (hq.symm.trans e) (by decide))
 have g5:=oF h5
 refine AL _ rfl (fun h=>absurd (h5.symm.trans h) (by decide)) (fun _ => ?_)
 refine AB<|rn ⟨(OQ q),(J0 b)⟩ ?_
 have h6:(SA q)=false:=(decide_eq_false fun e=>absurd (hq.symm.trans e) (by decide))
 have g6:=oF h6
 refine AL _ rfl (fun h=>absurd (h6.symm.trans h) (by decide)) (fun _ => ?_)
 refine AB<|rn ⟨(OP q),(J0 b)⟩ ?_
 have h7:(R9 q)=false:=(decide_eq_false fun e=>absurd (hq.symm.trans e) (by decide))
 have g7:=oF h7
 refine AL _ rfl (fun h=>absurd (h7.symm.trans h) (by decide)) (fun _ => ?_)
 refine AB<|rn ⟨(OO q),(J0 b)⟩ ?_
 have h8:(OD q)=true:=(decide_eq_true hq)
 have g8:=oT h8
 refine AL _ rfl (fun _ => ?_) (fun h=>absurd (h8.symm.trans h) (by decide))
 refine AB<|rn ⟨(B6 q [(145,tB (decide ((0:Int)<((3:Nat):Int))))]),(J0 b)⟩ ?_
 have h9:(decide ((0:Int)<((3:Nat):Int)))=true:=(by decide)
 have g9:=oT h9
 refine AL _ rfl (fun _ => ?_) (fun h=>absurd (h9.symm.trans h) (by decide))
 refine AB<|dw [] [] [(((3:Nat):Int):Int)≠0,0<=(Int.tmod (AK q.e2 64) ((3:Nat):Int):Int)/\(Int.tmod (AK q.e2 64) ((3:Nat):Int):Int)<((3:Nat):Int)] ⟨(KF q [(8,.av (.one (.rptr 200260 2 (Int.tmod (AK q.e2 64) ((3:Nat):Int)).toNat 0)))]),(J0 b)⟩ .nil (.cons au14 (.cons (by first | decide | omega | (have:=tmb hK.1 (n:=((3:Nat):Int)) (by decide);omega)) .nil))<|AF ?_
 refine NC (decide (((Int.tmod (AK q.e2 64) ((3:Nat):Int)).toNat:Nat)=0)) (fun h10 => ?_) (fun h10 => ?_)
 ·have g10:=oT h10
  (try rw [g10])
  refine dw [] [(160,CX (AK q.e1 48))] [A0 (CX (AK q.e1 48)).2.1,(b.Nets.getD 0 default).Pins.length=(b.Nets.getD 0 default).Pins.length,(b.Nets.getD 0 default).Pins.length+1<=maxLen,((b.Nets.getD 0 default).Pins.length+1)*32<=140737488355328] ⟨DW,(KH b [(163,.row 2 ((Cy b).Pins.length+1) (fun i_ j_=>if i_<(Cy b).Pins.length then (AP AU.c (Cy b).Pins) i_ j_ else (As 2 1 [.s (Ce q),.s ({ data := #[80,49] }:ByteArray)]) (i_-(Cy b).Pins.length) j_) 25),(200102,Z9o b),(200104,Z9q b),(200106,Z9r b),(200108,Z9s b),(200110,Z9t b),(200112,Z9w b),(200114,Z9u b),(200260,.rowx 2 3 (fun i_ j_=>if i_<2 then (fun i_ j_=>if i_<1 then (fun _ _=>default) i_ j_ else (fun _ _=>default) (i_-1) j_) i_ j_ else (fun _ _=>default) (i_-2) j_) 48 [(0,[.s (Cy b).Name,.own 163 2 ((Cy b).Pins.length+1)]),(1,(KX b)),(2,(KW b))]),(200262,Z9y b),(200263,Z9z b)])⟩ (.cons (EE (AK q.e1 48) au16) .nil) (.cons rfl (.cons rfl (.cons au8 (.cons au8 .nil))))<|A8<|AF ?_
  refine Aq (Cv.trans (BS (⟨DW,(KH b [(163,Z9B b q),(200102,Z9o b),(200104,Z9q b),(200106,Z9r b),(200108,Z9s b),(200110,Z9t b),(200112,Z9w b),(200114,Z9u b),(200260,Z9C b q),(200262,Z9y b),(200263,Z9z b)])⟩) lr (.cons ⟨rfl,.refl _⟩ (.cons ⟨rfl,.refl _⟩ (.cons ⟨rfl,.refl _⟩ (.cons ⟨rfl,.refl _⟩ (.cons ⟨rfl,.refl _⟩ (.cons ⟨rfl,Ao 25 (Au (An 2 AU.c (b.Nets.getD 0 default).Pins) (Ae (c:=AU.c) (xs:=([AU.mk (BI (AK q.e1 48)) ({ data := #[80,49] }:ByteArray)]:List AU)) rfl kr))⟩ (.cons ⟨rfl,.refl _⟩ (.cons ⟨rfl,.refl _⟩ (.cons ⟨rfl,.refl _⟩ (.cons ⟨rfl,.refl _⟩ (.cons ⟨rfl,.refl _⟩ (.cons ⟨rfl,.refl _⟩ (.cons ⟨rfl,.refl _⟩ (.cons ⟨rfl,.rowx _ _ _ _ (.cons ⟨rfl,(rr (.cons (.own _ _ au0) .nil))⟩ (.cons ⟨rfl,(rr2 .nil)⟩ (.cons ⟨rfl,(rr2 .nil)⟩ .nil)))⟩ lr))))))))))))))) (Cv.refl _))<|AB ?_
  refine rn ⟨[(4,tP 4 0)],[(4,Z9A b),(26,Z9m b),(30,Z9p b),(34,Z9v b),(163,Z9B b q),(200102,Z9o b),(200104,Z9q b),(200106,Z9r b),(200108,Z9s b),(200110,Z9t b),(200112,Z9w b),(200114,Z9u b),(200260,Z9C b q),(200262,Z9y b),(200263,Z9z b)]⟩<|Ac ?_
  exact zy (Cv.trans (vf 163 hk0) (Cv.trans (vf 200262 hk0) (Cv.trans (Hq (⟨[(4,tP 4 0)],(Ly b [(200260,.rowx 2 3 (fun i_ j_=>if i_<2 then (fun i_ j_=>if i_<1 then (fun _ _=>default) i_ j_ else (fun _ _=>default) (i_-1) j_) i_ j_ else (fun _ _=>default) (i_-2) j_) 48 [(0,[.s (Cy b).Name,lst 2 AU.c ((Cy b).Pins++[AU.mk (Ce q) ({ data := #[80,49] }:ByteArray)])]),(1,(A7.c (Cx b))),(2,(A7.c (Cw b)))])])⟩) 200263 hk0) (Cv.trans (G0 (⟨[(4,tP 4 0)],(Ly b [(200260,.row 2 3 (As 2 3 [.s (Cy b).Name,lst 2 AU.c ((Cy b).Pins++[AU.mk (Ce q) ({ data := #[80,49] }:ByteArray)]),.s (Cx b).Name,lst 2 AU.c (Cx b).Pins,.s (Cw b).Name,lst 2 AU.c (Cw b).Pins]) 48)])⟩) 200260 2 3 (fun i_ j_=>if i_<2 then (fun i_ j_=>if i_<1 then (fun _ _=>default) i_ j_ else (fun _ _=>default) (i_-1) j_) i_ j_ else (fun _ _=>default) (i_-2) j_) 48 [[.s (b.Nets.getD 0 default).Name,lst 2 AU.c ((b.Nets.getD 0 default).Pins++[AU.mk (BI (AK q.e1 48)) ({ data := #[80,49] }:ByteArray)])],(A7.c (b.Nets.getD 1 default)),(A7.c (b.Nets.getD 2 default))] kr kr kr kr) (Cv.trans (BS (⟨[(4,tP 4 0)],[(4,.cells (Ds b [.own 200260 2 ([A7.mk (Cy b).Name ((Cy b).Pins++[AU.mk (Ce q) ({ data := #[80,49] }:ByteArray)]),b.Nets.getD 1 default,b.Nets.getD 2 default].length),.own 200102 6 (AH b).length,.own 30 8 b.Vias.length,.own 200104 8 (Ad b).length,.own 200106 5 (Aa b).length,.own 200108 4 (AY b).length,.own 200110 2 (AN b).length,.own 200114 20 (AO b).length,.own 34 3 b.Waivers.length,.own 200112 3 (AM b).length]) 42),(26,Z9m b),(30,Z9p b),(34,Z9v b),(200102,Z9o b),(200104,Z9q b),(200106,Z9r b),(200108,Z9s b),(200110,Z9t b),(200112,Z9w b),(200114,Z9u b),(200260,.row 2 ([A7.mk (Cy b).Name ((Cy b).Pins++[AU.mk (Ce q) ({ data := #[80,49] }:ByteArray)]),b.Nets.getD 1 default,b.Nets.getD 2 default].length) (AP A7.c [A7.mk (Cy b).Name ((Cy b).Pins++[AU.mk (Ce q) ({ data := #[80,49] }:ByteArray)]),b.Nets.getD 1 default,b.Nets.getD 2 default]) 48)]⟩) lr (.cons ⟨rfl,.cells _ (rr5 (.cons (.own _ _ au0) (rr (rr (rr (rr (rr (rr (rr (rr (rr .nil)))))))))))⟩ (.cons ⟨rfl,.refl _⟩ (.cons ⟨rfl,.refl _⟩ (.cons ⟨rfl,.refl _⟩ (.cons ⟨rfl,.refl _⟩ (.cons ⟨rfl,.refl _⟩ (.cons ⟨rfl,.refl _⟩ (.cons ⟨rfl,.refl _⟩ (.cons ⟨rfl,.refl _⟩ (.cons ⟨rfl,.refl _⟩ (.cons ⟨rfl,.refl _⟩ (.cons ⟨rfl,Ao 48 (Ae (c:=A7.c) (xs:=([A7.mk (b.Nets.getD 0 default).Name ((b.Nets.getD 0 default).Pins++[AU.mk (BI (AK q.e1 48)) ({ data := #[80,49] }:ByteArray)]),b.Nets.getD 1 default,b.Nets.getD 2 default]:List A7)) rfl kr)⟩ .nil))))))))))))) (Cv.trans (Bu [26,200260,200102,30,200104,200106,200108,200110,200114,34,200112] hk0) (Cv.refl _))))))) (by simp only [NE,h1,h2,h3,h4,h5,h6,h7,h8,h9,h10,cond_true,cond_false] <;> kernel_rfl)
 have g10:=oF h10
 refine NC (decide (((Int.tmod (AK q.e2 64) ((3:Nat):Int)).toNat:Nat)=1)) (fun h11 => ?_) (fun h11 => ?_)
 ·have g11:=oT h11
  (try rw [g11])
  refine dw [] [(160,CX (AK q.e1 48))] [A0 (CX (AK q.e1 48)).2.1,(b.Nets.getD 1 default).Pins.length=(b.Nets.getD 1 default).Pins.length,(b.Nets.getD 1 default).Pins.length+1<=maxLen,((b.Nets.getD 1 default).Pins.length+1)*32<=140737488355328] ⟨DW,(KH b [(163,.row 2 ((Cx b).Pins.length+1) (fun i_ j_=>if i_<(Cx b).Pins.length then (AP AU.c (Cx b).Pins) i_ j_ else (As 2 1 [.s (Ce q),.s ({ data := #[80,49] }:ByteArray)]) (i_-(Cx b).Pins.length) j_) 25),(200102,Z9o b),(200104,Z9q b),(200106,Z9r b),(200108,Z9s b),(200110,Z9t b),(200112,Z9w b),(200114,Z9u b),(200260,.rowx 2 3 (fun i_ j_=>if i_<2 then (fun i_ j_=>if i_<1 then (fun _ _=>default) i_ j_ else (fun _ _=>default) (i_-1) j_) i_ j_ else (fun _ _=>default) (i_-2) j_) 48 [(0,(KY b)),(1,[.s (Cx b).Name,.own 163 2 ((Cx b).Pins.length+1)]),(2,(KW b))]),(200261,Z9x b),(200263,Z9z b)])⟩ (.cons (EE (AK q.e1 48) au16) .nil) (.cons rfl (.cons rfl (.cons au8 (.cons au8 .nil))))<|A8<|AF ?_
  refine Aq (Cv.trans (BS (⟨DW,(KH b [(163,Z9D b q),(200102,Z9o b),(200104,Z9q b),(200106,Z9r b),(200108,Z9s b),(200110,Z9t b),(200112,Z9w b),(200114,Z9u b),(200260,Z9E b q),(200261,Z9x b),(200263,Z9z b)])⟩) lr (.cons ⟨rfl,.refl _⟩ (.cons ⟨rfl,.refl _⟩ (.cons ⟨rfl,.refl _⟩ (.cons ⟨rfl,.refl _⟩ (.cons ⟨rfl,.refl _⟩ (.cons ⟨rfl,Ao 25 (Au (An 2 AU.c (b.Nets.getD 1 default).Pins) (Ae (c:=AU.c) (xs:=([AU.mk (BI (AK q.e1 48)) ({ data := #[80,49] }:ByteArray)]:List AU)) rfl kr))⟩ (.cons ⟨rfl,.refl _⟩ (.cons ⟨rfl,.refl _⟩ (.cons ⟨rfl,.refl _⟩ (.cons ⟨rfl,.refl _⟩ (.cons ⟨rfl,.refl _⟩ (.cons ⟨rfl,.refl _⟩ (.cons ⟨rfl,.refl _⟩ (.cons ⟨rfl,.rowx _ _ _ _ (.cons ⟨rfl,(rr2 .nil)⟩ (.cons ⟨rfl,(rr (.cons (.own _ _ au0) .nil))⟩ (.cons ⟨rfl,(rr2 .nil)⟩ .nil)))⟩ lr))))))))))))))) (Cv.refl _))<|AB ?_
  refine rn ⟨[(4,tP 4 0)],[(4,Z9A b),(26,Z9m b),(30,Z9p b),(34,Z9v b),(163,Z9D b q),(200102,Z9o b),(200104,Z9q b),(200106,Z9r b),(200108,Z9s b),(200110,Z9t b),(200112,Z9w b),(200114,Z9u b),(200260,Z9E b q),(200261,Z9x b),(200263,Z9z b)]⟩<|Ac ?_
  exact zy (Cv.trans (vf 200261 hk0) (Cv.trans (vf 163 hk0) (Cv.trans (Hq (⟨[(4,tP 4 0)],(Ly b [(200260,.rowx 2 3 (fun i_ j_=>if i_<2 then (fun i_ j_=>if i_<1 then (fun _ _=>default) i_ j_ else (fun _ _=>default) (i_-1) j_) i_ j_ else (fun _ _=>default) (i_-2) j_) 48 [(0,(A7.c (Cy b))),(1,[.s (Cx b).Name,lst 2 AU.c ((Cx b).Pins++[AU.mk (Ce q) ({ data := #[80,49] }:ByteArray)])]),(2,(A7.c (Cw b)))])])⟩) 200263 hk0) (Cv.trans (G0 (⟨[(4,tP 4 0)],(Ly b [(200260,.row 2 3 (As 2 3 [.s (Cy b).Name,lst 2 AU.c (Cy b).Pins,.s (Cx b).Name,lst 2 AU.c ((Cx b).Pins++[AU.mk (Ce q) ({ data := #[80,49] }:ByteArray)]),.s (Cw b).Name,lst 2 AU.c (Cw b).Pins]) 48)])⟩) 200260 2 3 (fun i_ j_=>if i_<2 then (fun i_ j_=>if i_<1 then (fun _ _=>default) i_ j_ else (fun _ _=>default) (i_-1) j_) i_ j_ else (fun _ _=>default) (i_-2) j_) 48 [(A7.c (b.Nets.getD 0 default)),[.s (b.Nets.getD 1 default).Name,lst 2 AU.c ((b.Nets.getD 1 default).Pins++[AU.mk (BI (AK q.e1 48)) ({ data := #[80,49] }:ByteArray)])],(A7.c (b.Nets.getD 2 default))] kr kr kr kr) (Cv.trans (BS (⟨[(4,tP 4 0)],[(4,.cells (Ds b [.own 200260 2 ([b.Nets.getD 0 default,A7.mk (Cx b).Name ((Cx b).Pins++[AU.mk (Ce q) ({ data := #[80,49] }:ByteArray)]),b.Nets.getD 2 default].length),.own 200102 6 (AH b).length,.own 30 8 b.Vias.length,.own 200104 8 (Ad b).length,.own 200106 5 (Aa b).length,.own 200108 4 (AY b).length,.own 200110 2 (AN b).length,.own 200114 20 (AO b).length,.own 34 3 b.Waivers.length,.own 200112 3 (AM b).length]) 42),(26,Z9m b),(30,Z9p b),(34,Z9v b),(200102,Z9o b),(200104,Z9q b),(200106,Z9r b),(200108,Z9s b),(200110,Z9t b),(200112,Z9w b),(200114,Z9u b),(200260,.row 2 ([b.Nets.getD 0 default,A7.mk (Cx b).Name ((Cx b).Pins++[AU.mk (Ce q) ({ data := #[80,49] }:ByteArray)]),b.Nets.getD 2 default].length) (AP A7.c [b.Nets.getD 0 default,A7.mk (Cx b).Name ((Cx b).Pins++[AU.mk (Ce q) ({ data := #[80,49] }:ByteArray)]),b.Nets.getD 2 default]) 48)]⟩) lr (.cons ⟨rfl,.cells _ (rr5 (.cons (.own _ _ au0) (rr (rr (rr (rr (rr (rr (rr (rr (rr .nil)))))))))))⟩ (.cons ⟨rfl,.refl _⟩ (.cons ⟨rfl,.refl _⟩ (.cons ⟨rfl,.refl _⟩ (.cons ⟨rfl,.refl _⟩ (.cons ⟨rfl,.refl _⟩ (.cons ⟨rfl,.refl _⟩ (.cons ⟨rfl,.refl _⟩ (.cons ⟨rfl,.refl _⟩ (.cons ⟨rfl,.refl _⟩ (.cons ⟨rfl,.refl _⟩ (.cons ⟨rfl,Ao 48 (Ae (c:=A7.c) (xs:=([b.Nets.getD 0 default,A7.mk (b.Nets.getD 1 default).Name ((b.Nets.getD 1 default).Pins++[AU.mk (BI (AK q.e1 48)) ({ data := #[80,49] }:ByteArray)]),b.Nets.getD 2 default]:List A7)) rfl kr)⟩ .nil))))))))))))) (Cv.trans (Bu [26,200260,200102,30,200104,200106,200108,200110,200114,34,200112] hk0) (Cv.refl _))))))) (by simp only [NE,h1,h2,h3,h4,h5,h6,h7,h8,h9,h10,h11,cond_true,cond_false] <;> kernel_rfl)
 have g11:=oF h11
 have g12:((Int.tmod (AK q.e2 64) ((3:Nat):Int)).toNat:Nat)=2:=(by have:=tmb hK.1 (n:=((3:Nat):Int)) (by decide);omega)
 (try rw [g12])
 refine dw [] [(160,CX (AK q.e1 48))] [A0 (CX (AK q.e1 48)).2.1,(b.Nets.getD 2 default).Pins.length=(b.Nets.getD 2 default).Pins.length,(b.Nets.getD 2 default).Pins.length+1<=maxLen,((b.Nets.getD 2 default).Pins.length+1)*32<=140737488355328] ⟨DW,(KH b [(163,.row 2 ((Cw b).Pins.length+1) (fun i_ j_=>if i_<(Cw b).Pins.length then (AP AU.c (Cw b).Pins) i_ j_ else (As 2 1 [.s (Ce q),.s ({ data := #[80,49] }:ByteArray)]) (i_-(Cw b).Pins.length) j_) 25),(200102,Z9o b),(200104,Z9q b),(200106,Z9r b),(200108,Z9s b),(200110,Z9t b),(200112,Z9w b),(200114,Z9u b),(200260,.rowx 2 3 (fun i_ j_=>if i_<2 then (fun i_ j_=>if i_<1 then (fun _ _=>default) i_ j_ else (fun _ _=>default) (i_-1) j_) i_ j_ else (fun _ _=>default) (i_-2) j_) 48 [(0,(KY b)),(1,(KX b)),(2,[.s (Cw b).Name,.own 163 2 ((Cw b).Pins.length+1)])]),(200261,Z9x b),(200262,Z9y b)])⟩ (.cons (EE (AK q.e1 48) au16) .nil) (.cons rfl (.cons rfl (.cons au8 (.cons au8 .nil))))<|A8<|AF ?_
 refine Aq (Cv.trans (BS (⟨DW,(KH b [(163,Z9F b q),(200102,Z9o b),(200104,Z9q b),(200106,Z9r b),(200108,Z9s b),(200110,Z9t b),(200112,Z9w b),(200114,Z9u b),(200260,Z9G b q),(200261,Z9x b),(200262,Z9y b)])⟩) lr (.cons ⟨rfl,.refl _⟩ (.cons ⟨rfl,.refl _⟩ (.cons ⟨rfl,.refl _⟩ (.cons ⟨rfl,.refl _⟩ (.cons ⟨rfl,.refl _⟩ (.cons ⟨rfl,Ao 25 (Au (An 2 AU.c (b.Nets.getD 2 default).Pins) (Ae (c:=AU.c) (xs:=([AU.mk (BI (AK q.e1 48)) ({ data := #[80,49] }:ByteArray)]:List AU)) rfl kr))⟩ (.cons ⟨rfl,.refl _⟩ (.cons ⟨rfl,.refl _⟩ (.cons ⟨rfl,.refl _⟩ (.cons ⟨rfl,.refl _⟩ (.cons ⟨rfl,.refl _⟩ (.cons ⟨rfl,.refl _⟩ (.cons ⟨rfl,.refl _⟩ (.cons ⟨rfl,.rowx _ _ _ _ (.cons ⟨rfl,(rr2 .nil)⟩ (.cons ⟨rfl,(rr2 .nil)⟩ (.cons ⟨rfl,(rr (.cons (.own _ _ au0) .nil))⟩ .nil)))⟩ lr))))))))))))))) (Cv.refl _))<|AB ?_
 refine rn ⟨[(4,tP 4 0)],[(4,Z9A b),(26,Z9m b),(30,Z9p b),(34,Z9v b),(163,Z9F b q),(200102,Z9o b),(200104,Z9q b),(200106,Z9r b),(200108,Z9s b),(200110,Z9t b),(200112,Z9w b),(200114,Z9u b),(200260,Z9G b q),(200261,Z9x b),(200262,Z9y b)]⟩<|Ac ?_
 exact zy (Cv.trans (vf 200261 hk0) (Cv.trans (vf 200262 hk0) (Cv.trans (Hq (⟨[(4,tP 4 0)],(Ly b [(200260,.rowx 2 3 (fun i_ j_=>if i_<2 then (fun i_ j_=>if i_<1 then (fun _ _=>default) i_ j_ else (fun _ _=>default) (i_-1) j_) i_ j_ else (fun _ _=>default) (i_-2) j_) 48 [(0,(A7.c (Cy b))),(1,(A7.c (Cx b))),(2,[.s (Cw b).Name,lst 2 AU.c ((Cw b).Pins++[AU.mk (Ce q) ({ data := #[80,49] }:ByteArray)])])])])⟩) 163 hk0) (Cv.trans (G0 (⟨[(4,tP 4 0)],(Ly b [(200260,.row 2 3 (As 2 3 [.s (Cy b).Name,lst 2 AU.c (Cy b).Pins,.s (Cx b).Name,lst 2 AU.c (Cx b).Pins,.s (Cw b).Name,lst 2 AU.c ((Cw b).Pins++[AU.mk (Ce q) ({ data := #[80,49] }:ByteArray)])]) 48)])⟩) 200260 2 3 (fun i_ j_=>if i_<2 then (fun i_ j_=>if i_<1 then (fun _ _=>default) i_ j_ else (fun _ _=>default) (i_-1) j_) i_ j_ else (fun _ _=>default) (i_-2) j_) 48 [(A7.c (b.Nets.getD 0 default)),(A7.c (b.Nets.getD 1 default)),[.s (b.Nets.getD 2 default).Name,lst 2 AU.c ((b.Nets.getD 2 default).Pins++[AU.mk (BI (AK q.e1 48)) ({ data := #[80,49] }:ByteArray)])]] kr kr kr kr) (Cv.trans (BS (⟨[(4,tP 4 0)],[(4,.cells (Ds b [.own 200260 2 ([b.Nets.getD 0 default,b.Nets.getD 1 default,A7.mk (Cw b).Name ((Cw b).Pins++[AU.mk (Ce q) ({ data := #[80,49] }:ByteArray)])].length),.own 200102 6 (AH b).length,.own 30 8 b.Vias.length,.own 200104 8 (Ad b).length,.own 200106 5 (Aa b).length,.own 200108 4 (AY b).length,.own 200110 2 (AN b).length,.own 200114 20 (AO b).length,.own 34 3 b.Waivers.length,.own 200112 3 (AM b).length]) 42),(26,Z9m b),(30,Z9p b),(34,Z9v b),(200102,Z9o b),(200104,Z9q b),(200106,Z9r b),(200108,Z9s b),(200110,Z9t b),(200112,Z9w b),(200114,Z9u b),(200260,.row 2 ([b.Nets.getD 0 default,b.Nets.getD 1 default,A7.mk (Cw b).Name ((Cw b).Pins++[AU.mk (Ce q) ({ data := #[80,49] }:ByteArray)])].length) (AP A7.c [b.Nets.getD 0 default,b.Nets.getD 1 default,A7.mk (Cw b).Name ((Cw b).Pins++[AU.mk (Ce q) ({ data := #[80,49] }:ByteArray)])]) 48)]⟩) lr (.cons ⟨rfl,.cells _ (rr5 (.cons (.own _ _ au0) (rr (rr (rr (rr (rr (rr (rr (rr (rr .nil)))))))))))⟩ (.cons ⟨rfl,.refl _⟩ (.cons ⟨rfl,.refl _⟩ (.cons ⟨rfl,.refl _⟩ (.cons ⟨rfl,.refl _⟩ (.cons ⟨rfl,.refl _⟩ (.cons ⟨rfl,.refl _⟩ (.cons ⟨rfl,.refl _⟩ (.cons ⟨rfl,.refl _⟩ (.cons ⟨rfl,.refl _⟩ (.cons ⟨rfl,.refl _⟩ (.cons ⟨rfl,Ao 48 (Ae (c:=A7.c) (xs:=([b.Nets.getD 0 default,b.Nets.getD 1 default,A7.mk (b.Nets.getD 2 default).Name ((b.Nets.getD 2 default).Pins++[AU.mk (BI (AK q.e1 48)) ({ data := #[80,49] }:ByteArray)])]:List A7)) rfl kr)⟩ .nil))))))))))))) (Cv.trans (Bu [26,200260,200102,30,200104,200106,200108,200110,200114,34,200112] hk0) (Cv.refl _))))))) (by simp only [NE,h1,h2,h3,h4,h5,h6,h7,h8,h9,h10,h11,cond_true,cond_false] <;> kernel_rfl)
end
end Go.Proofs.Ytdbampcfmjbgmaa
