/-
  No statement is proved in this text. It holds a part of what the proof of PlacePads needs.
-/
import Derived.Test.YtdbampcfmjbgmaaGreatPlacePadsQe
namespace Go.Proofs.YtdbampcfmjbgmaaGreat
set_option maxRecDepth 100000
set_option linter.unusedVariables false
set_option linter.unusedSimpArgs false
open Go.RowKit
section
open Go.RowKit
def Z6F:Blk:=.cells Gg 40
variable (v:Nat->Value) (b:AC) (BV:List Bq) (BU:List BS) (BT:List A1) (BK:List Bb) (Bh:List BA) (Bg:List Aq) (BZ:List A8) (Bf:List BR) (v11 v16 v5 v9:Int)
def Z6G:Blk:=.row 2 Bh.length (AU BA.c Bh) 84
abbrev FP (t_:List Cl):List Cl:=(.val (v 0))::(.val (v 1))::(.val (v 2))::(.val (v 3))::(.val (v 4))::t_
def Z6H:Blk:=.cells (FP v [.own 100000 2 Bh.length,.val (v 6),.val (v 7),.val (v 8),.val (v 9),.val (v 10),.val (v 11),.val (v 12),.val (v 13),.val (v 14)]) 40
def Z6I (Bh:List BA) (b:AC) (v4:Int):Blk:=.row 2 (Bh++[b.Nets.getD v4.toNat default]).length (AU BA.c (Bh++[b.Nets.getD v4.toNat default])) 84
def Z6J (v:(Nat->Value)) (Bh:List BA) (b:AC) (v4:Int):Blk:=.cells (FP v [.own 61 2 (Bh++[b.Nets.getD v4.toNat default]).length,.val (v 6),.val (v 7),.val (v 8),.val (v 9),.val (v 10),.val (v 11),.val (v 12),.val (v 13),.val (v 14)]) 40
def Z6K:Blk:=.cells (FP v [.own 200100 2 Bh.length,.val (v 6),.val (v 7),.val (v 8),.val (v 9),.val (v 10),.val (v 11),.val (v 12),.val (v 13),.val (v 14)]) 40
def FU (b:AC):Nat->List BA->Int->(List BA)
 | 0,_,_=>default
 | n0+1,Bh,v4=>bif decide ((v4:Int)<(b.Nets.length:Int)) then ((FU b n0) (Bh++[b.Nets.getD v4.toNat default]) (v4+1)) else Bh
def Af (b:AC):(List BA):=FU b (((b.Nets.length:Int)-0).toNat+1) ([]:List BA) 0
abbrev II (t_:List (Nat×Tv)):List (Nat×Tv):=(1,tP 200001 0)::(2,tP 200002 0)::(3,tP 200003 0)::t_
abbrev Bn:List (Nat×Tv):=(II [])
abbrev B9:Nat×Blk:=(200001,.cells (AC.c b) 40)
abbrev CF:Nat×Blk:=(200002,.cells Gg 40)
abbrev Xp (b:AC) (v:Nat->Value) (xs:List BA):AS:=⟨Bn,[(200003,.cells (FP v [.own 200100 2 xs.length,.val (v 6),.val (v 7),.val (v 8),.val (v 9),.val (v 10),.val (v 11),.val (v 12),.val (v 13),.val (v 14)]) 40),(B9 b),CF,(200100,.row 2 xs.length (AU BA.c xs) 84)]⟩
set_option maxHeartbeats 4000000 in
theorem TA (b:AC) (hc:CW b) {c:Code} (hpc:Tryz.f21.body.bind (F6 [true,true,false,true])=some c):Np Tryz.prog 229 [200003,200001,200002] c (fun _:Unit=>True) (fun v=>⟨[(1,tP 200001 0),(2,tP 200002 0),(3,tP 200003 0),(4,tI 0)],[(200003,.cells [.val (v 0),.val (v 1),.val (v 2),.val (v 3),.val (v 4),vN,.val (v 6),.val (v 7),.val (v 8),.val (v 9),.val (v 10),.val (v 11),.val (v 12),.val (v 13),.val (v 14)] 40),(200001,.cells (AC.c b) 40),(200002,.cells [.i 0,.i 0,vN,.i 0,vN,vN,vN,vN,vN,vN,vN,vN,vN,vN,vN] 40)]⟩) (fun v _=>Xp b v (Af b)):=by
 cases hpc
 intro W0 M0 X v hP hFl
 show AWp _ _ _ _ _ _ _ _ ⟨[(1,tP 200001 0),(2,tP 200002 0),(3,tP 200003 0),(4,tI 0)],[(200003,.cells [.val (v 0),.val (v 1),.val (v 2),.val (v 3),.val (v 4),vN,.val (v 6),.val (v 7),.val (v 8),.val (v 9),.val (v 10),.val (v 11),.val (v 12),.val (v 13),.val (v 14)] 40),(200001,.cells (AC.c b) 40),(200002,.cells [.i 0,.i 0,vN,.i 0,vN,vN,vN,vN,vN,vN,vN,vN,vN,vN,vN] 40)]⟩
 have h0:=hc.lParts
 have h1:=hc.lNets
 have h2:=hc.lTracks
 have h3:=hc.lVias
 have h4:=hc.lPours
 have h5:=hc.lKeeps
 have h6:=hc.lSlots
 have h7:=hc.lClasses
 have h8:=hc.lWaivers
 have h9:=hc.lMatches
 have h10:=hc.lRules
 have hr:=hc.rok
 refine AQ ?_
 refine Ap (Cv.trans (CD [1,2,3,4] [200001,200002,200003] (⟨[(1,tP 200001 0),(2,tP 200002 0),(3,tP 200003 0),(4,tI 0)],[(200001,.cells (AC.c b) 40),(200002,Z6F),(200003,.cells [.val (v 0),.val (v 1),.val (v 2),.val (v 3),.val (v 4),vN,.val (v 6),.val (v 7),.val (v 8),.val (v 9),.val (v 10),.val (v 11),.val (v 12),.val (v 13),.val (v 14)] 40)]⟩) kr) (Cv.trans (Ft (⟨[(1,tP 200001 0),(2,tP 200002 0),(3,tP 200003 0),(4,tI 0)],[(100000,.row 2 0 (fun _ _=>default) 84),(200001,.cells (AC.c b) 40),(200002,Z6F),(200003,.cells [.val (v 0),.val (v 1),.val (v 2),.val (v 3),.val (v 4),.own 100000 2 0,.val (v 6),.val (v 7),.val (v 8),.val (v 9),.val (v 10),.val (v 11),.val (v 12),.val (v 13),.val (v 14)] 40)]⟩) 100000 2 (fun _ _=>default) 84 [] [(200003,[5])] (K:=[200003,200001,200002]) hP rfl kr kr) (Cv.trans (GP (⟨[(1,tP 200001 0),(2,tP 200002 0),(3,tP 200003 0),(4,tI 0)],[(100000,.row 2 ([]:List BA).length (AU BA.c ([]:List BA)) 84),(200001,.cells (AC.c b) 40),(200002,Z6F),(200003,.cells [.val (v 0),.val (v 1),.val (v 2),.val (v 3),.val (v 4),.own 100000 2 ([]:List BA).length,.val (v 6),.val (v 7),.val (v 8),.val (v 9),.val (v 10),.val (v 11),.val (v 12),.val (v 13),.val (v 14)] 40)]⟩) 100000 (CI 2 (fun _ _=>default) BA.c)) (Cv.refl _)))) ?_
 refine BP (ι:=Nat×List BA×Int) (fun x=>⟨[(1,tP 200001 0),(2,tP 200002 0),(3,tP 200003 0),(4,tI x.2.2)],[(100000,.row 2 x.2.1.length (AU BA.c x.2.1) 84),(200001,.cells (AC.c b) 40),(200002,Z6F),(200003,.cells [.val (v 0),.val (v 1),.val (v 2),.val (v 3),.val (v 4),.own 100000 2 x.2.1.length,.val (v 6),.val (v 7),.val (v 8),.val (v 9),.val (v 10),.val (v 11),.val (v 12),.val (v 13),.val (v 14)] 40)]⟩) (fun x=>((b.Nets.length:Int)-x.2.2).toNat<x.1/\(0<=x.2.2/\(x.2.2<=(b.Nets.length:Int)\/x.2.2=0)/\(x.2.1.length:Int)<=0+1*(x.2.2-0))/\FU b x.1 x.2.1 x.2.2=Af b) (fun x=>x.1) ?_ (((b.Nets.length:Int)-0).toNat+1,([]:List BA),0) ⟨Nat.lt_succ_self _,⟨ax0,ax0,ax0⟩,(by simp only [Af,cond_true,cond_false])⟩
 rintro ⟨n0,Bh,v4⟩ ⟨hm0,hinv0,hF0⟩
 try dsimp only at hm0 hinv0 hF0
 cases n0 with | zero=>exact nz hm0 | succ n0 => ?_
 have hb:=hc.pin v4.toNat
 refine AA<|AA ?_
 refine rn ⟨[(1,tP 200001 0),(2,tP 200002 0),(3,tP 200003 0),(4,tI v4),(40,tB (decide ((v4:Int)<(b.Nets.length:Int))))],[(100000,Z6G Bh),(200001,.cells (AC.c b) 40),(200002,Z6F),(200003,Z6H v Bh)]⟩ ?_
 refine AO _ rfl (fun h1 => ?_) (fun h1 => ?_)
 ·have g1:=oT h1
  refine AZ<|AG ?_
  refine AA<|AQ ?_
  refine od [1000051] [] [0<=(v4:Int)/\(v4:Int)<((b.Nets.length:Nat):Int),0<=(v4:Int)/\(v4:Int)<((b.Nets.length:Nat):Int),(b.Nets.getD v4.toNat default).Pins.length<=maxLen,(b.Nets.getD v4.toNat default).Pins.length*32<=140737488355328,Bh.length=Bh.length,Bh.length+1<=maxLen,(Bh.length+1)*40<=140737488355328] .nil (.cons au0 (.cons au0 (.cons au2 (.cons au2 (.cons rfl (.cons au2 (.cons au2 .nil)))))))<|A3<|AG ?_
  refine Ap (A2 61 (Au (Am 2 BA.c Bh) (A0 2 BA.c ([b.Nets.getD v4.toNat default]:List BA)))) ?_
  refine rg ⟨[(1,tP 200001 0),(2,tP 200002 0),(3,tP 200003 0),(4,tI (W64 (v4+1)))],[(61,Z6I Bh b v4),(200001,.cells (AC.c b) 40),(200002,Z6F),(200003,Z6J v Bh b v4)]⟩ ?_
  (try rw [(show W64 (v4+1)=v4+1 from Az (by omega) au6)])
  refine AG ?_
  refine ⟨(n0,Bh++[b.Nets.getD v4.toNat default],v4+1),⟨?_,?_,(by rw [<- hF0];simp only [FU,h1,cond_true,cond_false])⟩,Nat.lt_succ_self _,Cv.trans (CK (⟨[(1,tP 200001 0),(2,tP 200002 0),(3,tP 200003 0),(4,tI (v4+1))],[(100000,Z6I Bh b v4),(200001,.cells (AC.c b) 40),(200002,Z6F),(200003,.cells [.val (v 0),.val (v 1),.val (v 2),.val (v 3),.val (v 4),.own 100000 2 (Bh++[b.Nets.getD v4.toNat default]).length,.val (v 6),.val (v 7),.val (v 8),.val (v 9),.val (v 10),.val (v 11),.val (v 12),.val (v 13),.val (v 14)] 40)]⟩) 61 100000 (K:=[200003,200001,200002]) hP rfl rfl kr kr) (BE kr)⟩
  ·show ((b.Nets.length:Int)-(v4+1)).toNat<n0;omega
  exact ⟨ax0,ax0,ax0⟩
 have g1:=oF h1
 refine BH<|A5 ?_
 refine A5<|BI ?_
 exact ⟨_,Cv.trans (CD [1,2,3] [100000,200001,200002,200003] (⟨[(1,tP 200001 0),(2,tP 200002 0),(3,tP 200003 0)],[(100000,Z6G Bh),(200001,.cells (AC.c b) 40),(200002,Z6F),(200003,Z6H v Bh)]⟩) kr) (Cv.trans (CK (⟨[(1,tP 200001 0),(2,tP 200002 0),(3,tP 200003 0)],[(200100,Z6G Bh),(200001,.cells (AC.c b) 40),(200002,Z6F),(200003,Z6K v Bh)]⟩) 100000 200100 (K:=[200003,200001,200002]) hP rfl rfl kr kr) (Cv.trans (CD [1,2,3] [200003,200001,200002,200100] (⟨[(1,tP 200001 0),(2,tP 200002 0),(3,tP 200003 0)],[(200003,Z6K v Bh),(200001,.cells (AC.c b) 40),(200002,Z6F),(200100,Z6G Bh)]⟩) kr) (Cv.refl _))),rfl,(),trivial,congrArg (Xp b v) (show Bh=_ from (by rw [<- hF0];first | (simp only [FU,h1,cond_true,cond_false] <;> rfl)))⟩
def Z6L:Blk:=.cells Gg 40
def Z6M:Blk:=.row 6 Bg.length (AU Aq.c Bg) 87
def Z6N:Blk:=.cells (FP v [.val (v 5),.own 100000 6 Bg.length,.val (v 7),.val (v 8),.val (v 9),.val (v 10),.val (v 11),.val (v 12),.val (v 13),.val (v 14)]) 40
def Z6O:An:=Ak (b.Tracks.getD v5.toNat default).Shape
abbrev VX:=[Aq.mk (Ma b v5).Id (Ma b v5).Net (Ma b v5).Layer (Z6O b v5)]
def Z6P (Bg:List Aq) (b:AC) (v5:Int):Blk:=.row 6 (Bg++(VX b v5)).length (AU Aq.c (Bg++(VX b v5))) 87
def Z6Q (v:(Nat->Value)) (Bg:List Aq) (b:AC) (v5:Int):Blk:=.cells (FP v [.val (v 5),.own 83 6 (Bg++(VX b v5)).length,.val (v 7),.val (v 8),.val (v 9),.val (v 10),.val (v 11),.val (v 12),.val (v 13),.val (v 14)]) 40
def Z6R:Blk:=.cells (FP v [.val (v 5),.own 200102 6 Bg.length,.val (v 7),.val (v 8),.val (v 9),.val (v 10),.val (v 11),.val (v 12),.val (v 13),.val (v 14)]) 40
def E3 (b:AC):Nat->List Aq->Int->(List Aq)
 | 0,_,_=>default
 | n0+1,Bg,v5=>bif decide ((v5:Int)<(b.Tracks.length:Int)) then ((E3 b n0) (Bg++[Aq.mk (b.Tracks.getD v5.toNat default).Id (b.Tracks.getD v5.toNat default).Net (b.Tracks.getD v5.toNat default).Layer (Z6O b v5)]) (v5+1)) else Bg
def AH (b:AC):(List Aq):=E3 b (((b.Tracks.length:Int)-0).toNat+1) ([]:List Aq) 0
abbrev QQ (b:AC) (v:Nat->Value) (xs:List Aq):AS:=⟨Bn,[(200003,.cells (FP v [.val (v 5),.own 200102 6 xs.length,.val (v 7),.val (v 8),.val (v 9),.val (v 10),.val (v 11),.val (v 12),.val (v 13),.val (v 14)]) 40),(B9 b),CF,(200102,.row 6 xs.length (AU Aq.c xs) 87)]⟩
theorem au32 {p:Prop} (h:p:=by first | (with_reducible exact hc.ted _) | (with_reducible exact hc.ked _) | (with_reducible exact hc.sed _) | (with_reducible exact hc.out) | with_reducible assumption | omega | decide | (simp only [List.length_cons,List.length_nil,List.length_append];omega) | assumption):p:=h
set_option maxHeartbeats 4000000 in
theorem J8 (b:AC) (hc:CW b) {c:Code} (hpc:Tryz.f21.body.bind (F6 [true,true,true,false,true])=some c):Np Tryz.prog 229 [200003,200001,200002] c (fun _:Unit=>True) (fun v=>⟨[(1,tP 200001 0),(2,tP 200002 0),(3,tP 200003 0),(5,tI 0)],[(200003,.cells [.val (v 0),.val (v 1),.val (v 2),.val (v 3),.val (v 4),.val (v 5),vN,.val (v 7),.val (v 8),.val (v 9),.val (v 10),.val (v 11),.val (v 12),.val (v 13),.val (v 14)] 40),(200001,.cells (AC.c b) 40),(200002,.cells [.i 0,.i 0,vN,.i 0,vN,vN,vN,vN,vN,vN,vN,vN,vN,vN,vN] 40)]⟩) (fun v _=>QQ b v (AH b)):=by
 cases hpc
 intro W0 M0 X v hP hFl
 show AWp _ _ _ _ _ _ _ _ ⟨[(1,tP 200001 0),(2,tP 200002 0),(3,tP 200003 0),(5,tI 0)],[(200003,.cells [.val (v 0),.val (v 1),.val (v 2),.val (v 3),.val (v 4),.val (v 5),vN,.val (v 7),.val (v 8),.val (v 9),.val (v 10),.val (v 11),.val (v 12),.val (v 13),.val (v 14)] 40),(200001,.cells (AC.c b) 40),(200002,.cells [.i 0,.i 0,vN,.i 0,vN,vN,vN,vN,vN,vN,vN,vN,vN,vN,vN] 40)]⟩
 have h0:=hc.lParts
 have h1:=hc.lNets
 have h2:=hc.lTracks
 have h3:=hc.lVias
 have h4:=hc.lPours
 have h5:=hc.lKeeps
 have h6:=hc.lSlots
 have h7:=hc.lClasses
 have h8:=hc.lWaivers
 have h9:=hc.lMatches
 have h10:=hc.lRules
 have hr:=hc.rok
 refine AQ ?_
 refine Ap (Cv.trans (CD [1,2,3,5] [200001,200002,200003] (⟨[(1,tP 200001 0),(2,tP 200002 0),(3,tP 200003 0),(5,tI 0)],[(200001,.cells (AC.c b) 40),(200002,Z6L),(200003,.cells [.val (v 0),.val (v 1),.val (v 2),.val (v 3),.val (v 4),.val (v 5),vN,.val (v 7),.val (v 8),.val (v 9),.val (v 10),.val (v 11),.val (v 12),.val (v 13),.val (v 14)] 40)]⟩) kr) (Cv.trans (Ft (⟨[(1,tP 200001 0),(2,tP 200002 0),(3,tP 200003 0),(5,tI 0)],[(100000,.row 6 0 (fun _ _=>default) 87),(200001,.cells (AC.c b) 40),(200002,Z6L),(200003,.cells [.val (v 0),.val (v 1),.val (v 2),.val (v 3),.val (v 4),.val (v 5),.own 100000 6 0,.val (v 7),.val (v 8),.val (v 9),.val (v 10),.val (v 11),.val (v 12),.val (v 13),.val (v 14)] 40)]⟩) 100000 6 (fun _ _=>default) 87 [] [(200003,[6])] (K:=[200003,200001,200002]) hP rfl kr kr) (Cv.trans (GP (⟨[(1,tP 200001 0),(2,tP 200002 0),(3,tP 200003 0),(5,tI 0)],[(100000,.row 6 ([]:List Aq).length (AU Aq.c ([]:List Aq)) 87),(200001,.cells (AC.c b) 40),(200002,Z6L),(200003,.cells [.val (v 0),.val (v 1),.val (v 2),.val (v 3),.val (v 4),.val (v 5),.own 100000 6 ([]:List Aq).length,.val (v 7),.val (v 8),.val (v 9),.val (v 10),.val (v 11),.val (v 12),.val (v 13),.val (v 14)] 40)]⟩) 100000 (CI 6 (fun _ _=>default) Aq.c)) (Cv.refl _)))) ?_
 refine BP (ι:=Nat×List Aq×Int) (fun x=>⟨[(1,tP 200001 0),(2,tP 200002 0),(3,tP 200003 0),(5,tI x.2.2)],[(100000,.row 6 x.2.1.length (AU Aq.c x.2.1) 87),(200001,.cells (AC.c b) 40),(200002,Z6L),(200003,.cells [.val (v 0),.val (v 1),.val (v 2),.val (v 3),.val (v 4),.val (v 5),.own 100000 6 x.2.1.length,.val (v 7),.val (v 8),.val (v 9),.val (v 10),.val (v 11),.val (v 12),.val (v 13),.val (v 14)] 40)]⟩) (fun x=>((b.Tracks.length:Int)-x.2.2).toNat<x.1/\(0<=x.2.2/\(x.2.2<=(b.Tracks.length:Int)\/x.2.2=0)/\(x.2.1.length:Int)<=0+1*(x.2.2-0))/\E3 b x.1 x.2.1 x.2.2=AH b) (fun x=>x.1) ?_ (((b.Tracks.length:Int)-0).toNat+1,([]:List Aq),0) ⟨Nat.lt_succ_self _,⟨ax0,ax0,ax0⟩,(by simp only [AH,cond_true,cond_false])⟩
 rintro ⟨n0,Bg,v5⟩ ⟨hm0,hinv0,hF0⟩
 try dsimp only at hm0 hinv0 hF0
 cases n0 with | zero=>exact nz hm0 | succ n0 => ?_
 refine AA<|AA ?_
 refine rn ⟨[(1,tP 200001 0),(2,tP 200002 0),(3,tP 200003 0),(5,tI v5),(67,tB (decide ((v5:Int)<(b.Tracks.length:Int))))],[(100000,Z6M Bg),(200001,.cells (AC.c b) 40),(200002,Z6L),(200003,Z6N v Bg)]⟩ ?_
 refine AO _ rfl (fun h1 => ?_) (fun h1 => ?_)
 ·have g1:=oT h1
  refine AZ<|AG ?_
  refine AA<|AQ<|AA ?_
  refine oc [] [0<=(v5:Int)/\(v5:Int)<((b.Tracks.length:Nat):Int)] .nil (.cons au0 .nil)<|AG<|AA ?_
  refine oc [(77,B7 (b.Tracks.getD v5.toNat default).Shape)] [Ay (B7 (b.Tracks.getD v5.toNat default).Shape).2.1] (.cons (Dz (b.Tracks.getD v5.toNat default).Shape au32) .nil) (.cons rfl .nil)<|AG ?_
  refine oc [] [Bg.length=Bg.length,Bg.length+1<=maxLen,(Bg.length+1)*72<=140737488355328] .nil (.cons rfl (.cons au2 (.cons au2 .nil)))<|A3<|AG ?_
  refine Ap (A2 83 (Au (Am 6 Aq.c Bg) (A0 6 Aq.c ([Aq.mk (b.Tracks.getD v5.toNat default).Id (b.Tracks.getD v5.toNat default).Net (b.Tracks.getD v5.toNat default).Layer (Z6O b v5)]:List Aq)))) ?_
  refine rg ⟨[(1,tP 200001 0),(2,tP 200002 0),(3,tP 200003 0),(5,tI (W64 (v5+1)))],[(83,Z6P Bg b v5),(200001,.cells (AC.c b) 40),(200002,Z6L),(200003,Z6Q v Bg b v5)]⟩ ?_
  (try rw [(show W64 (v5+1)=v5+1 from Az (by omega) au6)])
  refine AG ?_
  refine ⟨(n0,Bg++[Aq.mk (b.Tracks.getD v5.toNat default).Id (b.Tracks.getD v5.toNat default).Net (b.Tracks.getD v5.toNat default).Layer (Z6O b v5)],v5+1),⟨?_,?_,(by rw [<- hF0];simp only [E3,h1,cond_true,cond_false])⟩,Nat.lt_succ_self _,Cv.trans (CK (⟨[(1,tP 200001 0),(2,tP 200002 0),(3,tP 200003 0),(5,tI (v5+1))],[(100000,Z6P Bg b v5),(200001,.cells (AC.c b) 40),(200002,Z6L),(200003,.cells [.val (v 0),.val (v 1),.val (v 2),.val (v 3),.val (v 4),.val (v 5),.own 100000 6 (Bg++[Aq.mk (b.Tracks.getD v5.toNat default).Id (b.Tracks.getD v5.toNat default).Net (b.Tracks.getD v5.toNat default).Layer (Z6O b v5)]).length,.val (v 7),.val (v 8),.val (v 9),.val (v 10),.val (v 11),.val (v 12),.val (v 13),.val (v 14)] 40)]⟩) 83 100000 (K:=[200003,200001,200002]) hP rfl rfl kr kr) (BE kr)⟩
  ·show ((b.Tracks.length:Int)-(v5+1)).toNat<n0;omega
  exact ⟨ax0,ax0,ax0⟩
 have g1:=oF h1
 refine BH<|A5 ?_
 refine A5<|BI ?_
 exact ⟨_,Cv.trans (CD [1,2,3] [100000,200001,200002,200003] (⟨[(1,tP 200001 0),(2,tP 200002 0),(3,tP 200003 0)],[(100000,Z6M Bg),(200001,.cells (AC.c b) 40),(200002,Z6L),(200003,Z6N v Bg)]⟩) kr) (Cv.trans (CK (⟨[(1,tP 200001 0),(2,tP 200002 0),(3,tP 200003 0)],[(200102,Z6M Bg),(200001,.cells (AC.c b) 40),(200002,Z6L),(200003,Z6R v Bg)]⟩) 100000 200102 (K:=[200003,200001,200002]) hP rfl rfl kr kr) (Cv.trans (CD [1,2,3] [200003,200001,200002,200102] (⟨[(1,tP 200001 0),(2,tP 200002 0),(3,tP 200003 0)],[(200003,Z6R v Bg),(200001,.cells (AC.c b) 40),(200002,Z6L),(200102,Z6M Bg)]⟩) kr) (Cv.refl _))),rfl,(),trivial,congrArg (QQ b v) (show Bg=_ from (by rw [<- hF0];first | (simp only [E3,h1,cond_true,cond_false] <;> rfl)))⟩
def Z6S:Blk:=.cells Gg 40
def Z6T:Blk:=.row 8 BZ.length (AU A8.c BZ) 92
abbrev Cr (t_:List Cl):List Cl:=(.val (v 0))::(.val (v 1))::(.val (v 2))::(.val (v 3))::(.val (v 4))::(.val (v 5))::(.val (v 6))::(.val (v 7))::t_
def Z6U:Blk:=.cells (Cr v [.own 100000 8 BZ.length,.val (v 9),.val (v 10),.val (v 11),.val (v 12),.val (v 13),.val (v 14)]) 40
def Z6V (BZ:List A8) (b:AC) (v7:Int):Blk:=.row 8 (BZ++[b.Pours.getD v7.toNat default]).length (AU A8.c (BZ++[b.Pours.getD v7.toNat default])) 92
def Z6W (v:(Nat->Value)) (BZ:List A8) (b:AC) (v7:Int):Blk:=.cells (Cr v [.own 106 8 (BZ++[b.Pours.getD v7.toNat default]).length,.val (v 9),.val (v 10),.val (v 11),.val (v 12),.val (v 13),.val (v 14)]) 40
def Z6X:Blk:=.cells (Cr v [.own 200104 8 BZ.length,.val (v 9),.val (v 10),.val (v 11),.val (v 12),.val (v 13),.val (v 14)]) 40
def Fi (b:AC):Nat->List A8->Int->(List A8)
 | 0,_,_=>default
 | n0+1,BZ,v7=>bif decide ((v7:Int)<(b.Pours.length:Int)) then ((Fi b n0) (BZ++[b.Pours.getD v7.toNat default]) (v7+1)) else BZ
def Ah (b:AC):(List A8):=Fi b (((b.Pours.length:Int)-0).toNat+1) ([]:List A8) 0
abbrev T4 (b:AC) (v:Nat->Value) (xs:List A8):AS:=⟨Bn,[(200003,.cells (Cr v [.own 200104 8 xs.length,.val (v 9),.val (v 10),.val (v 11),.val (v 12),.val (v 13),.val (v 14)]) 40),(B9 b),CF,(200104,.row 8 xs.length (AU A8.c xs) 92)]⟩
set_option maxHeartbeats 4000000 in
theorem U3 (b:AC) (hc:CW b) {c:Code} (hpc:Tryz.f21.body.bind (F6 [true,true,true,true,false,true])=some c):Np Tryz.prog 229 [200003,200001,200002] c (fun _:Unit=>True) (fun v=>⟨[(1,tP 200001 0),(2,tP 200002 0),(3,tP 200003 0),(7,tI 0)],[(200003,.cells [.val (v 0),.val (v 1),.val (v 2),.val (v 3),.val (v 4),.val (v 5),.val (v 6),.val (v 7),vN,.val (v 9),.val (v 10),.val (v 11),.val (v 12),.val (v 13),.val (v 14)] 40),(200001,.cells (AC.c b) 40),(200002,.cells [.i 0,.i 0,vN,.i 0,vN,vN,vN,vN,vN,vN,vN,vN,vN,vN,vN] 40)]⟩) (fun v _=>T4 b v (Ah b)):=by
 cases hpc
 intro W0 M0 X v hP hFl
 show AWp _ _ _ _ _ _ _ _ ⟨[(1,tP 200001 0),(2,tP 200002 0),(3,tP 200003 0),(7,tI 0)],[(200003,.cells [.val (v 0),.val (v 1),.val (v 2),.val (v 3),.val (v 4),.val (v 5),.val (v 6),.val (v 7),vN,.val (v 9),.val (v 10),.val (v 11),.val (v 12),.val (v 13),.val (v 14)] 40),(200001,.cells (AC.c b) 40),(200002,.cells [.i 0,.i 0,vN,.i 0,vN,vN,vN,vN,vN,vN,vN,vN,vN,vN,vN] 40)]⟩
 have h0:=hc.lParts
 have h1:=hc.lNets
 have h2:=hc.lTracks
 have h3:=hc.lVias
 have h4:=hc.lPours
 have h5:=hc.lKeeps
 have h6:=hc.lSlots
 have h7:=hc.lClasses
 have h8:=hc.lWaivers
 have h9:=hc.lMatches
 have h10:=hc.lRules
 have hr:=hc.rok
 refine AQ ?_
 refine Ap (Cv.trans (CD [1,2,3,7] [200001,200002,200003] (⟨[(1,tP 200001 0),(2,tP 200002 0),(3,tP 200003 0),(7,tI 0)],[(200001,.cells (AC.c b) 40),(200002,Z6S),(200003,.cells [.val (v 0),.val (v 1),.val (v 2),.val (v 3),.val (v 4),.val (v 5),.val (v 6),.val (v 7),vN,.val (v 9),.val (v 10),.val (v 11),.val (v 12),.val (v 13),.val (v 14)] 40)]⟩) kr) (Cv.trans (Ft (⟨[(1,tP 200001 0),(2,tP 200002 0),(3,tP 200003 0),(7,tI 0)],[(100000,.row 8 0 (fun _ _=>default) 92),(200001,.cells (AC.c b) 40),(200002,Z6S),(200003,.cells [.val (v 0),.val (v 1),.val (v 2),.val (v 3),.val (v 4),.val (v 5),.val (v 6),.val (v 7),.own 100000 8 0,.val (v 9),.val (v 10),.val (v 11),.val (v 12),.val (v 13),.val (v 14)] 40)]⟩) 100000 8 (fun _ _=>default) 92 [] [(200003,[8])] (K:=[200003,200001,200002]) hP rfl kr kr) (Cv.trans (GP (⟨[(1,tP 200001 0),(2,tP 200002 0),(3,tP 200003 0),(7,tI 0)],[(100000,.row 8 ([]:List A8).length (AU A8.c ([]:List A8)) 92),(200001,.cells (AC.c b) 40),(200002,Z6S),(200003,.cells [.val (v 0),.val (v 1),.val (v 2),.val (v 3),.val (v 4),.val (v 5),.val (v 6),.val (v 7),.own 100000 8 ([]:List A8).length,.val (v 9),.val (v 10),.val (v 11),.val (v 12),.val (v 13),.val (v 14)] 40)]⟩) 100000 (CI 8 (fun _ _=>default) A8.c)) (Cv.refl _)))) ?_
 refine BP (ι:=Nat×List A8×Int) (fun x=>⟨[(1,tP 200001 0),(2,tP 200002 0),(3,tP 200003 0),(7,tI x.2.2)],[(100000,.row 8 x.2.1.length (AU A8.c x.2.1) 92),(200001,.cells (AC.c b) 40),(200002,Z6S),(200003,.cells [.val (v 0),.val (v 1),.val (v 2),.val (v 3),.val (v 4),.val (v 5),.val (v 6),.val (v 7),.own 100000 8 x.2.1.length,.val (v 9),.val (v 10),.val (v 11),.val (v 12),.val (v 13),.val (v 14)] 40)]⟩) (fun x=>((b.Pours.length:Int)-x.2.2).toNat<x.1/\(0<=x.2.2/\(x.2.2<=(b.Pours.length:Int)\/x.2.2=0)/\(x.2.1.length:Int)<=0+1*(x.2.2-0))/\Fi b x.1 x.2.1 x.2.2=Ah b) (fun x=>x.1) ?_ (((b.Pours.length:Int)-0).toNat+1,([]:List A8),0) ⟨Nat.lt_succ_self _,⟨ax0,ax0,ax0⟩,(by simp only [Ah,cond_true,cond_false])⟩
 rintro ⟨n0,BZ,v7⟩ ⟨hm0,hinv0,hF0⟩
 try dsimp only at hm0 hinv0 hF0
 cases n0 with | zero=>exact nz hm0 | succ n0 => ?_
 have hb:=hc.rec' v7.toNat
 refine AA<|AA ?_
 refine rn ⟨[(1,tP 200001 0),(2,tP 200002 0),(3,tP 200003 0),(7,tI v7),(89,tB (decide ((v7:Int)<(b.Pours.length:Int))))],[(100000,Z6T BZ),(200001,.cells (AC.c b) 40),(200002,Z6S),(200003,Z6U v BZ)]⟩ ?_
 refine AO _ rfl (fun h1 => ?_) (fun h1 => ?_)
 ·have g1:=oT h1
  refine AZ<|AG ?_
  refine AA<|AQ<|AA ?_
  refine rc [] [0<=(v7:Int)/\(v7:Int)<((b.Pours.length:Nat):Int)] ⟨[(1,tP 200001 0),(2,tP 200002 0),(3,tP 200003 0),(7,tI v7),(8,tP 8 0)],[(8,.cells (A8.c (b.Pours.getD v7.toNat default)) 92),(100000,Z6T BZ),(200001,.cells (AC.c b) 40),(200002,Z6S),(200003,Z6U v BZ)]⟩ .nil (.cons au0 .nil)<|AG<|AA ?_
  refine DP Dh [1000097] [] [] [1,2,3,7,8] [8,100000,200001,200002,200003] [(b.Pours.getD v7.toNat default).Rects.length<=maxLen,(b.Pours.getD v7.toNat default).Rects.length*32<=140737488355328] ⟨[(1,tP 200001 0),(2,tP 200002 0),(3,tP 200003 0),(7,tI v7),(8,tP 8 0)],[(8,.cells (A8.c (b.Pours.getD v7.toNat default)) 92),(100000,Z6T BZ),(200001,.cells (AC.c b) 40),(200002,Z6S),(200003,Z6U v BZ)]⟩ .nil kr (.cons au2 (.cons au2 .nil))<|AG ?_
  refine oc [] [BZ.length=BZ.length,BZ.length+1<=maxLen,(BZ.length+1)*88<=140737488355328] .nil (.cons rfl (.cons au2 (.cons au2 .nil)))<|A3<|AG ?_
  refine Ap (A2 106 (Au (Am 8 A8.c BZ) (A0 8 A8.c ([b.Pours.getD v7.toNat default]:List A8)))) ?_
  refine rg ⟨[(1,tP 200001 0),(2,tP 200002 0),(3,tP 200003 0),(7,tI (W64 (v7+1)))],[(106,Z6V BZ b v7),(200001,.cells (AC.c b) 40),(200002,Z6S),(200003,Z6W v BZ b v7)]⟩ ?_
  (try rw [(show W64 (v7+1)=v7+1 from Az (by omega) au6)])
  refine AG ?_
  refine ⟨(n0,BZ++[b.Pours.getD v7.toNat default],v7+1),⟨?_,?_,(by rw [<- hF0];simp only [Fi,h1,cond_true,cond_false])⟩,Nat.lt_succ_self _,Cv.trans (CK (⟨[(1,tP 200001 0),(2,tP 200002 0),(3,tP 200003 0),(7,tI (v7+1))],[(100000,Z6V BZ b v7),(200001,.cells (AC.c b) 40),(200002,Z6S),(200003,.cells [.val (v 0),.val (v 1),.val (v 2),.val (v 3),.val (v 4),.val (v 5),.val (v 6),.val (v 7),.own 100000 8 (BZ++[b.Pours.getD v7.toNat default]).length,.val (v 9),.val (v 10),.val (v 11),.val (v 12),.val (v 13),.val (v 14)] 40)]⟩) 106 100000 (K:=[200003,200001,200002]) hP rfl rfl kr kr) (BE kr)⟩
  ·show ((b.Pours.length:Int)-(v7+1)).toNat<n0;omega
  exact ⟨ax0,ax0,ax0⟩
 have g1:=oF h1
 refine BH<|A5 ?_
 refine A5<|BI ?_
 exact ⟨_,Cv.trans (CD [1,2,3] [100000,200001,200002,200003] (⟨[(1,tP 200001 0),(2,tP 200002 0),(3,tP 200003 0)],[(100000,Z6T BZ),(200001,.cells (AC.c b) 40),(200002,Z6S),(200003,Z6U v BZ)]⟩) kr) (Cv.trans (CK (⟨[(1,tP 200001 0),(2,tP 200002 0),(3,tP 200003 0)],[(200104,Z6T BZ),(200001,.cells (AC.c b) 40),(200002,Z6S),(200003,Z6X v BZ)]⟩) 100000 200104 (K:=[200003,200001,200002]) hP rfl rfl kr kr) (Cv.trans (CD [1,2,3] [200003,200001,200002,200104] (⟨[(1,tP 200001 0),(2,tP 200002 0),(3,tP 200003 0)],[(200003,Z6X v BZ),(200001,.cells (AC.c b) 40),(200002,Z6S),(200104,Z6T BZ)]⟩) kr) (Cv.refl _))),rfl,(),trivial,congrArg (T4 b v) (show BZ=_ from (by rw [<- hF0];first | (simp only [Fi,h1,cond_true,cond_false] <;> rfl)))⟩
def Z6Y:Blk:=.cells Gg 40
def Z6Z:Blk:=.row 5 Bf.length (AU BR.c Bf) 95
def Z70:Blk:=.cells (Cr v [.val (v 8),.own 100000 5 Bf.length,.val (v 10),.val (v 11),.val (v 12),.val (v 13),.val (v 14)]) 40
def Z71:An:=Ak (b.Keeps.getD v9.toNat default).Shape
abbrev Vh:=[BR.mk (b.Keeps.getD v9.toNat default).Id (b.Keeps.getD v9.toNat default).Layer (Z71 b v9)]
def Z72 (Bf:List BR) (b:AC) (v9:Int):Blk:=.row 5 (Bf++(Vh b v9)).length (AU BR.c (Bf++(Vh b v9))) 95
def Z73 (v:(Nat->Value)) (Bf:List BR) (b:AC) (v9:Int):Blk:=.cells (Cr v [.val (v 8),.own 128 5 (Bf++(Vh b v9)).length,.val (v 10),.val (v 11),.val (v 12),.val (v 13),.val (v 14)]) 40
def Z74:Blk:=.cells (Cr v [.val (v 8),.own 200106 5 Bf.length,.val (v 10),.val (v 11),.val (v 12),.val (v 13),.val (v 14)]) 40
def Fj (b:AC):Nat->List BR->Int->(List BR)
 | 0,_,_=>default
 | n0+1,Bf,v9=>bif decide ((v9:Int)<(b.Keeps.length:Int)) then ((Fj b n0) (Bf++[BR.mk (b.Keeps.getD v9.toNat default).Id (b.Keeps.getD v9.toNat default).Layer (Z71 b v9)]) (v9+1)) else Bf
def Ai (b:AC):(List BR):=Fj b (((b.Keeps.length:Int)-0).toNat+1) ([]:List BR) 0
abbrev T5 (b:AC) (v:Nat->Value) (xs:List BR):AS:=⟨Bn,[(200003,.cells (Cr v [.val (v 8),.own 200106 5 xs.length,.val (v 10),.val (v 11),.val (v 12),.val (v 13),.val (v 14)]) 40),(B9 b),CF,(200106,.row 5 xs.length (AU BR.c xs) 95)]⟩
set_option maxHeartbeats 4000000 in
theorem Lr (b:AC) (hc:CW b) {c:Code} (hpc:Tryz.f21.body.bind (F6 [true,true,true,true,true,false,true])=some c):Np Tryz.prog 229 [200003,200001,200002] c (fun _:Unit=>True) (fun v=>⟨[(1,tP 200001 0),(2,tP 200002 0),(3,tP 200003 0),(9,tI 0)],[(200003,.cells [.val (v 0),.val (v 1),.val (v 2),.val (v 3),.val (v 4),.val (v 5),.val (v 6),.val (v 7),.val (v 8),vN,.val (v 10),.val (v 11),.val (v 12),.val (v 13),.val (v 14)] 40),(200001,.cells (AC.c b) 40),(200002,.cells [.i 0,.i 0,vN,.i 0,vN,vN,vN,vN,vN,vN,vN,vN,vN,vN,vN] 40)]⟩) (fun v _=>T5 b v (Ai b)):=by
 cases hpc
 intro W0 M0 X v hP hFl
 show AWp _ _ _ _ _ _ _ _ ⟨[(1,tP 200001 0),(2,tP 200002 0),(3,tP 200003 0),(9,tI 0)],[(200003,.cells [.val (v 0),.val (v 1),.val (v 2),.val (v 3),.val (v 4),.val (v 5),.val (v 6),.val (v 7),.val (v 8),vN,.val (v 10),.val (v 11),.val (v 12),.val (v 13),.val (v 14)] 40),(200001,.cells (AC.c b) 40),(200002,.cells [.i 0,.i 0,vN,.i 0,vN,vN,vN,vN,vN,vN,vN,vN,vN,vN,vN] 40)]⟩
 have h0:=hc.lParts
 have h1:=hc.lNets
 have h2:=hc.lTracks
 have h3:=hc.lVias
 have h4:=hc.lPours
 have h5:=hc.lKeeps
 have h6:=hc.lSlots
 have h7:=hc.lClasses
 have h8:=hc.lWaivers
 have h9:=hc.lMatches
 have h10:=hc.lRules
 have hr:=hc.rok
 refine AQ ?_
 refine Ap (Cv.trans (CD [1,2,3,9] [200001,200002,200003] (⟨[(1,tP 200001 0),(2,tP 200002 0),(3,tP 200003 0),(9,tI 0)],[(200001,.cells (AC.c b) 40),(200002,Z6Y),(200003,.cells [.val (v 0),.val (v 1),.val (v 2),.val (v 3),.val (v 4),.val (v 5),.val (v 6),.val (v 7),.val (v 8),vN,.val (v 10),.val (v 11),.val (v 12),.val (v 13),.val (v 14)] 40)]⟩) kr) (Cv.trans (Ft (⟨[(1,tP 200001 0),(2,tP 200002 0),(3,tP 200003 0),(9,tI 0)],[(100000,.row 5 0 (fun _ _=>default) 95),(200001,.cells (AC.c b) 40),(200002,Z6Y),(200003,.cells [.val (v 0),.val (v 1),.val (v 2),.val (v 3),.val (v 4),.val (v 5),.val (v 6),.val (v 7),.val (v 8),.own 100000 5 0,.val (v 10),.val (v 11),.val (v 12),.val (v 13),.val (v 14)] 40)]⟩) 100000 5 (fun _ _=>default) 95 [] [(200003,[9])] (K:=[200003,200001,200002]) hP rfl kr kr) (Cv.trans (GP (⟨[(1,tP 200001 0),(2,tP 200002 0),(3,tP 200003 0),(9,tI 0)],[(100000,.row 5 ([]:List BR).length (AU BR.c ([]:List BR)) 95),(200001,.cells (AC.c b) 40),(200002,Z6Y),(200003,.cells [.val (v 0),.val (v 1),.val (v 2),.val (v 3),.val (v 4),.val (v 5),.val (v 6),.val (v 7),.val (v 8),.own 100000 5 ([]:List BR).length,.val (v 10),.val (v 11),.val (v 12),.val (v 13),.val (v 14)] 40)]⟩) 100000 (CI 5 (fun _ _=>default) BR.c)) (Cv.refl _)))) ?_
 refine BP (ι:=Nat×List BR×Int) (fun x=>⟨[(1,tP 200001 0),(2,tP 200002 0),(3,tP 200003 0),(9,tI x.2.2)],[(100000,.row 5 x.2.1.length (AU BR.c x.2.1) 95),(200001,.cells (AC.c b) 40),(200002,Z6Y),(200003,.cells [.val (v 0),.val (v 1),.val (v 2),.val (v 3),.val (v 4),.val (v 5),.val (v 6),.val (v 7),.val (v 8),.own 100000 5 x.2.1.length,.val (v 10),.val (v 11),.val (v 12),.val (v 13),.val (v 14)] 40)]⟩) (fun x=>((b.Keeps.length:Int)-x.2.2).toNat<x.1/\(0<=x.2.2/\(x.2.2<=(b.Keeps.length:Int)\/x.2.2=0)/\(x.2.1.length:Int)<=0+1*(x.2.2-0))/\Fj b x.1 x.2.1 x.2.2=Ai b) (fun x=>x.1) ?_ (((b.Keeps.length:Int)-0).toNat+1,([]:List BR),0) ⟨Nat.lt_succ_self _,⟨ax0,ax0,ax0⟩,(by simp only [Ai,cond_true,cond_false])⟩
 rintro ⟨n0,Bf,v9⟩ ⟨hm0,hinv0,hF0⟩
 try dsimp only at hm0 hinv0 hF0
 cases n0 with | zero=>exact nz hm0 | succ n0 => ?_
 refine AA<|AA ?_
 refine rn ⟨[(1,tP 200001 0),(2,tP 200002 0),(3,tP 200003 0),(9,tI v9),(112,tB (decide ((v9:Int)<(b.Keeps.length:Int))))],[(100000,Z6Z Bf),(200001,.cells (AC.c b) 40),(200002,Z6Y),(200003,Z70 v Bf)]⟩ ?_
 refine AO _ rfl (fun h1 => ?_) (fun h1 => ?_)
 ·have g1:=oT h1
  refine AZ<|AG ?_
  refine AA<|AQ<|AA ?_
  refine oc [] [0<=(v9:Int)/\(v9:Int)<((b.Keeps.length:Nat):Int)] .nil (.cons au0 .nil)<|AG<|AA ?_
  refine oc [(122,B7 (b.Keeps.getD v9.toNat default).Shape)] [Ay (B7 (b.Keeps.getD v9.toNat default).Shape).2.1] (.cons (Dz (b.Keeps.getD v9.toNat default).Shape au32) .nil) (.cons rfl .nil)<|AG ?_
  refine oc [] [Bf.length=Bf.length,Bf.length+1<=maxLen,(Bf.length+1)*56<=140737488355328] .nil (.cons rfl (.cons au2 (.cons au2 .nil)))<|A3<|AG ?_
  refine Ap (A2 128 (Au (Am 5 BR.c Bf) (A0 5 BR.c ([BR.mk (b.Keeps.getD v9.toNat default).Id (b.Keeps.getD v9.toNat default).Layer (Z71 b v9)]:List BR)))) ?_
  refine rg ⟨[(1,tP 200001 0),(2,tP 200002 0),(3,tP 200003 0),(9,tI (W64 (v9+1)))],[(128,Z72 Bf b v9),(200001,.cells (AC.c b) 40),(200002,Z6Y),(200003,Z73 v Bf b v9)]⟩ ?_
  (try rw [(show W64 (v9+1)=v9+1 from Az (by omega) au6)])
  refine AG ?_
  refine ⟨(n0,Bf++[BR.mk (b.Keeps.getD v9.toNat default).Id (b.Keeps.getD v9.toNat default).Layer (Z71 b v9)],v9+1),⟨?_,?_,(by rw [<- hF0];simp only [Fj,h1,cond_true,cond_false])⟩,Nat.lt_succ_self _,Cv.trans (CK (⟨[(1,tP 200001 0),(2,tP 200002 0),(3,tP 200003 0),(9,tI (v9+1))],[(100000,Z72 Bf b v9),(200001,.cells (AC.c b) 40),(200002,Z6Y),(200003,.cells [.val (v 0),.val (v 1),.val (v 2),.val (v 3),.val (v 4),.val (v 5),.val (v 6),.val (v 7),.val (v 8),.own 100000 5 (Bf++[BR.mk (b.Keeps.getD v9.toNat default).Id (b.Keeps.getD v9.toNat default).Layer (Z71 b v9)]).length,.val (v 10),.val (v 11),.val (v 12),.val (v 13),.val (v 14)] 40)]⟩) 128 100000 (K:=[200003,200001,200002]) hP rfl rfl kr kr) (BE kr)⟩
  ·show ((b.Keeps.length:Int)-(v9+1)).toNat<n0;omega
  exact ⟨ax0,ax0,ax0⟩
 have g1:=oF h1
 refine BH<|A5 ?_
 refine A5<|BI ?_
 exact ⟨_,Cv.trans (CD [1,2,3] [100000,200001,200002,200003] (⟨[(1,tP 200001 0),(2,tP 200002 0),(3,tP 200003 0)],[(100000,Z6Z Bf),(200001,.cells (AC.c b) 40),(200002,Z6Y),(200003,Z70 v Bf)]⟩) kr) (Cv.trans (CK (⟨[(1,tP 200001 0),(2,tP 200002 0),(3,tP 200003 0)],[(200106,Z6Z Bf),(200001,.cells (AC.c b) 40),(200002,Z6Y),(200003,Z74 v Bf)]⟩) 100000 200106 (K:=[200003,200001,200002]) hP rfl rfl kr kr) (Cv.trans (CD [1,2,3] [200003,200001,200002,200106] (⟨[(1,tP 200001 0),(2,tP 200002 0),(3,tP 200003 0)],[(200003,Z74 v Bf),(200001,.cells (AC.c b) 40),(200002,Z6Y),(200106,Z6Z Bf)]⟩) kr) (Cv.refl _))),rfl,(),trivial,congrArg (T5 b v) (show Bf=_ from (by rw [<- hF0];first | (simp only [Fj,h1,cond_true,cond_false] <;> rfl)))⟩
def Z75:Blk:=.cells Gg 40
def Z76:Blk:=.row 4 BV.length (AU Bq.c BV) 97
def Z77:Blk:=.cells (Cr v [.val (v 8),.val (v 9),.own 100000 4 BV.length,.val (v 11),.val (v 12),.val (v 13),.val (v 14)]) 40
def Z78:An:=Ak (b.Slots.getD v11.toNat default).Shape
abbrev VP:=[Bq.mk (b.Slots.getD v11.toNat default).Id (Z78 b v11)]
def Z79 (BV:List Bq) (b:AC) (v11:Int):Blk:=.row 4 (BV++(VP b v11)).length (AU Bq.c (BV++(VP b v11))) 97
def Z7a (v:(Nat->Value)) (BV:List Bq) (b:AC) (v11:Int):Blk:=.cells (Cr v [.val (v 8),.val (v 9),.own 150 4 (BV++(VP b v11)).length,.val (v 11),.val (v 12),.val (v 13),.val (v 14)]) 40
def Z7b:Blk:=.cells (Cr v [.val (v 8),.val (v 9),.own 200108 4 BV.length,.val (v 11),.val (v 12),.val (v 13),.val (v 14)]) 40
def Fg (b:AC):Nat->List Bq->Int->(List Bq)
 | 0,_,_=>default
 | n0+1,BV,v11=>bif decide ((v11:Int)<(b.Slots.length:Int)) then ((Fg b n0) (BV++[Bq.mk (b.Slots.getD v11.toNat default).Id (Z78 b v11)]) (v11+1)) else BV
def Ag (b:AC):(List Bq):=Fg b (((b.Slots.length:Int)-0).toNat+1) ([]:List Bq) 0
abbrev T0 (b:AC) (v:Nat->Value) (xs:List Bq):AS:=⟨Bn,[(200003,.cells (Cr v [.val (v 8),.val (v 9),.own 200108 4 xs.length,.val (v 11),.val (v 12),.val (v 13),.val (v 14)]) 40),(B9 b),CF,(200108,.row 4 xs.length (AU Bq.c xs) 97)]⟩
set_option maxHeartbeats 4000000 in
theorem Lp (b:AC) (hc:CW b) {c:Code} (hpc:Tryz.f21.body.bind (F6 [true,true,true,true,true,true,false,true])=some c):Np Tryz.prog 229 [200003,200001,200002] c (fun _:Unit=>True) (fun v=>⟨[(1,tP 200001 0),(2,tP 200002 0),(3,tP 200003 0),(11,tI 0)],[(200003,.cells [.val (v 0),.val (v 1),.val (v 2),.val (v 3),.val (v 4),.val (v 5),.val (v 6),.val (v 7),.val (v 8),.val (v 9),vN,.val (v 11),.val (v 12),.val (v 13),.val (v 14)] 40),(200001,.cells (AC.c b) 40),(200002,.cells [.i 0,.i 0,vN,.i 0,vN,vN,vN,vN,vN,vN,vN,vN,vN,vN,vN] 40)]⟩) (fun v _=>T0 b v (Ag b)):=by
 cases hpc
 intro W0 M0 X v hP hFl
 show AWp _ _ _ _ _ _ _ _ ⟨[(1,tP 200001 0),(2,tP 200002 0),(3,tP 200003 0),(11,tI 0)],[(200003,.cells [.val (v 0),.val (v 1),.val (v 2),.val (v 3),.val (v 4),.val (v 5),.val (v 6),.val (v 7),.val (v 8),.val (v 9),vN,.val (v 11),.val (v 12),.val (v 13),.val (v 14)] 40),(200001,.cells (AC.c b) 40),(200002,.cells [.i 0,.i 0,vN,.i 0,vN,vN,vN,vN,vN,vN,vN,vN,vN,vN,vN] 40)]⟩
 have h0:=hc.lParts
 have h1:=hc.lNets
 have h2:=hc.lTracks
 have h3:=hc.lVias
 have h4:=hc.lPours
 have h5:=hc.lKeeps
 have h6:=hc.lSlots
 have h7:=hc.lClasses
 have h8:=hc.lWaivers
 have h9:=hc.lMatches
 have h10:=hc.lRules
 have hr:=hc.rok
 refine AQ ?_
 refine Ap (Cv.trans (CD [1,2,3,11] [200001,200002,200003] (⟨[(1,tP 200001 0),(2,tP 200002 0),(3,tP 200003 0),(11,tI 0)],[(200001,.cells (AC.c b) 40),(200002,Z75),(200003,.cells [.val (v 0),.val (v 1),.val (v 2),.val (v 3),.val (v 4),.val (v 5),.val (v 6),.val (v 7),.val (v 8),.val (v 9),vN,.val (v 11),.val (v 12),.val (v 13),.val (v 14)] 40)]⟩) kr) (Cv.trans (Ft (⟨[(1,tP 200001 0),(2,tP 200002 0),(3,tP 200003 0),(11,tI 0)],[(100000,.row 4 0 (fun _ _=>default) 97),(200001,.cells (AC.c b) 40),(200002,Z75),(200003,.cells [.val (v 0),.val (v 1),.val (v 2),.val (v 3),.val (v 4),.val (v 5),.val (v 6),.val (v 7),.val (v 8),.val (v 9),.own 100000 4 0,.val (v 11),.val (v 12),.val (v 13),.val (v 14)] 40)]⟩) 100000 4 (fun _ _=>default) 97 [] [(200003,[10])] (K:=[200003,200001,200002]) hP rfl kr kr) (Cv.trans (GP (⟨[(1,tP 200001 0),(2,tP 200002 0),(3,tP 200003 0),(11,tI 0)],[(100000,.row 4 ([]:List Bq).length (AU Bq.c ([]:List Bq)) 97),(200001,.cells (AC.c b) 40),(200002,Z75),(200003,.cells [.val (v 0),.val (v 1),.val (v 2),.val (v 3),.val (v 4),.val (v 5),.val (v 6),.val (v 7),.val (v 8),.val (v 9),.own 100000 4 ([]:List Bq).length,.val (v 11),.val (v 12),.val (v 13),.val (v 14)] 40)]⟩) 100000 (CI 4 (fun _ _=>default) Bq.c)) (Cv.refl _)))) ?_
 refine BP (ι:=Nat×List Bq×Int) (fun x=>⟨[(1,tP 200001 0),(2,tP 200002 0),(3,tP 200003 0),(11,tI x.2.2)],[(100000,.row 4 x.2.1.length (AU Bq.c x.2.1) 97),(200001,.cells (AC.c b) 40),(200002,Z75),(200003,.cells [.val (v 0),.val (v 1),.val (v 2),.val (v 3),.val (v 4),.val (v 5),.val (v 6),.val (v 7),.val (v 8),.val (v 9),.own 100000 4 x.2.1.length,.val (v 11),.val (v 12),.val (v 13),.val (v 14)] 40)]⟩) (fun x=>((b.Slots.length:Int)-x.2.2).toNat<x.1/\(0<=x.2.2/\(x.2.2<=(b.Slots.length:Int)\/x.2.2=0)/\(x.2.1.length:Int)<=0+1*(x.2.2-0))/\Fg b x.1 x.2.1 x.2.2=Ag b) (fun x=>x.1) ?_ (((b.Slots.length:Int)-0).toNat+1,([]:List Bq),0) ⟨Nat.lt_succ_self _,⟨ax0,ax0,ax0⟩,(by simp only [Ag,cond_true,cond_false])⟩
 rintro ⟨n0,BV,v11⟩ ⟨hm0,hinv0,hF0⟩
 try dsimp only at hm0 hinv0 hF0
 cases n0 with | zero=>exact nz hm0 | succ n0 => ?_
 refine AA<|AA ?_
 refine rn ⟨[(1,tP 200001 0),(2,tP 200002 0),(3,tP 200003 0),(11,tI v11),(134,tB (decide ((v11:Int)<(b.Slots.length:Int))))],[(100000,Z76 BV),(200001,.cells (AC.c b) 40),(200002,Z75),(200003,Z77 v BV)]⟩ ?_
 refine AO _ rfl (fun h1 => ?_) (fun h1 => ?_)
 ·have g1:=oT h1
  refine AZ<|AG ?_
  refine AA<|AQ<|AA ?_
  refine oc [] [0<=(v11:Int)/\(v11:Int)<((b.Slots.length:Nat):Int)] .nil (.cons au0 .nil)<|AG<|AA ?_
  refine oc [(144,B7 (b.Slots.getD v11.toNat default).Shape)] [Ay (B7 (b.Slots.getD v11.toNat default).Shape).2.1] (.cons (Dz (b.Slots.getD v11.toNat default).Shape au32) .nil) (.cons rfl .nil)<|AG ?_
  refine oc [] [BV.length=BV.length,BV.length+1<=maxLen,(BV.length+1)*48<=140737488355328] .nil (.cons rfl (.cons au2 (.cons au2 .nil)))<|A3<|AG ?_
  refine Ap (A2 150 (Au (Am 4 Bq.c BV) (A0 4 Bq.c ([Bq.mk (b.Slots.getD v11.toNat default).Id (Z78 b v11)]:List Bq)))) ?_
  refine rg ⟨[(1,tP 200001 0),(2,tP 200002 0),(3,tP 200003 0),(11,tI (W64 (v11+1)))],[(150,Z79 BV b v11),(200001,.cells (AC.c b) 40),(200002,Z75),(200003,Z7a v BV b v11)]⟩ ?_
  (try rw [(show W64 (v11+1)=v11+1 from Az (by omega) au6)])
  refine AG ?_
  refine ⟨(n0,BV++[Bq.mk (b.Slots.getD v11.toNat default).Id (Z78 b v11)],v11+1),⟨?_,?_,(by rw [<- hF0];simp only [Fg,h1,cond_true,cond_false])⟩,Nat.lt_succ_self _,Cv.trans (CK (⟨[(1,tP 200001 0),(2,tP 200002 0),(3,tP 200003 0),(11,tI (v11+1))],[(100000,Z79 BV b v11),(200001,.cells (AC.c b) 40),(200002,Z75),(200003,.cells [.val (v 0),.val (v 1),.val (v 2),.val (v 3),.val (v 4),.val (v 5),.val (v 6),.val (v 7),.val (v 8),.val (v 9),.own 100000 4 (BV++[Bq.mk (b.Slots.getD v11.toNat default).Id (Z78 b v11)]).length,.val (v 11),.val (v 12),.val (v 13),.val (v 14)] 40)]⟩) 150 100000 (K:=[200003,200001,200002]) hP rfl rfl kr kr) (BE kr)⟩
  ·show ((b.Slots.length:Int)-(v11+1)).toNat<n0;omega
  exact ⟨ax0,ax0,ax0⟩
 have g1:=oF h1
 refine BH<|A5 ?_
 refine A5<|BI ?_
 exact ⟨_,Cv.trans (CD [1,2,3] [100000,200001,200002,200003] (⟨[(1,tP 200001 0),(2,tP 200002 0),(3,tP 200003 0)],[(100000,Z76 BV),(200001,.cells (AC.c b) 40),(200002,Z75),(200003,Z77 v BV)]⟩) kr) (Cv.trans (CK (⟨[(1,tP 200001 0),(2,tP 200002 0),(3,tP 200003 0)],[(200108,Z76 BV),(200001,.cells (AC.c b) 40),(200002,Z75),(200003,Z7b v BV)]⟩) 100000 200108 (K:=[200003,200001,200002]) hP rfl rfl kr kr) (Cv.trans (CD [1,2,3] [200003,200001,200002,200108] (⟨[(1,tP 200001 0),(2,tP 200002 0),(3,tP 200003 0)],[(200003,Z7b v BV),(200001,.cells (AC.c b) 40),(200002,Z75),(200108,Z76 BV)]⟩) kr) (Cv.refl _))),rfl,(),trivial,congrArg (T0 b v) (show BV=_ from (by rw [<- hF0];first | (simp only [Fg,h1,cond_true,cond_false] <;> rfl)))⟩
def Z7c:Blk:=.cells Gg 40
def Z7d:Blk:=.row 2 BU.length (AU BS.c BU) 100
abbrev Ge (t_:List Cl):List Cl:=(.val (v 8))::(.val (v 9))::(.val (v 10))::t_
def Z7e:Blk:=.cells (Cr v (Ge v [.own 100000 2 BU.length,.val (v 12),.val (v 13),.val (v 14)])) 40
def Z7f (BU:List BS) (b:AC) (v13:Int):Blk:=.row 2 (BU++[b.Classes.getD v13.toNat default]).length (AU BS.c (BU++[b.Classes.getD v13.toNat default])) 100
def Z7g (v:(Nat->Value)) (BU:List BS) (b:AC) (v13:Int):Blk:=.cells (Cr v (Ge v [.own 177 2 (BU++[b.Classes.getD v13.toNat default]).length,.val (v 12),.val (v 13),.val (v 14)])) 40
def Z7h:Blk:=.cells (Cr v (Ge v [.own 200110 2 BU.length,.val (v 12),.val (v 13),.val (v 14)])) 40
def EV (b:AC):Nat->List BS->Int->(List BS)
 | 0,_,_=>default
 | n0+1,BU,v13=>bif decide ((v13:Int)<(b.Classes.length:Int)) then ((EV b n0) (BU++[b.Classes.getD v13.toNat default]) (v13+1)) else BU
def AP (b:AC):(List BS):=EV b (((b.Classes.length:Int)-0).toNat+1) ([]:List BS) 0
abbrev Oz (b:AC) (v:Nat->Value) (xs:List BS):AS:=⟨Bn,[(200003,.cells (Cr v (Ge v [.own 200110 2 xs.length,.val (v 12),.val (v 13),.val (v 14)])) 40),(B9 b),CF,(200110,.row 2 xs.length (AU BS.c xs) 100)]⟩
set_option maxHeartbeats 4000000 in
theorem Io (b:AC) (hc:CW b) {c:Code} (hpc:Tryz.f21.body.bind (F6 [true,true,true,true,true,true,true,false,true])=some c):Np Tryz.prog 229 [200003,200001,200002] c (fun _:Unit=>True) (fun v=>⟨[(1,tP 200001 0),(2,tP 200002 0),(3,tP 200003 0),(13,tI 0)],[(200003,.cells [.val (v 0),.val (v 1),.val (v 2),.val (v 3),.val (v 4),.val (v 5),.val (v 6),.val (v 7),.val (v 8),.val (v 9),.val (v 10),vN,.val (v 12),.val (v 13),.val (v 14)] 40),(200001,.cells (AC.c b) 40),(200002,.cells [.i 0,.i 0,vN,.i 0,vN,vN,vN,vN,vN,vN,vN,vN,vN,vN,vN] 40)]⟩) (fun v _=>Oz b v (AP b)):=by
 cases hpc
 intro W0 M0 X v hP hFl
 show AWp _ _ _ _ _ _ _ _ ⟨[(1,tP 200001 0),(2,tP 200002 0),(3,tP 200003 0),(13,tI 0)],[(200003,.cells [.val (v 0),.val (v 1),.val (v 2),.val (v 3),.val (v 4),.val (v 5),.val (v 6),.val (v 7),.val (v 8),.val (v 9),.val (v 10),vN,.val (v 12),.val (v 13),.val (v 14)] 40),(200001,.cells (AC.c b) 40),(200002,.cells [.i 0,.i 0,vN,.i 0,vN,vN,vN,vN,vN,vN,vN,vN,vN,vN,vN] 40)]⟩
 have h0:=hc.lParts
 have h1:=hc.lNets
 have h2:=hc.lTracks
 have h3:=hc.lVias
 have h4:=hc.lPours
 have h5:=hc.lKeeps
 have h6:=hc.lSlots
 have h7:=hc.lClasses
 have h8:=hc.lWaivers
 have h9:=hc.lMatches
 have h10:=hc.lRules
 have hr:=hc.rok
 refine AQ ?_
 refine Ap (Cv.trans (CD [1,2,3,13] [200001,200002,200003] (⟨[(1,tP 200001 0),(2,tP 200002 0),(3,tP 200003 0),(13,tI 0)],[(200001,.cells (AC.c b) 40),(200002,Z7c),(200003,.cells [.val (v 0),.val (v 1),.val (v 2),.val (v 3),.val (v 4),.val (v 5),.val (v 6),.val (v 7),.val (v 8),.val (v 9),.val (v 10),vN,.val (v 12),.val (v 13),.val (v 14)] 40)]⟩) kr) (Cv.trans (Ft (⟨[(1,tP 200001 0),(2,tP 200002 0),(3,tP 200003 0),(13,tI 0)],[(100000,.row 2 0 (fun _ _=>default) 100),(200001,.cells (AC.c b) 40),(200002,Z7c),(200003,.cells [.val (v 0),.val (v 1),.val (v 2),.val (v 3),.val (v 4),.val (v 5),.val (v 6),.val (v 7),.val (v 8),.val (v 9),.val (v 10),.own 100000 2 0,.val (v 12),.val (v 13),.val (v 14)] 40)]⟩) 100000 2 (fun _ _=>default) 100 [] [(200003,[11])] (K:=[200003,200001,200002]) hP rfl kr kr) (Cv.trans (GP (⟨[(1,tP 200001 0),(2,tP 200002 0),(3,tP 200003 0),(13,tI 0)],[(100000,.row 2 ([]:List BS).length (AU BS.c ([]:List BS)) 100),(200001,.cells (AC.c b) 40),(200002,Z7c),(200003,.cells [.val (v 0),.val (v 1),.val (v 2),.val (v 3),.val (v 4),.val (v 5),.val (v 6),.val (v 7),.val (v 8),.val (v 9),.val (v 10),.own 100000 2 ([]:List BS).length,.val (v 12),.val (v 13),.val (v 14)] 40)]⟩) 100000 (CI 2 (fun _ _=>default) BS.c)) (Cv.refl _)))) ?_
 refine BP (ι:=Nat×List BS×Int) (fun x=>⟨[(1,tP 200001 0),(2,tP 200002 0),(3,tP 200003 0),(13,tI x.2.2)],[(100000,.row 2 x.2.1.length (AU BS.c x.2.1) 100),(200001,.cells (AC.c b) 40),(200002,Z7c),(200003,.cells [.val (v 0),.val (v 1),.val (v 2),.val (v 3),.val (v 4),.val (v 5),.val (v 6),.val (v 7),.val (v 8),.val (v 9),.val (v 10),.own 100000 2 x.2.1.length,.val (v 12),.val (v 13),.val (v 14)] 40)]⟩) (fun x=>((b.Classes.length:Int)-x.2.2).toNat<x.1/\(0<=x.2.2/\(x.2.2<=(b.Classes.length:Int)\/x.2.2=0)/\(x.2.1.length:Int)<=0+1*(x.2.2-0))/\EV b x.1 x.2.1 x.2.2=AP b) (fun x=>x.1) ?_ (((b.Classes.length:Int)-0).toNat+1,([]:List BS),0) ⟨Nat.lt_succ_self _,⟨ax0,ax0,ax0⟩,(by simp only [AP,cond_true,cond_false])⟩
 rintro ⟨n0,BU,v13⟩ ⟨hm0,hinv0,hF0⟩
 try dsimp only at hm0 hinv0 hF0
 cases n0 with | zero=>exact nz hm0 | succ n0 => ?_
 have hb:=hc.cnt v13.toNat
 refine AA<|AA ?_
 refine rn ⟨[(1,tP 200001 0),(2,tP 200002 0),(3,tP 200003 0),(13,tI v13),(156,tB (decide ((v13:Int)<(b.Classes.length:Int))))],[(100000,Z7d BU),(200001,.cells (AC.c b) 40),(200002,Z7c),(200003,Z7e v BU)]⟩ ?_
 refine AO _ rfl (fun h1 => ?_) (fun h1 => ?_)
 ·have g1:=oT h1
  refine AZ<|AG ?_
  refine AA<|AQ ?_
  refine od [1000167] [] [0<=(v13:Int)/\(v13:Int)<((b.Classes.length:Nat):Int),0<=(v13:Int)/\(v13:Int)<((b.Classes.length:Nat):Int),(b.Classes.getD v13.toNat default).Nets.length<=maxLen,(b.Classes.getD v13.toNat default).Nets.length*16<=140737488355328,BU.length=BU.length,BU.length+1<=maxLen,(BU.length+1)*40<=140737488355328] .nil (.cons au0 (.cons au0 (.cons au2 (.cons au2 (.cons rfl (.cons au2 (.cons au2 .nil)))))))<|A3<|AG ?_
  refine Ap (A2 177 (Au (Am 2 BS.c BU) (A0 2 BS.c ([b.Classes.getD v13.toNat default]:List BS)))) ?_
  refine rg ⟨[(1,tP 200001 0),(2,tP 200002 0),(3,tP 200003 0),(13,tI (W64 (v13+1)))],[(177,Z7f BU b v13),(200001,.cells (AC.c b) 40),(200002,Z7c),(200003,Z7g v BU b v13)]⟩ ?_
  (try rw [(show W64 (v13+1)=v13+1 from Az (by omega) au6)])
  refine AG ?_
  refine ⟨(n0,BU++[b.Classes.getD v13.toNat default],v13+1),⟨?_,?_,(by rw [<- hF0];simp only [EV,h1,cond_true,cond_false])⟩,Nat.lt_succ_self _,Cv.trans (CK (⟨[(1,tP 200001 0),(2,tP 200002 0),(3,tP 200003 0),(13,tI (v13+1))],[(100000,Z7f BU b v13),(200001,.cells (AC.c b) 40),(200002,Z7c),(200003,.cells [.val (v 0),.val (v 1),.val (v 2),.val (v 3),.val (v 4),.val (v 5),.val (v 6),.val (v 7),.val (v 8),.val (v 9),.val (v 10),.own 100000 2 (BU++[b.Classes.getD v13.toNat default]).length,.val (v 12),.val (v 13),.val (v 14)] 40)]⟩) 177 100000 (K:=[200003,200001,200002]) hP rfl rfl kr kr) (BE kr)⟩
  ·show ((b.Classes.length:Int)-(v13+1)).toNat<n0;omega
  exact ⟨ax0,ax0,ax0⟩
 have g1:=oF h1
 refine BH<|A5 ?_
 refine A5<|BI ?_
 exact ⟨_,Cv.trans (CD [1,2,3] [100000,200001,200002,200003] (⟨[(1,tP 200001 0),(2,tP 200002 0),(3,tP 200003 0)],[(100000,Z7d BU),(200001,.cells (AC.c b) 40),(200002,Z7c),(200003,Z7e v BU)]⟩) kr) (Cv.trans (CK (⟨[(1,tP 200001 0),(2,tP 200002 0),(3,tP 200003 0)],[(200110,Z7d BU),(200001,.cells (AC.c b) 40),(200002,Z7c),(200003,Z7h v BU)]⟩) 100000 200110 (K:=[200003,200001,200002]) hP rfl rfl kr kr) (Cv.trans (CD [1,2,3] [200003,200001,200002,200110] (⟨[(1,tP 200001 0),(2,tP 200002 0),(3,tP 200003 0)],[(200003,Z7h v BU),(200001,.cells (AC.c b) 40),(200002,Z7c),(200110,Z7d BU)]⟩) kr) (Cv.refl _))),rfl,(),trivial,congrArg (Oz b v) (show BU=_ from (by rw [<- hF0];first | (simp only [EV,h1,cond_true,cond_false] <;> rfl)))⟩
def Z7i:Blk:=.cells Gg 40
def Z7j:Blk:=.row 3 BK.length (AU Bb.c BK) 102
def Z7k:Blk:=.cells (Cr v (Ge v [.val (v 11),.val (v 12),.val (v 13),.own 100000 3 BK.length])) 40
def Z7l (BK:List Bb) (b:AC) (v14:Int):Blk:=.row 3 (BK++[b.Matches.getD v14.toNat default]).length (AU Bb.c (BK++[b.Matches.getD v14.toNat default])) 102
def Z7m (v:(Nat->Value)) (BK:List Bb) (b:AC) (v14:Int):Blk:=.cells (Cr v (Ge v [.val (v 11),.val (v 12),.val (v 13),.own 200 3 (BK++[b.Matches.getD v14.toNat default]).length])) 40
def Z7n:Blk:=.cells (Cr v (Ge v [.val (v 11),.val (v 12),.val (v 13),.own 200112 3 BK.length])) 40
def EU (b:AC):Nat->List Bb->Int->(List Bb)
 | 0,_,_=>default
 | n0+1,BK,v14=>bif decide ((v14:Int)<(b.Matches.length:Int)) then ((EU b n0) (BK++[b.Matches.getD v14.toNat default]) (v14+1)) else BK
def AM (b:AC):(List Bb):=EU b (((b.Matches.length:Int)-0).toNat+1) ([]:List Bb) 0
abbrev Oy (b:AC) (v:Nat->Value) (xs:List Bb):AS:=⟨Bn,[(200003,.cells (Cr v (Ge v [.val (v 11),.val (v 12),.val (v 13),.own 200112 3 xs.length])) 40),(B9 b),CF,(200112,.row 3 xs.length (AU Bb.c xs) 102)]⟩
set_option maxHeartbeats 4000000 in
theorem In (b:AC) (hc:CW b) {c:Code} (hpc:Tryz.f21.body.bind (F6 [true,true,true,true,true,true,true,true,false,true])=some c):Np Tryz.prog 229 [200003,200001,200002] c (fun _:Unit=>True) (fun v=>⟨[(1,tP 200001 0),(2,tP 200002 0),(3,tP 200003 0),(14,tI 0)],[(200003,.cells [.val (v 0),.val (v 1),.val (v 2),.val (v 3),.val (v 4),.val (v 5),.val (v 6),.val (v 7),.val (v 8),.val (v 9),.val (v 10),.val (v 11),.val (v 12),.val (v 13),vN] 40),(200001,.cells (AC.c b) 40),(200002,.cells [.i 0,.i 0,vN,.i 0,vN,vN,vN,vN,vN,vN,vN,vN,vN,vN,vN] 40)]⟩) (fun v _=>Oy b v (AM b)):=by
 cases hpc
 intro W0 M0 X v hP hFl
 show AWp _ _ _ _ _ _ _ _ ⟨[(1,tP 200001 0),(2,tP 200002 0),(3,tP 200003 0),(14,tI 0)],[(200003,.cells [.val (v 0),.val (v 1),.val (v 2),.val (v 3),.val (v 4),.val (v 5),.val (v 6),.val (v 7),.val (v 8),.val (v 9),.val (v 10),.val (v 11),.val (v 12),.val (v 13),vN] 40),(200001,.cells (AC.c b) 40),(200002,.cells [.i 0,.i 0,vN,.i 0,vN,vN,vN,vN,vN,vN,vN,vN,vN,vN,vN] 40)]⟩
 have h0:=hc.lParts
 have h1:=hc.lNets
 have h2:=hc.lTracks
 have h3:=hc.lVias
 have h4:=hc.lPours
 have h5:=hc.lKeeps
 have h6:=hc.lSlots
 have h7:=hc.lClasses
 have h8:=hc.lWaivers
 have h9:=hc.lMatches
 have h10:=hc.lRules
 have hr:=hc.rok
 refine AQ ?_
 refine Ap (Cv.trans (CD [1,2,3,14] [200001,200002,200003] (⟨[(1,tP 200001 0),(2,tP 200002 0),(3,tP 200003 0),(14,tI 0)],[(200001,.cells (AC.c b) 40),(200002,Z7i),(200003,.cells [.val (v 0),.val (v 1),.val (v 2),.val (v 3),.val (v 4),.val (v 5),.val (v 6),.val (v 7),.val (v 8),.val (v 9),.val (v 10),.val (v 11),.val (v 12),.val (v 13),vN] 40)]⟩) kr) (Cv.trans (Ft (⟨[(1,tP 200001 0),(2,tP 200002 0),(3,tP 200003 0),(14,tI 0)],[(100000,.row 3 0 (fun _ _=>default) 102),(200001,.cells (AC.c b) 40),(200002,Z7i),(200003,.cells [.val (v 0),.val (v 1),.val (v 2),.val (v 3),.val (v 4),.val (v 5),.val (v 6),.val (v 7),.val (v 8),.val (v 9),.val (v 10),.val (v 11),.val (v 12),.val (v 13),.own 100000 3 0] 40)]⟩) 100000 3 (fun _ _=>default) 102 [] [(200003,[14])] (K:=[200003,200001,200002]) hP rfl kr kr) (Cv.trans (GP (⟨[(1,tP 200001 0),(2,tP 200002 0),(3,tP 200003 0),(14,tI 0)],[(100000,.row 3 ([]:List Bb).length (AU Bb.c ([]:List Bb)) 102),(200001,.cells (AC.c b) 40),(200002,Z7i),(200003,.cells [.val (v 0),.val (v 1),.val (v 2),.val (v 3),.val (v 4),.val (v 5),.val (v 6),.val (v 7),.val (v 8),.val (v 9),.val (v 10),.val (v 11),.val (v 12),.val (v 13),.own 100000 3 ([]:List Bb).length] 40)]⟩) 100000 (CI 3 (fun _ _=>default) Bb.c)) (Cv.refl _)))) ?_
 refine BP (ι:=Nat×List Bb×Int) (fun x=>⟨[(1,tP 200001 0),(2,tP 200002 0),(3,tP 200003 0),(14,tI x.2.2)],[(100000,.row 3 x.2.1.length (AU Bb.c x.2.1) 102),(200001,.cells (AC.c b) 40),(200002,Z7i),(200003,.cells [.val (v 0),.val (v 1),.val (v 2),.val (v 3),.val (v 4),.val (v 5),.val (v 6),.val (v 7),.val (v 8),.val (v 9),.val (v 10),.val (v 11),.val (v 12),.val (v 13),.own 100000 3 x.2.1.length] 40)]⟩) (fun x=>((b.Matches.length:Int)-x.2.2).toNat<x.1/\(0<=x.2.2/\(x.2.2<=(b.Matches.length:Int)\/x.2.2=0)/\(x.2.1.length:Int)<=0+1*(x.2.2-0))/\EU b x.1 x.2.1 x.2.2=AM b) (fun x=>x.1) ?_ (((b.Matches.length:Int)-0).toNat+1,([]:List Bb),0) ⟨Nat.lt_succ_self _,⟨ax0,ax0,ax0⟩,(by simp only [AM,cond_true,cond_false])⟩
 rintro ⟨n0,BK,v14⟩ ⟨hm0,hinv0,hF0⟩
 try dsimp only at hm0 hinv0 hF0
 cases n0 with | zero=>exact nz hm0 | succ n0 => ?_
 have hb:=hc.mnt v14.toNat
 refine AA<|AA ?_
 refine rn ⟨[(1,tP 200001 0),(2,tP 200002 0),(3,tP 200003 0),(14,tI v14),(183,tB (decide ((v14:Int)<(b.Matches.length:Int))))],[(100000,Z7j BK),(200001,.cells (AC.c b) 40),(200002,Z7i),(200003,Z7k v BK)]⟩ ?_
 refine AO _ rfl (fun h1 => ?_) (fun h1 => ?_)
 ·have g1:=oT h1
  refine AZ<|AG ?_
  refine AA<|AQ<|AA ?_
  refine rc [] [0<=(v14:Int)/\(v14:Int)<((b.Matches.length:Nat):Int)] ⟨[(1,tP 200001 0),(2,tP 200002 0),(3,tP 200003 0),(14,tI v14),(15,tP 15 0)],[(15,.cells (Bb.c (b.Matches.getD v14.toNat default)) 102),(100000,Z7j BK),(200001,.cells (AC.c b) 40),(200002,Z7i),(200003,Z7k v BK)]⟩ .nil (.cons au0 .nil)<|AG<|AA ?_
  refine DP Dh [1000191] [] [] [1,2,3,14,15] [15,100000,200001,200002,200003] [(b.Matches.getD v14.toNat default).Nets.length<=maxLen,(b.Matches.getD v14.toNat default).Nets.length*16<=140737488355328] ⟨[(1,tP 200001 0),(2,tP 200002 0),(3,tP 200003 0),(14,tI v14),(15,tP 15 0)],[(15,.cells (Bb.c (b.Matches.getD v14.toNat default)) 102),(100000,Z7j BK),(200001,.cells (AC.c b) 40),(200002,Z7i),(200003,Z7k v BK)]⟩ .nil kr (.cons au2 (.cons au2 .nil))<|AG ?_
  refine oc [] [BK.length=BK.length,BK.length+1<=maxLen,(BK.length+1)*48<=140737488355328] .nil (.cons rfl (.cons au2 (.cons au2 .nil)))<|A3<|AG ?_
  refine Ap (A2 200 (Au (Am 3 Bb.c BK) (A0 3 Bb.c ([b.Matches.getD v14.toNat default]:List Bb)))) ?_
  refine rg ⟨[(1,tP 200001 0),(2,tP 200002 0),(3,tP 200003 0),(14,tI (W64 (v14+1)))],[(200,Z7l BK b v14),(200001,.cells (AC.c b) 40),(200002,Z7i),(200003,Z7m v BK b v14)]⟩ ?_
  (try rw [(show W64 (v14+1)=v14+1 from Az (by omega) au6)])
  refine AG ?_
  refine ⟨(n0,BK++[b.Matches.getD v14.toNat default],v14+1),⟨?_,?_,(by rw [<- hF0];simp only [EU,h1,cond_true,cond_false])⟩,Nat.lt_succ_self _,Cv.trans (CK (⟨[(1,tP 200001 0),(2,tP 200002 0),(3,tP 200003 0),(14,tI (v14+1))],[(100000,Z7l BK b v14),(200001,.cells (AC.c b) 40),(200002,Z7i),(200003,.cells [.val (v 0),.val (v 1),.val (v 2),.val (v 3),.val (v 4),.val (v 5),.val (v 6),.val (v 7),.val (v 8),.val (v 9),.val (v 10),.val (v 11),.val (v 12),.val (v 13),.own 100000 3 (BK++[b.Matches.getD v14.toNat default]).length] 40)]⟩) 200 100000 (K:=[200003,200001,200002]) hP rfl rfl kr kr) (BE kr)⟩
  ·show ((b.Matches.length:Int)-(v14+1)).toNat<n0;omega
  exact ⟨ax0,ax0,ax0⟩
 have g1:=oF h1
 refine BH<|A5 ?_
 refine A5<|BI ?_
 exact ⟨_,Cv.trans (CD [1,2,3] [100000,200001,200002,200003] (⟨[(1,tP 200001 0),(2,tP 200002 0),(3,tP 200003 0)],[(100000,Z7j BK),(200001,.cells (AC.c b) 40),(200002,Z7i),(200003,Z7k v BK)]⟩) kr) (Cv.trans (CK (⟨[(1,tP 200001 0),(2,tP 200002 0),(3,tP 200003 0)],[(200112,Z7j BK),(200001,.cells (AC.c b) 40),(200002,Z7i),(200003,Z7n v BK)]⟩) 100000 200112 (K:=[200003,200001,200002]) hP rfl rfl kr kr) (Cv.trans (CD [1,2,3] [200003,200001,200002,200112] (⟨[(1,tP 200001 0),(2,tP 200002 0),(3,tP 200003 0)],[(200003,Z7n v BK),(200001,.cells (AC.c b) 40),(200002,Z7i),(200112,Z7j BK)]⟩) kr) (Cv.refl _))),rfl,(),trivial,congrArg (Oy b v) (show BK=_ from (by rw [<- hF0];first | (simp only [EU,h1,cond_true,cond_false] <;> rfl)))⟩
def Z7o:Blk:=.cells Gg 40
def Z7p:Blk:=.row 20 BT.length (AU A1.c BT) 109
def Z7q:Blk:=.cells (Cr v (Ge v [.val (v 11),.own 100000 20 BT.length,.val (v 13),.val (v 14)])) 40
def Z7r:Bt:=KD (b.Rules.getD v16.toNat default).A
def Z7s:Bt:=KD (b.Rules.getD v16.toNat default).B
abbrev Zt:=[A1.mk (b.Rules.getD v16.toNat default).Name (b.Rules.getD v16.toNat default).Priority (b.Rules.getD v16.toNat default).What (Z7r b v16) (Z7s b v16) (b.Rules.getD v16.toNat default).Value]
def Z7t (BT:List A1) (b:AC) (v16:Int):Blk:=.row 20 (BT++(Zt b v16)).length (AU A1.c (BT++(Zt b v16))) 109
def Z7u (v:(Nat->Value)) (BT:List A1) (b:AC) (v16:Int):Blk:=.cells (Cr v (Ge v [.val (v 11),.own 226 20 (BT++(Zt b v16)).length,.val (v 13),.val (v 14)])) 40
def Z7v:Blk:=.cells (Cr v (Ge v [.val (v 11),.own 200114 20 BT.length,.val (v 13),.val (v 14)])) 40
def Fh (b:AC):Nat->List A1->Int->(List A1)
 | 0,_,_=>default
 | n0+1,BT,v16=>bif decide ((v16:Int)<(b.Rules.length:Int)) then ((Fh b n0) (BT++[A1.mk (b.Rules.getD v16.toNat default).Name (b.Rules.getD v16.toNat default).Priority (b.Rules.getD v16.toNat default).What (Z7r b v16) (Z7s b v16) (b.Rules.getD v16.toNat default).Value]) (v16+1)) else BT
def AR (b:AC):(List A1):=Fh b (((b.Rules.length:Int)-0).toNat+1) ([]:List A1) 0
abbrev T3 (b:AC) (v:Nat->Value) (xs:List A1):AS:=⟨Bn,[(200003,.cells (Cr v (Ge v [.val (v 11),.own 200114 20 xs.length,.val (v 13),.val (v 14)])) 40),(B9 b),CF,(200114,.row 20 xs.length (AU A1.c xs) 109)]⟩
set_option maxHeartbeats 4000000 in
theorem Lq (b:AC) (hc:CW b) {c:Code} (hpc:Tryz.f21.body.bind (F6 [true,true,true,true,true,true,true,true,true,false,true])=some c):Np Tryz.prog 229 [200003,200001,200002] c (fun _:Unit=>True) (fun v=>⟨[(1,tP 200001 0),(2,tP 200002 0),(3,tP 200003 0),(16,tI 0)],[(200003,.cells [.val (v 0),.val (v 1),.val (v 2),.val (v 3),.val (v 4),.val (v 5),.val (v 6),.val (v 7),.val (v 8),.val (v 9),.val (v 10),.val (v 11),vN,.val (v 13),.val (v 14)] 40),(200001,.cells (AC.c b) 40),(200002,.cells [.i 0,.i 0,vN,.i 0,vN,vN,vN,vN,vN,vN,vN,vN,vN,vN,vN] 40)]⟩) (fun v _=>T3 b v (AR b)):=by
 cases hpc
 intro W0 M0 X v hP hFl
 show AWp _ _ _ _ _ _ _ _ ⟨[(1,tP 200001 0),(2,tP 200002 0),(3,tP 200003 0),(16,tI 0)],[(200003,.cells [.val (v 0),.val (v 1),.val (v 2),.val (v 3),.val (v 4),.val (v 5),.val (v 6),.val (v 7),.val (v 8),.val (v 9),.val (v 10),.val (v 11),vN,.val (v 13),.val (v 14)] 40),(200001,.cells (AC.c b) 40),(200002,.cells [.i 0,.i 0,vN,.i 0,vN,vN,vN,vN,vN,vN,vN,vN,vN,vN,vN] 40)]⟩
 have h0:=hc.lParts
 have h1:=hc.lNets
 have h2:=hc.lTracks
 have h3:=hc.lVias
 have h4:=hc.lPours
 have h5:=hc.lKeeps
 have h6:=hc.lSlots
 have h7:=hc.lClasses
 have h8:=hc.lWaivers
 have h9:=hc.lMatches
 have h10:=hc.lRules
 have hr:=hc.rok
 refine AQ ?_
 refine Ap (Cv.trans (CD [1,2,3,16] [200001,200002,200003] (⟨[(1,tP 200001 0),(2,tP 200002 0),(3,tP 200003 0),(16,tI 0)],[(200001,.cells (AC.c b) 40),(200002,Z7o),(200003,.cells [.val (v 0),.val (v 1),.val (v 2),.val (v 3),.val (v 4),.val (v 5),.val (v 6),.val (v 7),.val (v 8),.val (v 9),.val (v 10),.val (v 11),vN,.val (v 13),.val (v 14)] 40)]⟩) kr) (Cv.trans (Ft (⟨[(1,tP 200001 0),(2,tP 200002 0),(3,tP 200003 0),(16,tI 0)],[(100000,.row 20 0 (fun _ _=>default) 109),(200001,.cells (AC.c b) 40),(200002,Z7o),(200003,.cells [.val (v 0),.val (v 1),.val (v 2),.val (v 3),.val (v 4),.val (v 5),.val (v 6),.val (v 7),.val (v 8),.val (v 9),.val (v 10),.val (v 11),.own 100000 20 0,.val (v 13),.val (v 14)] 40)]⟩) 100000 20 (fun _ _=>default) 109 [] [(200003,[12])] (K:=[200003,200001,200002]) hP rfl kr kr) (Cv.trans (GP (⟨[(1,tP 200001 0),(2,tP 200002 0),(3,tP 200003 0),(16,tI 0)],[(100000,.row 20 ([]:List A1).length (AU A1.c ([]:List A1)) 109),(200001,.cells (AC.c b) 40),(200002,Z7o),(200003,.cells [.val (v 0),.val (v 1),.val (v 2),.val (v 3),.val (v 4),.val (v 5),.val (v 6),.val (v 7),.val (v 8),.val (v 9),.val (v 10),.val (v 11),.own 100000 20 ([]:List A1).length,.val (v 13),.val (v 14)] 40)]⟩) 100000 (CI 20 (fun _ _=>default) A1.c)) (Cv.refl _)))) ?_
 refine BP (ι:=Nat×List A1×Int) (fun x=>⟨[(1,tP 200001 0),(2,tP 200002 0),(3,tP 200003 0),(16,tI x.2.2)],[(100000,.row 20 x.2.1.length (AU A1.c x.2.1) 109),(200001,.cells (AC.c b) 40),(200002,Z7o),(200003,.cells [.val (v 0),.val (v 1),.val (v 2),.val (v 3),.val (v 4),.val (v 5),.val (v 6),.val (v 7),.val (v 8),.val (v 9),.val (v 10),.val (v 11),.own 100000 20 x.2.1.length,.val (v 13),.val (v 14)] 40)]⟩) (fun x=>((b.Rules.length:Int)-x.2.2).toNat<x.1/\(0<=x.2.2/\(x.2.2<=(b.Rules.length:Int)\/x.2.2=0)/\(x.2.1.length:Int)<=0+1*(x.2.2-0))/\Fh b x.1 x.2.1 x.2.2=AR b) (fun x=>x.1) ?_ (((b.Rules.length:Int)-0).toNat+1,([]:List A1),0) ⟨Nat.lt_succ_self _,⟨ax0,ax0,ax0⟩,(by simp only [AR,cond_true,cond_false])⟩
 rintro ⟨n0,BT,v16⟩ ⟨hm0,hinv0,hF0⟩
 try dsimp only at hm0 hinv0 hF0
 cases n0 with | zero=>exact nz hm0 | succ n0 => ?_
 refine AA<|AA ?_
 refine rn ⟨[(1,tP 200001 0),(2,tP 200002 0),(3,tP 200003 0),(16,tI v16),(206,tB (decide ((v16:Int)<(b.Rules.length:Int))))],[(100000,Z7p BT),(200001,.cells (AC.c b) 40),(200002,Z7o),(200003,Z7q v BT)]⟩ ?_
 refine AO _ rfl (fun h1 => ?_) (fun h1 => ?_)
 ·have g1:=oT h1
  refine AZ<|AG ?_
  refine AA<|AQ<|AA ?_
  refine oc [] [0<=(v16:Int)/\(v16:Int)<((b.Rules.length:Nat):Int)] .nil (.cons au0 .nil)<|AG<|AA ?_
  refine oc [(216,G1 (b.Rules.getD v16.toNat default).A)] [Ay (G1 (b.Rules.getD v16.toNat default).A).2.1] (.cons (PK (b.Rules.getD v16.toNat default).A (by first | exact (LV hr _).1 | exact (LV hr _).2)) .nil) (.cons rfl .nil)<|AG<|AA ?_
  refine oc [(220,G1 (b.Rules.getD v16.toNat default).B)] [Ay (G1 (b.Rules.getD v16.toNat default).B).2.1] (.cons (PK (b.Rules.getD v16.toNat default).B (by first | exact (LV hr _).1 | exact (LV hr _).2)) .nil) (.cons rfl .nil)<|AG ?_
  refine oc [] [BT.length=BT.length,BT.length+1<=maxLen,(BT.length+1)*216<=140737488355328] .nil (.cons rfl (.cons au2 (.cons au2 .nil)))<|A3<|AG ?_
  refine Ap (A2 226 (Au (Am 20 A1.c BT) (A0 20 A1.c ([A1.mk (b.Rules.getD v16.toNat default).Name (b.Rules.getD v16.toNat default).Priority (b.Rules.getD v16.toNat default).What (Z7r b v16) (Z7s b v16) (b.Rules.getD v16.toNat default).Value]:List A1)))) ?_
  refine rg ⟨[(1,tP 200001 0),(2,tP 200002 0),(3,tP 200003 0),(16,tI (W64 (v16+1)))],[(226,Z7t BT b v16),(200001,.cells (AC.c b) 40),(200002,Z7o),(200003,Z7u v BT b v16)]⟩ ?_
  (try rw [(show W64 (v16+1)=v16+1 from Az (by omega) au6)])
  refine AG ?_
  refine ⟨(n0,BT++[A1.mk (b.Rules.getD v16.toNat default).Name (b.Rules.getD v16.toNat default).Priority (b.Rules.getD v16.toNat default).What (Z7r b v16) (Z7s b v16) (b.Rules.getD v16.toNat default).Value],v16+1),⟨?_,?_,(by rw [<- hF0];simp only [Fh,h1,cond_true,cond_false])⟩,Nat.lt_succ_self _,Cv.trans (CK (⟨[(1,tP 200001 0),(2,tP 200002 0),(3,tP 200003 0),(16,tI (v16+1))],[(100000,Z7t BT b v16),(200001,.cells (AC.c b) 40),(200002,Z7o),(200003,.cells [.val (v 0),.val (v 1),.val (v 2),.val (v 3),.val (v 4),.val (v 5),.val (v 6),.val (v 7),.val (v 8),.val (v 9),.val (v 10),.val (v 11),.own 100000 20 (BT++[A1.mk (b.Rules.getD v16.toNat default).Name (b.Rules.getD v16.toNat default).Priority (b.Rules.getD v16.toNat default).What (Z7r b v16) (Z7s b v16) (b.Rules.getD v16.toNat default).Value]).length,.val (v 13),.val (v 14)] 40)]⟩) 226 100000 (K:=[200003,200001,200002]) hP rfl rfl kr kr) (BE kr)⟩
  ·show ((b.Rules.length:Int)-(v16+1)).toNat<n0;omega
  exact ⟨ax0,ax0,ax0⟩
 have g1:=oF h1
 refine BH<|A5 ?_
 refine A5<|BI ?_
 exact ⟨_,Cv.trans (CD [1,2,3] [100000,200001,200002,200003] (⟨[(1,tP 200001 0),(2,tP 200002 0),(3,tP 200003 0)],[(100000,Z7p BT),(200001,.cells (AC.c b) 40),(200002,Z7o),(200003,Z7q v BT)]⟩) kr) (Cv.trans (CK (⟨[(1,tP 200001 0),(2,tP 200002 0),(3,tP 200003 0)],[(200114,Z7p BT),(200001,.cells (AC.c b) 40),(200002,Z7o),(200003,Z7v v BT)]⟩) 100000 200114 (K:=[200003,200001,200002]) hP rfl rfl kr kr) (Cv.trans (CD [1,2,3] [200003,200001,200002,200114] (⟨[(1,tP 200001 0),(2,tP 200002 0),(3,tP 200003 0)],[(200003,Z7v v BT),(200001,.cells (AC.c b) 40),(200002,Z7o),(200114,Z7p BT)]⟩) kr) (Cv.refl _))),rfl,(),trivial,congrArg (T3 b v) (show BT=_ from (by rw [<- hF0];first | (simp only [Fh,h1,cond_true,cond_false] <;> rfl)))⟩
end
section
open Go.RowKit
def Z7w:Blk:=.cells Gg 40
variable (b:AC)
abbrev G8:=Ak b.Outline
abbrev MA:Cl:=.own 26 7 b.Parts.length
abbrev FQ (t_:List Cl):List Cl:=(.i b.Layers)::(.i (G8 b).Kind)::(lst 7 AN.c (G8 b).Edges)::(.i (G8 b).R)::(MA b)::t_
abbrev Zw:List Cl:=[vN,vN,.own 30 8 b.Vias.length,vN,vN,vN,vN,vN,.own 34 3 b.Waivers.length,vN]
abbrev SL:List Cl:=(FQ b (Zw b))
def Z7x:Blk:=.cells (SL b) 40
abbrev IX:=AU AF.c b.Parts
def Z7y:Blk:=.row 7 b.Parts.length (IX b) 49
abbrev IM:=AU Bx.c b.Vias
def Z7z:Blk:=.row 8 b.Vias.length (IM b) 89
abbrev IZ:=AU BM.c b.Waivers
def Z7A:Blk:=.row 3 b.Waivers.length (IZ b) 104
abbrev Zx:List Cl:=[.own 200100 2 (Af b).length,vN,.own 30 8 b.Vias.length,vN,vN,vN,vN,vN,.own 34 3 b.Waivers.length,vN]
abbrev Vy:List Cl:=(FQ b (Zx b))
def Z7B:Blk:=.cells (Vy b) 40
abbrev IV:=AU BA.c (Af b)
def Z7C:Blk:=.row 2 (Af b).length (IV b) 84
abbrev MD:Cl:=.own 200100 2 (Af b).length
abbrev N6:Cl:=.own 200102 6 (AH b).length
abbrev Cn (t_:List Cl):List Cl:=(.i b.Layers)::(.i (G8 b).Kind)::(lst 7 AN.c (G8 b).Edges)::(.i (G8 b).R)::(MA b)::(MD b)::(N6 b)::(.own 30 8 b.Vias.length)::t_
abbrev VK:List Cl:=[vN,vN,vN,vN,vN,.own 34 3 b.Waivers.length,vN]
abbrev V3:List Cl:=(Cn b (VK b))
def Z7D:Blk:=.cells (V3 b) 40
abbrev IP:=AU Aq.c (AH b)
def Z7E:Blk:=.row 6 (AH b).length (IP b) 87
abbrev N5:Cl:=.own 200104 8 (Ah b).length
abbrev N4:Cl:=.own 34 3 b.Waivers.length
abbrev Rc (t_:List Cl):List Cl:=(N5 b)::vN::vN::vN::vN::(N4 b)::t_
def Z7F:Blk:=.cells (Cn b (Rc b [vN])) 40
def Z7G:Blk:=.row 8 (Ah b).length (AU A8.c (Ah b)) 92
abbrev MC:Cl:=.own 200106 5 (Ai b).length
abbrev Re (t_:List Cl):List Cl:=(N5 b)::(MC b)::vN::vN::vN::(N4 b)::t_
def Z7H:Blk:=.cells (Cn b (Re b [vN])) 40
abbrev IW:=AU BR.c (Ai b)
def Z7I:Blk:=.row 5 (Ai b).length (IW b) 95
abbrev RJ:Cl:=.own 200108 4 (Ag b).length
abbrev Ec (t_:List Cl):List Cl:=(N5 b)::(MC b)::(RJ b)::t_
abbrev RM:List Cl:=Ec b [vN,vN,.own 34 3 b.Waivers.length,vN]
def Z7J:Blk:=.cells (Cn b (RM b)) 40
abbrev IR:=AU Bq.c (Ag b)
def Z7K:Blk:=.row 4 (Ag b).length (IR b) 97
abbrev RI:Cl:=.own 200110 2 (AP b).length
abbrev JF (t_:List Cl):List Cl:=(RI b)::vN::(N4 b)::t_
def Z7L:Blk:=.cells (Cn b (Ec b (JF b [vN]))) 40
abbrev He:=AU BS.c (AP b)
def Z7M:Blk:=.row 2 (AP b).length (He b) 100
abbrev MB:List Cl:=[.own 200112 3 (AM b).length]
def Z7N:Blk:=.cells (Cn b (Ec b (JF b (MB b)))) 40
abbrev Hd:=AU Bb.c (AM b)
def Z7O:Blk:=.row 3 (AM b).length (Hd b) 102
abbrev RY (t_:List Cl):List Cl:=(RI b)::(.own 200114 20 (AR b).length)::(N4 b)::t_
abbrev VJ:List Cl:=(Cn b (Ec b (RY b (MB b))))
abbrev VV:=Ak b.Outline
abbrev Rd (t_:List Cl):List Cl:=(.i b.Layers)::(.i (VV b).Kind)::(lst 7 AN.c (VV b).Edges)::(.i (VV b).R)::(MA b)::t_
abbrev RX (t_:List Cl):List Cl:=(MD b)::(N6 b)::t_
def Z7P:Blk:=.cells (VJ b) 40
abbrev IU:=AU A1.c (AR b)
def Z7Q:Blk:=.row 20 (AR b).length (IU b) 109
def vCpA (b:AC):Tv:=.av (.agg (VJ b))
def hCpA (b:AC):List (Nat×Blk):=[(26,.row 7 b.Parts.length (AU AF.c b.Parts) 49),(200100,.row 2 (Af b).length (AU BA.c (Af b)) 84),(200102,.row 6 (AH b).length (AU Aq.c (AH b)) 87),(30,.row 8 b.Vias.length (AU Bx.c b.Vias) 89),(200104,.row 8 (Ah b).length (AU A8.c (Ah b)) 92),(200106,.row 5 (Ai b).length (AU BR.c (Ai b)) 95),(200108,.row 4 (Ag b).length (AU Bq.c (Ag b)) 97),(200110,.row 2 (AP b).length (AU BS.c (AP b)) 100),(200114,.row 20 (AR b).length (AU A1.c (AR b)) 109),(34,.row 3 b.Waivers.length (AU BM.c b.Waivers) 104),(200112,.row 3 (AM b).length (AU Bb.c (AM b)) 102)]
abbrev Xg:List Cl:=(Rd b (Zw b))
abbrev aT:List Cl:=(Rd b (RX b [.own 30 8 b.Vias.length,vN,vN,vN,vN,vN,.own 34 3 b.Waivers.length,vN]))
abbrev aN:List Cl:=(Rd b (Zx b))
abbrev SD:List (Nat×Tv):=(II [(11,tI 0)])
abbrev SC:List (Nat×Tv):=(II [(13,tI 0)])
abbrev SB:List (Nat×Tv):=(II [(14,tI 0)])
abbrev SA:List (Nat×Tv):=(II [(16,tI 0)])
abbrev R9:List (Nat×Tv):=(II [(4,tI 0)])
abbrev R8:List (Nat×Tv):=(II [(5,tI 0)])
abbrev R7:List (Nat×Tv):=(II [(7,tI 0)])
abbrev R6:List (Nat×Tv):=(II [(9,tI 0)])
abbrev JN (t_:List (Nat×Blk)):List (Nat×Blk):=(26,Z7y b)::(30,Z7z b)::(34,Z7A b)::(B9 b)::(200002,Z7w)::t_
abbrev bO:List (Nat×Blk):=(JN b [(200003,Z7N b),(200100,Z7C b),(200102,Z7E b),(200104,Z7G b),(200106,Z7I b),(200108,Z7K b),(200110,Z7M b),(200112,Z7O b)])
abbrev bH:List (Nat×Blk):=(JN b [(200003,Z7L b),(200100,Z7C b),(200102,Z7E b),(200104,Z7G b),(200106,Z7I b),(200108,Z7K b),(200110,Z7M b)])
abbrev bA:List (Nat×Blk):=(JN b [(200003,Z7J b),(200100,Z7C b),(200102,Z7E b),(200104,Z7G b),(200106,Z7I b),(200108,Z7K b)])
abbrev R0:List (Nat×Tv):=[(1,tP 1 0),(2,tP 2 0),(3,tP 3 0),(4,tI 0)]
abbrev Rz:Nat×Blk:=(200114,.row 20 (AR b).length (IU b) 109)
abbrev aR:List (Nat×Blk):=(JN b [(200003,Z7H b),(200100,Z7C b),(200102,Z7E b),(200104,Z7G b),(200106,Z7I b)])
abbrev Ry:Nat×Blk:=(200110,.row 2 (AP b).length (He b) 100)
abbrev Rx:Nat×Blk:=(200112,.row 3 (AM b).length (Hd b) 102)
abbrev Rw:Nat×Blk:=(200102,.row 6 (AH b).length (IP b) 87)
abbrev Rv:Nat×Blk:=(200106,.row 5 (Ai b).length (IW b) 95)
abbrev Ru:Nat×Blk:=(200108,.row 4 (Ag b).length (IR b) 97)
abbrev aO:List (Nat×Blk):=(JN b [(200003,Z7F b),(200100,Z7C b),(200102,Z7E b),(200104,Z7G b)])
abbrev JP:List (Nat×Tv):=[(2,tP 200002 0)]
abbrev aM:List (Nat×Blk):=(JN b [(200003,Z7D b),(200100,Z7C b),(200102,Z7E b)])
abbrev VS:Nat×Blk:=(200100,.row 2 (Af b).length (IV b) 84)
abbrev aE:List (Nat×Blk):=(JN b [(200003,Z7B b),(200100,Z7C b)])
abbrev Rn:Cl:=.own 200114 20 (AR b).length
abbrev Rl:Cl:=.own 200102 6 (AH b).length
abbrev Rk:Cl:=.own 200106 5 (Ai b).length
abbrev Rj:Cl:=.own 200108 4 (Ag b).length
abbrev Ri:Cl:=.own 200110 2 (AP b).length
abbrev Rh:Cl:=.own 200112 3 (AM b).length
abbrev Ed (t_:List Cl):List Cl:=(.i b.Layers)::(.i (Ak b.Outline).Kind)::(lst 7 AN.c (Ak b.Outline).Edges)::(.i (Ak b.Outline).R)::(MA b)::(MD b)::(N6 b)::(.own 30 8 b.Vias.length)::t_
theorem au28 {p:Prop} (h:p:=by first | (with_reducible exact hc.out) | with_reducible assumption | omega | decide | (simp only [List.length_cons,List.length_nil,List.length_append];omega) | assumption):p:=h
set_option maxHeartbeats 4000000 in
theorem qCpA (b:AC) (hc:CW b):Frs Tryz.prog 21 [.agg (AC.c b)] (fun _:Unit=>True) (fun _=>vCpA b) (fun _=>hCpA b):=by
 refine J9 Tryz.func21 rfl kr kr kr fun W0 M0 X hP hFl => ?_
 have h0:=hc.lParts
 have h1:=hc.lNets
 have h2:=hc.lTracks
 have h3:=hc.lVias
 have h4:=hc.lPours
 have h5:=hc.lKeeps
 have h6:=hc.lSlots
 have h7:=hc.lClasses
 have h8:=hc.lWaivers
 have h9:=hc.lMatches
 have h10:=hc.lRules
 have hr:=hc.rok
 refine AA<|on<|AA ?_
 refine od [23,27,31] [(22,B7 b.Outline)] [Ay (B7 b.Outline).2.1,0=0,0+b.Parts.length<=maxLen,(0+b.Parts.length)*72<=140737488355328,0=0,0+b.Vias.length<=maxLen,(0+b.Vias.length)*72<=140737488355328,0=0,0+b.Waivers.length<=maxLen,(0+b.Waivers.length)*32<=140737488355328] (.cons (Dz b.Outline au28) .nil) (.cons rfl (.cons rfl (.cons au2 (.cons au2 (.cons rfl (.cons au2 (.cons au2 (.cons rfl (.cons au2 (.cons au2 .nil))))))))))<|AG ?_
 refine Ap (Cv.trans (A2 26 (Au (A0 7 AF.c (([]:List AF):List AF)) (Am 7 AF.c b.Parts))) (Cv.trans (A2 30 (Au (A0 8 Bx.c (([]:List Bx):List Bx)) (Am 8 Bx.c b.Vias))) (Cv.trans (A2 34 (Au (A0 3 BM.c (([]:List BM):List BM)) (Am 3 BM.c b.Waivers))) (Cv.refl _))))<|AA<|AA ?_
 refine rn ⟨R0,[(1,.cells (AC.c b) 40),(2,Z7w),(3,Z7x b),(26,Z7y b),(30,Z7z b),(34,Z7A b)]⟩ ?_
 refine Ap (Cv.trans (vr 3 200003 (K:=[]) hP) (Cv.trans (vr 1 200001 (K:=[]) hP) (Cv.trans (wr (⟨R9,[(B9 b),(200002,Z7w),(200003,Z7x b),(26,Z7y b),(30,Z7z b),(34,Z7A b)]⟩) 2 200002 (K:=[]) hP) (Cv.refl _)))) ?_
 refine CE (ι:=Unit) (I:=fun _=>True) 200003 (Xg b) 40 (mkB 15 5) [1,2,3,4] [200001,200002] (fun _=>Bn) (fun _=>lEB 15 5 (MD b)) (fun _=>[(B9 b),CF,(VS b)]) (fun _=>⟨Bn,[(200003,Z7B b),(B9 b),(200002,Z7w),(200100,Z7C b),(26,Z7y b),(30,Z7z b),(34,Z7A b)]⟩) hP hFl (TA b hc kr) (fun _ _ => ?_)
 refine AG ?_
 refine Ap (Cv.trans (ck (⟨Bn,(aE b)⟩)) (Cv.refl _))<|AA<|AA ?_
 refine rn ⟨R8,(aE b)⟩ ?_
 refine CE (ι:=Unit) (I:=fun _=>True) 200003 (aN b) 40 (mkB 15 6) [1,2,3,5] [200001,200002] (fun _=>Bn) (fun _=>lEB 15 6 (Rl b)) (fun _=>[(B9 b),CF,(Rw b)]) (fun _=>⟨Bn,[(200003,Z7D b),(B9 b),(200002,Z7w),(200102,Z7E b),(26,Z7y b),(30,Z7z b),(34,Z7A b),(200100,Z7C b)]⟩) hP hFl (J8 b hc kr) (fun _ _ => ?_)
 refine AG ?_
 refine Ap (Cv.trans (ck (⟨Bn,(aM b)⟩)) (Cv.refl _))<|AA<|AA ?_
 refine rn ⟨R7,(aM b)⟩ ?_
 refine CE (ι:=Unit) (I:=fun _=>True) 200003 (aT b) 40 (mkB 15 8) [1,2,3,7] [200001,200002] (fun _=>Bn) (fun _=>lEB 15 8 (N5 b)) (fun _=>[(B9 b),CF,(200104,.row 8 (Ah b).length (AU A8.c (Ah b)) 92)]) (fun _=>⟨Bn,[(200003,Z7F b),(B9 b),(200002,Z7w),(200104,Z7G b),(26,Z7y b),(30,Z7z b),(34,Z7A b),(200100,Z7C b),(200102,Z7E b)]⟩) hP hFl (U3 b hc kr) (fun _ _ => ?_)
 refine AG ?_
 refine Ap (Cv.trans (ck (⟨Bn,(aO b)⟩)) (Cv.refl _))<|AA<|AA ?_
 refine rn ⟨R6,(aO b)⟩ ?_
 refine CE (ι:=Unit) (I:=fun _=>True) 200003 (Ed b (Rc b [vN])) 40 (mkB 15 9) [1,2,3,9] [200001,200002] (fun _=>Bn) (fun _=>lEB 15 9 (Rk b)) (fun _=>[(B9 b),CF,(Rv b)]) (fun _=>⟨Bn,[(200003,Z7H b),(B9 b),(200002,Z7w),(200106,Z7I b),(26,Z7y b),(30,Z7z b),(34,Z7A b),(200100,Z7C b),(200102,Z7E b),(200104,Z7G b)]⟩) hP hFl (Lr b hc kr) (fun _ _ => ?_)
 refine AG ?_
 refine Ap (Cv.trans (ck (⟨Bn,(aR b)⟩)) (Cv.refl _))<|AA<|AA ?_
 refine rn ⟨SD,(aR b)⟩ ?_
 refine CE (ι:=Unit) (I:=fun _=>True) 200003 (Ed b (Re b [vN])) 40 (mkB 15 10) [1,2,3,11] [200001,200002] (fun _=>Bn) (fun _=>lEB 15 10 (Rj b)) (fun _=>[(B9 b),CF,(Ru b)]) (fun _=>⟨Bn,[(200003,Z7J b),(B9 b),(200002,Z7w),(200108,Z7K b),(26,Z7y b),(30,Z7z b),(34,Z7A b),(200100,Z7C b),(200102,Z7E b),(200104,Z7G b),(200106,Z7I b)]⟩) hP hFl (Lp b hc kr) (fun _ _ => ?_)
 refine AG ?_
 refine Ap (Cv.trans (ck (⟨Bn,(bA b)⟩)) (Cv.refl _))<|AA<|AA ?_
 refine rn ⟨SC,(bA b)⟩ ?_
 refine CE (ι:=Unit) (I:=fun _=>True) 200003 (Ed b (RM b)) 40 (mkB 15 11) [1,2,3,13] [200001,200002] (fun _=>Bn) (fun _=>lEB 15 11 (Ri b)) (fun _=>[(B9 b),CF,(Ry b)]) (fun _=>⟨Bn,[(200003,Z7L b),(B9 b),(200002,Z7w),(200110,Z7M b),(26,Z7y b),(30,Z7z b),(34,Z7A b),(200100,Z7C b),(200102,Z7E b),(200104,Z7G b),(200106,Z7I b),(200108,Z7K b)]⟩) hP hFl (Io b hc kr) (fun _ _ => ?_)
 refine AG ?_
 refine Ap (Cv.trans (ck (⟨Bn,(bH b)⟩)) (Cv.refl _))<|AA<|AA ?_
 refine rn ⟨SB,(bH b)⟩ ?_
 refine CE (ι:=Unit) (I:=fun _=>True) 200003 (Ed b (Ec b (JF b [vN]))) 40 (mkB 15 14) [1,2,3,14] [200001,200002] (fun _=>Bn) (fun _=>lEB 15 14 (Rh b)) (fun _=>[(B9 b),CF,(Rx b)]) (fun _=>⟨Bn,[(200003,Z7N b),(B9 b),(200002,Z7w),(200112,Z7O b),(26,Z7y b),(30,Z7z b),(34,Z7A b),(200100,Z7C b),(200102,Z7E b),(200104,Z7G b),(200106,Z7I b),(200108,Z7K b),(200110,Z7M b)]⟩) hP hFl (In b hc kr) (fun _ _ => ?_)
 refine AG ?_
 refine Ap (Cv.trans (ck (⟨Bn,(bO b)⟩)) (Cv.refl _))<|AA<|AA ?_
 refine rn ⟨SA,(bO b)⟩ ?_
 refine CE (ι:=Unit) (I:=fun _=>True) 200003 (Ed b (Ec b (JF b (MB b)))) 40 (mkB 15 12) [1,2,3,16] [200001,200002] (fun _=>Bn) (fun _=>lEB 15 12 (Rn b)) (fun _=>[(B9 b),CF,(Rz b)]) (fun _=>⟨Bn,[(200003,Z7P b),(B9 b),(200002,Z7w),(200114,Z7Q b),(26,Z7y b),(30,Z7z b),(34,Z7A b),(200100,Z7C b),(200102,Z7E b),(200104,Z7G b),(200106,Z7I b),(200108,Z7K b),(200110,Z7M b),(200112,Z7O b)]⟩) hP hFl (Lq b hc kr) (fun _ _ => ?_)
 refine AG ?_
 refine Ap (Cv.trans (ck (⟨Bn,(JN b [(200003,Z7P b),(200100,Z7C b),(200102,Z7E b),(200104,Z7G b),(200106,Z7I b),(200108,Z7K b),(200110,Z7M b),(200112,Z7O b),(200114,Z7Q b)])⟩)) (Cv.refl _))<|AA ?_
 refine rn ⟨JP,[(26,Z7y b),(30,Z7z b),(34,Z7A b),(200002,Z7P b),(200100,Z7C b),(200102,Z7E b),(200104,Z7G b),(200106,Z7I b),(200108,Z7K b),(200110,Z7M b),(200112,Z7O b),(200114,Z7Q b)]⟩<|AY ?_
 refine ⟨_,Cv.trans (ck (⟨JP,[(26,Z7y b),(200100,Z7C b),(200102,Z7E b),(30,Z7z b),(200104,Z7G b),(200106,Z7I b),(200108,Z7K b),(200110,Z7M b),(200114,Z7Q b),(34,Z7A b),(200112,Z7O b),(200002,Z7P b)]⟩)) (Cv.refl _),.inl rfl,vCpA b,by kernel_rfl,lJ (m:=[(200002,.cells (VJ b) 40)]) kr⟩
end
theorem Hm {α:Type} (len:Nat) (g:Nat->List α->Int->List α) (e:Int->α) (h:∀ m acc (v:Int),g (m+1) acc v=bif decide (v<(len:Int)) then g m (acc++[e v]) (v+1) else acc) :
  ∀ (n:Nat) (acc:List α) (v:Nat),len-v<n->g n acc (v:Int)=acc++(List.range' v (len-v)).map fun (k:Nat)=>e (k:Int)
 | 0,acc,v,hn=>absurd hn (Nat.not_lt_zero _)
 | n+1,acc,v,hn=>by
  rw [h]
  by_cases hc:v<len
  ·rw [decide_eq_true (by omega),cond_true,show ((v:Int)+1)=((v+1:Nat):Int) by omega,Hm len g e h n _ (v+1) (by omega),show len-v=(len-(v+1))+1 by omega,List.range'_succ,List.map_cons,List.append_assoc,List.singleton_append]
  rw [decide_eq_false (by omega),cond_false,show len-v=0 by omega];simp
theorem fC (b:AC):(Af b).length=b.Nets.length:=by
 have h:=Hm b.Nets.length (FU b) _ (fun _ _ _=>rfl) (((b.Nets.length:Int)-0).toNat+1) [] 0 (by omega)
 have h2:Af b=_:=h
 rw [h2];simp
theorem Wq (b:AC):(AH b).length=b.Tracks.length:=by
 have h:=Hm b.Tracks.length (E3 b) _ (fun _ _ _=>rfl) (((b.Tracks.length:Int)-0).toNat+1) [] 0 (by omega)
 have h2:AH b=_:=h
 rw [h2];simp
theorem Qi (b:AC):(Ah b).length=b.Pours.length:=by
 have h:=Hm b.Pours.length (Fi b) _ (fun _ _ _=>rfl) (((b.Pours.length:Int)-0).toNat+1) [] 0 (by omega)
 have h2:Ah b=_:=h
 rw [h2];simp
theorem Qj (b:AC):(Ai b).length=b.Keeps.length:=by
 have h:=Hm b.Keeps.length (Fj b) _ (fun _ _ _=>rfl) (((b.Keeps.length:Int)-0).toNat+1) [] 0 (by omega)
 have h2:Ai b=_:=h
 rw [h2];simp
theorem ZR (b:AC):(Ag b).length=b.Slots.length:=by
 have h:=Hm b.Slots.length (Fg b) _ (fun _ _ _=>rfl) (((b.Slots.length:Int)-0).toNat+1) [] 0 (by omega)
 have h2:Ag b=_:=h
 rw [h2];simp
theorem Uk (b:AC):(AP b).length=b.Classes.length:=by
 have h:=Hm b.Classes.length (EV b) _ (fun _ _ _=>rfl) (((b.Classes.length:Int)-0).toNat+1) [] 0 (by omega)
 have h2:AP b=_:=h
 rw [h2];simp
theorem Uj (b:AC):(AM b).length=b.Matches.length:=by
 have h:=Hm b.Matches.length (EU b) _ (fun _ _ _=>rfl) (((b.Matches.length:Int)-0).toNat+1) [] 0 (by omega)
 have h2:AM b=_:=h
 rw [h2];simp
theorem ZS (b:AC):(AR b).length=b.Rules.length:=by
 have h:=Hm b.Rules.length (Fh b) _ (fun _ _ _=>rfl) (((b.Rules.length:Int)-0).toNat+1) [] 0 (by omega)
 have h2:AR b=_:=h
 rw [h2];simp
theorem tmb {x n:Int} (hx:0<=x):0<n->0<=Int.tmod x n/\Int.tmod x n<n:=fun hn=>⟨Int.tmod_nonneg _ hx,Int.tmod_lt_of_pos _ hn⟩
theorem oz {n:Nat} (h:(0:Int)<(n:Int)):(n:Int)≠0:=by omega
theorem oi2 {K:Int} {n:Nat} (hK:0<=K) (h:(0:Int)<(n:Int)):(Int.tmod K (n:Int)).toNat<n:=by have:=tmb hK h;omega
theorem oi3 {K:Int} {n:Nat} (hK:0<=K) (h:(0:Int)<(n:Int)):(Int.tmod K (n:Int)).toNat-(0:Int).toNat<=n:=by have:=tmb hK h;omega
theorem oi4 {K:Int} {n:Nat} (hK:0<=K) (h:(0:Int)<(n:Int)):0<=(0:Int)/\(0:Int)<=Int.tmod K (n:Int)/\Int.tmod K (n:Int)<=(n:Int):=by have:=tmb hK h;omega
theorem oi5 {N:Int} {n:Nat} (hN:0<=N):0<=(0:Int)/\(0:Int)<=min (n:Int) (Int.tmod N 4)/\min (n:Int) (Int.tmod N 4)<=(n:Int):=by have:=tmb hN (n:=4) (by decide);omega
theorem ow {K:Int} {n:Nat} (hK:0<=K) (h:(0:Int)<(n:Int)) (hl:(n:Int)<=2000000):W64 (Int.tmod K (n:Int)+1)=Int.tmod K (n:Int)+1:=by have:=tmb hK h;exact Az (by omega) (by omega)
theorem oi6 {K:Int} {n:Nat} (hK:0<=K) (h:(0:Int)<(n:Int)) (hl:(n:Int)<=2000000):(W64 (Int.tmod K (n:Int)+1)).toNat+(((n:Nat):Int).toNat-(W64 (Int.tmod K (n:Int)+1)).toNat)<=n:=by rw [ow hK h hl];have:=tmb hK h;omega
theorem oi7 {K:Int} {n:Nat} (hK:0<=K) (h:(0:Int)<(n:Int)) (hl:(n:Int)<=2000000):0<=W64 (Int.tmod K (n:Int)+1)/\W64 (Int.tmod K (n:Int)+1)<=(n:Int)/\(n:Int)<=(n:Int):=by rw [ow hK h hl];have:=tmb hK h;omega
theorem oi8 {N:Int} (hN:0<=N):0<=Int.tmod N 4/\Int.tmod N 4<((4:Nat):Int):=tmb hN (by decide)
theorem oi9 {N:Int} (hN:0<=N):0<=Int.tmod N 6/\Int.tmod N 6<((6:Nat):Int):=tmb hN (by decide)
theorem ol1 {n c:Nat} (hl:(n:Int)<=2000000) (hc:c<=100):(n+1)*c<=140737488355328:=Nat.le_trans (Nat.mul_le_mul (show n+1<=2000001 by omega) hc) (by decide)
theorem ol2 {n:Nat} (hl:(n:Int)<=2000000):n+1<=maxLen:=by unfold maxLen;omega
theorem ol0 {K:Int} {n:Nat} (hK:0<=K) (h:(0:Int)<(n:Int)) (hl:(n:Int)<=2000000):((Int.tmod K (n:Int)).toNat-(0:Int).toNat)+(((n:Nat):Int).toNat-(W64 (Int.tmod K (n:Int)+1)).toNat)<=2000000:=by rw [ow hK h hl];have:=tmb hK h;omega
theorem ol3 {K:Int} {n:Nat} (hK:0<=K) (h:(0:Int)<(n:Int)) (hl:(n:Int)<=2000000):((Int.tmod K (n:Int)).toNat-(0:Int).toNat)+(((n:Nat):Int).toNat-(W64 (Int.tmod K (n:Int)+1)).toNat)<=maxLen:=Nat.le_trans (ol0 hK h hl) (by unfold maxLen;decide)
theorem ol4 {K:Int} {n:Nat} (hK:0<=K) (h:(0:Int)<(n:Int)) (hl:(n:Int)<=2000000):(((Int.tmod K (n:Int)).toNat-(0:Int).toNat)+(((n:Nat):Int).toNat-(W64 (Int.tmod K (n:Int)+1)).toNat))*72<=140737488355328:=Nat.le_trans (Nat.mul_le_mul (ol0 hK h hl) (Nat.le_refl _)) (by decide)
theorem w79 {N:Int} (hN:0<=N):0<=W64 (79+Int.tmod N 4)/\W64 (79+Int.tmod N 4)<=82:=by have:=tmb hN (n:=4) (by decide);rw [Az (by omega) (by omega)];omega
theorem fE {b:AC} (hc:CW b):((Af b).length:Int)<=2000000:=by rw [fC];have:=hc.lNets;omega
theorem Ws {b:AC} (hc:CW b):((AH b).length:Int)<=2000000:=by rw [Wq];have:=hc.lTracks;omega
theorem ZV {b:AC} (hc:CW b):((Ah b).length:Int)<=2000000:=by rw [Qi];have:=hc.lPours;omega
theorem ZX {b:AC} (hc:CW b):((Ai b).length:Int)<=2000000:=by rw [Qj];have:=hc.lKeeps;omega
theorem ZT {b:AC} (hc:CW b):((Ag b).length:Int)<=2000000:=by rw [ZR];have:=hc.lSlots;omega
theorem Un {b:AC} (hc:CW b):((AP b).length:Int)<=2000000:=by rw [Uk];have:=hc.lClasses;omega
theorem Um {b:AC} (hc:CW b):((AM b).length:Int)<=2000000:=by rw [Uj];have:=hc.lMatches;omega
theorem ZU {b:AC} (hc:CW b):((AR b).length:Int)<=2000000:=by rw [ZS];have:=hc.lRules;omega
theorem ZW {b:AC} (hc:CW b):(b.Parts.length:Int)<=2000000:=by have:=hc.lParts;omega
theorem fD {b:AC} (hc:CW b):(b.Vias.length:Int)<=2000000:=by have:=hc.lVias;omega
theorem Ul {b:AC} (hc:CW b):(b.Waivers.length:Int)<=2000000:=by have:=hc.lWaivers;omega
section
open Go.RowKit
def Z7R:Blk:=.cells Gg 40
variable (b:AC) (v5_9:List BR) (q:DM) (v10:Int)
def Z7S:Blk:=.row 7 b.Parts.length (IX b) 49
def Z7T:Blk:=.row 2 (Af b).length (IV b) 84
def Z7U:Blk:=.row 6 (AH b).length (IP b) 87
def Z7V:Blk:=.row 8 b.Vias.length (IM b) 89
def Z7W:Blk:=.row 8 (Ah b).length (AU A8.c (Ah b)) 92
def Z7X:Blk:=.row 5 (Ai b).length (IW b) 95
def Z7Y:Blk:=.row 4 (Ag b).length (IR b) 97
def Z7Z:Blk:=.row 2 (AP b).length (He b) 100
def Z80:Blk:=.row 20 (AR b).length (IU b) 109
def Z81:Blk:=.row 3 b.Waivers.length (IZ b) 104
def Z82:Blk:=.row 3 (AM b).length (Hd b) 102
def Z83:Blk:=.cells (VJ b) 40
abbrev OQ:=Int.tmod (AK q.e1 48) 6
def Z84 (q:DM) (b:AC):Blk:=.cells [.i (OQ q),.i (G8 b).Kind,lst 7 AN.c (G8 b).Edges,.i (G8 b).R,.own 26 7 b.Parts.length,.own 200100 2 (Af b).length,.own 200102 6 (AH b).length,.own 30 8 b.Vias.length,.own 200104 8 (Ah b).length,.own 200106 5 (Ai b).length,.own 200108 4 (Ag b).length,.own 200110 2 (AP b).length,.own 200114 20 (AR b).length,.own 34 3 b.Waivers.length,.own 200112 3 (AM b).length] 40
def Z85:Blk:=.cells [.i b.Layers,.i (Co (AK q.e1 48)).Kind,lst 7 AN.c (Co (AK q.e1 48)).Edges,.i (Co (AK q.e1 48)).R,.own 26 7 b.Parts.length,.own 200100 2 (Af b).length,.own 200102 6 (AH b).length,.own 30 8 b.Vias.length,.own 200104 8 (Ah b).length,.own 200106 5 (Ai b).length,.own 200108 4 (Ag b).length,.own 200110 2 (AP b).length,.own 200114 20 (AR b).length,.own 34 3 b.Waivers.length,.own 200112 3 (AM b).length] 40
def Z86:Tv:=tB (decide ((0:Int)<((b.Parts.length:Nat):Int)))
abbrev Yg (q:DM) (b:AC):=(Int.tmod (AK q.e2 64) ((b.Parts.length:Nat):Int))
abbrev Hg:=(b.Parts.getD (Yg q b).toNat default)
abbrev Vq:=b.Parts.set (Yg q b).toNat (AF.mk (W64 ((AK q.e1 48)-1)) (Hg b q).Ref (Hg b q).Type' (Hg b q).At (Hg b q).Turn (Hg b q).Under)
abbrev N8 (t_:List Cl):List Cl:=(.i b.Layers)::(.i (G8 b).Kind)::(lst 7 AN.c (G8 b).Edges)::(.i (G8 b).R)::t_
def Z87:Blk:=.cells (N8 b [.own 26 7 (Vq b q).length,.own 200100 2 (Af b).length,.own 200102 6 (AH b).length,.own 30 8 b.Vias.length,.own 200104 8 (Ah b).length,.own 200106 5 (Ai b).length,.own 200108 4 (Ag b).length,.own 200110 2 (AP b).length,.own 200114 20 (AR b).length,.own 34 3 b.Waivers.length,.own 200112 3 (AM b).length]) 40
def Z88:Blk:=.row 7 (Vq b q).length (AU AF.c (Vq b q)) 49
abbrev DX:=BN (AK q.e1 48)
abbrev Vm:=b.Parts.set (Yg q b).toNat (AF.mk (Hg b q).Id (DX q) (Hg b q).Type' (Hg b q).At (Hg b q).Turn (Hg b q).Under)
def Z89:Blk:=.cells (N8 b [.own 26 7 (Vm b q).length,.own 200100 2 (Af b).length,.own 200102 6 (AH b).length,.own 30 8 b.Vias.length,.own 200104 8 (Ah b).length,.own 200106 5 (Ai b).length,.own 200108 4 (Ag b).length,.own 200110 2 (AP b).length,.own 200114 20 (AR b).length,.own 34 3 b.Waivers.length,.own 200112 3 (AM b).length]) 40
def Z8a:Blk:=.row 7 (Vm b q).length (AU AF.c (Vm b q)) 49
abbrev Vp:=b.Parts.set (Yg q b).toNat (AF.mk (Hg b q).Id (Hg b q).Ref (Hg b q).Type' (Hg b q).At (W64 ((AK q.e1 48)-1)) (Hg b q).Under)
def Z8b:Blk:=.cells (N8 b [.own 26 7 (Vp b q).length,.own 200100 2 (Af b).length,.own 200102 6 (AH b).length,.own 30 8 b.Vias.length,.own 200104 8 (Ah b).length,.own 200106 5 (Ai b).length,.own 200108 4 (Ag b).length,.own 200110 2 (AP b).length,.own 200114 20 (AR b).length,.own 34 3 b.Waivers.length,.own 200112 3 (AM b).length]) 40
def Z8c:Blk:=.row 7 (Vp b q).length (AU AF.c (Vp b q)) 49
abbrev V2:=(b.Parts.set (Yg q b).toNat (AF.mk (Hg b q).Id (Hg b q).Ref (Hg b q).Type' (AE.mk (([AK q.e1 48,67108864,67108664,(-67108865)]:List Int).getD (Int.tmod (AK q.e1 48) 4).toNat 0) (Hg b q).At.Y) (Hg b q).Turn (Hg b q).Under))
def Z8d:Blk:=.cells (N8 b [.own 26 7 (V2 b q).length,.own 200100 2 (Af b).length,.own 200102 6 (AH b).length,.own 30 8 b.Vias.length,.own 200104 8 (Ah b).length,.own 200106 5 (Ai b).length,.own 200108 4 (Ag b).length,.own 200110 2 (AP b).length,.own 200114 20 (AR b).length,.own 34 3 b.Waivers.length,.own 200112 3 (AM b).length]) 40
def Z8e:Blk:=.row 7 (V2 b q).length (AU AF.c (V2 b q)) 49
abbrev SF (q:DM) (b:AC):=(Int.tmod (AK q.e2 64) (((Af b).length:Nat):Int))
abbrev VQ (q:DM) (b:AC):=BA.mk (DX q) ((Af b).getD (SF q b).toNat default).Pins
def Z8f:Blk:=.cells (FQ b [.own 200100 2 ((Af b).set (SF q b).toNat (VQ q b)).length,.own 200102 6 (AH b).length,.own 30 8 b.Vias.length,.own 200104 8 (Ah b).length,.own 200106 5 (Ai b).length,.own 200108 4 (Ag b).length,.own 200110 2 (AP b).length,.own 200114 20 (AR b).length,.own 34 3 b.Waivers.length,.own 200112 3 (AM b).length]) 40
def Z8g:Blk:=.row 2 ((Af b).set (SF q b).toNat (VQ q b)).length (AU BA.c ((Af b).set (SF q b).toNat (VQ q b))) 84
def Z8h:Blk:=.cells (FQ b [.own 176 2 ((Af b)++[BA.mk (DX q) [AX.mk ({ data := #[82,49] }:ByteArray) ({ data := #[80,50] }:ByteArray)]]).length,.own 200102 6 (AH b).length,.own 30 8 b.Vias.length,.own 200104 8 (Ah b).length,.own 200106 5 (Ai b).length,.own 200108 4 (Ag b).length,.own 200110 2 (AP b).length,.own 200114 20 (AR b).length,.own 34 3 b.Waivers.length,.own 200112 3 (AM b).length]) 40
def Z8i:Blk:=.row 2 ((Af b)++[BA.mk (DX q) [AX.mk ({ data := #[82,49] }:ByteArray) ({ data := #[80,50] }:ByteArray)]]).length (AU BA.c ((Af b)++[BA.mk (DX q) [AX.mk ({ data := #[82,49] }:ByteArray) ({ data := #[80,50] }:ByteArray)]])) 84
def Z8j:Blk:=.cells (FQ b [lst 2 BA.c ((Af b).take (min ((Af b).length:Int) (Int.tmod (AK q.e1 48) 4):Int).toNat),.own 200102 6 (AH b).length,.own 30 8 b.Vias.length,.own 200104 8 (Ah b).length,.own 200106 5 (Ai b).length,.own 200108 4 (Ag b).length,.own 200110 2 (AP b).length,.own 200114 20 (AR b).length,.own 34 3 b.Waivers.length,.own 200112 3 (AM b).length]) 40
abbrev OP:=Int.tmod (AK q.e2 64) 3
abbrev Vn:=[Aq.mk (W64 (10+(AK q.e1 48))) (BN (AK q.e2 64)) (W64 (1+(OP q))) (Co (AK q.e1 48))]
def Z8k:Blk:=.cells (FQ b [.own 200100 2 (Af b).length,.own 205 6 ((AH b)++(Vn q)).length,.own 30 8 b.Vias.length,.own 200104 8 (Ah b).length,.own 200106 5 (Ai b).length,.own 200108 4 (Ag b).length,.own 200110 2 (AP b).length,.own 200114 20 (AR b).length,.own 34 3 b.Waivers.length,.own 200112 3 (AM b).length]) 40
def Z8l:Blk:=.row 6 ((AH b)++(Vn q)).length (AU Aq.c ((AH b)++(Vn q))) 87
def Z8m:Tv:=tB (decide ((0:Int)<(((AH b).length:Nat):Int)))
abbrev HY (q:DM) (b:AC):=(Int.tmod (AK q.e2 64) (((AH b).length:Nat):Int))
abbrev Vw:=Aq.mk ((AH b).getD (HY q b).toNat default).Id ((AH b).getD (HY q b).toNat default).Net (W64 ((Int.tmod (AK q.e1 48) 4)+1)) ((AH b).getD (HY q b).toNat default).Shape
def Z8n:Blk:=.cells (FQ b [.own 200100 2 (Af b).length,.own 200102 6 ((AH b).set (HY q b).toNat (Vw b q)).length,.own 30 8 b.Vias.length,.own 200104 8 (Ah b).length,.own 200106 5 (Ai b).length,.own 200108 4 (Ag b).length,.own 200110 2 (AP b).length,.own 200114 20 (AR b).length,.own 34 3 b.Waivers.length,.own 200112 3 (AM b).length]) 40
def Z8o:Blk:=.row 6 ((AH b).set (HY q b).toNat (Vw b q)).length (AU Aq.c ((AH b).set (HY q b).toNat (Vw b q))) 87
abbrev Vz:=(PH (AH b) ((Int.tmod (AK q.e2 64) (((AH b).length:Nat):Int):Int).toNat-(0:Int).toNat) (W64 ((HY q b)+1):Int).toNat (((((AH b).length:Nat):Int):Int).toNat-(W64 ((HY q b)+1):Int).toNat))
def Z8p:Blk:=.cells (FQ b [.own 200100 2 (Af b).length,.own 248 6 (Vz b q).length,.own 30 8 b.Vias.length,.own 200104 8 (Ah b).length,.own 200106 5 (Ai b).length,.own 200108 4 (Ag b).length,.own 200110 2 (AP b).length,.own 200114 20 (AR b).length,.own 34 3 b.Waivers.length,.own 200112 3 (AM b).length]) 40
def Z8q:Blk:=.row 6 (Vz b q).length (AU Aq.c (Vz b q)) 87
abbrev Tk:=Int.tmod (AK q.e1 48) 9
abbrev Tj:=Int.tmod (AK q.e2 64) 9
abbrev Vb:=AE.mk (W64 (10*(AK q.e1 48))) (W64 (5*(AK q.e2 64)))
abbrev VM:=Int.tdiv (Int.tmod (AK q.e1 48) 3) 2
def Z8r:Blk:=.cells (FQ b (RX b [.own 275 8 (b.Vias++[Bx.mk (W64 (60+(AK q.e1 48))) ({ data := #[71,78,68] }:ByteArray) (Vb q) (W64 (8-(Tk q))) (Tj q) (W64 (1+(Int.tmod (AK q.e2 64) 2))) (W64 (2+(W64 (VM q))))]).length,.own 200104 8 (Ah b).length,.own 200106 5 (Ai b).length,.own 200108 4 (Ag b).length,.own 200110 2 (AP b).length,.own 200114 20 (AR b).length,.own 34 3 b.Waivers.length,.own 200112 3 (AM b).length])) 40
def Z8s:Blk:=.row 8 (b.Vias++[Bx.mk (W64 (60+(AK q.e1 48))) ({ data := #[71,78,68] }:ByteArray) (Vb q) (W64 (8-(Tk q))) (Tj q) (W64 (1+(Int.tmod (AK q.e2 64) 2))) (W64 (2+(W64 (VM q))))]).length (AU Bx.c (b.Vias++[Bx.mk (W64 (60+(AK q.e1 48))) ({ data := #[71,78,68] }:ByteArray) (Vb q) (W64 (8-(Tk q))) (Tj q) (W64 (1+(Int.tmod (AK q.e2 64) 2))) (W64 (2+(W64 (VM q))))])) 89
abbrev qV (q:DM) (b:AC):=(Int.tmod (AK q.e2 64) ((b.Vias.length:Nat):Int))
abbrev NJ:=(b.Vias.getD (qV q b).toNat default)
abbrev Vx:=b.Vias.set (qV q b).toNat (Bx.mk (NJ b q).Id (NJ b q).Net (AE.mk (W64 ((NJ b q).At.X+(W64 (3*(AK q.e1 48))))) (NJ b q).At.Y) (NJ b q).R (NJ b q).Drill (NJ b q).From (NJ b q).To)
def Z8t:Blk:=.cells (FQ b (RX b [.own 30 8 (Vx b q).length,.own 200104 8 (Ah b).length,.own 200106 5 (Ai b).length,.own 200108 4 (Ag b).length,.own 200110 2 (AP b).length,.own 200114 20 (AR b).length,.own 34 3 b.Waivers.length,.own 200112 3 (AM b).length])) 40
def Z8u:Blk:=.row 8 (Vx b q).length (AU Bx.c (Vx b q)) 89
abbrev Vg:=[Al.mk (Int.tmod (AK q.e2 64) 7) 1 (W64 (2+(Int.tmod (AK q.e1 48) 8))) 3]
abbrev OO:=Int.tmod (AK q.e2 64) 5
def Z8v:Blk:=.cells (Cn b [.own 333 8 ((Ah b)++[A8.mk (W64 (70+(AK q.e1 48))) ({ data := #[78,49] }:ByteArray) (W64 (1+(OP q))) (([20,0,1,33554432,10,134217728]:List Int).getD (OQ q).toNat 0) 0 (W64 ((OO q)-1)) 3 (Vg q)]).length,.own 200106 5 (Ai b).length,.own 200108 4 (Ag b).length,.own 200110 2 (AP b).length,.own 200114 20 (AR b).length,.own 34 3 b.Waivers.length,.own 200112 3 (AM b).length]) 40
def Z8w:Blk:=.row 8 ((Ah b)++[A8.mk (W64 (70+(AK q.e1 48))) ({ data := #[78,49] }:ByteArray) (W64 (1+(OP q))) (([20,0,1,33554432,10,134217728]:List Int).getD (OQ q).toNat 0) 0 (W64 ((OO q)-1)) 3 (Vg q)]).length (AU A8.c ((Ah b)++[A8.mk (W64 (70+(AK q.e1 48))) ({ data := #[78,49] }:ByteArray) (W64 (1+(OP q))) (([20,0,1,33554432,10,134217728]:List Int).getD (OQ q).toNat 0) 0 (W64 ((OO q)-1)) 3 (Vg q)])) 92
abbrev Vk:=[BR.mk (W64 (80+(AK q.e1 48))) (W64 ((OO q)-1)) (Co (AK q.e1 48))]
def Z8x:Blk:=.cells (Cn b [.own 200104 8 (Ah b).length,.own 386 5 ((Ai b)++(Vk q)).length,.own 200108 4 (Ag b).length,.own 200110 2 (AP b).length,.own 200114 20 (AR b).length,.own 34 3 b.Waivers.length,.own 200112 3 (AM b).length]) 40
def Z8y:Blk:=.row 5 ((Ai b)++(Vk q)).length (AU BR.c ((Ai b)++(Vk q))) 95
abbrev VY:=[Bq.mk (W64 (90+(AK q.e1 48))) (Co (AK q.e1 48))]
def Z8z:Blk:=.cells (Cn b [.own 200104 8 (Ah b).length,.own 200106 5 (Ai b).length,.own 398 4 ((Ag b)++(VY q)).length,.own 200110 2 (AP b).length,.own 200114 20 (AR b).length,.own 34 3 b.Waivers.length,.own 200112 3 (AM b).length]) 40
def Z8A:Blk:=.row 4 ((Ag b)++(VY q)).length (AU Bq.c ((Ag b)++(VY q))) 97
def Z8B:Blk:=.cells (Cn b (Ec b [.own 411 2 ((AP b)++[BS.mk (DX q) [BN (AK q.e2 64)]]).length,.own 200114 20 (AR b).length,.own 34 3 b.Waivers.length,.own 200112 3 (AM b).length])) 40
def Z8C:Blk:=.row 2 ((AP b)++[BS.mk (DX q) [BN (AK q.e2 64)]]).length (AU BS.c ((AP b)++[BS.mk (DX q) [BN (AK q.e2 64)]])) 100
def Z8D:Blk:=.cells (Cn b (Ec b (RY b [.own 426 3 ((AM b)++[Bb.mk (DX q) [({ data := #[78,49] }:ByteArray),BN (AK q.e2 64)] (W64 ((AK q.e2 64)-1))]).length]))) 40
def Z8E:Blk:=.row 3 ((AM b)++[Bb.mk (DX q) [({ data := #[78,49] }:ByteArray),BN (AK q.e2 64)] (W64 ((AK q.e2 64)-1))]).length (AU Bb.c ((AM b)++[Bb.mk (DX q) [({ data := #[78,49] }:ByteArray),BN (AK q.e2 64)] (W64 ((AK q.e2 64)-1))])) 102
def Z8F:Blk:=.cells (Cn b (Ec b [.own 200110 2 (AP b).length,.own 200114 20 (AR b).length,.own 438 3 (b.Waivers++[BM.mk (W64 (1+(AK q.e1 48))) (Int.tmod (AK q.e2 64) 13) ({ data := #[99,50] }:ByteArray)]).length,.own 200112 3 (AM b).length])) 40
def Z8G:Blk:=.row 3 (b.Waivers++[BM.mk (W64 (1+(AK q.e1 48))) (Int.tmod (AK q.e2 64) 13) ({ data := #[99,50] }:ByteArray)]).length (AU BM.c (b.Waivers++[BM.mk (W64 (1+(AK q.e1 48))) (Int.tmod (AK q.e2 64) 13) ({ data := #[99,50] }:ByteArray)])) 104
abbrev MU (q:DM) (b:AC):=(Int.tmod (AK q.e2 64) (((AR b).length:Nat):Int))
abbrev Zz (q:DM) (b:AC):=(MU q b)
abbrev aI:=(A1.mk ((AR b).getD (Zz q b).toNat default).Name ((AR b).getD (Zz q b).toNat default).Priority ((AR b).getD (Zz q b).toNat default).What ((AR b).getD (Zz q b).toNat default).A ((AR b).getD (Zz q b).toNat default).B (W64 ((AK q.e1 48)-1)))
def Z8H:Blk:=.cells (Cn b (Ec b [.own 200110 2 (AP b).length,.own 200114 20 ((AR b).set (Zz q b).toNat (aI b q)).length,.own 34 3 b.Waivers.length,.own 200112 3 (AM b).length])) 40
def Z8I:Blk:=.row 20 ((AR b).set (Zz q b).toNat (aI b q)).length (AU A1.c ((AR b).set (Zz q b).toNat (aI b q))) 109
abbrev V1:=(PH b.Parts ((Int.tmod (AK q.e2 64) ((b.Parts.length:Nat):Int):Int).toNat-(0:Int).toNat) (W64 ((Yg q b)+1):Int).toNat ((((b.Parts.length:Nat):Int):Int).toNat-(W64 ((Yg q b)+1):Int).toNat))
def Z8J:Blk:=.cells (N8 b [.own 480 7 (V1 b q).length,.own 200100 2 (Af b).length,.own 200102 6 (AH b).length,.own 30 8 b.Vias.length,.own 200104 8 (Ah b).length,.own 200106 5 (Ai b).length,.own 200108 4 (Ag b).length,.own 200110 2 (AP b).length,.own 200114 20 (AR b).length,.own 34 3 b.Waivers.length,.own 200112 3 (AM b).length]) 40
def Z8K:Blk:=.row 7 (V1 b q).length (AU AF.c (V1 b q)) 49
abbrev Vr:=Aq.mk ((AH b).getD (HY q b).toNat default).Id (DX q) ((AH b).getD (HY q b).toNat default).Layer ((AH b).getD (HY q b).toNat default).Shape
def Z8L:Blk:=.cells (FQ b [.own 200100 2 (Af b).length,.own 200102 6 ((AH b).set (HY q b).toNat (Vr b q)).length,.own 30 8 b.Vias.length,.own 200104 8 (Ah b).length,.own 200106 5 (Ai b).length,.own 200108 4 (Ag b).length,.own 200110 2 (AP b).length,.own 200114 20 (AR b).length,.own 34 3 b.Waivers.length,.own 200112 3 (AM b).length]) 40
def Z8M:Blk:=.row 6 ((AH b).set (HY q b).toNat (Vr b q)).length (AU Aq.c ((AH b).set (HY q b).toNat (Vr b q))) 87
def Z8N:Blk:=.cells (Cn b [.own 200104 8 (Ah b).length,.own 200106 5 v5_9.length,.own 200108 4 (Ag b).length,.own 200110 2 (AP b).length,.own 200114 20 (AR b).length,.own 34 3 b.Waivers.length,.own 200112 3 (AM b).length]) 40
abbrev Rt:=[BR.mk (W64 (100+v10)) 0 (Dc (AE.mk v10 0) 1)]
def Z8O:Blk:=.cells (Cn b [.own 200104 8 (Ah b).length,.own 38 5 (v5_9++(Rt v10)).length,.own 200108 4 (Ag b).length,.own 200110 2 (AP b).length,.own 200114 20 (AR b).length,.own 34 3 b.Waivers.length,.own 200112 3 (AM b).length]) 40
def Z8P:Blk:=.row 5 (v5_9++(Rt v10)).length (AU BR.c (v5_9++(Rt v10))) 95
def Z8Q:Blk:=.cells (Cn b [.own 200104 8 (Ah b).length,.own 200106 5 (v5_9++(Rt v10)).length,.own 200108 4 (Ag b).length,.own 200110 2 (AP b).length,.own 200114 20 (AR b).length,.own 34 3 b.Waivers.length,.own 200112 3 (AM b).length]) 40
def ET (b:AC) (q:DM):Nat->List BR->Int->AC
 | 0,_,_=>default
 | n0+1,v5_9,v10=>bif decide ((v10:Int)<(W64 (79+(Int.tmod (AK q.e1 48) 4)))) then ((ET b q n0) (v5_9++[BR.mk (W64 (100+v10)) 0 (Dc (AE.mk v10 0) 1)]) (v10+1)) else (AC.mk b.Layers (Ak b.Outline) b.Parts (Af b) (AH b) b.Vias (Ah b) v5_9 (Ag b) (AP b) (AR b) b.Waivers (AM b))
def B6 (b:AC) (q:DM):AC:=bif decide (((AK q.e0 26):Int)=0) then (AC.mk (Int.tmod (AK q.e1 48) 6) (Ak b.Outline) b.Parts (Af b) (AH b) b.Vias (Ah b) (Ai b) (Ag b) (AP b) (AR b) b.Waivers (AM b)) else (bif decide (((AK q.e0 26):Int)=1) then (AC.mk b.Layers (Co (AK q.e1 48)) b.Parts (Af b) (AH b) b.Vias (Ah b) (Ai b) (Ag b) (AP b) (AR b) b.Waivers (AM b)) else (bif decide (((AK q.e0 26):Int)=2) then (bif decide ((0:Int)<((b.Parts.length:Nat):Int)) then (AC.mk b.Layers (Ak b.Outline) (b.Parts.set (Int.tmod (AK q.e2 64) ((b.Parts.length:Nat):Int)).toNat (AF.mk (W64 ((AK q.e1 48)-1)) (b.Parts.getD (Int.tmod (AK q.e2 64) ((b.Parts.length:Nat):Int)).toNat default).Ref (b.Parts.getD (Int.tmod (AK q.e2 64) ((b.Parts.length:Nat):Int)).toNat default).Type' (b.Parts.getD (Int.tmod (AK q.e2 64) ((b.Parts.length:Nat):Int)).toNat default).At (b.Parts.getD (Int.tmod (AK q.e2 64) ((b.Parts.length:Nat):Int)).toNat default).Turn (b.Parts.getD (Int.tmod (AK q.e2 64) ((b.Parts.length:Nat):Int)).toNat default).Under)) (Af b) (AH b) b.Vias (Ah b) (Ai b) (Ag b) (AP b) (AR b) b.Waivers (AM b)) else (AC.mk b.Layers (Ak b.Outline) b.Parts (Af b) (AH b) b.Vias (Ah b) (Ai b) (Ag b) (AP b) (AR b) b.Waivers (AM b))) else (bif decide (((AK q.e0 26):Int)=3) then (bif decide ((0:Int)<((b.Parts.length:Nat):Int)) then (AC.mk b.Layers (Ak b.Outline) (b.Parts.set (Int.tmod (AK q.e2 64) ((b.Parts.length:Nat):Int)).toNat (AF.mk (b.Parts.getD (Int.tmod (AK q.e2 64) ((b.Parts.length:Nat):Int)).toNat default).Id (BN (AK q.e1 48)) (b.Parts.getD (Int.tmod (AK q.e2 64) ((b.Parts.length:Nat):Int)).toNat default).Type' (b.Parts.getD (Int.tmod (AK q.e2 64) ((b.Parts.length:Nat):Int)).toNat default).At (b.Parts.getD (Int.tmod (AK q.e2 64) ((b.Parts.length:Nat):Int)).toNat default).Turn (b.Parts.getD (Int.tmod (AK q.e2 64) ((b.Parts.length:Nat):Int)).toNat default).Under)) (Af b) (AH b) b.Vias (Ah b) (Ai b) (Ag b) (AP b) (AR b) b.Waivers (AM b)) else (AC.mk b.Layers (Ak b.Outline) b.Parts (Af b) (AH b) b.Vias (Ah b) (Ai b) (Ag b) (AP b) (AR b) b.Waivers (AM b))) else (bif decide (((AK q.e0 26):Int)=4) then (bif decide ((0:Int)<((b.Parts.length:Nat):Int)) then (AC.mk b.Layers (Ak b.Outline) (b.Parts.set (Int.tmod (AK q.e2 64) ((b.Parts.length:Nat):Int)).toNat (AF.mk (b.Parts.getD (Int.tmod (AK q.e2 64) ((b.Parts.length:Nat):Int)).toNat default).Id (b.Parts.getD (Int.tmod (AK q.e2 64) ((b.Parts.length:Nat):Int)).toNat default).Ref (b.Parts.getD (Int.tmod (AK q.e2 64) ((b.Parts.length:Nat):Int)).toNat default).Type' (b.Parts.getD (Int.tmod (AK q.e2 64) ((b.Parts.length:Nat):Int)).toNat default).At (W64 ((AK q.e1 48)-1)) (b.Parts.getD (Int.tmod (AK q.e2 64) ((b.Parts.length:Nat):Int)).toNat default).Under)) (Af b) (AH b) b.Vias (Ah b) (Ai b) (Ag b) (AP b) (AR b) b.Waivers (AM b)) else (AC.mk b.Layers (Ak b.Outline) b.Parts (Af b) (AH b) b.Vias (Ah b) (Ai b) (Ag b) (AP b) (AR b) b.Waivers (AM b))) else (bif decide (((AK q.e0 26):Int)=5) then (bif decide ((0:Int)<((b.Parts.length:Nat):Int)) then (AC.mk b.Layers (Ak b.Outline) (b.Parts.set (Int.tmod (AK q.e2 64) ((b.Parts.length:Nat):Int)).toNat (AF.mk (b.Parts.getD (Int.tmod (AK q.e2 64) ((b.Parts.length:Nat):Int)).toNat default).Id (b.Parts.getD (Int.tmod (AK q.e2 64) ((b.Parts.length:Nat):Int)).toNat default).Ref (b.Parts.getD (Int.tmod (AK q.e2 64) ((b.Parts.length:Nat):Int)).toNat default).Type' (AE.mk (([AK q.e1 48,67108864,67108664,(-67108865)]:List Int).getD (Int.tmod (AK q.e1 48) 4).toNat 0) (b.Parts.getD (Int.tmod (AK q.e2 64) ((b.Parts.length:Nat):Int)).toNat default).At.Y) (b.Parts.getD (Int.tmod (AK q.e2 64) ((b.Parts.length:Nat):Int)).toNat default).Turn (b.Parts.getD (Int.tmod (AK q.e2 64) ((b.Parts.length:Nat):Int)).toNat default).Under)) (Af b) (AH b) b.Vias (Ah b) (Ai b) (Ag b) (AP b) (AR b) b.Waivers (AM b)) else (AC.mk b.Layers (Ak b.Outline) b.Parts (Af b) (AH b) b.Vias (Ah b) (Ai b) (Ag b) (AP b) (AR b) b.Waivers (AM b))) else (bif decide (((AK q.e0 26):Int)=6) then (bif decide ((0:Int)<(((Af b).length:Nat):Int)) then (AC.mk b.Layers (Ak b.Outline) b.Parts ((Af b).set (Int.tmod (AK q.e2 64) (((Af b).length:Nat):Int)).toNat (BA.mk (BN (AK q.e1 48)) ((Af b).getD (Int.tmod (AK q.e2 64) (((Af b).length:Nat):Int)).toNat default).Pins)) (AH b) b.Vias (Ah b) (Ai b) (Ag b) (AP b) (AR b) b.Waivers (AM b)) else (AC.mk b.Layers (Ak b.Outline) b.Parts (Af b) (AH b) b.Vias (Ah b) (Ai b) (Ag b) (AP b) (AR b) b.Waivers (AM b))) else (bif decide (((AK q.e0 26):Int)=8) then (AC.mk b.Layers (Ak b.Outline) b.Parts ((Af b)++[BA.mk (BN (AK q.e1 48)) [AX.mk ({ data := #[82,49] }:ByteArray) ({ data := #[80,50] }:ByteArray)]]) (AH b) b.Vias (Ah b) (Ai b) (Ag b) (AP b) (AR b) b.Waivers (AM b)) else (bif decide (((AK q.e0 26):Int)=9) then (AC.mk b.Layers (Ak b.Outline) b.Parts ((Af b).take (min ((Af b).length:Int) (Int.tmod (AK q.e1 48) 4):Int).toNat) (AH b) b.Vias (Ah b) (Ai b) (Ag b) (AP b) (AR b) b.Waivers (AM b)) else (bif decide (((AK q.e0 26):Int)=10) then (AC.mk b.Layers (Ak b.Outline) b.Parts (Af b) ((AH b)++[Aq.mk (W64 (10+(AK q.e1 48))) (BN (AK q.e2 64)) (W64 (1+(Int.tmod (AK q.e2 64) 3))) (Co (AK q.e1 48))]) b.Vias (Ah b) (Ai b) (Ag b) (AP b) (AR b) b.Waivers (AM b)) else (bif decide (((AK q.e0 26):Int)=11) then (bif decide ((0:Int)<(((AH b).length:Nat):Int)) then (AC.mk b.Layers (Ak b.Outline) b.Parts (Af b) ((AH b).set (Int.tmod (AK q.e2 64) (((AH b).length:Nat):Int)).toNat (Aq.mk ((AH b).getD (Int.tmod (AK q.e2 64) (((AH b).length:Nat):Int)).toNat default).Id ((AH b).getD (Int.tmod (AK q.e2 64) (((AH b).length:Nat):Int)).toNat default).Net (W64 ((Int.tmod (AK q.e1 48) 4)+1)) ((AH b).getD (Int.tmod (AK q.e2 64) (((AH b).length:Nat):Int)).toNat default).Shape)) b.Vias (Ah b) (Ai b) (Ag b) (AP b) (AR b) b.Waivers (AM b)) else (AC.mk b.Layers (Ak b.Outline) b.Parts (Af b) (AH b) b.Vias (Ah b) (Ai b) (Ag b) (AP b) (AR b) b.Waivers (AM b))) else (bif decide (((AK q.e0 26):Int)=12) then (bif decide ((0:Int)<(((AH b).length:Nat):Int)) then (AC.mk b.Layers (Ak b.Outline) b.Parts (Af b) (PH (AH b) ((Int.tmod (AK q.e2 64) (((AH b).length:Nat):Int):Int).toNat-(0:Int).toNat) (W64 ((Int.tmod (AK q.e2 64) (((AH b).length:Nat):Int))+1):Int).toNat (((((AH b).length:Nat):Int):Int).toNat-(W64 ((Int.tmod (AK q.e2 64) (((AH b).length:Nat):Int))+1):Int).toNat)) b.Vias (Ah b) (Ai b) (Ag b) (AP b) (AR b) b.Waivers (AM b)) else (AC.mk b.Layers (Ak b.Outline) b.Parts (Af b) (AH b) b.Vias (Ah b) (Ai b) (Ag b) (AP b) (AR b) b.Waivers (AM b))) else (bif decide (((AK q.e0 26):Int)=13) then (AC.mk b.Layers (Ak b.Outline) b.Parts (Af b) (AH b) (b.Vias++[Bx.mk (W64 (60+(AK q.e1 48))) ({ data := #[71,78,68] }:ByteArray) (AE.mk (W64 (10*(AK q.e1 48))) (W64 (5*(AK q.e2 64)))) (W64 (8-(Int.tmod (AK q.e1 48) 9))) (Int.tmod (AK q.e2 64) 9) (W64 (1+(Int.tmod (AK q.e2 64) 2))) (W64 (2+(W64 (Int.tdiv (Int.tmod (AK q.e1 48) 3) 2))))]) (Ah b) (Ai b) (Ag b) (AP b) (AR b) b.Waivers (AM b)) else (bif decide (((AK q.e0 26):Int)=14) then (bif decide ((0:Int)<((b.Vias.length:Nat):Int)) then (AC.mk b.Layers (Ak b.Outline) b.Parts (Af b) (AH b) (b.Vias.set (Int.tmod (AK q.e2 64) ((b.Vias.length:Nat):Int)).toNat (Bx.mk (b.Vias.getD (Int.tmod (AK q.e2 64) ((b.Vias.length:Nat):Int)).toNat default).Id (b.Vias.getD (Int.tmod (AK q.e2 64) ((b.Vias.length:Nat):Int)).toNat default).Net (AE.mk (W64 ((b.Vias.getD (Int.tmod (AK q.e2 64) ((b.Vias.length:Nat):Int)).toNat default).At.X+(W64 (3*(AK q.e1 48))))) (b.Vias.getD (Int.tmod (AK q.e2 64) ((b.Vias.length:Nat):Int)).toNat default).At.Y) (b.Vias.getD (Int.tmod (AK q.e2 64) ((b.Vias.length:Nat):Int)).toNat default).R (b.Vias.getD (Int.tmod (AK q.e2 64) ((b.Vias.length:Nat):Int)).toNat default).Drill (b.Vias.getD (Int.tmod (AK q.e2 64) ((b.Vias.length:Nat):Int)).toNat default).From (b.Vias.getD (Int.tmod (AK q.e2 64) ((b.Vias.length:Nat):Int)).toNat default).To)) (Ah b) (Ai b) (Ag b) (AP b) (AR b) b.Waivers (AM b)) else (AC.mk b.Layers (Ak b.Outline) b.Parts (Af b) (AH b) b.Vias (Ah b) (Ai b) (Ag b) (AP b) (AR b) b.Waivers (AM b))) else (bif decide (((AK q.e0 26):Int)=15) then (AC.mk b.Layers (Ak b.Outline) b.Parts (Af b) (AH b) b.Vias ((Ah b)++[A8.mk (W64 (70+(AK q.e1 48))) ({ data := #[78,49] }:ByteArray) (W64 (1+(Int.tmod (AK q.e2 64) 3))) (([20,0,1,33554432,10,134217728]:List Int).getD (Int.tmod (AK q.e1 48) 6).toNat 0) 0 (W64 ((Int.tmod (AK q.e2 64) 5)-1)) 3 [Al.mk (Int.tmod (AK q.e2 64) 7) 1 (W64 (2+(Int.tmod (AK q.e1 48) 8))) 3]]) (Ai b) (Ag b) (AP b) (AR b) b.Waivers (AM b)) else (bif decide (((AK q.e0 26):Int)=17) then (AC.mk b.Layers (Ak b.Outline) b.Parts (Af b) (AH b) b.Vias (Ah b) ((Ai b)++[BR.mk (W64 (80+(AK q.e1 48))) (W64 ((Int.tmod (AK q.e2 64) 5)-1)) (Co (AK q.e1 48))]) (Ag b) (AP b) (AR b) b.Waivers (AM b)) else (bif decide (((AK q.e0 26):Int)=18) then (AC.mk b.Layers (Ak b.Outline) b.Parts (Af b) (AH b) b.Vias (Ah b) (Ai b) ((Ag b)++[Bq.mk (W64 (90+(AK q.e1 48))) (Co (AK q.e1 48))]) (AP b) (AR b) b.Waivers (AM b)) else (bif decide (((AK q.e0 26):Int)=19) then (AC.mk b.Layers (Ak b.Outline) b.Parts (Af b) (AH b) b.Vias (Ah b) (Ai b) (Ag b) ((AP b)++[BS.mk (BN (AK q.e1 48)) [BN (AK q.e2 64)]]) (AR b) b.Waivers (AM b)) else (bif decide (((AK q.e0 26):Int)=20) then (AC.mk b.Layers (Ak b.Outline) b.Parts (Af b) (AH b) b.Vias (Ah b) (Ai b) (Ag b) (AP b) (AR b) b.Waivers ((AM b)++[Bb.mk (BN (AK q.e1 48)) [({ data := #[78,49] }:ByteArray),BN (AK q.e2 64)] (W64 ((AK q.e2 64)-1))])) else (bif decide (((AK q.e0 26):Int)=21) then (AC.mk b.Layers (Ak b.Outline) b.Parts (Af b) (AH b) b.Vias (Ah b) (Ai b) (Ag b) (AP b) (AR b) (b.Waivers++[BM.mk (W64 (1+(AK q.e1 48))) (Int.tmod (AK q.e2 64) 13) ({ data := #[99,50] }:ByteArray)]) (AM b)) else (bif decide (((AK q.e0 26):Int)=22) then (bif decide ((0:Int)<(((AR b).length:Nat):Int)) then (AC.mk b.Layers (Ak b.Outline) b.Parts (Af b) (AH b) b.Vias (Ah b) (Ai b) (Ag b) (AP b) ((AR b).set (Int.tmod (AK q.e2 64) (((AR b).length:Nat):Int)).toNat (A1.mk ((AR b).getD (Int.tmod (AK q.e2 64) (((AR b).length:Nat):Int)).toNat default).Name ((AR b).getD (Int.tmod (AK q.e2 64) (((AR b).length:Nat):Int)).toNat default).Priority ((AR b).getD (Int.tmod (AK q.e2 64) (((AR b).length:Nat):Int)).toNat default).What ((AR b).getD (Int.tmod (AK q.e2 64) (((AR b).length:Nat):Int)).toNat default).A ((AR b).getD (Int.tmod (AK q.e2 64) (((AR b).length:Nat):Int)).toNat default).B (W64 ((AK q.e1 48)-1)))) b.Waivers (AM b)) else (AC.mk b.Layers (Ak b.Outline) b.Parts (Af b) (AH b) b.Vias (Ah b) (Ai b) (Ag b) (AP b) (AR b) b.Waivers (AM b))) else (bif decide (((AK q.e0 26):Int)=23) then (bif decide ((0:Int)<((b.Parts.length:Nat):Int)) then (AC.mk b.Layers (Ak b.Outline) (PH b.Parts ((Int.tmod (AK q.e2 64) ((b.Parts.length:Nat):Int):Int).toNat-(0:Int).toNat) (W64 ((Int.tmod (AK q.e2 64) ((b.Parts.length:Nat):Int))+1):Int).toNat ((((b.Parts.length:Nat):Int):Int).toNat-(W64 ((Int.tmod (AK q.e2 64) ((b.Parts.length:Nat):Int))+1):Int).toNat)) (Af b) (AH b) b.Vias (Ah b) (Ai b) (Ag b) (AP b) (AR b) b.Waivers (AM b)) else (AC.mk b.Layers (Ak b.Outline) b.Parts (Af b) (AH b) b.Vias (Ah b) (Ai b) (Ag b) (AP b) (AR b) b.Waivers (AM b))) else (bif decide (((AK q.e0 26):Int)=24) then (bif decide ((0:Int)<(((AH b).length:Nat):Int)) then (AC.mk b.Layers (Ak b.Outline) b.Parts (Af b) ((AH b).set (Int.tmod (AK q.e2 64) (((AH b).length:Nat):Int)).toNat (Aq.mk ((AH b).getD (Int.tmod (AK q.e2 64) (((AH b).length:Nat):Int)).toNat default).Id (BN (AK q.e1 48)) ((AH b).getD (Int.tmod (AK q.e2 64) (((AH b).length:Nat):Int)).toNat default).Layer ((AH b).getD (Int.tmod (AK q.e2 64) (((AH b).length:Nat):Int)).toNat default).Shape)) b.Vias (Ah b) (Ai b) (Ag b) (AP b) (AR b) b.Waivers (AM b)) else (AC.mk b.Layers (Ak b.Outline) b.Parts (Af b) (AH b) b.Vias (Ah b) (Ai b) (Ag b) (AP b) (AR b) b.Waivers (AM b))) else (ET b q (((W64 (79+(Int.tmod (AK q.e1 48) 4)))-0).toNat+1) (Ai b) 0)))))))))))))))))))))))
abbrev OL:List Av:=[.agg (AC.c b),.agg (DM.c q)]
def XM:CT:=(7,(OL b q),.val [] (.av (.agg (AC.c (B6 b q)))))
abbrev EW:List (Nat×Blk):=[(4,Z7R),(5,Z83 b),(26,Z7S b),(30,Z7V b),(34,Z81 b),(200100,Z7T b),(200102,Z7U b),(200104,Z7W b),(200106,Z7X b),(200108,Z7Y b),(200110,Z7Z b),(200112,Z82 b),(200114,Z80 b)]
abbrev QH:Nat×Tv:=(6,tI (AK q.e1 48))
abbrev Zv:Nat×Tv:=(7,tI (AK q.e2 64))
abbrev E4:List (Nat×Tv):=[(4,tP 4 0),(5,tP 5 0)]
abbrev EK:Nat×Tv:=(21,tI (AK q.e0 26))
abbrev FV:Nat×Blk:=(3,.cells (DM.c q) 23)
abbrev Of:Nat×Tv:=(11,.av (.agg (AC.c b)))
abbrev Oi:List (Nat×Tv):=[(3,tP 3 0),(4,tP 4 0),(Of b)]
abbrev Oc:List (Nat×Tv):=(Hc [])
abbrev Ob:List (Nat×Tv):=[(3,tP 3 0),(4,tP 4 0),(5,tP 5 0)]
abbrev B1 (t_:List (Nat×Tv)):List (Nat×Tv):=(4,tP 4 0)::(5,tP 5 0)::(QH q)::(Zv q)::t_
abbrev aH:List (Nat×Tv):=(B1 q [(EK q),(178,tB (decide (((AK q.e0 26):Int)=9)))])
abbrev aA:List Cl:=[.i (Int.tmod (AK q.e2 64) 7),.i 1,.i (W64 (2+(Int.tmod (AK q.e1 48) 8))),.i 3]
theorem au21 {p:Prop} (h:p:=by first | (with_reducible exact hc) | (with_reducible exact hN) | (with_reducible exact hK) | (with_reducible exact hN.1) | (with_reducible exact hK.1) | with_reducible assumption | omega | decide | (simp only [List.length_cons,List.length_nil,List.length_append];omega) | assumption):p:=h
theorem au13 {p:Prop} (h:p:=by first | decide | with_reducible exact oz (by with_reducible assumption)):p:=h
theorem au5 {p:Prop} (h:p:=by first | with_reducible exact tmb hK.1 (by with_reducible assumption) | with_reducible exact oi2 hK.1 (by with_reducible assumption) | with_reducible exact oi4 hK.1 (by with_reducible assumption) | with_reducible exact oi3 hK.1 (by with_reducible assumption) | with_reducible exact oi5 hN.1 | with_reducible exact oi8 hN.1 | with_reducible exact oi9 hN.1 | with_reducible exact oi7 hK.1 (by with_reducible assumption) (by with_reducible assumption) | with_reducible exact oi6 hK.1 (by with_reducible assumption) (by with_reducible assumption) | omega):p:=h
theorem au15 {p:Prop} (h:p:=by first | with_reducible exact ol1 (by with_reducible assumption) (by decide) | with_reducible exact ol2 (by with_reducible assumption) | with_reducible exact ol4 hK.1 (by with_reducible assumption) (by with_reducible assumption) | with_reducible exact ol3 hK.1 (by with_reducible assumption) (by with_reducible assumption) | omega):p:=h
set_option maxHeartbeats 40000000 in
theorem oC (b:AC) (q:DM) (hc:CW b) (hq7:¬ (AK q.e0 26:Int)=7) (hq16:¬ (AK q.e0 26:Int)=16):PuP 7 (XM b q).2.1 (.av (.agg (AC.c (B6 b q)))):=by
 refine pwf Tryz.func7 fun W0 M0 => ?_
 have hN:0<=AK q.e1 48/\AK q.e1 48<48:=I9 _ _ (by decide) (by decide)
 have hK0:=I9 q.e2 64 (by decide) (by decide)
 have hK:0<=AK q.e2 64/\AK q.e2 64<64:=hK0
 have hlNets:=fE hc
 have hlTracks:=Ws hc
 have hlPours:=ZV hc
 have hlKeeps:=ZX hc
 have hlSlots:=ZT hc
 have hlClasses:=Un hc
 have hlMatches:=Um hc
 have hlRules:=ZU hc
 have hlParts:=ZW hc
 have hlVias:=fD hc
 have hlWaivers:=Ul hc
 refine AA<|rn ⟨Oc,[(2,.cells (AC.c b) 40),(FV q),(4,Z7R)]⟩<|AA ?_
 refine Dm ?_
 refine Fw Dh 1 [] [] [] [3,4,11] [3,4] [] ⟨(Oi b),[(FV q),(4,Z7R)]⟩ .nil kr .nil ?_
 refine H8 (ι:=Unit) (I:=fun _=>True) (fun _=>⟨[(3,tP 3 0),(4,tP 4 0),(Of b),(12,.av (.agg (VJ b)))],[(26,Z7S b),(200100,Z7T b),(200102,Z7U b),(30,Z7V b),(200104,Z7W b),(200106,Z7X b),(200108,Z7Y b),(200110,Z7Z b),(200114,Z80 b),(34,Z81 b),(200112,Z82 b),(FV q),(4,Z7R)]⟩) hk0 ⟨⟨_,_,rfl,rfl,⟨fun _=>default,by kernel_rfl⟩,by kernel_rfl⟩,fun _ _=>by kernel_rfl,rfl,rfl⟩ (qCpA b au21) (fun _=>by kernel_rfl) (fun _=>by kernel_rfl) (fun _ _ => ?_)
 refine En Dh [] [] [] [3,4,5] [3,4,5,26,30,34,200100,200102,200104,200106,200108,200110,200112,200114] [] ⟨Ob,[(FV q),(4,Z7R),(5,Z83 b),(26,Z7S b),(30,Z7V b),(34,Z81 b),(200100,Z7T b),(200102,Z7U b),(200104,Z7W b),(200106,Z7X b),(200108,Z7Y b),(200110,Z7Z b),(200112,Z82 b),(200114,Z80 b)]⟩ .nil kr .nil<|AG<|AA ?_
 refine oc [(15,Ez q.e1 48)] [0<=(1:Int)/\(1:Int)<(3:Int),Ay (Ez q.e1 48).2.1] (.cons (Gr q.e1 48 au21) .nil) (.cons (by decide) (.cons rfl .nil))<|AG<|AA ?_
 refine oc [(18,Ez q.e2 64)] [0<=(2:Int)/\(2:Int)<(3:Int),Ay (Ez q.e2 64).2.1] (.cons (Gr q.e2 64 au21) .nil) (.cons (by decide) (.cons rfl .nil))<|AG ?_
 refine AA<|AA ?_
 refine oc [(21,Ez q.e0 26)] [0<=(0:Int)/\(0:Int)<(3:Int),Ay (Ez q.e0 26).2.1] (.cons (Gr q.e0 26 au21) .nil) (.cons (by decide) (.cons rfl .nil))<|AG ?_
 refine AQ<|AA ?_
 refine rn ⟨(B1 q [(EK q),(40,tB (decide (((AK q.e0 26):Int)=0)))]),(EW b)⟩ ?_
 refine AO _ rfl (fun h1 => ?_) (fun h1 => ?_)
 ·have g1:=oT h1
  refine oc [] [(6:Int)≠0] .nil (.cons au13 .nil)<|A3 ?_
  refine AG<|AA ?_
  refine on<|AY ?_
  exact zy (Cv.trans (B5 [26,200100,200102,30,200104,200106,200108,200110,200114,34,200112] hk0) (Cv.refl _)) (by simp only [B6,h1,cond_true,cond_false] <;> kernel_rfl)
 have g1:=oF h1
 refine AA<|rn ⟨(B1 q [(EK q),(45,tB (decide (((AK q.e0 26):Int)=1)))]),(EW b)⟩ ?_
 refine AO _ rfl (fun h2 => ?_) (fun h2 => ?_)
 ·refine oq 48 (Fu (AK q.e1 48)) (Jz (AK q.e1 48))<|A3 ?_
  refine AG<|AA ?_
  refine on<|AY ?_
  exact zy (Cv.trans (B5 [26,200100,200102,30,200104,200106,200108,200110,200114,34,200112] hk0) (Cv.refl _)) (by simp only [B6,h1,h2,cond_true,cond_false] <;> kernel_rfl)
 have g2:=oF h2
 refine AA<|rn ⟨(B1 q [(EK q),(50,tB (decide (((AK q.e0 26):Int)=2)))]),(EW b)⟩ ?_
 refine AO _ rfl (fun h3 => ?_) (fun h3 => ?_)
 ·have g3:=oT h3
  refine AA<|rn ⟨(B1 q [(55,Z86 b)]),(EW b)⟩ ?_
  refine AO _ rfl (fun h4 => ?_) (fun h4 => ?_)
  ·have g4:=oT h4
   refine od [] [] [(((b.Parts.length:Nat):Int):Int)≠0,0<=(Int.tmod (AK q.e2 64) ((b.Parts.length:Nat):Int):Int)/\(Int.tmod (AK q.e2 64) ((b.Parts.length:Nat):Int):Int)<((b.Parts.length:Nat):Int),(Int.tmod (AK q.e2 64) ((b.Parts.length:Nat):Int)).toNat<b.Parts.length] .nil (.cons au13 (.cons au5 (.cons au5 .nil)))<|A3<|AG ?_
   refine Ap (A2 26 (EM (l:=[.i (W64 ((AK q.e1 48)-1))]) (off:=0) (q:=1) (k:=(Int.tmod (AK q.e2 64) ((b.Parts.length:Nat):Int)).toNat) (Am 7 AF.c b.Parts) au5 (AF.mk (W64 ((AK q.e1 48)-1)) (b.Parts.getD (Int.tmod (AK q.e2 64) ((b.Parts.length:Nat):Int)).toNat default).Ref (b.Parts.getD (Int.tmod (AK q.e2 64) ((b.Parts.length:Nat):Int)).toNat default).Type' (b.Parts.getD (Int.tmod (AK q.e2 64) ((b.Parts.length:Nat):Int)).toNat default).At (b.Parts.getD (Int.tmod (AK q.e2 64) ((b.Parts.length:Nat):Int)).toNat default).Turn (b.Parts.getD (Int.tmod (AK q.e2 64) ((b.Parts.length:Nat):Int)).toNat default).Under) (D2 kr)))<|AA ?_
   refine on<|AY ?_
   exact zy (Cv.trans (B5 [26,200100,200102,30,200104,200106,200108,200110,200114,34,200112] hk0) (Cv.refl _)) (by simp only [B6,h1,h2,h3,h4,cond_true,cond_false] <;> kernel_rfl)
  refine AZ<|A3 ?_
  refine AG<|AA ?_
  refine on<|AY ?_
  exact zy (Cv.trans (B5 [26,200100,200102,30,200104,200106,200108,200110,200114,34,200112] hk0) (Cv.refl _)) (by simp only [B6,h1,h2,h3,h4,cond_true,cond_false] <;> kernel_rfl)
 have g3:=oF h3
 refine AA<|rn ⟨(B1 q [(EK q),(67,tB (decide (((AK q.e0 26):Int)=3)))]),(EW b)⟩ ?_
 refine AO _ rfl (fun h4 => ?_) (fun h4 => ?_)
 ·have g4:=oT h4
  refine AA<|rn ⟨(B1 q [(72,Z86 b)]),(EW b)⟩ ?_
  refine AO _ rfl (fun h5 => ?_) (fun h5 => ?_)
  ·have g5:=oT h5
   refine od [] [(81,Ch (AK q.e1 48))] [(((b.Parts.length:Nat):Int):Int)≠0,Ay (Ch (AK q.e1 48)).2.1,0<=(Int.tmod (AK q.e2 64) ((b.Parts.length:Nat):Int):Int)/\(Int.tmod (AK q.e2 64) ((b.Parts.length:Nat):Int):Int)<((b.Parts.length:Nat):Int),(Int.tmod (AK q.e2 64) ((b.Parts.length:Nat):Int)).toNat<b.Parts.length] (.cons (EO (AK q.e1 48) au21) .nil) (.cons au13 (.cons rfl (.cons au5 (.cons au5 .nil))))<|A3<|AG ?_
   refine Ap (A2 26 (EM (l:=[.s (BN (AK q.e1 48))]) (off:=1) (q:=1) (k:=(Int.tmod (AK q.e2 64) ((b.Parts.length:Nat):Int)).toNat) (Am 7 AF.c b.Parts) au5 (AF.mk (b.Parts.getD (Int.tmod (AK q.e2 64) ((b.Parts.length:Nat):Int)).toNat default).Id (BN (AK q.e1 48)) (b.Parts.getD (Int.tmod (AK q.e2 64) ((b.Parts.length:Nat):Int)).toNat default).Type' (b.Parts.getD (Int.tmod (AK q.e2 64) ((b.Parts.length:Nat):Int)).toNat default).At (b.Parts.getD (Int.tmod (AK q.e2 64) ((b.Parts.length:Nat):Int)).toNat default).Turn (b.Parts.getD (Int.tmod (AK q.e2 64) ((b.Parts.length:Nat):Int)).toNat default).Under) (D2 kr)))<|AA ?_
   refine on<|AY ?_
   exact zy (Cv.trans (B5 [26,200100,200102,30,200104,200106,200108,200110,200114,34,200112] hk0) (Cv.refl _)) (by simp only [B6,h1,h2,h3,h4,h5,cond_true,cond_false] <;> kernel_rfl)
  refine AZ<|A3 ?_
  refine AG<|AA ?_
  refine on<|AY ?_
  exact zy (Cv.trans (B5 [26,200100,200102,30,200104,200106,200108,200110,200114,34,200112] hk0) (Cv.refl _)) (by simp only [B6,h1,h2,h3,h4,h5,cond_true,cond_false] <;> kernel_rfl)
 have g4:=oF h4
 refine AA<|rn ⟨(B1 q [(EK q),(84,tB (decide (((AK q.e0 26):Int)=4)))]),(EW b)⟩ ?_
 refine AO _ rfl (fun h5 => ?_) (fun h5 => ?_)
 ·have g5:=oT h5
  refine AA<|rn ⟨(B1 q [(89,Z86 b)]),(EW b)⟩ ?_
  refine AO _ rfl (fun h6 => ?_) (fun h6 => ?_)
  ·have g6:=oT h6
   refine od [] [] [(((b.Parts.length:Nat):Int):Int)≠0,0<=(Int.tmod (AK q.e2 64) ((b.Parts.length:Nat):Int):Int)/\(Int.tmod (AK q.e2 64) ((b.Parts.length:Nat):Int):Int)<((b.Parts.length:Nat):Int),(Int.tmod (AK q.e2 64) ((b.Parts.length:Nat):Int)).toNat<b.Parts.length] .nil (.cons au13 (.cons au5 (.cons au5 .nil)))<|A3<|AG ?_
   refine Ap (A2 26 (EM (l:=[.i (W64 ((AK q.e1 48)-1))]) (off:=5) (q:=1) (k:=(Int.tmod (AK q.e2 64) ((b.Parts.length:Nat):Int)).toNat) (Am 7 AF.c b.Parts) au5 (AF.mk (b.Parts.getD (Int.tmod (AK q.e2 64) ((b.Parts.length:Nat):Int)).toNat default).Id (b.Parts.getD (Int.tmod (AK q.e2 64) ((b.Parts.length:Nat):Int)).toNat default).Ref (b.Parts.getD (Int.tmod (AK q.e2 64) ((b.Parts.length:Nat):Int)).toNat default).Type' (b.Parts.getD (Int.tmod (AK q.e2 64) ((b.Parts.length:Nat):Int)).toNat default).At (W64 ((AK q.e1 48)-1)) (b.Parts.getD (Int.tmod (AK q.e2 64) ((b.Parts.length:Nat):Int)).toNat default).Under) (D2 kr)))<|AA ?_
   refine on<|AY ?_
   exact zy (Cv.trans (B5 [26,200100,200102,30,200104,200106,200108,200110,200114,34,200112] hk0) (Cv.refl _)) (by simp only [B6,h1,h2,h3,h4,h5,h6,cond_true,cond_false] <;> kernel_rfl)
  refine AZ<|A3 ?_
  refine AG<|AA ?_
  refine on<|AY ?_
  exact zy (Cv.trans (B5 [26,200100,200102,30,200104,200106,200108,200110,200114,34,200112] hk0) (Cv.refl _)) (by simp only [B6,h1,h2,h3,h4,h5,h6,cond_true,cond_false] <;> kernel_rfl)
 have g5:=oF h5
 refine AA<|rn ⟨(B1 q [(EK q),(101,tB (decide (((AK q.e0 26):Int)=5)))]),(EW b)⟩ ?_
 refine AO _ rfl (fun h6 => ?_) (fun h6 => ?_)
 ·have g6:=oT h6
  refine AA<|rn ⟨(B1 q [(106,Z86 b)]),(EW b)⟩ ?_
  refine AO _ rfl (fun h7 => ?_) (fun h7 => ?_)
  ·have g7:=oT h7
   refine od [] [] [(((b.Parts.length:Nat):Int):Int)≠0,(4:Int)≠0,0<=(Int.tmod (AK q.e1 48) 4:Int)/\(Int.tmod (AK q.e1 48) 4:Int)<((4:Nat):Int),0<=(Int.tmod (AK q.e2 64) ((b.Parts.length:Nat):Int):Int)/\(Int.tmod (AK q.e2 64) ((b.Parts.length:Nat):Int):Int)<((b.Parts.length:Nat):Int),(Int.tmod (AK q.e2 64) ((b.Parts.length:Nat):Int)).toNat<b.Parts.length] .nil (.cons au13 (.cons au13 (.cons au5 (.cons au5 (.cons au5 .nil)))))<|A3<|AG ?_
   refine Ap (A2 26 (EM (l:=[.i (([AK q.e1 48,67108864,67108664,(-67108865)]:List Int).getD (Int.tmod (AK q.e1 48) 4).toNat 0)]) (off:=3) (q:=1) (k:=(Int.tmod (AK q.e2 64) ((b.Parts.length:Nat):Int)).toNat) (Am 7 AF.c b.Parts) au5 (AF.mk (b.Parts.getD (Int.tmod (AK q.e2 64) ((b.Parts.length:Nat):Int)).toNat default).Id (b.Parts.getD (Int.tmod (AK q.e2 64) ((b.Parts.length:Nat):Int)).toNat default).Ref (b.Parts.getD (Int.tmod (AK q.e2 64) ((b.Parts.length:Nat):Int)).toNat default).Type' (AE.mk (([AK q.e1 48,67108864,67108664,(-67108865)]:List Int).getD (Int.tmod (AK q.e1 48) 4).toNat 0) (b.Parts.getD (Int.tmod (AK q.e2 64) ((b.Parts.length:Nat):Int)).toNat default).At.Y) (b.Parts.getD (Int.tmod (AK q.e2 64) ((b.Parts.length:Nat):Int)).toNat default).Turn (b.Parts.getD (Int.tmod (AK q.e2 64) ((b.Parts.length:Nat):Int)).toNat default).Under) (D2 kr)))<|AA ?_
   refine on<|AY ?_
   exact zy (Cv.trans (B5 [26,200100,200102,30,200104,200106,200108,200110,200114,34,200112] hk0) (Cv.refl _)) (by simp only [B6,h1,h2,h3,h4,h5,h6,h7,cond_true,cond_false] <;> kernel_rfl)
  refine AZ<|A3 ?_
  refine AG<|AA ?_
  refine on<|AY ?_
  exact zy (Cv.trans (B5 [26,200100,200102,30,200104,200106,200108,200110,200114,34,200112] hk0) (Cv.refl _)) (by simp only [B6,h1,h2,h3,h4,h5,h6,h7,cond_true,cond_false] <;> kernel_rfl)
 have g6:=oF h6
 refine AA<|rn ⟨(B1 q [(EK q),(123,tB (decide (((AK q.e0 26):Int)=6)))]),(EW b)⟩ ?_
 refine AO _ rfl (fun h7 => ?_) (fun h7 => ?_)
 ·have g7:=oT h7
  refine AA<|rn ⟨(B1 q [(128,tB (decide ((0:Int)<(((Af b).length:Nat):Int))))]),(EW b)⟩ ?_
  refine AO _ rfl (fun h8 => ?_) (fun h8 => ?_)
  ·have g8:=oT h8
   refine od [] [(137,Ch (AK q.e1 48))] [((((Af b).length:Nat):Int):Int)≠0,Ay (Ch (AK q.e1 48)).2.1,0<=(Int.tmod (AK q.e2 64) (((Af b).length:Nat):Int):Int)/\(Int.tmod (AK q.e2 64) (((Af b).length:Nat):Int):Int)<(((Af b).length:Nat):Int),(Int.tmod (AK q.e2 64) (((Af b).length:Nat):Int)).toNat<(Af b).length] (.cons (EO (AK q.e1 48) au21) .nil) (.cons au13 (.cons rfl (.cons au5 (.cons au5 .nil))))<|A3<|AG ?_
   refine Ap (A2 200100 (EM (l:=[.s (BN (AK q.e1 48))]) (off:=0) (q:=1) (k:=(Int.tmod (AK q.e2 64) (((Af b).length:Nat):Int)).toNat) (Am 2 BA.c (Af b)) au5 (BA.mk (BN (AK q.e1 48)) ((Af b).getD (Int.tmod (AK q.e2 64) (((Af b).length:Nat):Int)).toNat default).Pins) (D2 kr)))<|AA ?_
   refine on<|AY ?_
   exact zy (Cv.trans (B5 [26,200100,200102,30,200104,200106,200108,200110,200114,34,200112] hk0) (Cv.refl _)) (by simp only [B6,h1,h2,h3,h4,h5,h6,h7,h8,cond_true,cond_false] <;> kernel_rfl)
  refine AZ<|A3 ?_
  refine AG<|AA ?_
  refine on<|AY ?_
  exact zy (Cv.trans (B5 [26,200100,200102,30,200104,200106,200108,200110,200114,34,200112] hk0) (Cv.refl _)) (by simp only [B6,h1,h2,h3,h4,h5,h6,h7,h8,cond_true,cond_false] <;> kernel_rfl)
 have g7:=oF h7
 refine AA<|rn ⟨(B1 q [(EK q),(140,tB (decide (((AK q.e0 26):Int)=7)))]),(EW b)⟩ ?_
 have h8:(decide (((AK q.e0 26):Int)=7))=false:=(decide_eq_false hq7)
 have g8:=oF h8
 refine AO _ rfl (fun h=>absurd (h8.symm.trans h) (by decide)) (fun _ => ?_)
 refine AA<|rn ⟨(B1 q [(EK q),(166,tB (decide (((AK q.e0 26):Int)=8)))]),(EW b)⟩ ?_
 refine AO _ rfl (fun h9 => ?_) (fun h9 => ?_)
 ·have g9:=oT h9
  refine dw [] [(171,Ch (AK q.e1 48))] [Ay (Ch (AK q.e1 48)).2.1,(Af b).length=(Af b).length,(Af b).length+1<=maxLen,((Af b).length+1)*40<=140737488355328] ⟨E4,[(4,Z7R),(5,.cells (FQ b [.own 176 2 ((Af b).length+1),.own 200102 6 (AH b).length,.own 30 8 b.Vias.length,.own 200104 8 (Ah b).length,.own 200106 5 (Ai b).length,.own 200108 4 (Ag b).length,.own 200110 2 (AP b).length,.own 200114 20 (AR b).length,.own 34 3 b.Waivers.length,.own 200112 3 (AM b).length]) 40),(26,Z7S b),(30,Z7V b),(34,Z81 b),(176,.row 2 ((Af b).length+1) (fun i_ j_=>if i_<(Af b).length then (IV b) i_ j_ else (BB 2 1 [.s (DX q),.list true 2 1 (BB 2 1 [.s ({ data := #[82,49] }:ByteArray),.s ({ data := #[80,50] }:ByteArray)])]) (i_-(Af b).length) j_) 84),(200102,Z7U b),(200104,Z7W b),(200106,Z7X b),(200108,Z7Y b),(200110,Z7Z b),(200112,Z82 b),(200114,Z80 b)]⟩ (.cons (EO (AK q.e1 48) au21) .nil) (.cons rfl (.cons rfl (.cons au15 (.cons au15 .nil))))<|A3<|AG ?_
  refine Ap (Cv.trans (DH (⟨E4,[(4,Z7R),(5,Z8h b q),(26,Z7S b),(30,Z7V b),(34,Z81 b),(176,Z8i b q),(200102,Z7U b),(200104,Z7W b),(200106,Z7X b),(200108,Z7Y b),(200110,Z7Z b),(200112,Z82 b),(200114,Z80 b)]⟩) lr (.cons ⟨rfl,.refl _⟩ (.cons ⟨rfl,.cells _ (rr5 (.cons (.own _ _ au16) (rr (rr (rr (rr (rr (rr (rr (rr (rr .nil)))))))))))⟩ (.cons ⟨rfl,.refl _⟩ (.cons ⟨rfl,.refl _⟩ (.cons ⟨rfl,.refl _⟩ (.cons ⟨rfl,Ce 84 (Au (Am 2 BA.c (Af b)) (Dr (c:=BA.c) (xs:=([BA.mk (BN (AK q.e1 48)) [AX.mk ({ data := #[82,49] }:ByteArray) ({ data := #[80,50] }:ByteArray)]]:List BA)) (y:=[[.s (BN (AK q.e1 48)),.list true 2 1 (BB 2 1 [.s ({ data := #[82,49] }:ByteArray),.s ({ data := #[80,50] }:ByteArray)])]]) (z:=[[.s (BN (AK q.e1 48)),lst 2 AX.c [AX.mk ({ data := #[82,49] }:ByteArray) ({ data := #[80,50] }:ByteArray)]]]) rfl kr kr (.cons (rr (.cons (Bk true (Bd (c:=AX.c) (xs:=([AX.mk ({ data := #[82,49] }:ByteArray) ({ data := #[80,50] }:ByteArray)]:List AX)) rfl kr)) .nil)) .nil)))⟩ lr))))))) (Cv.refl _))<|AA ?_
  refine on<|AY ?_
  exact zy (Cv.trans (B5 [26,176,200102,30,200104,200106,200108,200110,200114,34,200112] hk0) (Cv.refl _)) (by simp only [B6,h1,h2,h3,h4,h5,h6,h7,h8,h9,cond_true,cond_false] <;> kernel_rfl)
 have g9:=oF h9
 refine AA<|rn ⟨(aH q),(EW b)⟩ ?_
 refine AO _ rfl (fun h10 => ?_) (fun h10 => ?_)
 ·have g10:=oT h10
  refine Ap (Cv.trans (H6 (⟨(aH q),[(4,Z7R),(5,.cells (FQ b [lst 2 BA.c (Af b),.own 200102 6 (AH b).length,.own 30 8 b.Vias.length,.own 200104 8 (Ah b).length,.own 200106 5 (Ai b).length,.own 200108 4 (Ag b).length,.own 200110 2 (AP b).length,.own 200114 20 (AR b).length,.own 34 3 b.Waivers.length,.own 200112 3 (AM b).length]) 40),(26,Z7S b),(30,Z7V b),(34,Z81 b),(200102,Z7U b),(200104,Z7W b),(200106,Z7X b),(200108,Z7Y b),(200110,Z7Z b),(200112,Z82 b),(200114,Z80 b)]⟩) 200100 hk0) (Cv.refl _)) ?_
  refine rc [] [(4:Int)≠0,0<=(0:Int)/\(0:Int)<=(min ((Af b).length:Int) (Int.tmod (AK q.e1 48) 4):Int)/\(min ((Af b).length:Int) (Int.tmod (AK q.e1 48) 4):Int)<=(((Af b).length:Nat):Int)] ⟨E4,[(4,Z7R),(5,.cells (FQ b [.list false 2 ((min ((Af b).length:Int) (Int.tmod (AK q.e1 48) 4):Int).toNat-(0:Int).toNat) (fun i_ j_=>(IV b) (i_+(0:Int).toNat) j_),.own 200102 6 (AH b).length,.own 30 8 b.Vias.length,.own 200104 8 (Ah b).length,.own 200106 5 (Ai b).length,.own 200108 4 (Ag b).length,.own 200110 2 (AP b).length,.own 200114 20 (AR b).length,.own 34 3 b.Waivers.length,.own 200112 3 (AM b).length]) 40),(26,Z7S b),(30,Z7V b),(34,Z81 b),(200102,Z7U b),(200104,Z7W b),(200106,Z7X b),(200108,Z7Y b),(200110,Z7Z b),(200112,Z82 b),(200114,Z80 b)]⟩ .nil (.cons au13 (.cons au5 .nil))<|A3<|AG ?_
  refine Ap (Cv.trans (DH (⟨E4,[(4,Z7R),(5,Z8j b q),(26,Z7S b),(30,Z7V b),(34,Z81 b),(200102,Z7U b),(200104,Z7W b),(200106,Z7X b),(200108,Z7Y b),(200110,Z7Z b),(200112,Z82 b),(200114,Z80 b)]⟩) lr (.cons ⟨rfl,.refl _⟩ (.cons ⟨rfl,.cells _ (rr5 (.cons (Bk false (Hu (b:=min ((Af b).length:Int) (Int.tmod (AK q.e1 48) 4)) (Am 2 BA.c (Af b)) (by have hc:=(show 0<=(0:Int)/\(0:Int)<=(min ((Af b).length:Int) (Int.tmod (AK q.e1 48) 4):Int)/\(min ((Af b).length:Int) (Int.tmod (AK q.e1 48) 4):Int)<=(((Af b).length:Nat):Int) from au5);exact hc.2.1) (by have hc:=(show 0<=(0:Int)/\(0:Int)<=(min ((Af b).length:Int) (Int.tmod (AK q.e1 48) 4):Int)/\(min ((Af b).length:Int) (Int.tmod (AK q.e1 48) 4):Int)<=(((Af b).length:Nat):Int) from au5);exact hc.2.2))) (rr (rr (rr (rr (rr (rr (rr (rr (rr .nil)))))))))))⟩ lr))) (Cv.refl _))<|AA ?_
  refine on<|AY ?_
  exact zy (Cv.trans (B5 [26,200102,30,200104,200106,200108,200110,200114,34,200112] hk0) (Cv.refl _)) (by simp only [B6,h1,h2,h3,h4,h5,h6,h7,h8,h9,h10,cond_true,cond_false] <;> kernel_rfl)
 have g10:=oF h10
 refine AA<|rn ⟨(B1 q [(EK q),(190,tB (decide (((AK q.e0 26):Int)=10)))]),(EW b)⟩ ?_
 refine AO _ rfl (fun h11 => ?_) (fun h11 => ?_)
 ·have g11:=oT h11
  refine od [] [(197,Ch (AK q.e2 64)),(202,Fu (AK q.e1 48))] [Ay (Ch (AK q.e2 64)).2.1,(3:Int)≠0,Ay (Fu (AK q.e1 48)).2.1,(AH b).length=(AH b).length,(AH b).length+1<=maxLen,((AH b).length+1)*72<=140737488355328] (.cons (EO (AK q.e2 64) au21) (.cons (Jz (AK q.e1 48)) .nil)) (.cons rfl (.cons au13 (.cons rfl (.cons rfl (.cons au15 (.cons au15 .nil))))))<|A3<|AG ?_
  refine Ap (A2 205 (Au (Am 6 Aq.c (AH b)) (A0 6 Aq.c ([Aq.mk (W64 (10+(AK q.e1 48))) (BN (AK q.e2 64)) (W64 (1+(Int.tmod (AK q.e2 64) 3))) (Co (AK q.e1 48))]:List Aq))))<|AA ?_
  refine on<|AY ?_
  exact zy (Cv.trans (B5 [26,200100,205,30,200104,200106,200108,200110,200114,34,200112] hk0) (Cv.refl _)) (by simp only [B6,h1,h2,h3,h4,h5,h6,h7,h8,h9,h10,h11,cond_true,cond_false] <;> kernel_rfl)
 have g11:=oF h11
 refine AA<|rn ⟨(B1 q [(EK q),(207,tB (decide (((AK q.e0 26):Int)=11)))]),(EW b)⟩ ?_
 refine AO _ rfl (fun h12 => ?_) (fun h12 => ?_)
 ·have g12:=oT h12
  refine AA<|rn ⟨(B1 q [(212,Z8m b)]),(EW b)⟩ ?_
  refine AO _ rfl (fun h13 => ?_) (fun h13 => ?_)
  ·have g13:=oT h13
   refine od [] [] [((((AH b).length:Nat):Int):Int)≠0,(4:Int)≠0,0<=(Int.tmod (AK q.e2 64) (((AH b).length:Nat):Int):Int)/\(Int.tmod (AK q.e2 64) (((AH b).length:Nat):Int):Int)<(((AH b).length:Nat):Int),(Int.tmod (AK q.e2 64) (((AH b).length:Nat):Int)).toNat<(AH b).length] .nil (.cons au13 (.cons au13 (.cons au5 (.cons au5 .nil))))<|A3<|AG ?_
   refine Ap (A2 200102 (EM (l:=[.i (W64 ((Int.tmod (AK q.e1 48) 4)+1))]) (off:=2) (q:=1) (k:=(Int.tmod (AK q.e2 64) (((AH b).length:Nat):Int)).toNat) (Am 6 Aq.c (AH b)) au5 (Aq.mk ((AH b).getD (Int.tmod (AK q.e2 64) (((AH b).length:Nat):Int)).toNat default).Id ((AH b).getD (Int.tmod (AK q.e2 64) (((AH b).length:Nat):Int)).toNat default).Net (W64 ((Int.tmod (AK q.e1 48) 4)+1)) ((AH b).getD (Int.tmod (AK q.e2 64) (((AH b).length:Nat):Int)).toNat default).Shape) (D2 kr)))<|AA ?_
   refine on<|AY ?_
   exact zy (Cv.trans (B5 [26,200100,200102,30,200104,200106,200108,200110,200114,34,200112] hk0) (Cv.refl _)) (by simp only [B6,h1,h2,h3,h4,h5,h6,h7,h8,h9,h10,h11,h12,h13,cond_true,cond_false] <;> kernel_rfl)
  refine AZ<|A3 ?_
  refine AG<|AA ?_
  refine on<|AY ?_
  exact zy (Cv.trans (B5 [26,200100,200102,30,200104,200106,200108,200110,200114,34,200112] hk0) (Cv.refl _)) (by simp only [B6,h1,h2,h3,h4,h5,h6,h7,h8,h9,h10,h11,h12,h13,cond_true,cond_false] <;> kernel_rfl)
 have g12:=oF h12
 refine AA<|rn ⟨(B1 q [(EK q),(225,tB (decide (((AK q.e0 26):Int)=12)))]),(EW b)⟩ ?_
 refine AO _ rfl (fun h13 => ?_) (fun h13 => ?_)
 ·have g13:=oT h13
  refine AA<|rn ⟨[(4,tP 4 0),(5,tP 5 0),(Zv q),(230,Z8m b)],(EW b)⟩ ?_
  refine AO _ rfl (fun h14 => ?_) (fun h14 => ?_)
  ·have g14:=oT h14
   refine od [] [] [((((AH b).length:Nat):Int):Int)≠0,(AH b).length=(AH b).length,0<=(0:Int)/\(0:Int)<=(Int.tmod (AK q.e2 64) (((AH b).length:Nat):Int):Int)/\(Int.tmod (AK q.e2 64) (((AH b).length:Nat):Int):Int)<=(((AH b).length:Nat):Int),((((AH b).length:Nat):Int):Int)≠0,(AH b).length=(AH b).length,0<=(W64 ((Int.tmod (AK q.e2 64) (((AH b).length:Nat):Int))+1):Int)/\(W64 ((Int.tmod (AK q.e2 64) (((AH b).length:Nat):Int))+1):Int)<=((((AH b).length:Nat):Int):Int)/\((((AH b).length:Nat):Int):Int)<=(((AH b).length:Nat):Int),(0:Int).toNat=0,(Int.tmod (AK q.e2 64) (((AH b).length:Nat):Int):Int).toNat-(0:Int).toNat<=(AH b).length,(W64 ((Int.tmod (AK q.e2 64) (((AH b).length:Nat):Int))+1):Int).toNat+(((((AH b).length:Nat):Int):Int).toNat-(W64 ((Int.tmod (AK q.e2 64) (((AH b).length:Nat):Int))+1):Int).toNat)<=(AH b).length,((Int.tmod (AK q.e2 64) (((AH b).length:Nat):Int):Int).toNat-(0:Int).toNat)+(((((AH b).length:Nat):Int):Int).toNat-(W64 ((Int.tmod (AK q.e2 64) (((AH b).length:Nat):Int))+1):Int).toNat)<=maxLen,(((Int.tmod (AK q.e2 64) (((AH b).length:Nat):Int):Int).toNat-(0:Int).toNat)+(((((AH b).length:Nat):Int):Int).toNat-(W64 ((Int.tmod (AK q.e2 64) (((AH b).length:Nat):Int))+1):Int).toNat))*72<=140737488355328] .nil (.cons au13 (.cons rfl (.cons au5 (.cons au13 (.cons rfl (.cons au5 (.cons rfl (.cons au5 (.cons au5 (.cons au15 (.cons au15 .nil)))))))))))<|A3<|AG ?_
   refine Ap (A2 248 (QK (n1:=(Int.tmod (AK q.e2 64) (((AH b).length:Nat):Int):Int).toNat-(0:Int).toNat) (lo2:=(W64 ((Int.tmod (AK q.e2 64) (((AH b).length:Nat):Int))+1):Int).toNat) (n2:=((((AH b).length:Nat):Int):Int).toNat-(W64 ((Int.tmod (AK q.e2 64) (((AH b).length:Nat):Int))+1):Int).toNat) (Am 6 Aq.c (AH b)) au5 au5))<|AA ?_
   refine on<|AY ?_
   exact zy (Cv.trans (B5 [26,200100,248,30,200104,200106,200108,200110,200114,34,200112] hk0) (Cv.refl _)) (by simp only [B6,h1,h2,h3,h4,h5,h6,h7,h8,h9,h10,h11,h12,h13,h14,cond_true,cond_false] <;> kernel_rfl)
  refine AZ<|A3 ?_
  refine AG<|AA ?_
  refine on<|AY ?_
  exact zy (Cv.trans (B5 [26,200100,200102,30,200104,200106,200108,200110,200114,34,200112] hk0) (Cv.refl _)) (by simp only [B6,h1,h2,h3,h4,h5,h6,h7,h8,h9,h10,h11,h12,h13,h14,cond_true,cond_false] <;> kernel_rfl)
 have g13:=oF h13
 refine AA<|rn ⟨(B1 q [(EK q),(250,tB (decide (((AK q.e0 26):Int)=13)))]),(EW b)⟩ ?_
 refine AO _ rfl (fun h14 => ?_) (fun h14 => ?_)
 ·have g14:=oT h14
  refine oc [] [(9:Int)≠0,(9:Int)≠0,(2:Int)≠0,(3:Int)≠0,(2:Int)≠0,b.Vias.length=b.Vias.length,b.Vias.length+1<=maxLen,(b.Vias.length+1)*72<=140737488355328] .nil (.cons au13 (.cons au13 (.cons au13 (.cons au13 (.cons au13 (.cons rfl (.cons au15 (.cons au15 .nil))))))))<|A3<|AG ?_
  refine Ap (A2 275 (Au (Am 8 Bx.c b.Vias) (A0 8 Bx.c ([Bx.mk (W64 (60+(AK q.e1 48))) ({ data := #[71,78,68] }:ByteArray) (AE.mk (W64 (10*(AK q.e1 48))) (W64 (5*(AK q.e2 64)))) (W64 (8-(Int.tmod (AK q.e1 48) 9))) (Int.tmod (AK q.e2 64) 9) (W64 (1+(Int.tmod (AK q.e2 64) 2))) (W64 (2+(W64 (Int.tdiv (Int.tmod (AK q.e1 48) 3) 2))))]:List Bx))))<|AA ?_
  refine on<|AY ?_
  exact zy (Cv.trans (B5 [26,200100,200102,275,200104,200106,200108,200110,200114,34,200112] hk0) (Cv.refl _)) (by simp only [B6,h1,h2,h3,h4,h5,h6,h7,h8,h9,h10,h11,h12,h13,h14,cond_true,cond_false] <;> kernel_rfl)
 have g14:=oF h14
 refine AA<|rn ⟨(B1 q [(EK q),(277,tB (decide (((AK q.e0 26):Int)=14)))]),(EW b)⟩ ?_
 refine AO _ rfl (fun h15 => ?_) (fun h15 => ?_)
 ·have g15:=oT h15
  refine AA<|rn ⟨(B1 q [(282,tB (decide ((0:Int)<((b.Vias.length:Nat):Int))))]),(EW b)⟩ ?_
  refine AO _ rfl (fun h16 => ?_) (fun h16 => ?_)
  ·have g16:=oT h16
   refine od [] [] [(((b.Vias.length:Nat):Int):Int)≠0,(((b.Vias.length:Nat):Int):Int)≠0,0<=(Int.tmod (AK q.e2 64) ((b.Vias.length:Nat):Int):Int)/\(Int.tmod (AK q.e2 64) ((b.Vias.length:Nat):Int):Int)<((b.Vias.length:Nat):Int),(Int.tmod (AK q.e2 64) ((b.Vias.length:Nat):Int)).toNat<b.Vias.length,0<=(Int.tmod (AK q.e2 64) ((b.Vias.length:Nat):Int):Int)/\(Int.tmod (AK q.e2 64) ((b.Vias.length:Nat):Int):Int)<((b.Vias.length:Nat):Int),(Int.tmod (AK q.e2 64) ((b.Vias.length:Nat):Int)).toNat<b.Vias.length] .nil (.cons au13 (.cons au13 (.cons au5 (.cons au5 (.cons au5 (.cons au5 .nil))))))<|A3<|AG ?_
   refine Ap (A2 30 (EM (l:=[.i (W64 ((b.Vias.getD (Int.tmod (AK q.e2 64) ((b.Vias.length:Nat):Int)).toNat default).At.X+(W64 (3*(AK q.e1 48)))))]) (off:=2) (q:=1) (k:=(Int.tmod (AK q.e2 64) ((b.Vias.length:Nat):Int)).toNat) (Am 8 Bx.c b.Vias) au5 (Bx.mk (b.Vias.getD (Int.tmod (AK q.e2 64) ((b.Vias.length:Nat):Int)).toNat default).Id (b.Vias.getD (Int.tmod (AK q.e2 64) ((b.Vias.length:Nat):Int)).toNat default).Net (AE.mk (W64 ((b.Vias.getD (Int.tmod (AK q.e2 64) ((b.Vias.length:Nat):Int)).toNat default).At.X+(W64 (3*(AK q.e1 48))))) (b.Vias.getD (Int.tmod (AK q.e2 64) ((b.Vias.length:Nat):Int)).toNat default).At.Y) (b.Vias.getD (Int.tmod (AK q.e2 64) ((b.Vias.length:Nat):Int)).toNat default).R (b.Vias.getD (Int.tmod (AK q.e2 64) ((b.Vias.length:Nat):Int)).toNat default).Drill (b.Vias.getD (Int.tmod (AK q.e2 64) ((b.Vias.length:Nat):Int)).toNat default).From (b.Vias.getD (Int.tmod (AK q.e2 64) ((b.Vias.length:Nat):Int)).toNat default).To) (D2 kr)))<|AA ?_
   refine on<|AY ?_
   exact zy (Cv.trans (B5 [26,200100,200102,30,200104,200106,200108,200110,200114,34,200112] hk0) (Cv.refl _)) (by simp only [B6,h1,h2,h3,h4,h5,h6,h7,h8,h9,h10,h11,h12,h13,h14,h15,h16,cond_true,cond_false] <;> kernel_rfl)
  refine AZ<|A3 ?_
  refine AG<|AA ?_
  refine on<|AY ?_
  exact zy (Cv.trans (B5 [26,200100,200102,30,200104,200106,200108,200110,200114,34,200112] hk0) (Cv.refl _)) (by simp only [B6,h1,h2,h3,h4,h5,h6,h7,h8,h9,h10,h11,h12,h13,h14,h15,h16,cond_true,cond_false] <;> kernel_rfl)
 have g15:=oF h15
 refine AA<|rn ⟨(B1 q [(EK q),(307,tB (decide (((AK q.e0 26):Int)=15)))]),(EW b)⟩ ?_
 refine AO _ rfl (fun h16 => ?_) (fun h16 => ?_)
 ·have g16:=oT h16
  refine dw [] [] [(3:Int)≠0,(6:Int)≠0,0<=(Int.tmod (AK q.e1 48) 6:Int)/\(Int.tmod (AK q.e1 48) 6:Int)<((6:Nat):Int),(5:Int)≠0,(7:Int)≠0,(8:Int)≠0,(Ah b).length=(Ah b).length,(Ah b).length+1<=maxLen,((Ah b).length+1)*88<=140737488355328] ⟨E4,[(4,Z7R),(5,.cells (Cn b [.own 333 8 ((Ah b).length+1),.own 200106 5 (Ai b).length,.own 200108 4 (Ag b).length,.own 200110 2 (AP b).length,.own 200114 20 (AR b).length,.own 34 3 b.Waivers.length,.own 200112 3 (AM b).length]) 40),(26,Z7S b),(30,Z7V b),(34,Z81 b),(333,.row 8 ((Ah b).length+1) (fun i_ j_=>if i_<(Ah b).length then (AU A8.c (Ah b)) i_ j_ else (BB 8 1 [.i (W64 (70+(AK q.e1 48))),.s ({ data := #[78,49] }:ByteArray),.i (W64 (1+(OP q))),.i (([20,0,1,33554432,10,134217728]:List Int).getD (OQ q).toNat 0),.i 0,.i (W64 ((OO q)-1)),.i 3,.list true 4 1 (BB 4 1 (aA q))]) (i_-(Ah b).length) j_) 92),(200100,Z7T b),(200102,Z7U b),(200106,Z7X b),(200108,Z7Y b),(200110,Z7Z b),(200112,Z82 b),(200114,Z80 b)]⟩ .nil (.cons au13 (.cons au13 (.cons au5 (.cons au13 (.cons au13 (.cons au13 (.cons rfl (.cons au15 (.cons au15 .nil)))))))))<|A3<|AG ?_
  refine Ap (Cv.trans (DH (⟨E4,[(4,Z7R),(5,Z8v b q),(26,Z7S b),(30,Z7V b),(34,Z81 b),(333,Z8w b q),(200100,Z7T b),(200102,Z7U b),(200106,Z7X b),(200108,Z7Y b),(200110,Z7Z b),(200112,Z82 b),(200114,Z80 b)]⟩) lr (.cons ⟨rfl,.refl _⟩ (.cons ⟨rfl,.cells _ (rr5 (rr3 (.cons (.own _ _ au16) (rr (rr (rr (rr (rr (rr .nil)))))))))⟩ (.cons ⟨rfl,.refl _⟩ (.cons ⟨rfl,.refl _⟩ (.cons ⟨rfl,.refl _⟩ (.cons ⟨rfl,Ce 92 (Au (Am 8 A8.c (Ah b)) (Dr (c:=A8.c) (xs:=([A8.mk (W64 (70+(AK q.e1 48))) ({ data := #[78,49] }:ByteArray) (W64 (1+(Int.tmod (AK q.e2 64) 3))) (([20,0,1,33554432,10,134217728]:List Int).getD (Int.tmod (AK q.e1 48) 6).toNat 0) 0 (W64 ((Int.tmod (AK q.e2 64) 5)-1)) 3 [Al.mk (Int.tmod (AK q.e2 64) 7) 1 (W64 (2+(Int.tmod (AK q.e1 48) 8))) 3]]:List A8)) (y:=[[.i (W64 (70+(AK q.e1 48))),.s ({ data := #[78,49] }:ByteArray),.i (W64 (1+(Int.tmod (AK q.e2 64) 3))),.i (([20,0,1,33554432,10,134217728]:List Int).getD (Int.tmod (AK q.e1 48) 6).toNat 0),.i 0,.i (W64 ((Int.tmod (AK q.e2 64) 5)-1)),.i 3,.list true 4 1 (BB 4 1 (aA q))]]) (z:=[[.i (W64 (70+(AK q.e1 48))),.s ({ data := #[78,49] }:ByteArray),.i (W64 (1+(Int.tmod (AK q.e2 64) 3))),.i (([20,0,1,33554432,10,134217728]:List Int).getD (Int.tmod (AK q.e1 48) 6).toNat 0),.i 0,.i (W64 ((Int.tmod (AK q.e2 64) 5)-1)),.i 3,lst 4 Al.c [Al.mk (Int.tmod (AK q.e2 64) 7) 1 (W64 (2+(Int.tmod (AK q.e1 48) 8))) 3]]]) rfl kr kr (.cons (rr5 (rr2 (.cons (Bk true (Bd (c:=Al.c) (xs:=([Al.mk (Int.tmod (AK q.e2 64) 7) 1 (W64 (2+(Int.tmod (AK q.e1 48) 8))) 3]:List Al)) rfl kr)) .nil))) .nil)))⟩ lr))))))) (Cv.refl _))<|AA ?_
  refine on<|AY ?_
  exact zy (Cv.trans (B5 [26,200100,200102,30,333,200106,200108,200110,200114,34,200112] hk0) (Cv.refl _)) (by simp only [B6,h1,h2,h3,h4,h5,h6,h7,h8,h9,h10,h11,h12,h13,h14,h15,h16,cond_true,cond_false] <;> kernel_rfl)
 have g16:=oF h16
 refine AA<|rn ⟨(B1 q [(EK q),(335,tB (decide (((AK q.e0 26):Int)=16)))]),(EW b)⟩ ?_
 have h17:(decide (((AK q.e0 26):Int)=16))=false:=(decide_eq_false hq16)
 have g17:=oF h17
 refine AO _ rfl (fun h=>absurd (h17.symm.trans h) (by decide)) (fun _ => ?_)
 refine AA<|rn ⟨(B1 q [(EK q),(373,tB (decide (((AK q.e0 26):Int)=17)))]),(EW b)⟩ ?_
 refine AO _ rfl (fun h18 => ?_) (fun h18 => ?_)
 ·have g18:=oT h18
  refine od [] [(383,Fu (AK q.e1 48))] [(5:Int)≠0,Ay (Fu (AK q.e1 48)).2.1,(Ai b).length=(Ai b).length,(Ai b).length+1<=maxLen,((Ai b).length+1)*56<=140737488355328] (.cons (Jz (AK q.e1 48)) .nil) (.cons au13 (.cons rfl (.cons rfl (.cons au15 (.cons au15 .nil)))))<|A3<|AG ?_
  refine Ap (A2 386 (Au (Am 5 BR.c (Ai b)) (A0 5 BR.c ([BR.mk (W64 (80+(AK q.e1 48))) (W64 ((Int.tmod (AK q.e2 64) 5)-1)) (Co (AK q.e1 48))]:List BR))))<|AA ?_
  refine on<|AY ?_
  exact zy (Cv.trans (B5 [26,200100,200102,30,200104,386,200108,200110,200114,34,200112] hk0) (Cv.refl _)) (by simp only [B6,h1,h2,h3,h4,h5,h6,h7,h8,h9,h10,h11,h12,h13,h14,h15,h16,h17,h18,cond_true,cond_false] <;> kernel_rfl)
 have g18:=oF h18
 refine AA<|rn ⟨(B1 q [(EK q),(388,tB (decide (((AK q.e0 26):Int)=18)))]),(EW b)⟩ ?_
 refine AO _ rfl (fun h19 => ?_) (fun h19 => ?_)
 ·have g19:=oT h19
  refine od [] [(395,Fu (AK q.e1 48))] [Ay (Fu (AK q.e1 48)).2.1,(Ag b).length=(Ag b).length,(Ag b).length+1<=maxLen,((Ag b).length+1)*48<=140737488355328] (.cons (Jz (AK q.e1 48)) .nil) (.cons rfl (.cons rfl (.cons au15 (.cons au15 .nil))))<|A3<|AG ?_
  refine Ap (A2 398 (Au (Am 4 Bq.c (Ag b)) (A0 4 Bq.c ([Bq.mk (W64 (90+(AK q.e1 48))) (Co (AK q.e1 48))]:List Bq))))<|AA ?_
  refine on<|AY ?_
  exact zy (Cv.trans (B5 [26,200100,200102,30,200104,200106,398,200110,200114,34,200112] hk0) (Cv.refl _)) (by simp only [B6,h1,h2,h3,h4,h5,h6,h7,h8,h9,h10,h11,h12,h13,h14,h15,h16,h17,h18,h19,cond_true,cond_false] <;> kernel_rfl)
 have g19:=oF h19
 refine AA<|rn ⟨(B1 q [(EK q),(400,tB (decide (((AK q.e0 26):Int)=19)))]),(EW b)⟩ ?_
 refine AO _ rfl (fun h20 => ?_) (fun h20 => ?_)
 ·have g20:=oT h20
  refine dw [] [(405,Ch (AK q.e1 48)),(407,Ch (AK q.e2 64))] [Ay (Ch (AK q.e1 48)).2.1,Ay (Ch (AK q.e2 64)).2.1,(AP b).length=(AP b).length,(AP b).length+1<=maxLen,((AP b).length+1)*40<=140737488355328] ⟨E4,[(4,Z7R),(5,.cells (Cn b (Ec b [.own 411 2 ((AP b).length+1),.own 200114 20 (AR b).length,.own 34 3 b.Waivers.length,.own 200112 3 (AM b).length])) 40),(26,Z7S b),(30,Z7V b),(34,Z81 b),(411,.row 2 ((AP b).length+1) (fun i_ j_=>if i_<(AP b).length then (He b) i_ j_ else (BB 2 1 [.s (DX q),.list true 1 1 (BB 1 1 [.s (BN (AK q.e2 64))])]) (i_-(AP b).length) j_) 100),(200100,Z7T b),(200102,Z7U b),(200104,Z7W b),(200106,Z7X b),(200108,Z7Y b),(200112,Z82 b),(200114,Z80 b)]⟩ (.cons (EO (AK q.e1 48) au21) (.cons (EO (AK q.e2 64) au21) .nil)) (.cons rfl (.cons rfl (.cons rfl (.cons au15 (.cons au15 .nil)))))<|A3<|AG ?_
  refine Ap (Cv.trans (DH (⟨E4,[(4,Z7R),(5,Z8B b q),(26,Z7S b),(30,Z7V b),(34,Z81 b),(411,Z8C b q),(200100,Z7T b),(200102,Z7U b),(200104,Z7W b),(200106,Z7X b),(200108,Z7Y b),(200112,Z82 b),(200114,Z80 b)]⟩) lr (.cons ⟨rfl,.refl _⟩ (.cons ⟨rfl,.cells _ (rr9 (rr2 (.cons (.own _ _ au16) (rr (rr (rr .nil))))))⟩ (.cons ⟨rfl,.refl _⟩ (.cons ⟨rfl,.refl _⟩ (.cons ⟨rfl,.refl _⟩ (.cons ⟨rfl,Ce 100 (Au (Am 2 BS.c (AP b)) (Dr (c:=BS.c) (xs:=([BS.mk (BN (AK q.e1 48)) [BN (AK q.e2 64)]]:List BS)) (y:=[[.s (BN (AK q.e1 48)),.list true 1 1 (BB 1 1 [.s (BN (AK q.e2 64))])]]) (z:=[[.s (BN (AK q.e1 48)),lst 1 (fun x=>[.s x]) [BN (AK q.e2 64)]]]) rfl kr kr (.cons (rr (.cons (Bk true (Bd (c:=(fun x=>[.s x])) (xs:=([BN (AK q.e2 64)]:List ByteArray)) rfl kr)) .nil)) .nil)))⟩ lr))))))) (Cv.refl _))<|AA ?_
  refine on<|AY ?_
  exact zy (Cv.trans (B5 [26,200100,200102,30,200104,200106,200108,411,200114,34,200112] hk0) (Cv.refl _)) (by simp only [B6,h1,h2,h3,h4,h5,h6,h7,h8,h9,h10,h11,h12,h13,h14,h15,h16,h17,h18,h19,h20,cond_true,cond_false] <;> kernel_rfl)
 have g20:=oF h20
 refine AA<|rn ⟨(B1 q [(EK q),(413,tB (decide (((AK q.e0 26):Int)=20)))]),(EW b)⟩ ?_
 refine AO _ rfl (fun h21 => ?_) (fun h21 => ?_)
 ·have g21:=oT h21
  refine dw [] [(418,Ch (AK q.e1 48)),(420,Ch (AK q.e2 64))] [Ay (Ch (AK q.e1 48)).2.1,Ay (Ch (AK q.e2 64)).2.1,(AM b).length=(AM b).length,(AM b).length+1<=maxLen,((AM b).length+1)*48<=140737488355328] ⟨E4,[(4,Z7R),(5,.cells (Cn b (Ec b (RY b [.own 426 3 ((AM b).length+1)]))) 40),(26,Z7S b),(30,Z7V b),(34,Z81 b),(426,.row 3 ((AM b).length+1) (fun i_ j_=>if i_<(AM b).length then (Hd b) i_ j_ else (BB 3 1 [.s (DX q),.list true 1 2 (BB 1 2 [.s ({ data := #[78,49] }:ByteArray),.s (BN (AK q.e2 64))]),.i (W64 ((AK q.e2 64)-1))]) (i_-(AM b).length) j_) 102),(200100,Z7T b),(200102,Z7U b),(200104,Z7W b),(200106,Z7X b),(200108,Z7Y b),(200110,Z7Z b),(200114,Z80 b)]⟩ (.cons (EO (AK q.e1 48) au21) (.cons (EO (AK q.e2 64) au21) .nil)) (.cons rfl (.cons rfl (.cons rfl (.cons au15 (.cons au15 .nil)))))<|A3<|AG ?_
  refine Ap (Cv.trans (DH (⟨E4,[(4,Z7R),(5,Z8D b q),(26,Z7S b),(30,Z7V b),(34,Z81 b),(426,Z8E b q),(200100,Z7T b),(200102,Z7U b),(200104,Z7W b),(200106,Z7X b),(200108,Z7Y b),(200110,Z7Z b),(200114,Z80 b)]⟩) lr (.cons ⟨rfl,.refl _⟩ (.cons ⟨rfl,.cells _ (rr9 (rr5 (.cons (.own _ _ au16) .nil)))⟩ (.cons ⟨rfl,.refl _⟩ (.cons ⟨rfl,.refl _⟩ (.cons ⟨rfl,.refl _⟩ (.cons ⟨rfl,Ce 102 (Au (Am 3 Bb.c (AM b)) (Dr (c:=Bb.c) (xs:=([Bb.mk (BN (AK q.e1 48)) [({ data := #[78,49] }:ByteArray),BN (AK q.e2 64)] (W64 ((AK q.e2 64)-1))]:List Bb)) (y:=[[.s (BN (AK q.e1 48)),.list true 1 2 (BB 1 2 [.s ({ data := #[78,49] }:ByteArray),.s (BN (AK q.e2 64))]),.i (W64 ((AK q.e2 64)-1))]]) (z:=[[.s (BN (AK q.e1 48)),lst 1 (fun x=>[.s x]) [({ data := #[78,49] }:ByteArray),BN (AK q.e2 64)],.i (W64 ((AK q.e2 64)-1))]]) rfl kr kr (.cons (rr (.cons (Bk true (Bd (c:=(fun x=>[.s x])) (xs:=([({ data := #[78,49] }:ByteArray),BN (AK q.e2 64)]:List ByteArray)) rfl kr)) (rr .nil))) .nil)))⟩ lr))))))) (Cv.refl _))<|AA ?_
  refine on<|AY ?_
  exact zy (Cv.trans (B5 [26,200100,200102,30,200104,200106,200108,200110,200114,34,426] hk0) (Cv.refl _)) (by simp only [B6,h1,h2,h3,h4,h5,h6,h7,h8,h9,h10,h11,h12,h13,h14,h15,h16,h17,h18,h19,h20,h21,cond_true,cond_false] <;> kernel_rfl)
 have g21:=oF h21
 refine AA<|rn ⟨(B1 q [(EK q),(428,tB (decide (((AK q.e0 26):Int)=21)))]),(EW b)⟩ ?_
 refine AO _ rfl (fun h22 => ?_) (fun h22 => ?_)
 ·have g22:=oT h22
  refine oc [] [(13:Int)≠0,b.Waivers.length=b.Waivers.length,b.Waivers.length+1<=maxLen,(b.Waivers.length+1)*32<=140737488355328] .nil (.cons au13 (.cons rfl (.cons au15 (.cons au15 .nil))))<|A3<|AG ?_
  refine Ap (A2 438 (Au (Am 3 BM.c b.Waivers) (A0 3 BM.c ([BM.mk (W64 (1+(AK q.e1 48))) (Int.tmod (AK q.e2 64) 13) ({ data := #[99,50] }:ByteArray)]:List BM))))<|AA ?_
  refine on<|AY ?_
  exact zy (Cv.trans (B5 [26,200100,200102,30,200104,200106,200108,200110,200114,438,200112] hk0) (Cv.refl _)) (by simp only [B6,h1,h2,h3,h4,h5,h6,h7,h8,h9,h10,h11,h12,h13,h14,h15,h16,h17,h18,h19,h20,h21,h22,cond_true,cond_false] <;> kernel_rfl)
 have g22:=oF h22
 refine AA<|rn ⟨(B1 q [(EK q),(440,tB (decide (((AK q.e0 26):Int)=22)))]),(EW b)⟩ ?_
 refine AO _ rfl (fun h23 => ?_) (fun h23 => ?_)
 ·have g23:=oT h23
  refine AA<|rn ⟨(B1 q [(445,tB (decide ((0:Int)<(((AR b).length:Nat):Int))))]),(EW b)⟩ ?_
  refine AO _ rfl (fun h24 => ?_) (fun h24 => ?_)
  ·have g24:=oT h24
   refine od [] [] [((((AR b).length:Nat):Int):Int)≠0,0<=(Int.tmod (AK q.e2 64) (((AR b).length:Nat):Int):Int)/\(Int.tmod (AK q.e2 64) (((AR b).length:Nat):Int):Int)<(((AR b).length:Nat):Int),(Int.tmod (AK q.e2 64) (((AR b).length:Nat):Int)).toNat<(AR b).length] .nil (.cons au13 (.cons au5 (.cons au5 .nil)))<|A3<|AG ?_
   refine Ap (A2 200114 (EM (l:=[.i (W64 ((AK q.e1 48)-1))]) (off:=19) (q:=1) (k:=(Int.tmod (AK q.e2 64) (((AR b).length:Nat):Int)).toNat) (Am 20 A1.c (AR b)) au5 (A1.mk ((AR b).getD (Int.tmod (AK q.e2 64) (((AR b).length:Nat):Int)).toNat default).Name ((AR b).getD (Int.tmod (AK q.e2 64) (((AR b).length:Nat):Int)).toNat default).Priority ((AR b).getD (Int.tmod (AK q.e2 64) (((AR b).length:Nat):Int)).toNat default).What ((AR b).getD (Int.tmod (AK q.e2 64) (((AR b).length:Nat):Int)).toNat default).A ((AR b).getD (Int.tmod (AK q.e2 64) (((AR b).length:Nat):Int)).toNat default).B (W64 ((AK q.e1 48)-1))) (D2 kr)))<|AA ?_
   refine on<|AY ?_
   exact zy (Cv.trans (B5 [26,200100,200102,30,200104,200106,200108,200110,200114,34,200112] hk0) (Cv.refl _)) (by simp only [B6,h1,h2,h3,h4,h5,h6,h7,h8,h9,h10,h11,h12,h13,h14,h15,h16,h17,h18,h19,h20,h21,h22,h23,h24,cond_true,cond_false] <;> kernel_rfl)
  refine AZ<|A3 ?_
  refine AG<|AA ?_
  refine on<|AY ?_
  exact zy (Cv.trans (B5 [26,200100,200102,30,200104,200106,200108,200110,200114,34,200112] hk0) (Cv.refl _)) (by simp only [B6,h1,h2,h3,h4,h5,h6,h7,h8,h9,h10,h11,h12,h13,h14,h15,h16,h17,h18,h19,h20,h21,h22,h23,h24,cond_true,cond_false] <;> kernel_rfl)
 have g23:=oF h23
 refine AA<|rn ⟨(B1 q [(EK q),(457,tB (decide (((AK q.e0 26):Int)=23)))]),(EW b)⟩ ?_
 refine AO _ rfl (fun h24 => ?_) (fun h24 => ?_)
 ·have g24:=oT h24
  refine AA<|rn ⟨[(4,tP 4 0),(5,tP 5 0),(Zv q),(462,Z86 b)],(EW b)⟩ ?_
  refine AO _ rfl (fun h25 => ?_) (fun h25 => ?_)
  ·have g25:=oT h25
   refine od [] [] [(((b.Parts.length:Nat):Int):Int)≠0,b.Parts.length=b.Parts.length,0<=(0:Int)/\(0:Int)<=(Int.tmod (AK q.e2 64) ((b.Parts.length:Nat):Int):Int)/\(Int.tmod (AK q.e2 64) ((b.Parts.length:Nat):Int):Int)<=((b.Parts.length:Nat):Int),(((b.Parts.length:Nat):Int):Int)≠0,b.Parts.length=b.Parts.length,0<=(W64 ((Int.tmod (AK q.e2 64) ((b.Parts.length:Nat):Int))+1):Int)/\(W64 ((Int.tmod (AK q.e2 64) ((b.Parts.length:Nat):Int))+1):Int)<=(((b.Parts.length:Nat):Int):Int)/\(((b.Parts.length:Nat):Int):Int)<=((b.Parts.length:Nat):Int),(0:Int).toNat=0,(Int.tmod (AK q.e2 64) ((b.Parts.length:Nat):Int):Int).toNat-(0:Int).toNat<=b.Parts.length,(W64 ((Int.tmod (AK q.e2 64) ((b.Parts.length:Nat):Int))+1):Int).toNat+((((b.Parts.length:Nat):Int):Int).toNat-(W64 ((Int.tmod (AK q.e2 64) ((b.Parts.length:Nat):Int))+1):Int).toNat)<=b.Parts.length,((Int.tmod (AK q.e2 64) ((b.Parts.length:Nat):Int):Int).toNat-(0:Int).toNat)+((((b.Parts.length:Nat):Int):Int).toNat-(W64 ((Int.tmod (AK q.e2 64) ((b.Parts.length:Nat):Int))+1):Int).toNat)<=maxLen,(((Int.tmod (AK q.e2 64) ((b.Parts.length:Nat):Int):Int).toNat-(0:Int).toNat)+((((b.Parts.length:Nat):Int):Int).toNat-(W64 ((Int.tmod (AK q.e2 64) ((b.Parts.length:Nat):Int))+1):Int).toNat))*72<=140737488355328] .nil (.cons au13 (.cons rfl (.cons au5 (.cons au13 (.cons rfl (.cons au5 (.cons rfl (.cons au5 (.cons au5 (.cons au15 (.cons au15 .nil)))))))))))<|A3<|AG ?_
   refine Ap (A2 480 (QK (n1:=(Int.tmod (AK q.e2 64) ((b.Parts.length:Nat):Int):Int).toNat-(0:Int).toNat) (lo2:=(W64 ((Int.tmod (AK q.e2 64) ((b.Parts.length:Nat):Int))+1):Int).toNat) (n2:=(((b.Parts.length:Nat):Int):Int).toNat-(W64 ((Int.tmod (AK q.e2 64) ((b.Parts.length:Nat):Int))+1):Int).toNat) (Am 7 AF.c b.Parts) au5 au5))<|AA ?_
   refine on<|AY ?_
   exact zy (Cv.trans (B5 [480,200100,200102,30,200104,200106,200108,200110,200114,34,200112] hk0) (Cv.refl _)) (by simp only [B6,h1,h2,h3,h4,h5,h6,h7,h8,h9,h10,h11,h12,h13,h14,h15,h16,h17,h18,h19,h20,h21,h22,h23,h24,h25,cond_true,cond_false] <;> kernel_rfl)
  refine AZ<|A3 ?_
  refine AG<|AA ?_
  refine on<|AY ?_
  exact zy (Cv.trans (B5 [26,200100,200102,30,200104,200106,200108,200110,200114,34,200112] hk0) (Cv.refl _)) (by simp only [B6,h1,h2,h3,h4,h5,h6,h7,h8,h9,h10,h11,h12,h13,h14,h15,h16,h17,h18,h19,h20,h21,h22,h23,h24,h25,cond_true,cond_false] <;> kernel_rfl)
 have g24:=oF h24
 refine AA<|rn ⟨(B1 q [(482,tB (decide (((AK q.e0 26):Int)=24)))]),(EW b)⟩ ?_
 refine AO _ rfl (fun h25 => ?_) (fun h25 => ?_)
 ·have g25:=oT h25
  refine AA<|rn ⟨(B1 q [(487,Z8m b)]),(EW b)⟩ ?_
  refine AO _ rfl (fun h26 => ?_) (fun h26 => ?_)
  ·have g26:=oT h26
   refine od [] [(496,Ch (AK q.e1 48))] [((((AH b).length:Nat):Int):Int)≠0,Ay (Ch (AK q.e1 48)).2.1,0<=(Int.tmod (AK q.e2 64) (((AH b).length:Nat):Int):Int)/\(Int.tmod (AK q.e2 64) (((AH b).length:Nat):Int):Int)<(((AH b).length:Nat):Int),(Int.tmod (AK q.e2 64) (((AH b).length:Nat):Int)).toNat<(AH b).length] (.cons (EO (AK q.e1 48) au21) .nil) (.cons au13 (.cons rfl (.cons au5 (.cons au5 .nil))))<|A3<|AG ?_
   refine Ap (A2 200102 (EM (l:=[.s (BN (AK q.e1 48))]) (off:=1) (q:=1) (k:=(Int.tmod (AK q.e2 64) (((AH b).length:Nat):Int)).toNat) (Am 6 Aq.c (AH b)) au5 (Aq.mk ((AH b).getD (Int.tmod (AK q.e2 64) (((AH b).length:Nat):Int)).toNat default).Id (BN (AK q.e1 48)) ((AH b).getD (Int.tmod (AK q.e2 64) (((AH b).length:Nat):Int)).toNat default).Layer ((AH b).getD (Int.tmod (AK q.e2 64) (((AH b).length:Nat):Int)).toNat default).Shape) (D2 kr)))<|AA ?_
   refine on<|AY ?_
   exact zy (Cv.trans (B5 [26,200100,200102,30,200104,200106,200108,200110,200114,34,200112] hk0) (Cv.refl _)) (by simp only [B6,h1,h2,h3,h4,h5,h6,h7,h8,h9,h10,h11,h12,h13,h14,h15,h16,h17,h18,h19,h20,h21,h22,h23,h24,h25,h26,cond_true,cond_false] <;> kernel_rfl)
  refine AZ<|A3 ?_
  refine AG<|AA ?_
  refine on<|AY ?_
  exact zy (Cv.trans (B5 [26,200100,200102,30,200104,200106,200108,200110,200114,34,200112] hk0) (Cv.refl _)) (by simp only [B6,h1,h2,h3,h4,h5,h6,h7,h8,h9,h10,h11,h12,h13,h14,h15,h16,h17,h18,h19,h20,h21,h22,h23,h24,h25,h26,cond_true,cond_false] <;> kernel_rfl)
 have g25:=oF h25
 refine AA<|rn ⟨[(4,tP 4 0),(5,tP 5 0),(QH q),(10,tI 0)],(EW b)⟩<|AQ ?_
 refine BP (ι:=Nat×List BR×Int) (fun x=>⟨[(4,tP 4 0),(5,tP 5 0),(QH q),(10,tI x.2.2)],[(4,Z7R),(5,.cells (Cn b [.own 200104 8 (Ah b).length,.own 200106 5 x.2.1.length,.own 200108 4 (Ag b).length,.own 200110 2 (AP b).length,.own 200114 20 (AR b).length,.own 34 3 b.Waivers.length,.own 200112 3 (AM b).length]) 40),(26,Z7S b),(30,Z7V b),(34,Z81 b),(200100,Z7T b),(200102,Z7U b),(200104,Z7W b),(200106,.row 5 x.2.1.length (AU BR.c x.2.1) 95),(200108,Z7Y b),(200110,Z7Z b),(200112,Z82 b),(200114,Z80 b)]⟩) (fun x=>((W64 (79+(Int.tmod (AK q.e1 48) 4)))-x.2.2).toNat<x.1/\(0<=x.2.2/\(x.2.2<=(W64 (79+(Int.tmod (AK q.e1 48) 4)))\/x.2.2=0)/\(x.2.1.length:Int)<=((Ai b).length:Int)+1*(x.2.2-0))/\ET b q x.1 x.2.1 x.2.2=B6 b q) (fun x=>x.1) ?_ (((W64 (79+(Int.tmod (AK q.e1 48) 4)))-0).toNat+1,Ai b,0) ⟨Nat.lt_succ_self _,⟨ax0,ax0,ax0⟩,(by simp only [B6,h1,h2,h3,h4,h5,h6,h7,h8,h9,h10,h11,h12,h13,h14,h15,h16,h17,h18,h19,h20,h21,h22,h23,h24,h25,cond_true,cond_false])⟩
 rintro ⟨n0,v5_9,v10⟩ ⟨hm0,hinv0,hF0⟩
 try dsimp only at hm0 hinv0 hF0
 cases n0 with | zero=>exact nz hm0 | succ n0 => ?_
 have hw7:=w79 hN.1
 have hk9:((Ai b).length:Int)<=1000000:=by rw [Qj];exact hc.lKeeps
 have hv9:(v5_9.length:Int)<=2000000:=by omega
 refine AA<|AA ?_
 refine rc [] [(4:Int)≠0] ⟨[(4,tP 4 0),(5,tP 5 0),(QH q),(10,tI v10),(26,tB (decide ((v10:Int)<(W64 (79+(Int.tmod (AK q.e1 48) 4))))))],[(4,Z7R),(5,Z8N b v5_9),(26,Z7S b),(30,Z7V b),(34,Z81 b),(200100,Z7T b),(200102,Z7U b),(200104,Z7W b),(200106,.row 5 v5_9.length (AU BR.c v5_9) 95),(200108,Z7Y b),(200110,Z7Z b),(200112,Z82 b),(200114,Z80 b)]⟩ .nil (.cons au13 .nil)<|AG ?_
 refine AO _ rfl (fun h26 => ?_) (fun h26 => ?_)
 ·have g26:=oT h26
  refine AZ<|AG ?_
  refine AA<|AQ ?_
  refine od [] [(35,I0 (AE.mk v10 0) 1)] [Ay (I0 (AE.mk v10 0) 1).2.1,v5_9.length=v5_9.length,v5_9.length+1<=maxLen,(v5_9.length+1)*56<=140737488355328] (.cons (Nt (AE.mk v10 0) 1) .nil) (.cons rfl (.cons rfl (.cons au15 (.cons au15 .nil))))<|A3<|AG ?_
  refine Ap (A2 38 (Au (Am 5 BR.c v5_9) (A0 5 BR.c ([BR.mk (W64 (100+v10)) 0 (Dc (AE.mk v10 0) 1)]:List BR)))) ?_
  refine rg ⟨[(4,tP 4 0),(5,tP 5 0),(QH q),(10,tI (W64 (v10+1)))],[(4,Z7R),(5,Z8O b v5_9 v10),(26,Z7S b),(30,Z7V b),(34,Z81 b),(38,Z8P v5_9 v10),(200100,Z7T b),(200102,Z7U b),(200104,Z7W b),(200108,Z7Y b),(200110,Z7Z b),(200112,Z82 b),(200114,Z80 b)]⟩ ?_
  (try rw [(show W64 (v10+1)=v10+1 from Az oM au6)])
  refine AG ?_
  refine ⟨(n0,v5_9++[BR.mk (W64 (100+v10)) 0 (Dc (AE.mk v10 0) 1)],v10+1),⟨?_,?_,(by rw [<- hF0];simp only [ET,h26,cond_true,cond_false])⟩,Nat.lt_succ_self _,Cv.trans (vr 38 200106 hk0) (Cv.trans (vk [4,5,6,10] [4,5,26,30,34,200100,200102,200104,200106,200108,200110,200112,200114]) (BE kr))⟩
  ·show ((W64 (79+(Int.tmod (AK q.e1 48) 4)))-(v10+1)).toNat<n0;omega
  exact ⟨ax0,ax0,ax0⟩
 refine BH<|A5 ?_
 refine A5<|BI ?_
 refine A3<|AG<|AA ?_
 refine on<|AY ?_
 exact zy (Cv.trans (B5 [26,200100,200102,30,200104,200106,200108,200110,200114,34,200112] hk0) (Cv.refl _)) (by rw [<- hF0];simp only [ET,h26,cond_true,cond_false] <;> kernel_rfl)
end
section
open Go.RowKit
def Z8R:Blk:=.cells Gg 40
variable (b:AC) (v:Nat->Value)
def Z8S:Blk:=.cells (FP v [.own 61 2 1,.val (v 6),.val (v 7),.val (v 8),.val (v 9),.val (v 10),.val (v 11),.val (v 12),.val (v 13),.val (v 14)]) 40
abbrev Df:=b.Nets.getD 0 default
def Z8T:Blk:=.row 2 (Df b).Pins.length (AU AX.c (Df b).Pins) 65
def Z8U:Blk:=.rowx 2 1 (fun _ _=>default) 84 [(0,[.s (Df b).Name,.own 58 2 (Df b).Pins.length])]
abbrev Og:List Cl:=[.s (Df b).Name,.own 100000 2 (Df b).Pins.length]
def Z8V:Blk:=.rowx 2 1 (fun _ _=>default) 84 [(0,(Og b))]
def Z8W:Blk:=.cells (FP v [.own 100001 2 1,.val (v 6),.val (v 7),.val (v 8),.val (v 9),.val (v 10),.val (v 11),.val (v 12),.val (v 13),.val (v 14)]) 40
def Z8X:Blk:=.cells (FP v [.own 61 2 2,.val (v 6),.val (v 7),.val (v 8),.val (v 9),.val (v 10),.val (v 11),.val (v 12),.val (v 13),.val (v 14)]) 40
abbrev De:=b.Nets.getD 1 default
def Z8Y:Blk:=.row 2 (De b).Pins.length (AU AX.c (De b).Pins) 65
def Z8Z:Blk:=.rowx 2 2 (fun i_ j_=>if i_<1 then (fun _ _=>default) i_ j_ else (fun _ _=>default) (i_-1) j_) 84 [(0,(Og b)),(1,[.s (De b).Name,.own 58 2 (De b).Pins.length])]
abbrev VT:List Cl:=[.s (De b).Name,.own 100002 2 (De b).Pins.length]
def Z90:Blk:=.rowx 2 2 (fun i_ j_=>if i_<1 then (fun _ _=>default) i_ j_ else (fun _ _=>default) (i_-1) j_) 84 [(0,(Og b)),(1,(VT b))]
def Z91:Blk:=.cells (FP v [.own 100003 2 2,.val (v 6),.val (v 7),.val (v 8),.val (v 9),.val (v 10),.val (v 11),.val (v 12),.val (v 13),.val (v 14)]) 40
def Z92:Blk:=.cells (FP v [.own 61 2 3,.val (v 6),.val (v 7),.val (v 8),.val (v 9),.val (v 10),.val (v 11),.val (v 12),.val (v 13),.val (v 14)]) 40
abbrev Dd:=b.Nets.getD 2 default
def Z93:Blk:=.row 2 (Dd b).Pins.length (AU AX.c (Dd b).Pins) 65
def Z94:Blk:=.rowx 2 3 (fun i_ j_=>if i_<2 then (fun i_ j_=>if i_<1 then (fun _ _=>default) i_ j_ else (fun _ _=>default) (i_-1) j_) i_ j_ else (fun _ _=>default) (i_-2) j_) 84 [(0,(Og b)),(1,(VT b)),(2,[.s (Dd b).Name,.own 58 2 (Dd b).Pins.length])]
def Z95:Blk:=.rowx 2 3 (fun i_ j_=>if i_<2 then (fun i_ j_=>if i_<1 then (fun _ _=>default) i_ j_ else (fun _ _=>default) (i_-1) j_) i_ j_ else (fun _ _=>default) (i_-2) j_) 84 [(0,(Og b)),(1,(VT b)),(2,[.s (Dd b).Name,.own 100004 2 (Dd b).Pins.length])]
def Z96:Blk:=.cells (FP v [.own 100005 2 3,.val (v 6),.val (v 7),.val (v 8),.val (v 9),.val (v 10),.val (v 11),.val (v 12),.val (v 13),.val (v 14)]) 40
def Z97:Blk:=.cells (FP v [.own 200260 2 3,.val (v 6),.val (v 7),.val (v 8),.val (v 9),.val (v 10),.val (v 11),.val (v 12),.val (v 13),.val (v 14)]) 40
abbrev Kr:List Cl:=[.s (Df b).Name,.own 200261 2 (Df b).Pins.length]
abbrev Kq:List Cl:=[.s (De b).Name,.own 200262 2 (De b).Pins.length]
abbrev Ko:List Cl:=[.s (Dd b).Name,.own 200263 2 (Dd b).Pins.length]
def Z98:Blk:=.rowx 2 3 (fun i_ j_=>if i_<2 then (fun i_ j_=>if i_<1 then (fun _ _=>default) i_ j_ else (fun _ _=>default) (i_-1) j_) i_ j_ else (fun _ _=>default) (i_-2) j_) 84 [(0,(Kr b)),(1,(Kq b)),(2,(Ko b))]
abbrev sCxN3 (b:AC) (v:Nat->Value):AS:=⟨Bn,[(200003,Z97 v),(B9 b),(200002,Z8R),(200260,Z98 b),(200261,Z8T b),(200262,Z8Y b),(200263,Z93 b)]⟩
theorem au25 {p:Prop} (h:p:=by first | decide | omega | (rw [hlen];decide) | (rw [show (b.Nets.length:Int)=3 from hlen];decide)):p:=h
theorem au9 {p:Prop} (h:p:=by first | decide | omega | (unfold maxLen;omega) | (simp only [ZF,ZE,ZD];omega)):p:=h
set_option maxHeartbeats 4000000 in
theorem gCxN3 (b:AC) (hc:CW b) (hlen:(b.Nets.length:Int)=3) {c:Code} (hpc:Tryz.f21.body.bind (F6 [true,true,false,true])=some c):Np Tryz.prog 229 [200003,200001,200002] c (fun _:Unit=>True) (fun v=>⟨[(1,tP 200001 0),(2,tP 200002 0),(3,tP 200003 0),(4,tI 0)],[(200003,.cells [.val (v 0),.val (v 1),.val (v 2),.val (v 3),.val (v 4),vN,.val (v 6),.val (v 7),.val (v 8),.val (v 9),.val (v 10),.val (v 11),.val (v 12),.val (v 13),.val (v 14)] 40),(200001,.cells (AC.c b) 40),(200002,.cells [.i 0,.i 0,vN,.i 0,vN,vN,vN,vN,vN,vN,vN,vN,vN,vN,vN] 40)]⟩) (fun v _=>sCxN3 b v):=by
 cases hpc
 intro W0 M0 X v hP hFl
 show AWp _ _ _ _ _ _ _ _ ⟨[(1,tP 200001 0),(2,tP 200002 0),(3,tP 200003 0),(4,tI 0)],[(200003,.cells [.val (v 0),.val (v 1),.val (v 2),.val (v 3),.val (v 4),vN,.val (v 6),.val (v 7),.val (v 8),.val (v 9),.val (v 10),.val (v 11),.val (v 12),.val (v 13),.val (v 14)] 40),(200001,.cells (AC.c b) 40),(200002,.cells [.i 0,.i 0,vN,.i 0,vN,vN,vN,vN,vN,vN,vN,vN,vN,vN,vN] 40)]⟩
 have h0:=hc.lParts
 have h1:=hc.lNets
 have h2:=hc.lTracks
 have h3:=hc.lVias
 have h4:=hc.lPours
 have h5:=hc.lKeeps
 have h6:=hc.lSlots
 have h7:=hc.lClasses
 have h8:=hc.lWaivers
 have h9:=hc.lMatches
 have h10:=hc.lRules
 have hr:=hc.rok
 have hb0:=hc.pin 0
 have hb1:=hc.pin 1
 have hb2:=hc.pin 2
 refine AQ ?_
 refine Di 4 ?_
 refine Bu<|AA<|AA ?_
 refine rn ⟨[(1,tP 200001 0),(2,tP 200002 0),(3,tP 200003 0),(4,tI 0),(40,tB (decide ((0:Int)<(b.Nets.length:Int))))],[(200001,.cells (AC.c b) 40),(200002,Z8R),(200003,.cells [.val (v 0),.val (v 1),.val (v 2),.val (v 3),.val (v 4),vN,.val (v 6),.val (v 7),.val (v 8),.val (v 9),.val (v 10),.val (v 11),.val (v 12),.val (v 13),.val (v 14)] 40)]⟩ ?_
 have h1:(decide ((0:Int)<(b.Nets.length:Int)))=true:=(by rw [hlen];decide)
 have g1:=oT h1
 refine AO _ rfl (fun _ => ?_) (fun h=>absurd (h1.symm.trans h) (by decide))
 refine AZ<|AG ?_
 refine AA<|AQ ?_
 refine dw [51] [] [0<=(0:Int)/\(0:Int)<((b.Nets.length:Nat):Int),0<=(0:Int)/\(0:Int)<((b.Nets.length:Nat):Int),0=0,0+(b.Nets.getD 0 default).Pins.length<=maxLen,(0+(b.Nets.getD 0 default).Pins.length)*32<=140737488355328,1=1,0<1,1<=maxLen,1*40<=140737488355328] ⟨[(1,tP 200001 0),(2,tP 200002 0),(3,tP 200003 0),(4,tI 0)],[(58,.row 2 (0+(b.Nets.getD 0 default).Pins.length) (fun i_ j_=>if i_<0 then (BB 2 0 []) i_ j_ else (AU AX.c (b.Nets.getD 0 default).Pins) (i_-0) j_) 65),(61,.rowx 2 1 (fun _ _=>default) 84 [(0,[.s (b.Nets.getD 0 default).Name,.own 58 2 (0+(b.Nets.getD 0 default).Pins.length)])]),(200001,.cells (AC.c b) 40),(200002,Z8R),(200003,Z8S v)]⟩ .nil (.cons au25 (.cons au25 (.cons rfl (.cons au9 (.cons au9 (.cons rfl (.cons (by decide) (.cons au9 (.cons au9 .nil)))))))))<|A3<|AG ?_
 refine Ap (Cv.trans (DH (⟨[(1,tP 200001 0),(2,tP 200002 0),(3,tP 200003 0),(4,tI 0)],[(58,Z8T b),(61,Z8U b),(200001,.cells (AC.c b) 40),(200002,Z8R),(200003,Z8S v)]⟩) lr (.cons ⟨rfl,Ce 65 (Au (Bd (c:=AX.c) (xs:=(([]:List AX):List AX)) rfl kr) (Am 2 AX.c (b.Nets.getD 0 default).Pins))⟩ (.cons ⟨rfl,.rowx _ _ _ _ (.cons ⟨rfl,(rr (.cons (.own _ _ au16) .nil))⟩ .nil)⟩ lr))) (Cv.refl _)) ?_
 refine rn ⟨[(1,tP 200001 0),(2,tP 200002 0),(3,tP 200003 0),(4,tI 1)],[(58,Z8T b),(61,Z8U b),(200001,.cells (AC.c b) 40),(200002,Z8R),(200003,Z8S v)]⟩ ?_
 refine Bu ?_
 refine Ap (Cv.trans (CK (⟨[(1,tP 200001 0),(2,tP 200002 0),(3,tP 200003 0),(4,tI 1)],[(100000,Z8T b),(61,Z8V b),(200001,.cells (AC.c b) 40),(200002,Z8R),(200003,Z8S v)]⟩) 58 100000 (K:=[200003,200001,200002]) hP rfl rfl kr kr) (Cv.trans (CK (⟨[(1,tP 200001 0),(2,tP 200002 0),(3,tP 200003 0),(4,tI 1)],[(100000,Z8T b),(100001,Z8V b),(200001,.cells (AC.c b) 40),(200002,Z8R),(200003,Z8W v)]⟩) 61 100001 (K:=[200003,200001,200002]) hP rfl rfl kr kr) (Cv.refl _)))<|AA<|AA ?_
 refine rn ⟨[(1,tP 200001 0),(2,tP 200002 0),(3,tP 200003 0),(4,tI 1),(40,tB (decide ((1:Int)<(b.Nets.length:Int))))],[(100000,Z8T b),(100001,Z8V b),(200001,.cells (AC.c b) 40),(200002,Z8R),(200003,Z8W v)]⟩ ?_
 have h2:(decide ((1:Int)<(b.Nets.length:Int)))=true:=(by rw [hlen];decide)
 have g2:=oT h2
 refine AO _ rfl (fun _ => ?_) (fun h=>absurd (h2.symm.trans h) (by decide))
 refine AZ<|AG ?_
 refine AA<|AQ ?_
 refine dw [51] [] [0<=(1:Int)/\(1:Int)<((b.Nets.length:Nat):Int),0<=(1:Int)/\(1:Int)<((b.Nets.length:Nat):Int),0=0,0+(b.Nets.getD 1 default).Pins.length<=maxLen,(0+(b.Nets.getD 1 default).Pins.length)*32<=140737488355328,1=1,1=1,0<1,1+1<=maxLen,(1+1)*40<=140737488355328] ⟨[(1,tP 200001 0),(2,tP 200002 0),(3,tP 200003 0),(4,tI 1)],[(58,.row 2 (0+(b.Nets.getD 1 default).Pins.length) (fun i_ j_=>if i_<0 then (BB 2 0 []) i_ j_ else (AU AX.c (b.Nets.getD 1 default).Pins) (i_-0) j_) 65),(61,.rowx 2 2 (fun i_ j_=>if i_<1 then (fun _ _=>default) i_ j_ else (fun _ _=>default) (i_-1) j_) 84 [(0,[.s (b.Nets.getD 0 default).Name,.own 100000 2 (b.Nets.getD 0 default).Pins.length]),(1,[.s (b.Nets.getD 1 default).Name,.own 58 2 (0+(b.Nets.getD 1 default).Pins.length)])]),(100000,Z8T b),(200001,.cells (AC.c b) 40),(200002,Z8R),(200003,Z8X v)]⟩ .nil (.cons au25 (.cons au25 (.cons rfl (.cons au9 (.cons au9 (.cons rfl (.cons rfl (.cons (by decide) (.cons au9 (.cons au9 .nil))))))))))<|A3<|AG ?_
 refine Ap (Cv.trans (DH (⟨[(1,tP 200001 0),(2,tP 200002 0),(3,tP 200003 0),(4,tI 1)],[(58,Z8Y b),(61,Z8Z b),(100000,Z8T b),(200001,.cells (AC.c b) 40),(200002,Z8R),(200003,Z8X v)]⟩) lr (.cons ⟨rfl,Ce 65 (Au (Bd (c:=AX.c) (xs:=(([]:List AX):List AX)) rfl kr) (Am 2 AX.c (b.Nets.getD 1 default).Pins))⟩ (.cons ⟨rfl,.rowx _ _ _ _ (.cons ⟨rfl,(rr (rr .nil))⟩ (.cons ⟨rfl,(rr (.cons (.own _ _ au16) .nil))⟩ .nil))⟩ lr))) (Cv.refl _)) ?_
 refine rn ⟨[(1,tP 200001 0),(2,tP 200002 0),(3,tP 200003 0),(4,tI 2)],[(58,Z8Y b),(61,Z8Z b),(100000,Z8T b),(200001,.cells (AC.c b) 40),(200002,Z8R),(200003,Z8X v)]⟩ ?_
 refine Bu ?_
 refine Ap (Cv.trans (CK (⟨[(1,tP 200001 0),(2,tP 200002 0),(3,tP 200003 0),(4,tI 2)],[(100002,Z8Y b),(61,Z90 b),(100000,Z8T b),(200001,.cells (AC.c b) 40),(200002,Z8R),(200003,Z8X v)]⟩) 58 100002 (K:=[200003,200001,200002]) hP rfl rfl kr kr) (Cv.trans (CK (⟨[(1,tP 200001 0),(2,tP 200002 0),(3,tP 200003 0),(4,tI 2)],[(100002,Z8Y b),(100003,Z90 b),(100000,Z8T b),(200001,.cells (AC.c b) 40),(200002,Z8R),(200003,Z91 v)]⟩) 61 100003 (K:=[200003,200001,200002]) hP rfl rfl kr kr) (Cv.refl _)))<|AA<|AA ?_
 refine rn ⟨[(1,tP 200001 0),(2,tP 200002 0),(3,tP 200003 0),(4,tI 2),(40,tB (decide ((2:Int)<(b.Nets.length:Int))))],[(100000,Z8T b),(100002,Z8Y b),(100003,Z90 b),(200001,.cells (AC.c b) 40),(200002,Z8R),(200003,Z91 v)]⟩ ?_
 have h3:(decide ((2:Int)<(b.Nets.length:Int)))=true:=(by rw [hlen];decide)
 have g3:=oT h3
 refine AO _ rfl (fun _ => ?_) (fun h=>absurd (h3.symm.trans h) (by decide))
 refine AZ<|AG ?_
 refine AA<|AQ ?_
 refine dw [51] [] [0<=(2:Int)/\(2:Int)<((b.Nets.length:Nat):Int),0<=(2:Int)/\(2:Int)<((b.Nets.length:Nat):Int),0=0,0+(b.Nets.getD 2 default).Pins.length<=maxLen,(0+(b.Nets.getD 2 default).Pins.length)*32<=140737488355328,2=2,1=1,0<1,2+1<=maxLen,(2+1)*40<=140737488355328] ⟨[(1,tP 200001 0),(2,tP 200002 0),(3,tP 200003 0),(4,tI 2)],[(58,.row 2 (0+(b.Nets.getD 2 default).Pins.length) (fun i_ j_=>if i_<0 then (BB 2 0 []) i_ j_ else (AU AX.c (b.Nets.getD 2 default).Pins) (i_-0) j_) 65),(61,.rowx 2 3 (fun i_ j_=>if i_<2 then (fun i_ j_=>if i_<1 then (fun _ _=>default) i_ j_ else (fun _ _=>default) (i_-1) j_) i_ j_ else (fun _ _=>default) (i_-2) j_) 84 [(0,[.s (b.Nets.getD 0 default).Name,.own 100000 2 (b.Nets.getD 0 default).Pins.length]),(1,[.s (b.Nets.getD 1 default).Name,.own 100002 2 (b.Nets.getD 1 default).Pins.length]),(2,[.s (b.Nets.getD 2 default).Name,.own 58 2 (0+(b.Nets.getD 2 default).Pins.length)])]),(100000,Z8T b),(100002,Z8Y b),(200001,.cells (AC.c b) 40),(200002,Z8R),(200003,Z92 v)]⟩ .nil (.cons au25 (.cons au25 (.cons rfl (.cons au9 (.cons au9 (.cons rfl (.cons rfl (.cons (by decide) (.cons au9 (.cons au9 .nil))))))))))<|A3<|AG ?_
 refine Ap (Cv.trans (DH (⟨[(1,tP 200001 0),(2,tP 200002 0),(3,tP 200003 0),(4,tI 2)],[(58,Z93 b),(61,Z94 b),(100000,Z8T b),(100002,Z8Y b),(200001,.cells (AC.c b) 40),(200002,Z8R),(200003,Z92 v)]⟩) lr (.cons ⟨rfl,Ce 65 (Au (Bd (c:=AX.c) (xs:=(([]:List AX):List AX)) rfl kr) (Am 2 AX.c (b.Nets.getD 2 default).Pins))⟩ (.cons ⟨rfl,.rowx _ _ _ _ (.cons ⟨rfl,(rr (rr .nil))⟩ (.cons ⟨rfl,(rr (rr .nil))⟩ (.cons ⟨rfl,(rr (.cons (.own _ _ au16) .nil))⟩ .nil)))⟩ lr))) (Cv.refl _)) ?_
 refine rn ⟨[(1,tP 200001 0),(2,tP 200002 0),(3,tP 200003 0),(4,tI 3)],[(58,Z93 b),(61,Z94 b),(100000,Z8T b),(100002,Z8Y b),(200001,.cells (AC.c b) 40),(200002,Z8R),(200003,Z92 v)]⟩ ?_
 refine Bu ?_
 refine Ap (Cv.trans (CK (⟨[(1,tP 200001 0),(2,tP 200002 0),(3,tP 200003 0),(4,tI 3)],[(100004,Z93 b),(61,Z95 b),(100000,Z8T b),(100002,Z8Y b),(200001,.cells (AC.c b) 40),(200002,Z8R),(200003,Z92 v)]⟩) 58 100004 (K:=[200003,200001,200002]) hP rfl rfl kr kr) (Cv.trans (CK (⟨[(1,tP 200001 0),(2,tP 200002 0),(3,tP 200003 0),(4,tI 3)],[(100004,Z93 b),(100005,Z95 b),(100000,Z8T b),(100002,Z8Y b),(200001,.cells (AC.c b) 40),(200002,Z8R),(200003,Z96 v)]⟩) 61 100005 (K:=[200003,200001,200002]) hP rfl rfl kr kr) (Cv.refl _)))<|AA<|AA ?_
 refine rn ⟨[(1,tP 200001 0),(2,tP 200002 0),(3,tP 200003 0),(4,tI 3),(40,tB (decide ((3:Int)<(b.Nets.length:Int))))],[(100000,Z8T b),(100002,Z8Y b),(100004,Z93 b),(100005,Z95 b),(200001,.cells (AC.c b) 40),(200002,Z8R),(200003,Z96 v)]⟩ ?_
 have h4:(decide ((3:Int)<(b.Nets.length:Int)))=false:=(by rw [hlen];decide)
 have g4:=oF h4
 refine AO _ rfl (fun h=>absurd (h4.symm.trans h) (by decide)) (fun _ => ?_)
 refine BH<|A5 ?_
 refine A5<|BI ?_
 exact ⟨_,Cv.trans (CD [1,2,3] [100000,100002,100004,100005,200001,200002,200003] (⟨[(1,tP 200001 0),(2,tP 200002 0),(3,tP 200003 0)],[(100000,Z8T b),(100002,Z8Y b),(100004,Z93 b),(100005,Z95 b),(200001,.cells (AC.c b) 40),(200002,Z8R),(200003,Z96 v)]⟩) kr) (Cv.trans (CK (⟨[(1,tP 200001 0),(2,tP 200002 0),(3,tP 200003 0)],[(100000,Z8T b),(100002,Z8Y b),(100004,Z93 b),(200260,Z95 b),(200001,.cells (AC.c b) 40),(200002,Z8R),(200003,Z97 v)]⟩) 100005 200260 (K:=[200003,200001,200002]) hP rfl rfl kr kr) (Cv.trans (CK (⟨[(1,tP 200001 0),(2,tP 200002 0),(3,tP 200003 0)],[(200261,Z8T b),(100002,Z8Y b),(100004,Z93 b),(200260,.rowx 2 3 (fun i_ j_=>if i_<2 then (fun i_ j_=>if i_<1 then (fun _ _=>default) i_ j_ else (fun _ _=>default) (i_-1) j_) i_ j_ else (fun _ _=>default) (i_-2) j_) 84 [(0,[.s (b.Nets.getD 0 default).Name,.own 200261 2 (b.Nets.getD 0 default).Pins.length]),(1,[.s (b.Nets.getD 1 default).Name,.own 100002 2 (b.Nets.getD 1 default).Pins.length]),(2,[.s (b.Nets.getD 2 default).Name,.own 100004 2 (b.Nets.getD 2 default).Pins.length])]),(200001,.cells (AC.c b) 40),(200002,Z8R),(200003,Z97 v)]⟩) 100000 200261 (K:=[200003,200001,200002]) hP rfl rfl kr kr) (Cv.trans (CK (⟨[(1,tP 200001 0),(2,tP 200002 0),(3,tP 200003 0)],[(200261,Z8T b),(200262,Z8Y b),(100004,Z93 b),(200260,.rowx 2 3 (fun i_ j_=>if i_<2 then (fun i_ j_=>if i_<1 then (fun _ _=>default) i_ j_ else (fun _ _=>default) (i_-1) j_) i_ j_ else (fun _ _=>default) (i_-2) j_) 84 [(0,[.s (b.Nets.getD 0 default).Name,.own 200261 2 (b.Nets.getD 0 default).Pins.length]),(1,[.s (b.Nets.getD 1 default).Name,.own 200262 2 (b.Nets.getD 1 default).Pins.length]),(2,[.s (b.Nets.getD 2 default).Name,.own 100004 2 (b.Nets.getD 2 default).Pins.length])]),(200001,.cells (AC.c b) 40),(200002,Z8R),(200003,Z97 v)]⟩) 100002 200262 (K:=[200003,200001,200002]) hP rfl rfl kr kr) (Cv.trans (CK (⟨[(1,tP 200001 0),(2,tP 200002 0),(3,tP 200003 0)],[(200261,Z8T b),(200262,Z8Y b),(200263,Z93 b),(200260,Z98 b),(200001,.cells (AC.c b) 40),(200002,Z8R),(200003,Z97 v)]⟩) 100004 200263 (K:=[200003,200001,200002]) hP rfl rfl kr kr) (Cv.trans (CD [1,2,3] [200003,200001,200002,200260,200261,200262,200263] (⟨[(1,tP 200001 0),(2,tP 200002 0),(3,tP 200003 0)],[(200003,Z97 v),(200001,.cells (AC.c b) 40),(200002,Z8R),(200260,Z98 b),(200261,Z8T b),(200262,Z8Y b),(200263,Z93 b)]⟩) kr) (Cv.refl _)))))),rfl,(),trivial,rfl⟩
end
section
open Go.RowKit
def Z99:Blk:=.cells Gg 40
variable (b:AC)
def Z9a:Blk:=.cells (SL b) 40
def Z9b:Blk:=.row 7 b.Parts.length (IX b) 49
def Z9c:Blk:=.row 8 b.Vias.length (IM b) 89
def Z9d:Blk:=.row 3 b.Waivers.length (IZ b) 104
def Z9e:Blk:=.cells (FQ b [.own 200260 2 3,vN,.own 30 8 b.Vias.length,vN,vN,vN,vN,vN,.own 34 3 b.Waivers.length,vN]) 40
def Z9f:Blk:=.rowx 2 3 (fun i_ j_=>if i_<2 then (fun i_ j_=>if i_<1 then (fun _ _=>default) i_ j_ else (fun _ _=>default) (i_-1) j_) i_ j_ else (fun _ _=>default) (i_-2) j_) 84 [(0,(Kr b)),(1,(Kq b)),(2,(Ko b))]
def Z9g:Blk:=.row 2 (Df b).Pins.length (AU AX.c (Df b).Pins) 65
def Z9h:Blk:=.row 2 (De b).Pins.length (AU AX.c (De b).Pins) 65
def Z9i:Blk:=.row 2 (Dd b).Pins.length (AU AX.c (Dd b).Pins) 65
abbrev Kb (t_:List Cl):List Cl:=(.i b.Layers)::(.i (G8 b).Kind)::(lst 7 AN.c (G8 b).Edges)::(.i (G8 b).R)::(MA b)::(.own 200260 2 3)::(N6 b)::(.own 30 8 b.Vias.length)::t_
def Z9j:Blk:=.cells (Kb b (VK b)) 40
def Z9k:Blk:=.row 6 (AH b).length (IP b) 87
def Z9l:Blk:=.cells (Kb b (Rc b [vN])) 40
def Z9m:Blk:=.row 8 (Ah b).length (AU A8.c (Ah b)) 92
def Z9n:Blk:=.cells (Kb b (Re b [vN])) 40
def Z9o:Blk:=.row 5 (Ai b).length (IW b) 95
def Z9p:Blk:=.cells (Kb b (RM b)) 40
def Z9q:Blk:=.row 4 (Ag b).length (IR b) 97
def Z9r:Blk:=.cells (Kb b (Ec b (JF b [vN]))) 40
def Z9s:Blk:=.row 2 (AP b).length (He b) 100
def Z9t:Blk:=.cells (Kb b (Ec b (JF b (MB b)))) 40
def Z9u:Blk:=.row 3 (AM b).length (Hd b) 102
abbrev SN:List Cl:=(Kb b (Ec b (RY b (MB b))))
def Z9v:Blk:=.cells (SN b) 40
def Z9w:Blk:=.row 20 (AR b).length (IU b) 109
def mL (b:AC):Tv:=.av (.agg (SN b))
def hCyN3 (b:AC):List (Nat×Blk):=[(26,.row 7 b.Parts.length (AU AF.c b.Parts) 49),(200260,.rowx 2 3 (fun i_ j_=>if i_<2 then (fun i_ j_=>if i_<1 then (fun _ _=>default) i_ j_ else (fun _ _=>default) (i_-1) j_) i_ j_ else (fun _ _=>default) (i_-2) j_) 84 [(0,[.s (b.Nets.getD 0 default).Name,.own 200261 2 (b.Nets.getD 0 default).Pins.length]),(1,[.s (b.Nets.getD 1 default).Name,.own 200262 2 (b.Nets.getD 1 default).Pins.length]),(2,[.s (b.Nets.getD 2 default).Name,.own 200263 2 (b.Nets.getD 2 default).Pins.length])]),(200102,.row 6 (AH b).length (AU Aq.c (AH b)) 87),(30,.row 8 b.Vias.length (AU Bx.c b.Vias) 89),(200104,.row 8 (Ah b).length (AU A8.c (Ah b)) 92),(200106,.row 5 (Ai b).length (AU BR.c (Ai b)) 95),(200108,.row 4 (Ag b).length (AU Bq.c (Ag b)) 97),(200110,.row 2 (AP b).length (AU BS.c (AP b)) 100),(200114,.row 20 (AR b).length (AU A1.c (AR b)) 109),(34,.row 3 b.Waivers.length (AU BM.c b.Waivers) 104),(200112,.row 3 (AM b).length (AU Bb.c (AM b)) 102),(200261,.row 2 (b.Nets.getD 0 default).Pins.length (AU AX.c (b.Nets.getD 0 default).Pins) 65),(200262,.row 2 (b.Nets.getD 1 default).Pins.length (AU AX.c (b.Nets.getD 1 default).Pins) 65),(200263,.row 2 (b.Nets.getD 2 default).Pins.length (AU AX.c (b.Nets.getD 2 default).Pins) 65)]
abbrev JM (t_:List (Nat×Blk)):List (Nat×Blk):=(26,Z9b b)::(30,Z9c b)::(34,Z9d b)::(B9 b)::(200002,Z99)::t_
abbrev bX:List (Nat×Blk):=(JM b [(200003,Z9t b),(200102,Z9k b),(200104,Z9m b),(200106,Z9o b),(200108,Z9q b),(200110,Z9s b),(200112,Z9u b),(200260,Z9f b),(200261,Z9g b),(200262,Z9h b),(200263,Z9i b)])
abbrev bW:List (Nat×Blk):=(JM b [(200003,Z9r b),(200102,Z9k b),(200104,Z9m b),(200106,Z9o b),(200108,Z9q b),(200110,Z9s b),(200260,Z9f b),(200261,Z9g b),(200262,Z9h b),(200263,Z9i b)])
abbrev bS:List (Nat×Blk):=(JM b [(200003,Z9p b),(200102,Z9k b),(200104,Z9m b),(200106,Z9o b),(200108,Z9q b),(200260,Z9f b),(200261,Z9g b),(200262,Z9h b),(200263,Z9i b)])
abbrev bN:List (Nat×Blk):=(JM b [(200003,Z9n b),(200102,Z9k b),(200104,Z9m b),(200106,Z9o b),(200260,Z9f b),(200261,Z9g b),(200262,Z9h b),(200263,Z9i b)])
abbrev bG:List (Nat×Blk):=(JM b [(200003,Z9l b),(200102,Z9k b),(200104,Z9m b),(200260,Z9f b),(200261,Z9g b),(200262,Z9h b),(200263,Z9i b)])
abbrev aZ:List (Nat×Blk):=(JM b [(200003,Z9j b),(200102,Z9k b),(200260,Z9f b),(200261,Z9g b),(200262,Z9h b),(200263,Z9i b)])
abbrev aQ:List (Nat×Blk):=(JM b [(200003,Z9e b),(200260,Z9f b),(200261,Z9g b),(200262,Z9h b),(200263,Z9i b)])
abbrev Kc (t_:List Cl):List Cl:=(.i b.Layers)::(.i (Ak b.Outline).Kind)::(lst 7 AN.c (Ak b.Outline).Edges)::(.i (Ak b.Outline).R)::(MA b)::(.own 200260 2 3)::(N6 b)::(.own 30 8 b.Vias.length)::t_
set_option maxHeartbeats 4000000 in
theorem qCyN3 (b:AC) (hc:CW b) (hlen:(b.Nets.length:Int)=3):Frs Tryz.prog 21 [.agg (AC.c b)] (fun _:Unit=>True) (fun _=>mL b) (fun _=>hCyN3 b):=by
 refine J9 Tryz.func21 rfl kr kr kr fun W0 M0 X hP hFl => ?_
 have h0:=hc.lParts
 have h1:=hc.lNets
 have h2:=hc.lTracks
 have h3:=hc.lVias
 have h4:=hc.lPours
 have h5:=hc.lKeeps
 have h6:=hc.lSlots
 have h7:=hc.lClasses
 have h8:=hc.lWaivers
 have h9:=hc.lMatches
 have h10:=hc.lRules
 have hr:=hc.rok
 refine AA<|on<|AA ?_
 refine od [23,27,31] [(22,B7 b.Outline)] [Ay (B7 b.Outline).2.1,0=0,0+b.Parts.length<=maxLen,(0+b.Parts.length)*72<=140737488355328,0=0,0+b.Vias.length<=maxLen,(0+b.Vias.length)*72<=140737488355328,0=0,0+b.Waivers.length<=maxLen,(0+b.Waivers.length)*32<=140737488355328] (.cons (Dz b.Outline au28) .nil) (.cons rfl (.cons rfl (.cons au2 (.cons au2 (.cons rfl (.cons au2 (.cons au2 (.cons rfl (.cons au2 (.cons au2 .nil))))))))))<|AG ?_
 refine Ap (Cv.trans (A2 26 (Au (A0 7 AF.c (([]:List AF):List AF)) (Am 7 AF.c b.Parts))) (Cv.trans (A2 30 (Au (A0 8 Bx.c (([]:List Bx):List Bx)) (Am 8 Bx.c b.Vias))) (Cv.trans (A2 34 (Au (A0 3 BM.c (([]:List BM):List BM)) (Am 3 BM.c b.Waivers))) (Cv.refl _))))<|AA<|AA ?_
 refine rn ⟨R0,[(1,.cells (AC.c b) 40),(2,Z99),(3,Z9a b),(26,Z9b b),(30,Z9c b),(34,Z9d b)]⟩ ?_
 refine Ap (Cv.trans (vr 3 200003 (K:=[]) hP) (Cv.trans (vr 1 200001 (K:=[]) hP) (Cv.trans (wr (⟨R9,[(B9 b),(200002,Z99),(200003,Z9a b),(26,Z9b b),(30,Z9c b),(34,Z9d b)]⟩) 2 200002 (K:=[]) hP) (Cv.refl _)))) ?_
 refine CE (ι:=Unit) (I:=fun _=>True) 200003 (Xg b) 40 (mkB 15 5) [1,2,3,4] [200001,200002] (fun _=>Bn) (fun _=>lEB 15 5 (.own 200260 2 3)) (fun _=>[(B9 b),CF,(200260,.rowx 2 3 (fun i_ j_=>if i_<2 then (fun i_ j_=>if i_<1 then (fun _ _=>default) i_ j_ else (fun _ _=>default) (i_-1) j_) i_ j_ else (fun _ _=>default) (i_-2) j_) 84 [(0,[.s (b.Nets.getD 0 default).Name,.own 200261 2 (b.Nets.getD 0 default).Pins.length]),(1,[.s (b.Nets.getD 1 default).Name,.own 200262 2 (b.Nets.getD 1 default).Pins.length]),(2,[.s (b.Nets.getD 2 default).Name,.own 200263 2 (b.Nets.getD 2 default).Pins.length])]),(200261,.row 2 (b.Nets.getD 0 default).Pins.length (AU AX.c (b.Nets.getD 0 default).Pins) 65),(200262,.row 2 (b.Nets.getD 1 default).Pins.length (AU AX.c (b.Nets.getD 1 default).Pins) 65),(200263,.row 2 (b.Nets.getD 2 default).Pins.length (AU AX.c (b.Nets.getD 2 default).Pins) 65)]) (fun _=>⟨Bn,[(200003,Z9e b),(B9 b),(200002,Z99),(200260,Z9f b),(200261,Z9g b),(200262,Z9h b),(200263,Z9i b),(26,Z9b b),(30,Z9c b),(34,Z9d b)]⟩) hP hFl (gCxN3 b hc hlen kr) (fun _ _ => ?_)
 refine AG ?_
 refine Ap (Cv.trans (ck (⟨Bn,(aQ b)⟩)) (Cv.refl _))<|AA<|AA ?_
 refine rn ⟨R8,(aQ b)⟩ ?_
 refine CE (ι:=Unit) (I:=fun _=>True) 200003 [.i b.Layers,.i (Ak b.Outline).Kind,lst 7 AN.c (Ak b.Outline).Edges,.i (Ak b.Outline).R,.own 26 7 b.Parts.length,.own 200260 2 3,vN,.own 30 8 b.Vias.length,vN,vN,vN,vN,vN,.own 34 3 b.Waivers.length,vN] 40 (mkB 15 6) [1,2,3,5] [200001,200002] (fun _=>Bn) (fun _=>lEB 15 6 (Rl b)) (fun _=>[(B9 b),CF,(Rw b)]) (fun _=>⟨Bn,[(200003,Z9j b),(B9 b),(200002,Z99),(200102,Z9k b),(26,Z9b b),(30,Z9c b),(34,Z9d b),(200260,Z9f b),(200261,Z9g b),(200262,Z9h b),(200263,Z9i b)]⟩) hP hFl (J8 b hc kr) (fun _ _ => ?_)
 refine AG ?_
 refine Ap (Cv.trans (ck (⟨Bn,(aZ b)⟩)) (Cv.refl _))<|AA<|AA ?_
 refine rn ⟨R7,(aZ b)⟩ ?_
 refine CE (ι:=Unit) (I:=fun _=>True) 200003 (Kc b (VK b)) 40 (mkB 15 8) [1,2,3,7] [200001,200002] (fun _=>Bn) (fun _=>lEB 15 8 (N5 b)) (fun _=>[(B9 b),CF,(200104,.row 8 (Ah b).length (AU A8.c (Ah b)) 92)]) (fun _=>⟨Bn,[(200003,Z9l b),(B9 b),(200002,Z99),(200104,Z9m b),(26,Z9b b),(30,Z9c b),(34,Z9d b),(200102,Z9k b),(200260,Z9f b),(200261,Z9g b),(200262,Z9h b),(200263,Z9i b)]⟩) hP hFl (U3 b hc kr) (fun _ _ => ?_)
 refine AG ?_
 refine Ap (Cv.trans (ck (⟨Bn,(bG b)⟩)) (Cv.refl _))<|AA<|AA ?_
 refine rn ⟨R6,(bG b)⟩ ?_
 refine CE (ι:=Unit) (I:=fun _=>True) 200003 (Kc b (Rc b [vN])) 40 (mkB 15 9) [1,2,3,9] [200001,200002] (fun _=>Bn) (fun _=>lEB 15 9 (Rk b)) (fun _=>[(B9 b),CF,(Rv b)]) (fun _=>⟨Bn,[(200003,Z9n b),(B9 b),(200002,Z99),(200106,Z9o b),(26,Z9b b),(30,Z9c b),(34,Z9d b),(200102,Z9k b),(200104,Z9m b),(200260,Z9f b),(200261,Z9g b),(200262,Z9h b),(200263,Z9i b)]⟩) hP hFl (Lr b hc kr) (fun _ _ => ?_)
 refine AG ?_
 refine Ap (Cv.trans (ck (⟨Bn,(bN b)⟩)) (Cv.refl _))<|AA<|AA ?_
 refine rn ⟨SD,(bN b)⟩ ?_
 refine CE (ι:=Unit) (I:=fun _=>True) 200003 (Kc b (Re b [vN])) 40 (mkB 15 10) [1,2,3,11] [200001,200002] (fun _=>Bn) (fun _=>lEB 15 10 (Rj b)) (fun _=>[(B9 b),CF,(Ru b)]) (fun _=>⟨Bn,[(200003,Z9p b),(B9 b),(200002,Z99),(200108,Z9q b),(26,Z9b b),(30,Z9c b),(34,Z9d b),(200102,Z9k b),(200104,Z9m b),(200106,Z9o b),(200260,Z9f b),(200261,Z9g b),(200262,Z9h b),(200263,Z9i b)]⟩) hP hFl (Lp b hc kr) (fun _ _ => ?_)
 refine AG ?_
 refine Ap (Cv.trans (ck (⟨Bn,(bS b)⟩)) (Cv.refl _))<|AA<|AA ?_
 refine rn ⟨SC,(bS b)⟩ ?_
 refine CE (ι:=Unit) (I:=fun _=>True) 200003 (Kc b (RM b)) 40 (mkB 15 11) [1,2,3,13] [200001,200002] (fun _=>Bn) (fun _=>lEB 15 11 (Ri b)) (fun _=>[(B9 b),CF,(Ry b)]) (fun _=>⟨Bn,[(200003,Z9r b),(B9 b),(200002,Z99),(200110,Z9s b),(26,Z9b b),(30,Z9c b),(34,Z9d b),(200102,Z9k b),(200104,Z9m b),(200106,Z9o b),(200108,Z9q b),(200260,Z9f b),(200261,Z9g b),(200262,Z9h b),(200263,Z9i b)]⟩) hP hFl (Io b hc kr) (fun _ _ => ?_)
 refine AG ?_
 refine Ap (Cv.trans (ck (⟨Bn,(bW b)⟩)) (Cv.refl _))<|AA<|AA ?_
 refine rn ⟨SB,(bW b)⟩ ?_
 refine CE (ι:=Unit) (I:=fun _=>True) 200003 (Kc b (Ec b (JF b [vN]))) 40 (mkB 15 14) [1,2,3,14] [200001,200002] (fun _=>Bn) (fun _=>lEB 15 14 (Rh b)) (fun _=>[(B9 b),CF,(Rx b)]) (fun _=>⟨Bn,[(200003,Z9t b),(B9 b),(200002,Z99),(200112,Z9u b),(26,Z9b b),(30,Z9c b),(34,Z9d b),(200102,Z9k b),(200104,Z9m b),(200106,Z9o b),(200108,Z9q b),(200110,Z9s b),(200260,Z9f b),(200261,Z9g b),(200262,Z9h b),(200263,Z9i b)]⟩) hP hFl (In b hc kr) (fun _ _ => ?_)
 refine AG ?_
 refine Ap (Cv.trans (ck (⟨Bn,(bX b)⟩)) (Cv.refl _))<|AA<|AA ?_
 refine rn ⟨SA,(bX b)⟩ ?_
 refine CE (ι:=Unit) (I:=fun _=>True) 200003 (Kc b (Ec b (JF b (MB b)))) 40 (mkB 15 12) [1,2,3,16] [200001,200002] (fun _=>Bn) (fun _=>lEB 15 12 (Rn b)) (fun _=>[(B9 b),CF,(Rz b)]) (fun _=>⟨Bn,[(200003,Z9v b),(B9 b),(200002,Z99),(200114,Z9w b),(26,Z9b b),(30,Z9c b),(34,Z9d b),(200102,Z9k b),(200104,Z9m b),(200106,Z9o b),(200108,Z9q b),(200110,Z9s b),(200112,Z9u b),(200260,Z9f b),(200261,Z9g b),(200262,Z9h b),(200263,Z9i b)]⟩) hP hFl (Lq b hc kr) (fun _ _ => ?_)
 refine AG ?_
 refine Ap (Cv.trans (ck (⟨Bn,(JM b [(200003,Z9v b),(200102,Z9k b),(200104,Z9m b),(200106,Z9o b),(200108,Z9q b),(200110,Z9s b),(200112,Z9u b),(200114,Z9w b),(200260,Z9f b),(200261,Z9g b),(200262,Z9h b),(200263,Z9i b)])⟩)) (Cv.refl _))<|AA ?_
 refine rn ⟨JP,[(26,Z9b b),(30,Z9c b),(34,Z9d b),(200002,Z9v b),(200102,Z9k b),(200104,Z9m b),(200106,Z9o b),(200108,Z9q b),(200110,Z9s b),(200112,Z9u b),(200114,Z9w b),(200260,Z9f b),(200261,Z9g b),(200262,Z9h b),(200263,Z9i b)]⟩<|AY ?_
 refine ⟨_,Cv.trans (ck (⟨JP,[(26,Z9b b),(200260,Z9f b),(200102,Z9k b),(30,Z9c b),(200104,Z9m b),(200106,Z9o b),(200108,Z9q b),(200110,Z9s b),(200114,Z9w b),(34,Z9d b),(200112,Z9u b),(200261,Z9g b),(200262,Z9h b),(200263,Z9i b),(200002,Z9v b)]⟩)) (Cv.refl _),.inl rfl,mL b,by kernel_rfl,lJ (m:=[(200002,.cells (Kc b (Ec b (RY b (MB b)))) 40)]) kr⟩
end
section
open Go.RowKit
def Z9x:Blk:=.cells Gg 40
variable (b:AC) (q:DM)
def Z9y:Blk:=.row 7 b.Parts.length (IX b) 49
def Z9z:Blk:=.rowx 2 3 (fun i_ j_=>if i_<2 then (fun i_ j_=>if i_<1 then (fun _ _=>default) i_ j_ else (fun _ _=>default) (i_-1) j_) i_ j_ else (fun _ _=>default) (i_-2) j_) 84 [(0,(Kr b)),(1,(Kq b)),(2,(Ko b))]
def Z9A:Blk:=.row 6 (AH b).length (IP b) 87
def Z9B:Blk:=.row 8 b.Vias.length (IM b) 89
def Z9C:Blk:=.row 8 (Ah b).length (AU A8.c (Ah b)) 92
def Z9D:Blk:=.row 5 (Ai b).length (IW b) 95
def Z9E:Blk:=.row 4 (Ag b).length (IR b) 97
def Z9F:Blk:=.row 2 (AP b).length (He b) 100
def Z9G:Blk:=.row 20 (AR b).length (IU b) 109
def Z9H:Blk:=.row 3 b.Waivers.length (IZ b) 104
def Z9I:Blk:=.row 3 (AM b).length (Hd b) 102
def Z9J:Blk:=.row 2 (Df b).Pins.length (AU AX.c (Df b).Pins) 65
def Z9K:Blk:=.row 2 (De b).Pins.length (AU AX.c (De b).Pins) 65
def Z9L:Blk:=.row 2 (Dd b).Pins.length (AU AX.c (Dd b).Pins) 65
def Z9M:Blk:=.cells (SN b) 40
def Z9N:Blk:=.row 2 ((Df b).Pins++[AX.mk (DX q) ({ data := #[80,49] }:ByteArray)]).length (AU AX.c ((Df b).Pins++[AX.mk (DX q) ({ data := #[80,49] }:ByteArray)])) 65
def Z9O:Blk:=.rowx 2 3 (fun i_ j_=>if i_<2 then (fun i_ j_=>if i_<1 then (fun _ _=>default) i_ j_ else (fun _ _=>default) (i_-1) j_) i_ j_ else (fun _ _=>default) (i_-2) j_) 84 [(0,[.s (Df b).Name,.own 163 2 ((Df b).Pins++[AX.mk (DX q) ({ data := #[80,49] }:ByteArray)]).length]),(1,(Kq b)),(2,(Ko b))]
def Z9P:Blk:=.row 2 ((De b).Pins++[AX.mk (DX q) ({ data := #[80,49] }:ByteArray)]).length (AU AX.c ((De b).Pins++[AX.mk (DX q) ({ data := #[80,49] }:ByteArray)])) 65
def Z9Q:Blk:=.rowx 2 3 (fun i_ j_=>if i_<2 then (fun i_ j_=>if i_<1 then (fun _ _=>default) i_ j_ else (fun _ _=>default) (i_-1) j_) i_ j_ else (fun _ _=>default) (i_-2) j_) 84 [(0,(Kr b)),(1,[.s (De b).Name,.own 163 2 ((De b).Pins++[AX.mk (DX q) ({ data := #[80,49] }:ByteArray)]).length]),(2,(Ko b))]
def Z9R:Blk:=.row 2 ((Dd b).Pins++[AX.mk (DX q) ({ data := #[80,49] }:ByteArray)]).length (AU AX.c ((Dd b).Pins++[AX.mk (DX q) ({ data := #[80,49] }:ByteArray)])) 65
def Z9S:Blk:=.rowx 2 3 (fun i_ j_=>if i_<2 then (fun i_ j_=>if i_<1 then (fun _ _=>default) i_ j_ else (fun _ _=>default) (i_-1) j_) i_ j_ else (fun _ _=>default) (i_-2) j_) 84 [(0,(Kr b)),(1,(Kq b)),(2,[.s (Dd b).Name,.own 163 2 ((Dd b).Pins++[AX.mk (DX q) ({ data := #[80,49] }:ByteArray)]).length])]
def L6 (b:AC) (q:DM):AC:=bif decide (((Int.tmod (AK q.e2 64) ((3:Nat):Int)).toNat:Nat)=0) then (AC.mk b.Layers (Ak b.Outline) b.Parts [BA.mk (b.Nets.getD 0 default).Name ((b.Nets.getD 0 default).Pins++[AX.mk (BN (AK q.e1 48)) ({ data := #[80,49] }:ByteArray)]),b.Nets.getD 1 default,b.Nets.getD 2 default] (AH b) b.Vias (Ah b) (Ai b) (Ag b) (AP b) (AR b) b.Waivers (AM b)) else (bif decide (((Int.tmod (AK q.e2 64) ((3:Nat):Int)).toNat:Nat)=1) then (AC.mk b.Layers (Ak b.Outline) b.Parts [b.Nets.getD 0 default,BA.mk (b.Nets.getD 1 default).Name ((b.Nets.getD 1 default).Pins++[AX.mk (BN (AK q.e1 48)) ({ data := #[80,49] }:ByteArray)]),b.Nets.getD 2 default] (AH b) b.Vias (Ah b) (Ai b) (Ag b) (AP b) (AR b) b.Waivers (AM b)) else (AC.mk b.Layers (Ak b.Outline) b.Parts [b.Nets.getD 0 default,b.Nets.getD 1 default,BA.mk (b.Nets.getD 2 default).Name ((b.Nets.getD 2 default).Pins++[AX.mk (BN (AK q.e1 48)) ({ data := #[80,49] }:ByteArray)])] (AH b) b.Vias (Ah b) (Ai b) (Ag b) (AP b) (AR b) b.Waivers (AM b)))
def cOddN:CT:=(7,(OL b q),.val [] (.av (.agg (AC.c (L6 b q)))))
abbrev Ka (t_:List (Nat×Blk)):List (Nat×Blk):=(4,Z9x)::(5,Z9M b)::(26,Z9y b)::(30,Z9B b)::(34,Z9H b)::t_
abbrev Xf:List (Nat×Blk):=(Ka b [(200102,Z9A b),(200104,Z9C b),(200106,Z9D b),(200108,Z9E b),(200110,Z9F b),(200112,Z9I b),(200114,Z9G b),(200260,Z9z b),(200261,Z9J b),(200262,Z9K b),(200263,Z9L b)])
abbrev Rs:List (Nat×Tv):=(B1 q [(EK q)])
abbrev MK (t_:List (Nat×Blk)):List (Nat×Blk):=(4,Z9M b)::(26,Z9y b)::(30,Z9B b)::(34,Z9H b)::(200102,Z9A b)::(200104,Z9C b)::(200106,Z9D b)::(200108,Z9E b)::(200110,Z9F b)::(200112,Z9I b)::(200114,Z9G b)::t_
theorem au17 {p:Prop} (h:p:=by first | (with_reducible exact hc) | (with_reducible exact hlen) | (with_reducible exact hN) | (with_reducible exact hK) | (with_reducible exact hN.1) | (with_reducible exact hK.1) | with_reducible assumption | omega | decide | (simp only [List.length_cons,List.length_nil,List.length_append];omega) | assumption):p:=h
set_option maxHeartbeats 40000000 in
theorem pOddN (b:AC) (q:DM) (hc:CW b) (hq:AK q.e0 26=7) (hlen:(b.Nets.length:Int)=3):PuP 7 (cOddN b q).2.1 (.av (.agg (AC.c (L6 b q)))):=by
 refine pwf Tryz.func7 fun W0 M0 => ?_
 have hl0:=hc.lParts
 have hl1:=hc.lNets
 have hl2:=hc.lTracks
 have hl3:=hc.lVias
 have hl4:=hc.lPours
 have hl5:=hc.lKeeps
 have hl6:=hc.lSlots
 have hl7:=hc.lClasses
 have hl8:=hc.lWaivers
 have hl9:=hc.lMatches
 have hl10:=hc.lRules
 have hN:0<=AK q.e1 48/\AK q.e1 48<48:=I9 _ _ (by decide) (by decide)
 have hK0:=I9 q.e2 64 (by decide) (by decide)
 have hK:0<=AK q.e2 64/\AK q.e2 64<64:=hK0
 have hb0:=hc.pin 0
 have hb1:=hc.pin 1
 have hb2:=hc.pin 2
 refine AA<|rn ⟨Oc,[(2,.cells (AC.c b) 40),(FV q),(4,Z9x)]⟩<|AA ?_
 refine Dm ?_
 refine Fw Dh 1 [] [] [] [3,4,11] [3,4] [] ⟨(Oi b),[(FV q),(4,Z9x)]⟩ .nil kr .nil ?_
 refine H8 (ι:=Unit) (I:=fun _=>True) (fun _=>⟨[(3,tP 3 0),(4,tP 4 0),(Of b),(12,.av (.agg (SN b)))],[(26,Z9y b),(200260,Z9z b),(200102,Z9A b),(30,Z9B b),(200104,Z9C b),(200106,Z9D b),(200108,Z9E b),(200110,Z9F b),(200114,Z9G b),(34,Z9H b),(200112,Z9I b),(200261,Z9J b),(200262,Z9K b),(200263,Z9L b),(FV q),(4,Z9x)]⟩) hk0 ⟨⟨_,_,rfl,rfl,⟨fun _=>default,by kernel_rfl⟩,by kernel_rfl⟩,fun _ _=>by kernel_rfl,rfl,rfl⟩ (qCyN3 b au17 au17) (fun _=>by kernel_rfl) (fun _=>by kernel_rfl) (fun _ _ => ?_)
 refine En Dh [] [] [] [3,4,5] [3,4,5,26,30,34,200102,200104,200106,200108,200110,200112,200114,200260,200261,200262,200263] [] ⟨Ob,[(FV q),(4,Z9x),(5,Z9M b),(26,Z9y b),(30,Z9B b),(34,Z9H b),(200102,Z9A b),(200104,Z9C b),(200106,Z9D b),(200108,Z9E b),(200110,Z9F b),(200112,Z9I b),(200114,Z9G b),(200260,Z9z b),(200261,Z9J b),(200262,Z9K b),(200263,Z9L b)]⟩ .nil kr .nil<|AG<|AA ?_
 refine oc [(15,Ez q.e1 48)] [0<=(1:Int)/\(1:Int)<(3:Int),Ay (Ez q.e1 48).2.1] (.cons (Gr q.e1 48 au17) .nil) (.cons (by decide) (.cons rfl .nil))<|AG<|AA ?_
 refine oc [(18,Ez q.e2 64)] [0<=(2:Int)/\(2:Int)<(3:Int),Ay (Ez q.e2 64).2.1] (.cons (Gr q.e2 64 au17) .nil) (.cons (by decide) (.cons rfl .nil))<|AG ?_
 refine AA<|AA ?_
 refine rc [(21,Ez q.e0 26)] [0<=(0:Int)/\(0:Int)<(3:Int),Ay (Ez q.e0 26).2.1] ⟨[(4,tP 4 0),(5,tP 5 0),(6,tI (AK q.e1 48)),(7,tI (AK q.e2 64)),(21,tI (AK q.e0 26))],[(4,Z9x),(5,Z9M b),(26,Z9y b),(30,Z9B b),(34,Z9H b),(200102,Z9A b),(200104,Z9C b),(200106,Z9D b),(200108,Z9E b),(200110,Z9F b),(200112,Z9I b),(200114,Z9G b),(200260,Z9z b),(200261,Z9J b),(200262,Z9K b),(200263,Z9L b)]⟩ (.cons (Gr q.e0 26 au17) .nil) (.cons (by decide) (.cons rfl .nil)) ?_
 (try rw [hq])
 refine AG<|AQ<|AA ?_
 refine on ?_
 refine Ar kr<|AA ?_
 refine on ?_
 refine Ar kr<|AA ?_
 refine on ?_
 refine Ar kr<|AA ?_
 refine on ?_
 refine Ar kr<|AA ?_
 refine on ?_
 refine Ar kr<|AA ?_
 refine rn ⟨(B1 q [(21,tI 7),(101,tB false)]),(Xf b)⟩ ?_
 refine Ar kr<|AA ?_
 refine on ?_
 refine Ar kr<|AA ?_
 refine on ?_
 refine CN kr<|AA ?_
 refine rn ⟨(B1 q [(145,tB (decide ((0:Int)<((3:Nat):Int))))]),(Xf b)⟩ ?_
 have h1:(decide ((0:Int)<((3:Nat):Int)))=true:=(by decide)
 have g1:=oT h1
 refine AO _ rfl (fun _ => ?_) (fun h=>absurd (h1.symm.trans h) (by decide))
 refine AA<|dw [] [] [(((3:Nat):Int):Int)≠0,0<=(Int.tmod (AK q.e2 64) ((3:Nat):Int):Int)/\(Int.tmod (AK q.e2 64) ((3:Nat):Int):Int)<((3:Nat):Int)] ⟨[(4,tP 4 0),(5,tP 5 0),(QH q),(8,.av (.one (.rptr 200260 2 (Int.tmod (AK q.e2 64) ((3:Nat):Int)).toNat 0)))],(Xf b)⟩ .nil (.cons au14 (.cons (by first | decide | omega | (have:=tmb hK.1 (n:=((3:Nat):Int)) (by decide);omega)) .nil))<|AG ?_
 refine Nb (decide (((Int.tmod (AK q.e2 64) ((3:Nat):Int)).toNat:Nat)=0)) (fun h2 => ?_) (fun h2 => ?_)
 ·have g2:=oT h2
  (try rw [g2])
  refine dw [] [(160,Ch (AK q.e1 48))] [Ay (Ch (AK q.e1 48)).2.1,(b.Nets.getD 0 default).Pins.length=(b.Nets.getD 0 default).Pins.length,(b.Nets.getD 0 default).Pins.length+1<=maxLen,((b.Nets.getD 0 default).Pins.length+1)*32<=140737488355328] ⟨E4,(Ka b [(163,.row 2 ((Df b).Pins.length+1) (fun i_ j_=>if i_<(Df b).Pins.length then (AU AX.c (Df b).Pins) i_ j_ else (BB 2 1 [.s (DX q),.s ({ data := #[80,49] }:ByteArray)]) (i_-(Df b).Pins.length) j_) 65),(200102,Z9A b),(200104,Z9C b),(200106,Z9D b),(200108,Z9E b),(200110,Z9F b),(200112,Z9I b),(200114,Z9G b),(200260,.rowx 2 3 (fun i_ j_=>if i_<2 then (fun i_ j_=>if i_<1 then (fun _ _=>default) i_ j_ else (fun _ _=>default) (i_-1) j_) i_ j_ else (fun _ _=>default) (i_-2) j_) 84 [(0,[.s (Df b).Name,.own 163 2 ((Df b).Pins.length+1)]),(1,(Kq b)),(2,(Ko b))]),(200262,Z9K b),(200263,Z9L b)])⟩ (.cons (EO (AK q.e1 48) au17) .nil) (.cons rfl (.cons rfl (.cons au9 (.cons au9 .nil))))<|A3<|AG ?_
  refine Ap (Cv.trans (DH (⟨E4,(Ka b [(163,Z9N b q),(200102,Z9A b),(200104,Z9C b),(200106,Z9D b),(200108,Z9E b),(200110,Z9F b),(200112,Z9I b),(200114,Z9G b),(200260,Z9O b q),(200262,Z9K b),(200263,Z9L b)])⟩) lr (.cons ⟨rfl,.refl _⟩ (.cons ⟨rfl,.refl _⟩ (.cons ⟨rfl,.refl _⟩ (.cons ⟨rfl,.refl _⟩ (.cons ⟨rfl,.refl _⟩ (.cons ⟨rfl,Ce 65 (Au (Am 2 AX.c (b.Nets.getD 0 default).Pins) (Bd (c:=AX.c) (xs:=([AX.mk (BN (AK q.e1 48)) ({ data := #[80,49] }:ByteArray)]:List AX)) rfl kr))⟩ (.cons ⟨rfl,.refl _⟩ (.cons ⟨rfl,.refl _⟩ (.cons ⟨rfl,.refl _⟩ (.cons ⟨rfl,.refl _⟩ (.cons ⟨rfl,.refl _⟩ (.cons ⟨rfl,.refl _⟩ (.cons ⟨rfl,.refl _⟩ (.cons ⟨rfl,.rowx _ _ _ _ (.cons ⟨rfl,(rr (.cons (.own _ _ au16) .nil))⟩ (.cons ⟨rfl,(rr2 .nil)⟩ (.cons ⟨rfl,(rr2 .nil)⟩ .nil)))⟩ lr))))))))))))))) (Cv.refl _))<|AA ?_
  refine rn ⟨[(4,tP 4 0)],[(4,Z9M b),(26,Z9y b),(30,Z9B b),(34,Z9H b),(163,Z9N b q),(200102,Z9A b),(200104,Z9C b),(200106,Z9D b),(200108,Z9E b),(200110,Z9F b),(200112,Z9I b),(200114,Z9G b),(200260,Z9O b q),(200262,Z9K b),(200263,Z9L b)]⟩<|AY ?_
  exact zy (Cv.trans (vf 163 hk0) (Cv.trans (vf 200262 hk0) (Cv.trans (H6 (⟨[(4,tP 4 0)],(MK b [(200260,.rowx 2 3 (fun i_ j_=>if i_<2 then (fun i_ j_=>if i_<1 then (fun _ _=>default) i_ j_ else (fun _ _=>default) (i_-1) j_) i_ j_ else (fun _ _=>default) (i_-2) j_) 84 [(0,[.s (Df b).Name,lst 2 AX.c ((Df b).Pins++[AX.mk (DX q) ({ data := #[80,49] }:ByteArray)])]),(1,(BA.c (De b))),(2,(BA.c (Dd b)))])])⟩) 200263 hk0) (Cv.trans (HK (⟨[(4,tP 4 0)],(MK b [(200260,.row 2 3 (BB 2 3 [.s (Df b).Name,lst 2 AX.c ((Df b).Pins++[AX.mk (DX q) ({ data := #[80,49] }:ByteArray)]),.s (De b).Name,lst 2 AX.c (De b).Pins,.s (Dd b).Name,lst 2 AX.c (Dd b).Pins]) 84)])⟩) 200260 2 3 (fun i_ j_=>if i_<2 then (fun i_ j_=>if i_<1 then (fun _ _=>default) i_ j_ else (fun _ _=>default) (i_-1) j_) i_ j_ else (fun _ _=>default) (i_-2) j_) 84 [[.s (b.Nets.getD 0 default).Name,lst 2 AX.c ((b.Nets.getD 0 default).Pins++[AX.mk (BN (AK q.e1 48)) ({ data := #[80,49] }:ByteArray)])],(BA.c (b.Nets.getD 1 default)),(BA.c (b.Nets.getD 2 default))] kr kr kr kr) (Cv.trans (A2 200260 (A0 2 BA.c ([BA.mk (b.Nets.getD 0 default).Name ((b.Nets.getD 0 default).Pins++[AX.mk (BN (AK q.e1 48)) ({ data := #[80,49] }:ByteArray)]),b.Nets.getD 1 default,b.Nets.getD 2 default]:List BA))) (Cv.trans (B5 [26,200260,200102,30,200104,200106,200108,200110,200114,34,200112] hk0) (Cv.refl _))))))) (by simp only [L6,h1,h2,cond_true,cond_false] <;> kernel_rfl)
 have g2:=oF h2
 refine Nb (decide (((Int.tmod (AK q.e2 64) ((3:Nat):Int)).toNat:Nat)=1)) (fun h3 => ?_) (fun h3 => ?_)
 ·have g3:=oT h3
  (try rw [g3])
  refine dw [] [(160,Ch (AK q.e1 48))] [Ay (Ch (AK q.e1 48)).2.1,(b.Nets.getD 1 default).Pins.length=(b.Nets.getD 1 default).Pins.length,(b.Nets.getD 1 default).Pins.length+1<=maxLen,((b.Nets.getD 1 default).Pins.length+1)*32<=140737488355328] ⟨E4,(Ka b [(163,.row 2 ((De b).Pins.length+1) (fun i_ j_=>if i_<(De b).Pins.length then (AU AX.c (De b).Pins) i_ j_ else (BB 2 1 [.s (DX q),.s ({ data := #[80,49] }:ByteArray)]) (i_-(De b).Pins.length) j_) 65),(200102,Z9A b),(200104,Z9C b),(200106,Z9D b),(200108,Z9E b),(200110,Z9F b),(200112,Z9I b),(200114,Z9G b),(200260,.rowx 2 3 (fun i_ j_=>if i_<2 then (fun i_ j_=>if i_<1 then (fun _ _=>default) i_ j_ else (fun _ _=>default) (i_-1) j_) i_ j_ else (fun _ _=>default) (i_-2) j_) 84 [(0,(Kr b)),(1,[.s (De b).Name,.own 163 2 ((De b).Pins.length+1)]),(2,(Ko b))]),(200261,Z9J b),(200263,Z9L b)])⟩ (.cons (EO (AK q.e1 48) au17) .nil) (.cons rfl (.cons rfl (.cons au9 (.cons au9 .nil))))<|A3<|AG ?_
  refine Ap (Cv.trans (DH (⟨E4,(Ka b [(163,Z9P b q),(200102,Z9A b),(200104,Z9C b),(200106,Z9D b),(200108,Z9E b),(200110,Z9F b),(200112,Z9I b),(200114,Z9G b),(200260,Z9Q b q),(200261,Z9J b),(200263,Z9L b)])⟩) lr (.cons ⟨rfl,.refl _⟩ (.cons ⟨rfl,.refl _⟩ (.cons ⟨rfl,.refl _⟩ (.cons ⟨rfl,.refl _⟩ (.cons ⟨rfl,.refl _⟩ (.cons ⟨rfl,Ce 65 (Au (Am 2 AX.c (b.Nets.getD 1 default).Pins) (Bd (c:=AX.c) (xs:=([AX.mk (BN (AK q.e1 48)) ({ data := #[80,49] }:ByteArray)]:List AX)) rfl kr))⟩ (.cons ⟨rfl,.refl _⟩ (.cons ⟨rfl,.refl _⟩ (.cons ⟨rfl,.refl _⟩ (.cons ⟨rfl,.refl _⟩ (.cons ⟨rfl,.refl _⟩ (.cons ⟨rfl,.refl _⟩ (.cons ⟨rfl,.refl _⟩ (.cons ⟨rfl,.rowx _ _ _ _ (.cons ⟨rfl,(rr2 .nil)⟩ (.cons ⟨rfl,(rr (.cons (.own _ _ au16) .nil))⟩ (.cons ⟨rfl,(rr2 .nil)⟩ .nil)))⟩ lr))))))))))))))) (Cv.refl _))<|AA ?_
  refine rn ⟨[(4,tP 4 0)],[(4,Z9M b),(26,Z9y b),(30,Z9B b),(34,Z9H b),(163,Z9P b q),(200102,Z9A b),(200104,Z9C b),(200106,Z9D b),(200108,Z9E b),(200110,Z9F b),(200112,Z9I b),(200114,Z9G b),(200260,Z9Q b q),(200261,Z9J b),(200263,Z9L b)]⟩<|AY ?_
  exact zy (Cv.trans (vf 200261 hk0) (Cv.trans (vf 163 hk0) (Cv.trans (H6 (⟨[(4,tP 4 0)],(MK b [(200260,.rowx 2 3 (fun i_ j_=>if i_<2 then (fun i_ j_=>if i_<1 then (fun _ _=>default) i_ j_ else (fun _ _=>default) (i_-1) j_) i_ j_ else (fun _ _=>default) (i_-2) j_) 84 [(0,(BA.c (Df b))),(1,[.s (De b).Name,lst 2 AX.c ((De b).Pins++[AX.mk (DX q) ({ data := #[80,49] }:ByteArray)])]),(2,(BA.c (Dd b)))])])⟩) 200263 hk0) (Cv.trans (HK (⟨[(4,tP 4 0)],(MK b [(200260,.row 2 3 (BB 2 3 [.s (Df b).Name,lst 2 AX.c (Df b).Pins,.s (De b).Name,lst 2 AX.c ((De b).Pins++[AX.mk (DX q) ({ data := #[80,49] }:ByteArray)]),.s (Dd b).Name,lst 2 AX.c (Dd b).Pins]) 84)])⟩) 200260 2 3 (fun i_ j_=>if i_<2 then (fun i_ j_=>if i_<1 then (fun _ _=>default) i_ j_ else (fun _ _=>default) (i_-1) j_) i_ j_ else (fun _ _=>default) (i_-2) j_) 84 [(BA.c (b.Nets.getD 0 default)),[.s (b.Nets.getD 1 default).Name,lst 2 AX.c ((b.Nets.getD 1 default).Pins++[AX.mk (BN (AK q.e1 48)) ({ data := #[80,49] }:ByteArray)])],(BA.c (b.Nets.getD 2 default))] kr kr kr kr) (Cv.trans (A2 200260 (A0 2 BA.c ([b.Nets.getD 0 default,BA.mk (b.Nets.getD 1 default).Name ((b.Nets.getD 1 default).Pins++[AX.mk (BN (AK q.e1 48)) ({ data := #[80,49] }:ByteArray)]),b.Nets.getD 2 default]:List BA))) (Cv.trans (B5 [26,200260,200102,30,200104,200106,200108,200110,200114,34,200112] hk0) (Cv.refl _))))))) (by simp only [L6,h1,h2,h3,cond_true,cond_false] <;> kernel_rfl)
 have g3:=oF h3
 have g4:((Int.tmod (AK q.e2 64) ((3:Nat):Int)).toNat:Nat)=2:=(by have:=tmb hK.1 (n:=((3:Nat):Int)) (by decide);omega)
 (try rw [g4])
 refine dw [] [(160,Ch (AK q.e1 48))] [Ay (Ch (AK q.e1 48)).2.1,(b.Nets.getD 2 default).Pins.length=(b.Nets.getD 2 default).Pins.length,(b.Nets.getD 2 default).Pins.length+1<=maxLen,((b.Nets.getD 2 default).Pins.length+1)*32<=140737488355328] ⟨E4,(Ka b [(163,.row 2 ((Dd b).Pins.length+1) (fun i_ j_=>if i_<(Dd b).Pins.length then (AU AX.c (Dd b).Pins) i_ j_ else (BB 2 1 [.s (DX q),.s ({ data := #[80,49] }:ByteArray)]) (i_-(Dd b).Pins.length) j_) 65),(200102,Z9A b),(200104,Z9C b),(200106,Z9D b),(200108,Z9E b),(200110,Z9F b),(200112,Z9I b),(200114,Z9G b),(200260,.rowx 2 3 (fun i_ j_=>if i_<2 then (fun i_ j_=>if i_<1 then (fun _ _=>default) i_ j_ else (fun _ _=>default) (i_-1) j_) i_ j_ else (fun _ _=>default) (i_-2) j_) 84 [(0,(Kr b)),(1,(Kq b)),(2,[.s (Dd b).Name,.own 163 2 ((Dd b).Pins.length+1)])]),(200261,Z9J b),(200262,Z9K b)])⟩ (.cons (EO (AK q.e1 48) au17) .nil) (.cons rfl (.cons rfl (.cons au9 (.cons au9 .nil))))<|A3<|AG ?_
 refine Ap (Cv.trans (DH (⟨E4,(Ka b [(163,Z9R b q),(200102,Z9A b),(200104,Z9C b),(200106,Z9D b),(200108,Z9E b),(200110,Z9F b),(200112,Z9I b),(200114,Z9G b),(200260,Z9S b q),(200261,Z9J b),(200262,Z9K b)])⟩) lr (.cons ⟨rfl,.refl _⟩ (.cons ⟨rfl,.refl _⟩ (.cons ⟨rfl,.refl _⟩ (.cons ⟨rfl,.refl _⟩ (.cons ⟨rfl,.refl _⟩ (.cons ⟨rfl,Ce 65 (Au (Am 2 AX.c (b.Nets.getD 2 default).Pins) (Bd (c:=AX.c) (xs:=([AX.mk (BN (AK q.e1 48)) ({ data := #[80,49] }:ByteArray)]:List AX)) rfl kr))⟩ (.cons ⟨rfl,.refl _⟩ (.cons ⟨rfl,.refl _⟩ (.cons ⟨rfl,.refl _⟩ (.cons ⟨rfl,.refl _⟩ (.cons ⟨rfl,.refl _⟩ (.cons ⟨rfl,.refl _⟩ (.cons ⟨rfl,.refl _⟩ (.cons ⟨rfl,.rowx _ _ _ _ (.cons ⟨rfl,(rr2 .nil)⟩ (.cons ⟨rfl,(rr2 .nil)⟩ (.cons ⟨rfl,(rr (.cons (.own _ _ au16) .nil))⟩ .nil)))⟩ lr))))))))))))))) (Cv.refl _))<|AA ?_
 refine rn ⟨[(4,tP 4 0)],[(4,Z9M b),(26,Z9y b),(30,Z9B b),(34,Z9H b),(163,Z9R b q),(200102,Z9A b),(200104,Z9C b),(200106,Z9D b),(200108,Z9E b),(200110,Z9F b),(200112,Z9I b),(200114,Z9G b),(200260,Z9S b q),(200261,Z9J b),(200262,Z9K b)]⟩<|AY ?_
 exact zy (Cv.trans (vf 200261 hk0) (Cv.trans (vf 200262 hk0) (Cv.trans (H6 (⟨[(4,tP 4 0)],(MK b [(200260,.rowx 2 3 (fun i_ j_=>if i_<2 then (fun i_ j_=>if i_<1 then (fun _ _=>default) i_ j_ else (fun _ _=>default) (i_-1) j_) i_ j_ else (fun _ _=>default) (i_-2) j_) 84 [(0,(BA.c (Df b))),(1,(BA.c (De b))),(2,[.s (Dd b).Name,lst 2 AX.c ((Dd b).Pins++[AX.mk (DX q) ({ data := #[80,49] }:ByteArray)])])])])⟩) 163 hk0) (Cv.trans (HK (⟨[(4,tP 4 0)],(MK b [(200260,.row 2 3 (BB 2 3 [.s (Df b).Name,lst 2 AX.c (Df b).Pins,.s (De b).Name,lst 2 AX.c (De b).Pins,.s (Dd b).Name,lst 2 AX.c ((Dd b).Pins++[AX.mk (DX q) ({ data := #[80,49] }:ByteArray)])]) 84)])⟩) 200260 2 3 (fun i_ j_=>if i_<2 then (fun i_ j_=>if i_<1 then (fun _ _=>default) i_ j_ else (fun _ _=>default) (i_-1) j_) i_ j_ else (fun _ _=>default) (i_-2) j_) 84 [(BA.c (b.Nets.getD 0 default)),(BA.c (b.Nets.getD 1 default)),[.s (b.Nets.getD 2 default).Name,lst 2 AX.c ((b.Nets.getD 2 default).Pins++[AX.mk (BN (AK q.e1 48)) ({ data := #[80,49] }:ByteArray)])]] kr kr kr kr) (Cv.trans (A2 200260 (A0 2 BA.c ([b.Nets.getD 0 default,b.Nets.getD 1 default,BA.mk (b.Nets.getD 2 default).Name ((b.Nets.getD 2 default).Pins++[AX.mk (BN (AK q.e1 48)) ({ data := #[80,49] }:ByteArray)])]:List BA))) (Cv.trans (B5 [26,200260,200102,30,200104,200106,200108,200110,200114,34,200112] hk0) (Cv.refl _))))))) (by simp only [L6,h1,h2,h3,cond_true,cond_false] <;> kernel_rfl)
end
section
open Go.RowKit
def Z9T:Blk:=.cells Gg 40
variable (b:AC) (v:Nat->Value)
abbrev bD:List Cl:=(Cr v [vN,.val (v 9),.val (v 10),.val (v 11),.val (v 12),.val (v 13),.val (v 14)])
def Z9U:Blk:=.cells (bD v) 40
abbrev Eu:=b.Pours.getD 0 default
abbrev JQ:=AU Al.c (Eu b).Rects
def Z9V:Blk:=.row 4 (Eu b).Rects.length (JQ b) 74
abbrev IK (t_:List Cl):List Cl:=(.i (Eu b).Id)::(.s (Eu b).Net)::(.i (Eu b).Layer)::(.i (Eu b).Pitch)::(.i (Eu b).Priority)::(.i (Eu b).Relief)::(.i (Eu b).Spoke)::t_
abbrev aV:List Cl:=(IK b [.own 100 4 (Eu b).Rects.length])
def Z9W:Blk:=.rowx 8 1 (fun _ _=>default) 92 [(0,(aV b))]
abbrev bI:List Cl:=(Cr v [.own 106 8 1,.val (v 9),.val (v 10),.val (v 11),.val (v 12),.val (v 13),.val (v 14)])
def Z9X:Blk:=.cells (bI v) 40
abbrev SK:List Cl:=(IK b [.own 100000 4 (Eu b).Rects.length])
def Z9Y:Blk:=.rowx 8 1 (fun _ _=>default) 92 [(0,(SK b))]
abbrev bJ:List Cl:=(Cr v [.own 100001 8 1,.val (v 9),.val (v 10),.val (v 11),.val (v 12),.val (v 13),.val (v 14)])
def Z9Z:Blk:=.cells (bJ v) 40
abbrev Cq:=b.Pours.getD 1 default
def Za0:Blk:=.row 4 (Cq b).Rects.length (AU Al.c (Cq b).Rects) 74
abbrev MJ (t_:List Cl):List Cl:=(.i (Cq b).Id)::(.s (Cq b).Net)::(.i (Cq b).Layer)::(.i (Cq b).Pitch)::(.i (Cq b).Priority)::(.i (Cq b).Relief)::(.i (Cq b).Spoke)::t_
def Za1:Blk:=.rowx 8 2 (fun i_ j_=>if i_<1 then (fun _ _=>default) i_ j_ else (fun _ _=>default) (i_-1) j_) 92 [(0,(SK b)),(1,(MJ b [.own 100 4 (Cq b).Rects.length]))]
def Za2:Blk:=.cells (Cr v [.own 106 8 2,.val (v 9),.val (v 10),.val (v 11),.val (v 12),.val (v 13),.val (v 14)]) 40
def Za3:Blk:=.rowx 8 2 (fun i_ j_=>if i_<1 then (fun _ _=>default) i_ j_ else (fun _ _=>default) (i_-1) j_) 92 [(0,(SK b)),(1,(MJ b [.own 100002 4 (Cq b).Rects.length]))]
def Za4:Blk:=.cells (Cr v [.own 100003 8 2,.val (v 9),.val (v 10),.val (v 11),.val (v 12),.val (v 13),.val (v 14)]) 40
def Za5:Blk:=.cells (Cr v [.own 200340 8 2,.val (v 9),.val (v 10),.val (v 11),.val (v 12),.val (v 13),.val (v 14)]) 40
abbrev Ok:List Cl:=(MJ b [.own 200342 4 (Cq b).Rects.length])
abbrev Oj:List Cl:=(IK b [.own 200341 4 (Eu b).Rects.length])
def Za6:Blk:=.rowx 8 2 (fun i_ j_=>if i_<1 then (fun _ _=>default) i_ j_ else (fun _ _=>default) (i_-1) j_) 92 [(0,(Oj b)),(1,(Ok b))]
abbrev sCxP2 (b:AC) (v:Nat->Value):AS:=⟨Bn,[(200003,Za5 v),(B9 b),(200002,Z9T),(200340,Za6 b),(200341,Z9V b),(200342,Za0 b)]⟩
set_option maxHeartbeats 4000000 in
theorem gCxP2 (b:AC) (hc:CW b) (hlen:(b.Pours.length:Int)=2) {c:Code} (hpc:Tryz.f21.body.bind (F6 [true,true,true,true,false,true])=some c):Np Tryz.prog 229 [200003,200001,200002] c (fun _:Unit=>True) (fun v=>⟨[(1,tP 200001 0),(2,tP 200002 0),(3,tP 200003 0),(7,tI 0)],[(200003,.cells [.val (v 0),.val (v 1),.val (v 2),.val (v 3),.val (v 4),.val (v 5),.val (v 6),.val (v 7),vN,.val (v 9),.val (v 10),.val (v 11),.val (v 12),.val (v 13),.val (v 14)] 40),(200001,.cells (AC.c b) 40),(200002,.cells [.i 0,.i 0,vN,.i 0,vN,vN,vN,vN,vN,vN,vN,vN,vN,vN,vN] 40)]⟩) (fun v _=>sCxP2 b v):=by
 cases hpc
 intro W0 M0 X v hP hFl
 show AWp _ _ _ _ _ _ _ _ ⟨[(1,tP 200001 0),(2,tP 200002 0),(3,tP 200003 0),(7,tI 0)],[(200003,.cells [.val (v 0),.val (v 1),.val (v 2),.val (v 3),.val (v 4),.val (v 5),.val (v 6),.val (v 7),vN,.val (v 9),.val (v 10),.val (v 11),.val (v 12),.val (v 13),.val (v 14)] 40),(200001,.cells (AC.c b) 40),(200002,.cells [.i 0,.i 0,vN,.i 0,vN,vN,vN,vN,vN,vN,vN,vN,vN,vN,vN] 40)]⟩
 have h0:=hc.lParts
 have h1:=hc.lNets
 have h2:=hc.lTracks
 have h3:=hc.lVias
 have h4:=hc.lPours
 have h5:=hc.lKeeps
 have h6:=hc.lSlots
 have h7:=hc.lClasses
 have h8:=hc.lWaivers
 have h9:=hc.lMatches
 have h10:=hc.lRules
 have hr:=hc.rok
 have hb0:=hc.rec' 0
 have hb1:=hc.rec' 1
 refine AQ ?_
 refine Di 3 ?_
 refine Bu<|AA<|AA ?_
 refine rn ⟨[(1,tP 200001 0),(2,tP 200002 0),(3,tP 200003 0),(7,tI 0),(89,tB (decide ((0:Int)<(b.Pours.length:Int))))],[(200001,.cells (AC.c b) 40),(200002,Z9T),(200003,Z9U v)]⟩ ?_
 have h1:(decide ((0:Int)<(b.Pours.length:Int)))=true:=(by rw [hlen];decide)
 have g1:=oT h1
 refine AO _ rfl (fun _ => ?_) (fun h=>absurd (h1.symm.trans h) (by decide))
 refine AZ<|AG ?_
 refine AA<|AQ<|AA ?_
 refine rc [] [0<=(0:Int)/\(0:Int)<((b.Pours.length:Nat):Int)] ⟨[(1,tP 200001 0),(2,tP 200002 0),(3,tP 200003 0),(7,tI 0),(8,tP 8 0)],[(8,.cells (A8.c (b.Pours.getD 0 default)) 92),(200001,.cells (AC.c b) 40),(200002,Z9T),(200003,Z9U v)]⟩ .nil (.cons (by first | decide | omega | (rw [hlen];decide) | (rw [show (b.Pours.length:Int)=2 from hlen];decide)) .nil)<|AG<|AA ?_
 refine DP Dh [97] [] [] [1,2,3,7,8] [8,100,200001,200002,200003] [0=0,0+(b.Pours.getD 0 default).Rects.length<=maxLen,(0+(b.Pours.getD 0 default).Rects.length)*32<=140737488355328] ⟨[(1,tP 200001 0),(2,tP 200002 0),(3,tP 200003 0),(7,tI 0),(8,tP 8 0)],[(8,.cells [.i (b.Pours.getD 0 default).Id,.s (b.Pours.getD 0 default).Net,.i (b.Pours.getD 0 default).Layer,.i (b.Pours.getD 0 default).Pitch,.i (b.Pours.getD 0 default).Priority,.i (b.Pours.getD 0 default).Relief,.i (b.Pours.getD 0 default).Spoke,.own 100 4 (0+(b.Pours.getD 0 default).Rects.length)] 92),(100,.row 4 (0+(b.Pours.getD 0 default).Rects.length) (fun i_ j_=>if i_<0 then (BB 4 0 []) i_ j_ else (AU Al.c (b.Pours.getD 0 default).Rects) (i_-0) j_) 74),(200001,.cells (AC.c b) 40),(200002,Z9T),(200003,Z9U v)]⟩ .nil kr (.cons rfl (.cons au9 (.cons au9 .nil)))<|AG ?_
 refine Ap (A2 100 (Au (A0 4 Al.c (([]:List Al):List Al)) (Am 4 Al.c (b.Pours.getD 0 default).Rects))) ?_
 refine oc [] [1=1,0<1,1<=maxLen,1*88<=140737488355328] .nil (.cons rfl (.cons (by decide) (.cons au9 (.cons au9 .nil))))<|A3<|AG ?_
 refine rn ⟨[(1,tP 200001 0),(2,tP 200002 0),(3,tP 200003 0),(7,tI 1)],[(100,Z9V b),(106,Z9W b),(200001,.cells (AC.c b) 40),(200002,Z9T),(200003,Z9X v)]⟩ ?_
 refine Bu ?_
 refine Ap (Cv.trans (CK (⟨[(1,tP 200001 0),(2,tP 200002 0),(3,tP 200003 0),(7,tI 1)],[(100000,Z9V b),(106,Z9Y b),(200001,.cells (AC.c b) 40),(200002,Z9T),(200003,Z9X v)]⟩) 100 100000 (K:=[200003,200001,200002]) hP rfl rfl kr kr) (Cv.trans (CK (⟨[(1,tP 200001 0),(2,tP 200002 0),(3,tP 200003 0),(7,tI 1)],[(100000,Z9V b),(100001,Z9Y b),(200001,.cells (AC.c b) 40),(200002,Z9T),(200003,Z9Z v)]⟩) 106 100001 (K:=[200003,200001,200002]) hP rfl rfl kr kr) (Cv.refl _)))<|AA<|AA ?_
 refine rn ⟨[(1,tP 200001 0),(2,tP 200002 0),(3,tP 200003 0),(7,tI 1),(89,tB (decide ((1:Int)<(b.Pours.length:Int))))],[(100000,Z9V b),(100001,Z9Y b),(200001,.cells (AC.c b) 40),(200002,Z9T),(200003,Z9Z v)]⟩ ?_
 have h2:(decide ((1:Int)<(b.Pours.length:Int)))=true:=(by rw [hlen];decide)
 have g2:=oT h2
 refine AO _ rfl (fun _ => ?_) (fun h=>absurd (h2.symm.trans h) (by decide))
 refine AZ<|AG ?_
 refine AA<|AQ<|AA ?_
 refine rc [] [0<=(1:Int)/\(1:Int)<((b.Pours.length:Nat):Int)] ⟨[(1,tP 200001 0),(2,tP 200002 0),(3,tP 200003 0),(7,tI 1),(8,tP 8 0)],[(8,.cells (A8.c (b.Pours.getD 1 default)) 92),(100000,Z9V b),(100001,Z9Y b),(200001,.cells (AC.c b) 40),(200002,Z9T),(200003,Z9Z v)]⟩ .nil (.cons (by first | decide | omega | (rw [hlen];decide) | (rw [show (b.Pours.length:Int)=2 from hlen];decide)) .nil)<|AG<|AA ?_
 refine DP Dh [97] [] [] [1,2,3,7,8] [8,100,100000,100001,200001,200002,200003] [0=0,0+(b.Pours.getD 1 default).Rects.length<=maxLen,(0+(b.Pours.getD 1 default).Rects.length)*32<=140737488355328] ⟨[(1,tP 200001 0),(2,tP 200002 0),(3,tP 200003 0),(7,tI 1),(8,tP 8 0)],[(8,.cells [.i (b.Pours.getD 1 default).Id,.s (b.Pours.getD 1 default).Net,.i (b.Pours.getD 1 default).Layer,.i (b.Pours.getD 1 default).Pitch,.i (b.Pours.getD 1 default).Priority,.i (b.Pours.getD 1 default).Relief,.i (b.Pours.getD 1 default).Spoke,.own 100 4 (0+(b.Pours.getD 1 default).Rects.length)] 92),(100,.row 4 (0+(b.Pours.getD 1 default).Rects.length) (fun i_ j_=>if i_<0 then (BB 4 0 []) i_ j_ else (AU Al.c (b.Pours.getD 1 default).Rects) (i_-0) j_) 74),(100000,Z9V b),(100001,Z9Y b),(200001,.cells (AC.c b) 40),(200002,Z9T),(200003,Z9Z v)]⟩ .nil kr (.cons rfl (.cons au9 (.cons au9 .nil)))<|AG ?_
 refine Ap (A2 100 (Au (A0 4 Al.c (([]:List Al):List Al)) (Am 4 Al.c (b.Pours.getD 1 default).Rects))) ?_
 refine oc [] [1=1,1=1,0<1,1+1<=maxLen,(1+1)*88<=140737488355328] .nil (.cons rfl (.cons rfl (.cons (by decide) (.cons au9 (.cons au9 .nil)))))<|A3<|AG ?_
 refine rn ⟨[(1,tP 200001 0),(2,tP 200002 0),(3,tP 200003 0),(7,tI 2)],[(100,Za0 b),(106,Za1 b),(100000,Z9V b),(200001,.cells (AC.c b) 40),(200002,Z9T),(200003,Za2 v)]⟩ ?_
 refine Bu ?_
 refine Ap (Cv.trans (CK (⟨[(1,tP 200001 0),(2,tP 200002 0),(3,tP 200003 0),(7,tI 2)],[(100002,Za0 b),(106,Za3 b),(100000,Z9V b),(200001,.cells (AC.c b) 40),(200002,Z9T),(200003,Za2 v)]⟩) 100 100002 (K:=[200003,200001,200002]) hP rfl rfl kr kr) (Cv.trans (CK (⟨[(1,tP 200001 0),(2,tP 200002 0),(3,tP 200003 0),(7,tI 2)],[(100002,Za0 b),(100003,Za3 b),(100000,Z9V b),(200001,.cells (AC.c b) 40),(200002,Z9T),(200003,Za4 v)]⟩) 106 100003 (K:=[200003,200001,200002]) hP rfl rfl kr kr) (Cv.refl _)))<|AA<|AA ?_
 refine rn ⟨[(1,tP 200001 0),(2,tP 200002 0),(3,tP 200003 0),(7,tI 2),(89,tB (decide ((2:Int)<(b.Pours.length:Int))))],[(100000,Z9V b),(100002,Za0 b),(100003,Za3 b),(200001,.cells (AC.c b) 40),(200002,Z9T),(200003,Za4 v)]⟩ ?_
 have h3:(decide ((2:Int)<(b.Pours.length:Int)))=false:=(by rw [hlen];decide)
 have g3:=oF h3
 refine AO _ rfl (fun h=>absurd (h3.symm.trans h) (by decide)) (fun _ => ?_)
 refine BH<|A5 ?_
 refine A5<|BI ?_
 exact ⟨_,Cv.trans (CD [1,2,3] [100000,100002,100003,200001,200002,200003] (⟨[(1,tP 200001 0),(2,tP 200002 0),(3,tP 200003 0)],[(100000,Z9V b),(100002,Za0 b),(100003,Za3 b),(200001,.cells (AC.c b) 40),(200002,Z9T),(200003,Za4 v)]⟩) kr) (Cv.trans (CK (⟨[(1,tP 200001 0),(2,tP 200002 0),(3,tP 200003 0)],[(100000,Z9V b),(100002,Za0 b),(200340,Za3 b),(200001,.cells (AC.c b) 40),(200002,Z9T),(200003,Za5 v)]⟩) 100003 200340 (K:=[200003,200001,200002]) hP rfl rfl kr kr) (Cv.trans (CK (⟨[(1,tP 200001 0),(2,tP 200002 0),(3,tP 200003 0)],[(200341,Z9V b),(100002,Za0 b),(200340,.rowx 8 2 (fun i_ j_=>if i_<1 then (fun _ _=>default) i_ j_ else (fun _ _=>default) (i_-1) j_) 92 [(0,[.i (b.Pours.getD 0 default).Id,.s (b.Pours.getD 0 default).Net,.i (b.Pours.getD 0 default).Layer,.i (b.Pours.getD 0 default).Pitch,.i (b.Pours.getD 0 default).Priority,.i (b.Pours.getD 0 default).Relief,.i (b.Pours.getD 0 default).Spoke,.own 200341 4 (b.Pours.getD 0 default).Rects.length]),(1,[.i (b.Pours.getD 1 default).Id,.s (b.Pours.getD 1 default).Net,.i (b.Pours.getD 1 default).Layer,.i (b.Pours.getD 1 default).Pitch,.i (b.Pours.getD 1 default).Priority,.i (b.Pours.getD 1 default).Relief,.i (b.Pours.getD 1 default).Spoke,.own 100002 4 (b.Pours.getD 1 default).Rects.length])]),(200001,.cells (AC.c b) 40),(200002,Z9T),(200003,Za5 v)]⟩) 100000 200341 (K:=[200003,200001,200002]) hP rfl rfl kr kr) (Cv.trans (CK (⟨[(1,tP 200001 0),(2,tP 200002 0),(3,tP 200003 0)],[(200341,Z9V b),(200342,Za0 b),(200340,Za6 b),(200001,.cells (AC.c b) 40),(200002,Z9T),(200003,Za5 v)]⟩) 100002 200342 (K:=[200003,200001,200002]) hP rfl rfl kr kr) (Cv.trans (CD [1,2,3] [200003,200001,200002,200340,200341,200342] (⟨[(1,tP 200001 0),(2,tP 200002 0),(3,tP 200003 0)],[(200003,Za5 v),(200001,.cells (AC.c b) 40),(200002,Z9T),(200340,Za6 b),(200341,Z9V b),(200342,Za0 b)]⟩) kr) (Cv.refl _))))),rfl,(),trivial,rfl⟩
end
section
open Go.RowKit
def Za7:Blk:=.cells Gg 40
variable (b:AC)
def Za8:Blk:=.cells (SL b) 40
def Za9:Blk:=.row 7 b.Parts.length (IX b) 49
def Zaa:Blk:=.row 8 b.Vias.length (IM b) 89
def Zab:Blk:=.row 3 b.Waivers.length (IZ b) 104
def Zac:Blk:=.cells (Vy b) 40
def Zad:Blk:=.row 2 (Af b).length (IV b) 84
def Zae:Blk:=.cells (V3 b) 40
def Zaf:Blk:=.row 6 (AH b).length (IP b) 87
def Zag:Blk:=.cells (Cn b [.own 200340 8 2,vN,vN,vN,vN,.own 34 3 b.Waivers.length,vN]) 40
def Zah:Blk:=.rowx 8 2 (fun i_ j_=>if i_<1 then (fun _ _=>default) i_ j_ else (fun _ _=>default) (i_-1) j_) 92 [(0,(Oj b)),(1,(Ok b))]
def Zai:Blk:=.row 4 (Eu b).Rects.length (JQ b) 74
def Zaj:Blk:=.row 4 (Cq b).Rects.length (AU Al.c (Cq b).Rects) 74
abbrev RQ (t_:List Cl):List Cl:=(.own 200340 8 2)::(MC b)::t_
abbrev RL:List Cl:=[vN,vN,vN,.own 34 3 b.Waivers.length,vN]
def Zak:Blk:=.cells (Cn b (RQ b (RL b))) 40
def Zal:Blk:=.row 5 (Ai b).length (IW b) 95
abbrev RP (t_:List Cl):List Cl:=(RJ b)::vN::vN::(N4 b)::t_
def Zam:Blk:=.cells (Cn b (RQ b (RP b [vN]))) 40
def Zan:Blk:=.row 4 (Ag b).length (IR b) 97
abbrev MF (t_:List Cl):List Cl:=(.own 200340 8 2)::(MC b)::(RJ b)::(RI b)::t_
abbrev RK:List Cl:=[vN,.own 34 3 b.Waivers.length,vN]
def Zao:Blk:=.cells (Cn b (MF b (RK b))) 40
def Zap:Blk:=.row 2 (AP b).length (He b) 100
abbrev RN:List Cl:=[vN,.own 34 3 b.Waivers.length,.own 200112 3 (AM b).length]
def Zaq:Blk:=.cells (Cn b (MF b (RN b))) 40
def Zar:Blk:=.row 3 (AM b).length (Hd b) 102
abbrev RO:List Cl:=[.own 200114 20 (AR b).length,.own 34 3 b.Waivers.length,.own 200112 3 (AM b).length]
abbrev SO:List Cl:=(Cn b (MF b (RO b)))
def Zas:Blk:=.cells (SO b) 40
def Zat:Blk:=.row 20 (AR b).length (IU b) 109
def mJ (b:AC):Tv:=.av (.agg (SO b))
def hCyP2 (b:AC):List (Nat×Blk):=[(26,.row 7 b.Parts.length (AU AF.c b.Parts) 49),(200100,.row 2 (Af b).length (AU BA.c (Af b)) 84),(200102,.row 6 (AH b).length (AU Aq.c (AH b)) 87),(30,.row 8 b.Vias.length (AU Bx.c b.Vias) 89),(200340,.rowx 8 2 (fun i_ j_=>if i_<1 then (fun _ _=>default) i_ j_ else (fun _ _=>default) (i_-1) j_) 92 [(0,[.i (b.Pours.getD 0 default).Id,.s (b.Pours.getD 0 default).Net,.i (b.Pours.getD 0 default).Layer,.i (b.Pours.getD 0 default).Pitch,.i (b.Pours.getD 0 default).Priority,.i (b.Pours.getD 0 default).Relief,.i (b.Pours.getD 0 default).Spoke,.own 200341 4 (b.Pours.getD 0 default).Rects.length]),(1,[.i (b.Pours.getD 1 default).Id,.s (b.Pours.getD 1 default).Net,.i (b.Pours.getD 1 default).Layer,.i (b.Pours.getD 1 default).Pitch,.i (b.Pours.getD 1 default).Priority,.i (b.Pours.getD 1 default).Relief,.i (b.Pours.getD 1 default).Spoke,.own 200342 4 (b.Pours.getD 1 default).Rects.length])]),(200106,.row 5 (Ai b).length (AU BR.c (Ai b)) 95),(200108,.row 4 (Ag b).length (AU Bq.c (Ag b)) 97),(200110,.row 2 (AP b).length (AU BS.c (AP b)) 100),(200114,.row 20 (AR b).length (AU A1.c (AR b)) 109),(34,.row 3 b.Waivers.length (AU BM.c b.Waivers) 104),(200112,.row 3 (AM b).length (AU Bb.c (AM b)) 102),(200341,.row 4 (b.Pours.getD 0 default).Rects.length (AU Al.c (b.Pours.getD 0 default).Rects) 74),(200342,.row 4 (b.Pours.getD 1 default).Rects.length (AU Al.c (b.Pours.getD 1 default).Rects) 74)]
abbrev JL (t_:List (Nat×Blk)):List (Nat×Blk):=(26,Za9 b)::(30,Zaa b)::(34,Zab b)::(B9 b)::(200002,Za7)::t_
abbrev bV:List (Nat×Blk):=(JL b [(200003,Zaq b),(200100,Zad b),(200102,Zaf b),(200106,Zal b),(200108,Zan b),(200110,Zap b),(200112,Zar b),(200340,Zah b),(200341,Zai b),(200342,Zaj b)])
abbrev bR:List (Nat×Blk):=(JL b [(200003,Zao b),(200100,Zad b),(200102,Zaf b),(200106,Zal b),(200108,Zan b),(200110,Zap b),(200340,Zah b),(200341,Zai b),(200342,Zaj b)])
abbrev bM:List (Nat×Blk):=(JL b [(200003,Zam b),(200100,Zad b),(200102,Zaf b),(200106,Zal b),(200108,Zan b),(200340,Zah b),(200341,Zai b),(200342,Zaj b)])
abbrev bF:List (Nat×Blk):=(JL b [(200003,Zak b),(200100,Zad b),(200102,Zaf b),(200106,Zal b),(200340,Zah b),(200341,Zai b),(200342,Zaj b)])
abbrev aY:List (Nat×Blk):=(JL b [(200003,Zag b),(200100,Zad b),(200102,Zaf b),(200340,Zah b),(200341,Zai b),(200342,Zaj b)])
abbrev aL:List (Nat×Blk):=(JL b [(200003,Zae b),(200100,Zad b),(200102,Zaf b)])
abbrev aD:List (Nat×Blk):=(JL b [(200003,Zac b),(200100,Zad b)])
abbrev IF:=b.Pours.getD 0 default
abbrev Z2 (t_:List Cl):List Cl:=(.i (IF b).Id)::(.s (IF b).Net)::(.i (IF b).Layer)::(.i (IF b).Pitch)::(.i (IF b).Priority)::(.i (IF b).Relief)::(.i (IF b).Spoke)::t_
abbrev JE:=b.Pours.getD 1 default
abbrev Z1 (t_:List Cl):List Cl:=(.i (JE b).Id)::(.s (JE b).Net)::(.i (JE b).Layer)::(.i (JE b).Pitch)::(.i (JE b).Priority)::(.i (JE b).Relief)::(.i (JE b).Spoke)::t_
set_option maxHeartbeats 4000000 in
theorem qCyP2 (b:AC) (hc:CW b) (hlen:(b.Pours.length:Int)=2):Frs Tryz.prog 21 [.agg (AC.c b)] (fun _:Unit=>True) (fun _=>mJ b) (fun _=>hCyP2 b):=by
 refine J9 Tryz.func21 rfl kr kr kr fun W0 M0 X hP hFl => ?_
 have h0:=hc.lParts
 have h1:=hc.lNets
 have h2:=hc.lTracks
 have h3:=hc.lVias
 have h4:=hc.lPours
 have h5:=hc.lKeeps
 have h6:=hc.lSlots
 have h7:=hc.lClasses
 have h8:=hc.lWaivers
 have h9:=hc.lMatches
 have h10:=hc.lRules
 have hr:=hc.rok
 refine AA<|on<|AA ?_
 refine od [23,27,31] [(22,B7 b.Outline)] [Ay (B7 b.Outline).2.1,0=0,0+b.Parts.length<=maxLen,(0+b.Parts.length)*72<=140737488355328,0=0,0+b.Vias.length<=maxLen,(0+b.Vias.length)*72<=140737488355328,0=0,0+b.Waivers.length<=maxLen,(0+b.Waivers.length)*32<=140737488355328] (.cons (Dz b.Outline au28) .nil) (.cons rfl (.cons rfl (.cons au2 (.cons au2 (.cons rfl (.cons au2 (.cons au2 (.cons rfl (.cons au2 (.cons au2 .nil))))))))))<|AG ?_
 refine Ap (Cv.trans (A2 26 (Au (A0 7 AF.c (([]:List AF):List AF)) (Am 7 AF.c b.Parts))) (Cv.trans (A2 30 (Au (A0 8 Bx.c (([]:List Bx):List Bx)) (Am 8 Bx.c b.Vias))) (Cv.trans (A2 34 (Au (A0 3 BM.c (([]:List BM):List BM)) (Am 3 BM.c b.Waivers))) (Cv.refl _))))<|AA<|AA ?_
 refine rn ⟨R0,[(1,.cells (AC.c b) 40),(2,Za7),(3,Za8 b),(26,Za9 b),(30,Zaa b),(34,Zab b)]⟩ ?_
 refine Ap (Cv.trans (vr 3 200003 (K:=[]) hP) (Cv.trans (vr 1 200001 (K:=[]) hP) (Cv.trans (wr (⟨R9,[(B9 b),(200002,Za7),(200003,Za8 b),(26,Za9 b),(30,Zaa b),(34,Zab b)]⟩) 2 200002 (K:=[]) hP) (Cv.refl _)))) ?_
 refine CE (ι:=Unit) (I:=fun _=>True) 200003 (Xg b) 40 (mkB 15 5) [1,2,3,4] [200001,200002] (fun _=>Bn) (fun _=>lEB 15 5 (MD b)) (fun _=>[(B9 b),CF,(VS b)]) (fun _=>⟨Bn,[(200003,Zac b),(B9 b),(200002,Za7),(200100,Zad b),(26,Za9 b),(30,Zaa b),(34,Zab b)]⟩) hP hFl (TA b hc kr) (fun _ _ => ?_)
 refine AG ?_
 refine Ap (Cv.trans (ck (⟨Bn,(aD b)⟩)) (Cv.refl _))<|AA<|AA ?_
 refine rn ⟨R8,(aD b)⟩ ?_
 refine CE (ι:=Unit) (I:=fun _=>True) 200003 (aN b) 40 (mkB 15 6) [1,2,3,5] [200001,200002] (fun _=>Bn) (fun _=>lEB 15 6 (Rl b)) (fun _=>[(B9 b),CF,(Rw b)]) (fun _=>⟨Bn,[(200003,Zae b),(B9 b),(200002,Za7),(200102,Zaf b),(26,Za9 b),(30,Zaa b),(34,Zab b),(200100,Zad b)]⟩) hP hFl (J8 b hc kr) (fun _ _ => ?_)
 refine AG ?_
 refine Ap (Cv.trans (ck (⟨Bn,(aL b)⟩)) (Cv.refl _))<|AA<|AA ?_
 refine rn ⟨R7,(aL b)⟩ ?_
 refine CE (ι:=Unit) (I:=fun _=>True) 200003 (aT b) 40 (mkB 15 8) [1,2,3,7] [200001,200002] (fun _=>Bn) (fun _=>lEB 15 8 (.own 200340 8 2)) (fun _=>[(B9 b),CF,(200340,.rowx 8 2 (fun i_ j_=>if i_<1 then (fun _ _=>default) i_ j_ else (fun _ _=>default) (i_-1) j_) 92 [(0,(Z2 b [.own 200341 4 (IF b).Rects.length])),(1,(Z1 b [.own 200342 4 (JE b).Rects.length]))]),(200341,.row 4 (b.Pours.getD 0 default).Rects.length (AU Al.c (b.Pours.getD 0 default).Rects) 74),(200342,.row 4 (b.Pours.getD 1 default).Rects.length (AU Al.c (b.Pours.getD 1 default).Rects) 74)]) (fun _=>⟨Bn,[(200003,Zag b),(B9 b),(200002,Za7),(200340,Zah b),(200341,Zai b),(200342,Zaj b),(26,Za9 b),(30,Zaa b),(34,Zab b),(200100,Zad b),(200102,Zaf b)]⟩) hP hFl (gCxP2 b hc hlen kr) (fun _ _ => ?_)
 refine AG ?_
 refine Ap (Cv.trans (ck (⟨Bn,(aY b)⟩)) (Cv.refl _))<|AA<|AA ?_
 refine rn ⟨R6,(aY b)⟩ ?_
 refine CE (ι:=Unit) (I:=fun _=>True) 200003 (Ed b [.own 200340 8 2,vN,vN,vN,vN,.own 34 3 b.Waivers.length,vN]) 40 (mkB 15 9) [1,2,3,9] [200001,200002] (fun _=>Bn) (fun _=>lEB 15 9 (Rk b)) (fun _=>[(B9 b),CF,(Rv b)]) (fun _=>⟨Bn,[(200003,Zak b),(B9 b),(200002,Za7),(200106,Zal b),(26,Za9 b),(30,Zaa b),(34,Zab b),(200100,Zad b),(200102,Zaf b),(200340,Zah b),(200341,Zai b),(200342,Zaj b)]⟩) hP hFl (Lr b hc kr) (fun _ _ => ?_)
 refine AG ?_
 refine Ap (Cv.trans (ck (⟨Bn,(bF b)⟩)) (Cv.refl _))<|AA<|AA ?_
 refine rn ⟨SD,(bF b)⟩ ?_
 refine CE (ι:=Unit) (I:=fun _=>True) 200003 (Ed b (RQ b (RL b))) 40 (mkB 15 10) [1,2,3,11] [200001,200002] (fun _=>Bn) (fun _=>lEB 15 10 (Rj b)) (fun _=>[(B9 b),CF,(Ru b)]) (fun _=>⟨Bn,[(200003,Zam b),(B9 b),(200002,Za7),(200108,Zan b),(26,Za9 b),(30,Zaa b),(34,Zab b),(200100,Zad b),(200102,Zaf b),(200106,Zal b),(200340,Zah b),(200341,Zai b),(200342,Zaj b)]⟩) hP hFl (Lp b hc kr) (fun _ _ => ?_)
 refine AG ?_
 refine Ap (Cv.trans (ck (⟨Bn,(bM b)⟩)) (Cv.refl _))<|AA<|AA ?_
 refine rn ⟨SC,(bM b)⟩ ?_
 refine CE (ι:=Unit) (I:=fun _=>True) 200003 (Ed b (RQ b (RP b [vN]))) 40 (mkB 15 11) [1,2,3,13] [200001,200002] (fun _=>Bn) (fun _=>lEB 15 11 (Ri b)) (fun _=>[(B9 b),CF,(Ry b)]) (fun _=>⟨Bn,[(200003,Zao b),(B9 b),(200002,Za7),(200110,Zap b),(26,Za9 b),(30,Zaa b),(34,Zab b),(200100,Zad b),(200102,Zaf b),(200106,Zal b),(200108,Zan b),(200340,Zah b),(200341,Zai b),(200342,Zaj b)]⟩) hP hFl (Io b hc kr) (fun _ _ => ?_)
 refine AG ?_
 refine Ap (Cv.trans (ck (⟨Bn,(bR b)⟩)) (Cv.refl _))<|AA<|AA ?_
 refine rn ⟨SB,(bR b)⟩ ?_
 refine CE (ι:=Unit) (I:=fun _=>True) 200003 (Ed b (MF b (RK b))) 40 (mkB 15 14) [1,2,3,14] [200001,200002] (fun _=>Bn) (fun _=>lEB 15 14 (Rh b)) (fun _=>[(B9 b),CF,(Rx b)]) (fun _=>⟨Bn,[(200003,Zaq b),(B9 b),(200002,Za7),(200112,Zar b),(26,Za9 b),(30,Zaa b),(34,Zab b),(200100,Zad b),(200102,Zaf b),(200106,Zal b),(200108,Zan b),(200110,Zap b),(200340,Zah b),(200341,Zai b),(200342,Zaj b)]⟩) hP hFl (In b hc kr) (fun _ _ => ?_)
 refine AG ?_
 refine Ap (Cv.trans (ck (⟨Bn,(bV b)⟩)) (Cv.refl _))<|AA<|AA ?_
 refine rn ⟨SA,(bV b)⟩ ?_
 refine CE (ι:=Unit) (I:=fun _=>True) 200003 (Ed b (MF b (RN b))) 40 (mkB 15 12) [1,2,3,16] [200001,200002] (fun _=>Bn) (fun _=>lEB 15 12 (Rn b)) (fun _=>[(B9 b),CF,(Rz b)]) (fun _=>⟨Bn,[(200003,Zas b),(B9 b),(200002,Za7),(200114,Zat b),(26,Za9 b),(30,Zaa b),(34,Zab b),(200100,Zad b),(200102,Zaf b),(200106,Zal b),(200108,Zan b),(200110,Zap b),(200112,Zar b),(200340,Zah b),(200341,Zai b),(200342,Zaj b)]⟩) hP hFl (Lq b hc kr) (fun _ _ => ?_)
 refine AG ?_
 refine Ap (Cv.trans (ck (⟨Bn,(JL b [(200003,Zas b),(200100,Zad b),(200102,Zaf b),(200106,Zal b),(200108,Zan b),(200110,Zap b),(200112,Zar b),(200114,Zat b),(200340,Zah b),(200341,Zai b),(200342,Zaj b)])⟩)) (Cv.refl _))<|AA ?_
 refine rn ⟨JP,[(26,Za9 b),(30,Zaa b),(34,Zab b),(200002,Zas b),(200100,Zad b),(200102,Zaf b),(200106,Zal b),(200108,Zan b),(200110,Zap b),(200112,Zar b),(200114,Zat b),(200340,Zah b),(200341,Zai b),(200342,Zaj b)]⟩<|AY ?_
 refine ⟨_,Cv.trans (ck (⟨JP,[(26,Za9 b),(200100,Zad b),(200102,Zaf b),(30,Zaa b),(200340,Zah b),(200106,Zal b),(200108,Zan b),(200110,Zap b),(200114,Zat b),(34,Zab b),(200112,Zar b),(200341,Zai b),(200342,Zaj b),(200002,Zas b)]⟩)) (Cv.refl _),.inl rfl,mJ b,by kernel_rfl,lJ (m:=[(200002,.cells (Ed b (MF b (RO b))) 40)]) kr⟩
end
end Go.Proofs.YtdbampcfmjbgmaaGreat
