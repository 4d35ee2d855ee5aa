/-
  Proved: the statement of PlaceAt; the parts before it hold what its proof needs.
-/
import Derived.Test.YtdbampcfmjbgmaaPlaceAtQf
namespace Go.Proofs.Ytdbampcfmjbgmaa
set_option maxRecDepth 100000
set_option linter.unusedVariables false
set_option linter.unusedSimpArgs false
open Go.RowKit
section
open Go.RowKit
def Z9H:Blk:=.cells GD 42
variable (b:AC) (v:Nat->Value)
abbrev bE:List Cl:=(Cf v [vN,.val (v 9),.val (v 10),.val (v 11),.val (v 12),.val (v 13),.val (v 14)])
def Z9I:Blk:=.cells (bE v) 42
abbrev DP:=b.Pours.getD 0 default
abbrev I1:=AP Ai.c (DP b).Rects
def Z9J:Blk:=.row 4 (DP b).Rects.length (I1 b) 76
abbrev H4 (t_:List Cl):List Cl:=(.i (DP b).Id)::(.s (DP b).Net)::(.i (DP b).Layer)::(.i (DP b).Pitch)::(.i (DP b).Priority)::(.i (DP b).Relief)::(.i (DP b).Spoke)::t_
abbrev aV:List Cl:=(H4 b [.own 100 4 (DP b).Rects.length])
def Z9K:Blk:=.rowx 8 1 (fun _ _=>default) 90 [(0,(aV b))]
abbrev bJ:List Cl:=(Cf v [.own 106 8 1,.val (v 9),.val (v 10),.val (v 11),.val (v 12),.val (v 13),.val (v 14)])
def Z9L:Blk:=.cells (bJ v) 42
abbrev SY:List Cl:=(H4 b [.own 100000 4 (DP b).Rects.length])
def Z9M:Blk:=.rowx 8 1 (fun _ _=>default) 90 [(0,(SY b))]
abbrev bK:List Cl:=(Cf v [.own 100001 8 1,.val (v 9),.val (v 10),.val (v 11),.val (v 12),.val (v 13),.val (v 14)])
def Z9N:Blk:=.cells (bK v) 42
abbrev Bn:=b.Pours.getD 1 default
def Z9O:Blk:=.row 4 (Bn b).Rects.length (AP Ai.c (Bn b).Rects) 76
abbrev Lx (t_:List Cl):List Cl:=(.i (Bn b).Id)::(.s (Bn b).Net)::(.i (Bn b).Layer)::(.i (Bn b).Pitch)::(.i (Bn b).Priority)::(.i (Bn b).Relief)::(.i (Bn b).Spoke)::t_
def Z9P:Blk:=.rowx 8 2 (fun i_ j_=>if i_<1 then (fun _ _=>default) i_ j_ else (fun _ _=>default) (i_-1) j_) 90 [(0,(SY b)),(1,(Lx b [.own 100 4 (Bn b).Rects.length]))]
def Z9Q:Blk:=.cells (Cf v [.own 106 8 2,.val (v 9),.val (v 10),.val (v 11),.val (v 12),.val (v 13),.val (v 14)]) 42
def Z9R:Blk:=.rowx 8 2 (fun i_ j_=>if i_<1 then (fun _ _=>default) i_ j_ else (fun _ _=>default) (i_-1) j_) 90 [(0,(SY b)),(1,(Lx b [.own 100002 4 (Bn b).Rects.length]))]
def Z9S:Blk:=.cells (Cf v [.own 100003 8 2,.val (v 9),.val (v 10),.val (v 11),.val (v 12),.val (v 13),.val (v 14)]) 42
def Z9T:Blk:=.cells (Cf v [.own 200340 8 2,.val (v 9),.val (v 10),.val (v 11),.val (v 12),.val (v 13),.val (v 14)]) 42
abbrev Ts:List Cl:=(Lx b [.own 200342 4 (Bn b).Rects.length])
abbrev Tr:List Cl:=(H4 b [.own 200341 4 (DP b).Rects.length])
def Z9U:Blk:=.rowx 8 2 (fun i_ j_=>if i_<1 then (fun _ _=>default) i_ j_ else (fun _ _=>default) (i_-1) j_) 90 [(0,(Tr b)),(1,(Ts b))]
abbrev sCxP2 (b:AC) (v:Nat->Value):AS:=⟨Bh,[(200003,Z9T v),(Bk b),(200002,Z9H),(200340,Z9U b),(200341,Z9J b),(200342,Z9O b)]⟩
set_option maxHeartbeats 4000000 in
theorem gCxP2 (b:AC) (hc:CM b) (hlen:(b.Pours.length:Int)=2) {c:Code} (hpc:Try.f12.body.bind (Fg [true,true,true,true,false,true])=some c):NN Try.prog 229 [200003,200001,200002] c (fun _:Unit=>True) (fun v=>⟨[(1,tP 200001 0),(2,tP 200002 0),(3,tP 200003 0),(7,tI 0)],[(200003,.cells [.val (v 0),.val (v 1),.val (v 2),.val (v 3),.val (v 4),.val (v 5),.val (v 6),.val (v 7),vN,.val (v 9),.val (v 10),.val (v 11),.val (v 12),.val (v 13),.val (v 14)] 42),(200001,.cells (AC.c b) 42),(200002,.cells [.i 0,.i 0,vN,.i 0,vN,vN,vN,vN,vN,vN,vN,vN,vN,vN,vN] 42)]⟩) (fun v _=>sCxP2 b v):=by
 cases hpc
 intro W0 M0 X v hP hFl
 show AWp _ _ _ _ _ _ _ _ ⟨[(1,tP 200001 0),(2,tP 200002 0),(3,tP 200003 0),(7,tI 0)],[(200003,.cells [.val (v 0),.val (v 1),.val (v 2),.val (v 3),.val (v 4),.val (v 5),.val (v 6),.val (v 7),vN,.val (v 9),.val (v 10),.val (v 11),.val (v 12),.val (v 13),.val (v 14)] 42),(200001,.cells (AC.c b) 42),(200002,.cells [.i 0,.i 0,vN,.i 0,vN,vN,vN,vN,vN,vN,vN,vN,vN,vN,vN] 42)]⟩
 have h0:=hc.lParts
 have h1:=hc.lNets
 have h2:=hc.lTracks
 have h3:=hc.lVias
 have h4:=hc.lPours
 have h5:=hc.lKeeps
 have h6:=hc.lSlots
 have h7:=hc.lClasses
 have h8:=hc.lWaivers
 have h9:=hc.lMatches
 have h10:=hc.lRules
 have hr:=hc.rok
 have hb0:=hc.rec' 0
 have hb1:=hc.rec' 1
 refine AX ?_
 refine Dy 3 ?_
 refine B7<|AB<|AB ?_
 refine rn ⟨[(1,tP 200001 0),(2,tP 200002 0),(3,tP 200003 0),(7,tI 0),(89,tB (decide ((0:Int)<(b.Pours.length:Int))))],[(200001,.cells (AC.c b) 42),(200002,Z9H),(200003,Z9I v)]⟩ ?_
 have h1:(decide ((0:Int)<(b.Pours.length:Int)))=true:=(by rw [hlen];decide)
 have g1:=oT h1
 refine AL _ rfl (fun _ => ?_) (fun h=>absurd (h1.symm.trans h) (by decide))
 refine Af<|AF ?_
 refine AB<|AX<|AB ?_
 refine rc [] [0<=(0:Int)/\(0:Int)<((b.Pours.length:Nat):Int)] ⟨[(1,tP 200001 0),(2,tP 200002 0),(3,tP 200003 0),(7,tI 0),(8,tP 8 0)],[(8,.cells (A4.c (b.Pours.getD 0 default)) 90),(200001,.cells (AC.c b) 42),(200002,Z9H),(200003,Z9I v)]⟩ .nil (.cons (by first | decide | omega | (rw [hlen];decide) | (rw [show (b.Pours.length:Int)=2 from hlen];decide)) .nil)<|AF<|AB ?_
 refine C4 DV [97] [] [] [1,2,3,7,8] [8,100,200001,200002,200003] [0=0,0+(b.Pours.getD 0 default).Rects.length<=maxLen,(0+(b.Pours.getD 0 default).Rects.length)*32<=140737488355328] ⟨[(1,tP 200001 0),(2,tP 200002 0),(3,tP 200003 0),(7,tI 0),(8,tP 8 0)],[(8,.cells [.i (b.Pours.getD 0 default).Id,.s (b.Pours.getD 0 default).Net,.i (b.Pours.getD 0 default).Layer,.i (b.Pours.getD 0 default).Pitch,.i (b.Pours.getD 0 default).Priority,.i (b.Pours.getD 0 default).Relief,.i (b.Pours.getD 0 default).Spoke,.own 100 4 (0+(b.Pours.getD 0 default).Rects.length)] 90),(100,.row 4 (0+(b.Pours.getD 0 default).Rects.length) (fun i_ j_=>if i_<0 then (As 4 0 []) i_ j_ else (AP Ai.c (b.Pours.getD 0 default).Rects) (i_-0) j_) 76),(200001,.cells (AC.c b) 42),(200002,Z9H),(200003,Z9I v)]⟩ .nil kr (.cons rfl (.cons au8 (.cons au8 .nil)))<|AF ?_
 refine Aq (Cv.trans (BS (⟨[(1,tP 200001 0),(2,tP 200002 0),(3,tP 200003 0),(7,tI 0),(8,tP 8 0)],[(8,.cells [.i (b.Pours.getD 0 default).Id,.s (b.Pours.getD 0 default).Net,.i (b.Pours.getD 0 default).Layer,.i (b.Pours.getD 0 default).Pitch,.i (b.Pours.getD 0 default).Priority,.i (b.Pours.getD 0 default).Relief,.i (b.Pours.getD 0 default).Spoke,.own 100 4 (b.Pours.getD 0 default).Rects.length] 90),(100,Z9J b),(200001,.cells (AC.c b) 42),(200002,Z9H),(200003,Z9I v)]⟩) lr (.cons ⟨rfl,.cells _ (rr (rr (rr (rr (rr (rr (rr (.cons (.own _ _ au0) .nil))))))))⟩ (.cons ⟨rfl,Ao 76 (Au (Ae (c:=Ai.c) (xs:=(([]:List Ai):List Ai)) rfl kr) (An 4 Ai.c (b.Pours.getD 0 default).Rects))⟩ lr))) (Cv.refl _)) ?_
 refine oc [] [1=1,0<1,1<=maxLen,1*88<=140737488355328] .nil (.cons rfl (.cons (by decide) (.cons au8 (.cons au8 .nil))))<|A8<|AF ?_
 refine rn ⟨[(1,tP 200001 0),(2,tP 200002 0),(3,tP 200003 0),(7,tI 1)],[(100,Z9J b),(106,Z9K b),(200001,.cells (AC.c b) 42),(200002,Z9H),(200003,Z9L v)]⟩ ?_
 refine B7 ?_
 refine Aq (Cv.trans (CC (⟨[(1,tP 200001 0),(2,tP 200002 0),(3,tP 200003 0),(7,tI 1)],[(100000,Z9J b),(106,Z9M b),(200001,.cells (AC.c b) 42),(200002,Z9H),(200003,Z9L v)]⟩) 100 100000 (K:=[200003,200001,200002]) hP rfl rfl kr kr) (Cv.trans (CC (⟨[(1,tP 200001 0),(2,tP 200002 0),(3,tP 200003 0),(7,tI 1)],[(100000,Z9J b),(100001,Z9M b),(200001,.cells (AC.c b) 42),(200002,Z9H),(200003,Z9N v)]⟩) 106 100001 (K:=[200003,200001,200002]) hP rfl rfl kr kr) (Cv.refl _)))<|AB<|AB ?_
 refine rn ⟨[(1,tP 200001 0),(2,tP 200002 0),(3,tP 200003 0),(7,tI 1),(89,tB (decide ((1:Int)<(b.Pours.length:Int))))],[(100000,Z9J b),(100001,Z9M b),(200001,.cells (AC.c b) 42),(200002,Z9H),(200003,Z9N v)]⟩ ?_
 have h2:(decide ((1:Int)<(b.Pours.length:Int)))=true:=(by rw [hlen];decide)
 have g2:=oT h2
 refine AL _ rfl (fun _ => ?_) (fun h=>absurd (h2.symm.trans h) (by decide))
 refine Af<|AF ?_
 refine AB<|AX<|AB ?_
 refine rc [] [0<=(1:Int)/\(1:Int)<((b.Pours.length:Nat):Int)] ⟨[(1,tP 200001 0),(2,tP 200002 0),(3,tP 200003 0),(7,tI 1),(8,tP 8 0)],[(8,.cells (A4.c (b.Pours.getD 1 default)) 90),(100000,Z9J b),(100001,Z9M b),(200001,.cells (AC.c b) 42),(200002,Z9H),(200003,Z9N v)]⟩ .nil (.cons (by first | decide | omega | (rw [hlen];decide) | (rw [show (b.Pours.length:Int)=2 from hlen];decide)) .nil)<|AF<|AB ?_
 refine C4 DV [97] [] [] [1,2,3,7,8] [8,100,100000,100001,200001,200002,200003] [0=0,0+(b.Pours.getD 1 default).Rects.length<=maxLen,(0+(b.Pours.getD 1 default).Rects.length)*32<=140737488355328] ⟨[(1,tP 200001 0),(2,tP 200002 0),(3,tP 200003 0),(7,tI 1),(8,tP 8 0)],[(8,.cells [.i (b.Pours.getD 1 default).Id,.s (b.Pours.getD 1 default).Net,.i (b.Pours.getD 1 default).Layer,.i (b.Pours.getD 1 default).Pitch,.i (b.Pours.getD 1 default).Priority,.i (b.Pours.getD 1 default).Relief,.i (b.Pours.getD 1 default).Spoke,.own 100 4 (0+(b.Pours.getD 1 default).Rects.length)] 90),(100,.row 4 (0+(b.Pours.getD 1 default).Rects.length) (fun i_ j_=>if i_<0 then (As 4 0 []) i_ j_ else (AP Ai.c (b.Pours.getD 1 default).Rects) (i_-0) j_) 76),(100000,Z9J b),(100001,Z9M b),(200001,.cells (AC.c b) 42),(200002,Z9H),(200003,Z9N v)]⟩ .nil kr (.cons rfl (.cons au8 (.cons au8 .nil)))<|AF ?_
 refine Aq (Cv.trans (BS (⟨[(1,tP 200001 0),(2,tP 200002 0),(3,tP 200003 0),(7,tI 1),(8,tP 8 0)],[(8,.cells [.i (b.Pours.getD 1 default).Id,.s (b.Pours.getD 1 default).Net,.i (b.Pours.getD 1 default).Layer,.i (b.Pours.getD 1 default).Pitch,.i (b.Pours.getD 1 default).Priority,.i (b.Pours.getD 1 default).Relief,.i (b.Pours.getD 1 default).Spoke,.own 100 4 (b.Pours.getD 1 default).Rects.length] 90),(100,Z9O b),(100000,Z9J b),(100001,Z9M b),(200001,.cells (AC.c b) 42),(200002,Z9H),(200003,Z9N v)]⟩) lr (.cons ⟨rfl,.cells _ (rr (rr (rr (rr (rr (rr (rr (.cons (.own _ _ au0) .nil))))))))⟩ (.cons ⟨rfl,Ao 76 (Au (Ae (c:=Ai.c) (xs:=(([]:List Ai):List Ai)) rfl kr) (An 4 Ai.c (b.Pours.getD 1 default).Rects))⟩ lr))) (Cv.refl _)) ?_
 refine oc [] [1=1,1=1,0<1,1+1<=maxLen,(1+1)*88<=140737488355328] .nil (.cons rfl (.cons rfl (.cons (by decide) (.cons au8 (.cons au8 .nil)))))<|A8<|AF ?_
 refine rn ⟨[(1,tP 200001 0),(2,tP 200002 0),(3,tP 200003 0),(7,tI 2)],[(100,Z9O b),(106,Z9P b),(100000,Z9J b),(200001,.cells (AC.c b) 42),(200002,Z9H),(200003,Z9Q v)]⟩ ?_
 refine B7 ?_
 refine Aq (Cv.trans (CC (⟨[(1,tP 200001 0),(2,tP 200002 0),(3,tP 200003 0),(7,tI 2)],[(100002,Z9O b),(106,Z9R b),(100000,Z9J b),(200001,.cells (AC.c b) 42),(200002,Z9H),(200003,Z9Q v)]⟩) 100 100002 (K:=[200003,200001,200002]) hP rfl rfl kr kr) (Cv.trans (CC (⟨[(1,tP 200001 0),(2,tP 200002 0),(3,tP 200003 0),(7,tI 2)],[(100002,Z9O b),(100003,Z9R b),(100000,Z9J b),(200001,.cells (AC.c b) 42),(200002,Z9H),(200003,Z9S v)]⟩) 106 100003 (K:=[200003,200001,200002]) hP rfl rfl kr kr) (Cv.refl _)))<|AB<|AB ?_
 refine rn ⟨[(1,tP 200001 0),(2,tP 200002 0),(3,tP 200003 0),(7,tI 2),(89,tB (decide ((2:Int)<(b.Pours.length:Int))))],[(100000,Z9J b),(100002,Z9O b),(100003,Z9R b),(200001,.cells (AC.c b) 42),(200002,Z9H),(200003,Z9S v)]⟩ ?_
 have h3:(decide ((2:Int)<(b.Pours.length:Int)))=false:=(by rw [hlen];decide)
 have g3:=oF h3
 refine AL _ rfl (fun h=>absurd (h3.symm.trans h) (by decide)) (fun _ => ?_)
 refine BU<|BE ?_
 refine BE<|BV ?_
 exact ⟨_,Cv.trans (B4 [1,2,3] [100000,100002,100003,200001,200002,200003] (⟨[(1,tP 200001 0),(2,tP 200002 0),(3,tP 200003 0)],[(100000,Z9J b),(100002,Z9O b),(100003,Z9R b),(200001,.cells (AC.c b) 42),(200002,Z9H),(200003,Z9S v)]⟩) kr) (Cv.trans (CC (⟨[(1,tP 200001 0),(2,tP 200002 0),(3,tP 200003 0)],[(100000,Z9J b),(100002,Z9O b),(200340,Z9R b),(200001,.cells (AC.c b) 42),(200002,Z9H),(200003,Z9T v)]⟩) 100003 200340 (K:=[200003,200001,200002]) hP rfl rfl kr kr) (Cv.trans (CC (⟨[(1,tP 200001 0),(2,tP 200002 0),(3,tP 200003 0)],[(200341,Z9J b),(100002,Z9O b),(200340,.rowx 8 2 (fun i_ j_=>if i_<1 then (fun _ _=>default) i_ j_ else (fun _ _=>default) (i_-1) j_) 90 [(0,[.i (b.Pours.getD 0 default).Id,.s (b.Pours.getD 0 default).Net,.i (b.Pours.getD 0 default).Layer,.i (b.Pours.getD 0 default).Pitch,.i (b.Pours.getD 0 default).Priority,.i (b.Pours.getD 0 default).Relief,.i (b.Pours.getD 0 default).Spoke,.own 200341 4 (b.Pours.getD 0 default).Rects.length]),(1,[.i (b.Pours.getD 1 default).Id,.s (b.Pours.getD 1 default).Net,.i (b.Pours.getD 1 default).Layer,.i (b.Pours.getD 1 default).Pitch,.i (b.Pours.getD 1 default).Priority,.i (b.Pours.getD 1 default).Relief,.i (b.Pours.getD 1 default).Spoke,.own 100002 4 (b.Pours.getD 1 default).Rects.length])]),(200001,.cells (AC.c b) 42),(200002,Z9H),(200003,Z9T v)]⟩) 100000 200341 (K:=[200003,200001,200002]) hP rfl rfl kr kr) (Cv.trans (CC (⟨[(1,tP 200001 0),(2,tP 200002 0),(3,tP 200003 0)],[(200341,Z9J b),(200342,Z9O b),(200340,Z9U b),(200001,.cells (AC.c b) 42),(200002,Z9H),(200003,Z9T v)]⟩) 100002 200342 (K:=[200003,200001,200002]) hP rfl rfl kr kr) (Cv.trans (B4 [1,2,3] [200003,200001,200002,200340,200341,200342] (⟨[(1,tP 200001 0),(2,tP 200002 0),(3,tP 200003 0)],[(200003,Z9T v),(200001,.cells (AC.c b) 42),(200002,Z9H),(200340,Z9U b),(200341,Z9J b),(200342,Z9O b)]⟩) kr) (Cv.refl _))))),rfl,(),trivial,rfl⟩
end
section
open Go.RowKit
def Z9V:Blk:=.cells GD 42
variable (b:AC)
def Z9W:Blk:=.cells (Sa b) 42
def Z9X:Blk:=.row 7 b.Parts.length (H9 b) 59
def Z9Y:Blk:=.row 8 b.Vias.length (HN b) 87
def Z9Z:Blk:=.row 3 b.Waivers.length (HW b) 102
def Za0:Blk:=.cells (V3 b) 42
def Za1:Blk:=.row 2 (Ag b).length (H7 b) 48
def Za2:Blk:=.cells (V7 b) 42
def Za3:Blk:=.row 6 (AH b).length (HO b) 85
def Za4:Blk:=.cells (B8 b [.own 200340 8 2,vN,vN,vN,vN,.own 34 3 b.Waivers.length,vN]) 42
def Za5:Blk:=.rowx 8 2 (fun i_ j_=>if i_<1 then (fun _ _=>default) i_ j_ else (fun _ _=>default) (i_-1) j_) 90 [(0,(Tr b)),(1,(Ts b))]
def Za6:Blk:=.row 4 (DP b).Rects.length (I1 b) 76
def Za7:Blk:=.row 4 (Bn b).Rects.length (AP Ai.c (Bn b).Rects) 76
abbrev Q8 (t_:List Cl):List Cl:=(.own 200340 8 2)::(Ll b)::t_
abbrev Q2:List Cl:=[vN,vN,vN,.own 34 3 b.Waivers.length,vN]
def Za8:Blk:=.cells (B8 b (Q8 b (Q2 b))) 42
def Za9:Blk:=.row 5 (Aa b).length (HR b) 93
abbrev Q6 (t_:List Cl):List Cl:=(Qz b)::vN::vN::(Qx b)::t_
def Zaa:Blk:=.cells (B8 b (Q8 b (Q6 b [vN]))) 42
def Zab:Blk:=.row 4 (AY b).length (HP b) 95
abbrev Ls (t_:List Cl):List Cl:=(.own 200340 8 2)::(Ll b)::(Qz b)::(Qy b)::t_
abbrev Q0:List Cl:=[vN,.own 34 3 b.Waivers.length,vN]
def Zac:Blk:=.cells (B8 b (Ls b (Q0 b))) 42
def Zad:Blk:=.row 2 (AN b).length (HS b) 98
abbrev Q4:List Cl:=[vN,.own 34 3 b.Waivers.length,.own 200112 3 (AM b).length]
def Zae:Blk:=.cells (B8 b (Ls b (Q4 b))) 42
def Zaf:Blk:=.row 3 (AM b).length (Gm b) 100
abbrev Q5:List Cl:=[.own 200114 20 (AO b).length,.own 34 3 b.Waivers.length,.own 200112 3 (AM b).length]
abbrev Xc:List Cl:=(B8 b (Ls b (Q5 b)))
def Zag:Blk:=.cells (Xc b) 42
def Zah:Blk:=.row 20 (AO b).length (HQ b) 107
def lO (b:AC):Tv:=.av (.agg (Xc b))
def hCyP2 (b:AC):List (Nat×Blk):=[(26,.row 7 b.Parts.length (AP AG.c b.Parts) 59),(200100,.row 2 (Ag b).length (AP A7.c (Ag b)) 48),(200102,.row 6 (AH b).length (AP Ap.c (AH b)) 85),(30,.row 8 b.Vias.length (AP Bo.c b.Vias) 87),(200340,.rowx 8 2 (fun i_ j_=>if i_<1 then (fun _ _=>default) i_ j_ else (fun _ _=>default) (i_-1) j_) 90 [(0,[.i (b.Pours.getD 0 default).Id,.s (b.Pours.getD 0 default).Net,.i (b.Pours.getD 0 default).Layer,.i (b.Pours.getD 0 default).Pitch,.i (b.Pours.getD 0 default).Priority,.i (b.Pours.getD 0 default).Relief,.i (b.Pours.getD 0 default).Spoke,.own 200341 4 (b.Pours.getD 0 default).Rects.length]),(1,[.i (b.Pours.getD 1 default).Id,.s (b.Pours.getD 1 default).Net,.i (b.Pours.getD 1 default).Layer,.i (b.Pours.getD 1 default).Pitch,.i (b.Pours.getD 1 default).Priority,.i (b.Pours.getD 1 default).Relief,.i (b.Pours.getD 1 default).Spoke,.own 200342 4 (b.Pours.getD 1 default).Rects.length])]),(200106,.row 5 (Aa b).length (AP BT.c (Aa b)) 93),(200108,.row 4 (AY b).length (AP Bi.c (AY b)) 95),(200110,.row 2 (AN b).length (AP BQ.c (AN b)) 98),(200114,.row 20 (AO b).length (AP Az.c (AO b)) 107),(34,.row 3 b.Waivers.length (AP BF.c b.Waivers) 102),(200112,.row 3 (AM b).length (AP Ba.c (AM b)) 100),(200341,.row 4 (b.Pours.getD 0 default).Rects.length (AP Ai.c (b.Pours.getD 0 default).Rects) 76),(200342,.row 4 (b.Pours.getD 1 default).Rects.length (AP Ai.c (b.Pours.getD 1 default).Rects) 76)]
abbrev Ir (t_:List (Nat×Blk)):List (Nat×Blk):=(26,Z9X b)::(30,Z9Y b)::(34,Z9Z b)::(Bk b)::(200002,Z9V)::t_
abbrev bW:List (Nat×Blk):=(Ir b [(200003,Zae b),(200100,Za1 b),(200102,Za3 b),(200106,Za9 b),(200108,Zab b),(200110,Zad b),(200112,Zaf b),(200340,Za5 b),(200341,Za6 b),(200342,Za7 b)])
abbrev bS:List (Nat×Blk):=(Ir b [(200003,Zac b),(200100,Za1 b),(200102,Za3 b),(200106,Za9 b),(200108,Zab b),(200110,Zad b),(200340,Za5 b),(200341,Za6 b),(200342,Za7 b)])
abbrev bN:List (Nat×Blk):=(Ir b [(200003,Zaa b),(200100,Za1 b),(200102,Za3 b),(200106,Za9 b),(200108,Zab b),(200340,Za5 b),(200341,Za6 b),(200342,Za7 b)])
abbrev bG:List (Nat×Blk):=(Ir b [(200003,Za8 b),(200100,Za1 b),(200102,Za3 b),(200106,Za9 b),(200340,Za5 b),(200341,Za6 b),(200342,Za7 b)])
abbrev aZ:List (Nat×Blk):=(Ir b [(200003,Za4 b),(200100,Za1 b),(200102,Za3 b),(200340,Za5 b),(200341,Za6 b),(200342,Za7 b)])
abbrev aM:List (Nat×Blk):=(Ir b [(200003,Za2 b),(200100,Za1 b),(200102,Za3 b)])
abbrev aB:List (Nat×Blk):=(Ir b [(200003,Za0 b),(200100,Za1 b)])
abbrev H0:=b.Pours.getD 0 default
abbrev Z2 (t_:List Cl):List Cl:=(.i (H0 b).Id)::(.s (H0 b).Net)::(.i (H0 b).Layer)::(.i (H0 b).Pitch)::(.i (H0 b).Priority)::(.i (H0 b).Relief)::(.i (H0 b).Spoke)::t_
abbrev Io:=b.Pours.getD 1 default
abbrev Z1 (t_:List Cl):List Cl:=(.i (Io b).Id)::(.s (Io b).Net)::(.i (Io b).Layer)::(.i (Io b).Pitch)::(.i (Io b).Priority)::(.i (Io b).Relief)::(.i (Io b).Spoke)::t_
set_option maxHeartbeats 4000000 in
theorem qCyP2 (b:AC) (hc:CM b) (hlen:(b.Pours.length:Int)=2):Frs Try.prog 12 [.agg (AC.c b)] (fun _:Unit=>True) (fun _=>lO b) (fun _=>hCyP2 b):=by
 refine Jl Try.func12 rfl kr kr kr fun W0 M0 X hP hFl => ?_
 have h0:=hc.lParts
 have h1:=hc.lNets
 have h2:=hc.lTracks
 have h3:=hc.lVias
 have h4:=hc.lPours
 have h5:=hc.lKeeps
 have h6:=hc.lSlots
 have h7:=hc.lClasses
 have h8:=hc.lWaivers
 have h9:=hc.lMatches
 have h10:=hc.lRules
 have hr:=hc.rok
 refine AB<|on<|AB ?_
 refine dw [23,27,31] [(22,Bv b.Outline)] [A0 (Bv b.Outline).2.1,0=0,0+b.Parts.length<=maxLen,(0+b.Parts.length)*72<=140737488355328,0=0,0+b.Vias.length<=maxLen,(0+b.Vias.length)*72<=140737488355328,0=0,0+b.Waivers.length<=maxLen,(0+b.Waivers.length)*32<=140737488355328] ⟨I6,[(GJ b),(2,Z9V),(XY b),(26,.row 7 (0+b.Parts.length) (fun i_ j_=>if i_<0 then (As 7 0 []) i_ j_ else (AP AG.c b.Parts) (i_-0) j_) 59),(30,.row 8 (0+b.Vias.length) (fun i_ j_=>if i_<0 then (As 8 0 []) i_ j_ else (AP Bo.c b.Vias) (i_-0) j_) 87),(34,.row 3 (0+b.Waivers.length) (fun i_ j_=>if i_<0 then (As 3 0 []) i_ j_ else (AP BF.c b.Waivers) (i_-0) j_) 102)]⟩ (.cons (Dm b.Outline au27) .nil) (.cons rfl (.cons rfl (.cons au4 (.cons au4 (.cons rfl (.cons au4 (.cons au4 (.cons rfl (.cons au4 (.cons au4 .nil))))))))))<|AF ?_
 refine Aq (Cv.trans (BS (⟨I6,[(GJ b),(2,Z9V),(3,Z9W b),(26,Z9X b),(30,Z9Y b),(34,Z9Z b)]⟩) lr (.cons ⟨rfl,.refl _⟩ (.cons ⟨rfl,.refl _⟩ (.cons ⟨rfl,.cells _ (rr4 (.cons (.own _ _ au0) (rr (rr (.cons (.own _ _ au0) (rr (rr (rr (rr (rr (.cons (.own _ _ au0) (rr .nil))))))))))))⟩ (.cons ⟨rfl,Ao 59 (Au (Ae (c:=AG.c) (xs:=(([]:List AG):List AG)) rfl kr) (An 7 AG.c b.Parts))⟩ (.cons ⟨rfl,Ao 87 (Au (Ae (c:=Bo.c) (xs:=(([]:List Bo):List Bo)) rfl kr) (An 8 Bo.c b.Vias))⟩ (.cons ⟨rfl,Ao 102 (Au (Ae (c:=BF.c) (xs:=(([]:List BF):List BF)) rfl kr) (An 3 BF.c b.Waivers))⟩ .nil))))))) (Cv.refl _))<|AB<|AB ?_
 refine rn ⟨Rx,[(GJ b),(2,Z9V),(3,Z9W b),(26,Z9X b),(30,Z9Y b),(34,Z9Z b)]⟩ ?_
 refine Aq (Cv.trans (vr 3 200003 (K:=[]) hP) (Cv.trans (vr 1 200001 (K:=[]) hP) (Cv.trans (wr (⟨R4,[(Bk b),(200002,Z9V),(200003,Z9W b),(26,Z9X b),(30,Z9Y b),(34,Z9Z b)]⟩) 2 200002 (K:=[]) hP) (Cv.refl _)))) ?_
 refine B5 (ι:=Unit) (I:=fun _=>True) 200003 (Xg b) 42 (mkB 15 5) [1,2,3,4] [200001,200002] (fun _=>Bh) (fun _=>lEB 15 5 (Lm b)) (fun _=>(Va b)) (fun _=>⟨Bh,[(200003,Za0 b),(Bk b),(200002,Z9V),(200100,Za1 b),(26,Z9X b),(30,Z9Y b),(34,Z9Z b)]⟩) hP hFl (TL b hc kr) (fun _ _ => ?_)
 refine AF ?_
 refine Aq (Cv.trans (ck (⟨Bh,(aB b)⟩)) (Cv.refl _))<|AB<|AB ?_
 refine rn ⟨R3,(aB b)⟩ ?_
 refine B5 (ι:=Unit) (I:=fun _=>True) 200003 (Z7 b) 42 (mkB 15 6) [1,2,3,5] [200001,200002] (fun _=>Bh) (fun _=>lEB 15 6 (RV b)) (fun _=>(Rn b)) (fun _=>⟨Bh,[(200003,Za2 b),(Bk b),(200002,Z9V),(200102,Za3 b),(26,Z9X b),(30,Z9Y b),(34,Z9Z b),(200100,Za1 b)]⟩) hP hFl (Jk b hc kr) (fun _ _ => ?_)
 refine AF ?_
 refine Aq (Cv.trans (ck (⟨Bh,(aM b)⟩)) (Cv.refl _))<|AB<|AB ?_
 refine rn ⟨R2,(aM b)⟩ ?_
 refine B5 (ι:=Unit) (I:=fun _=>True) 200003 (aH b) 42 (mkB 15 8) [1,2,3,7] [200001,200002] (fun _=>Bh) (fun _=>lEB 15 8 (.own 200340 8 2)) (fun _=>[(Bk b),D2,(200340,.rowx 8 2 (fun i_ j_=>if i_<1 then (fun _ _=>default) i_ j_ else (fun _ _=>default) (i_-1) j_) 90 [(0,(Z2 b [.own 200341 4 (H0 b).Rects.length])),(1,(Z1 b [.own 200342 4 (Io b).Rects.length]))]),(200341,.row 4 (b.Pours.getD 0 default).Rects.length (AP Ai.c (b.Pours.getD 0 default).Rects) 76),(200342,.row 4 (b.Pours.getD 1 default).Rects.length (AP Ai.c (b.Pours.getD 1 default).Rects) 76)]) (fun _=>⟨Bh,[(200003,Za4 b),(Bk b),(200002,Z9V),(200340,Za5 b),(200341,Za6 b),(200342,Za7 b),(26,Z9X b),(30,Z9Y b),(34,Z9Z b),(200100,Za1 b),(200102,Za3 b)]⟩) hP hFl (gCxP2 b hc hlen kr) (fun _ _ => ?_)
 refine AF ?_
 refine Aq (Cv.trans (ck (⟨Bh,(aZ b)⟩)) (Cv.refl _))<|AB<|AB ?_
 refine rn ⟨R1,(aZ b)⟩ ?_
 refine B5 (ι:=Unit) (I:=fun _=>True) 200003 (ET b [.own 200340 8 2,vN,vN,vN,vN,.own 34 3 b.Waivers.length,vN]) 42 (mkB 15 9) [1,2,3,9] [200001,200002] (fun _=>Bh) (fun _=>lEB 15 9 (RU b)) (fun _=>(Rm b)) (fun _=>⟨Bh,[(200003,Za8 b),(Bk b),(200002,Z9V),(200106,Za9 b),(26,Z9X b),(30,Z9Y b),(34,Z9Z b),(200100,Za1 b),(200102,Za3 b),(200340,Za5 b),(200341,Za6 b),(200342,Za7 b)]⟩) hP hFl (LU b hc kr) (fun _ _ => ?_)
 refine AF ?_
 refine Aq (Cv.trans (ck (⟨Bh,(bG b)⟩)) (Cv.refl _))<|AB<|AB ?_
 refine rn ⟨R8,(bG b)⟩ ?_
 refine B5 (ι:=Unit) (I:=fun _=>True) 200003 (ET b (Q8 b (Q2 b))) 42 (mkB 15 10) [1,2,3,11] [200001,200002] (fun _=>Bh) (fun _=>lEB 15 10 (RS b)) (fun _=>(Rl b)) (fun _=>⟨Bh,[(200003,Zaa b),(Bk b),(200002,Z9V),(200108,Zab b),(26,Z9X b),(30,Z9Y b),(34,Z9Z b),(200100,Za1 b),(200102,Za3 b),(200106,Za9 b),(200340,Za5 b),(200341,Za6 b),(200342,Za7 b)]⟩) hP hFl (LS b hc kr) (fun _ _ => ?_)
 refine AF ?_
 refine Aq (Cv.trans (ck (⟨Bh,(bN b)⟩)) (Cv.refl _))<|AB<|AB ?_
 refine rn ⟨R7,(bN b)⟩ ?_
 refine B5 (ι:=Unit) (I:=fun _=>True) 200003 (ET b (Q8 b (Q6 b [vN]))) 42 (mkB 15 11) [1,2,3,13] [200001,200002] (fun _=>Bh) (fun _=>lEB 15 11 (RR b)) (fun _=>(Rk b)) (fun _=>⟨Bh,[(200003,Zac b),(Bk b),(200002,Z9V),(200110,Zad b),(26,Z9X b),(30,Z9Y b),(34,Z9Z b),(200100,Za1 b),(200102,Za3 b),(200106,Za9 b),(200108,Zab b),(200340,Za5 b),(200341,Za6 b),(200342,Za7 b)]⟩) hP hFl (IM b hc kr) (fun _ _ => ?_)
 refine AF ?_
 refine Aq (Cv.trans (ck (⟨Bh,(bS b)⟩)) (Cv.refl _))<|AB<|AB ?_
 refine rn ⟨R6,(bS b)⟩ ?_
 refine B5 (ι:=Unit) (I:=fun _=>True) 200003 (ET b (Ls b (Q0 b))) 42 (mkB 15 14) [1,2,3,14] [200001,200002] (fun _=>Bh) (fun _=>lEB 15 14 (RQ b)) (fun _=>[(Bk b),D2,(Rq b)]) (fun _=>⟨Bh,[(200003,Zae b),(Bk b),(200002,Z9V),(200112,Zaf b),(26,Z9X b),(30,Z9Y b),(34,Z9Z b),(200100,Za1 b),(200102,Za3 b),(200106,Za9 b),(200108,Zab b),(200110,Zad b),(200340,Za5 b),(200341,Za6 b),(200342,Za7 b)]⟩) hP hFl (IL b hc kr) (fun _ _ => ?_)
 refine AF ?_
 refine Aq (Cv.trans (ck (⟨Bh,(bW b)⟩)) (Cv.refl _))<|AB<|AB ?_
 refine rn ⟨R5,(bW b)⟩ ?_
 refine B5 (ι:=Unit) (I:=fun _=>True) 200003 (ET b (Ls b (Q4 b))) 42 (mkB 15 12) [1,2,3,16] [200001,200002] (fun _=>Bh) (fun _=>lEB 15 12 (RX b)) (fun _=>[(Bk b),D2,(Rr b)]) (fun _=>⟨Bh,[(200003,Zag b),(Bk b),(200002,Z9V),(200114,Zah b),(26,Z9X b),(30,Z9Y b),(34,Z9Z b),(200100,Za1 b),(200102,Za3 b),(200106,Za9 b),(200108,Zab b),(200110,Zad b),(200112,Zaf b),(200340,Za5 b),(200341,Za6 b),(200342,Za7 b)]⟩) hP hFl (LT b hc kr) (fun _ _ => ?_)
 refine AF ?_
 refine Aq (Cv.trans (ck (⟨Bh,(Ir b [(200003,Zag b),(200100,Za1 b),(200102,Za3 b),(200106,Za9 b),(200108,Zab b),(200110,Zad b),(200112,Zaf b),(200114,Zah b),(200340,Za5 b),(200341,Za6 b),(200342,Za7 b)])⟩)) (Cv.refl _))<|AB ?_
 refine rn ⟨Iz,[(26,Z9X b),(30,Z9Y b),(34,Z9Z b),(200002,Zag b),(200100,Za1 b),(200102,Za3 b),(200106,Za9 b),(200108,Zab b),(200110,Zad b),(200112,Zaf b),(200114,Zah b),(200340,Za5 b),(200341,Za6 b),(200342,Za7 b)]⟩<|Ac ?_
 refine ⟨_,Cv.trans (ck (⟨Iz,[(26,Z9X b),(200100,Za1 b),(200102,Za3 b),(30,Z9Y b),(200340,Za5 b),(200106,Za9 b),(200108,Zab b),(200110,Zad b),(200114,Zah b),(34,Z9Z b),(200112,Zaf b),(200341,Za6 b),(200342,Za7 b),(200002,Zag b)]⟩)) (Cv.refl _),.inl rfl,lO b,by kernel_rfl,kP (m:=[(200002,.cells (ET b (Ls b (Q5 b))) 42)]) kr⟩
end
section
open Go.RowKit
def Zai:Blk:=.cells GD 42
variable (b:AC) (q:C5)
def Zaj:Blk:=.row 7 b.Parts.length (H9 b) 59
def Zak:Blk:=.row 2 (Ag b).length (H7 b) 48
def Zal:Blk:=.row 6 (AH b).length (HO b) 85
def Zam:Blk:=.row 8 b.Vias.length (HN b) 87
def Zan:Blk:=.rowx 8 2 (fun i_ j_=>if i_<1 then (fun _ _=>default) i_ j_ else (fun _ _=>default) (i_-1) j_) 90 [(0,(Tr b)),(1,(Ts b))]
def Zao:Blk:=.row 5 (Aa b).length (HR b) 93
def Zap:Blk:=.row 4 (AY b).length (HP b) 95
def Zaq:Blk:=.row 2 (AN b).length (HS b) 98
def Zar:Blk:=.row 20 (AO b).length (HQ b) 107
def Zas:Blk:=.row 3 b.Waivers.length (HW b) 102
def Zat:Blk:=.row 3 (AM b).length (Gm b) 100
def Zau:Blk:=.row 4 (DP b).Rects.length (I1 b) 76
def Zav:Blk:=.row 4 (Bn b).Rects.length (AP Ai.c (Bn b).Rects) 76
def Zaw:Blk:=.cells (Xc b) 42
abbrev Iw:=[Ai.mk (Px q) (Pw q) (W64 ((Px q)+2)) (W64 ((W64 ((Pw q)+2))+(W64 ((W64 (Int.tdiv (AK q.e1 48) 40))*1000))))]
def Zax:Blk:=.row 4 ((DP b).Rects++(Iw q)).length (AP Ai.c ((DP b).Rects++(Iw q))) 76
abbrev aU:List Cl:=(H4 b [.own 370 4 ((DP b).Rects++(Iw q)).length])
def Zay:Blk:=.rowx 8 2 (fun i_ j_=>if i_<1 then (fun _ _=>default) i_ j_ else (fun _ _=>default) (i_-1) j_) 90 [(0,(aU b q)),(1,(Ts b))]
def Zaz:Blk:=.row 4 ((Bn b).Rects++(Iw q)).length (AP Ai.c ((Bn b).Rects++(Iw q))) 76
def ZaA:Blk:=.rowx 8 2 (fun i_ j_=>if i_<1 then (fun _ _=>default) i_ j_ else (fun _ _=>default) (i_-1) j_) 90 [(0,(Tr b)),(1,(Lx b [.own 370 4 ((Bn b).Rects++(Iw q)).length]))]
def K5 (b:AC) (q:C5):AC:=bif decide (((Int.tmod (AK q.e2 64) ((2:Nat):Int)).toNat:Nat)=0) then (AC.mk b.Layers (Aj b.Outline) b.Parts (Ag b) (AH b) b.Vias [A4.mk (b.Pours.getD 0 default).Id (b.Pours.getD 0 default).Net (b.Pours.getD 0 default).Layer (b.Pours.getD 0 default).Pitch (b.Pours.getD 0 default).Priority (b.Pours.getD 0 default).Relief (b.Pours.getD 0 default).Spoke ((b.Pours.getD 0 default).Rects++[Ai.mk (Int.tmod (AK q.e1 48) 9) (Int.tmod (AK q.e2 64) 9) (W64 ((Int.tmod (AK q.e1 48) 9)+2)) (W64 ((W64 ((Int.tmod (AK q.e2 64) 9)+2))+(W64 ((W64 (Int.tdiv (AK q.e1 48) 40))*1000))))]),b.Pours.getD 1 default] (Aa b) (AY b) (AN b) (AO b) b.Waivers (AM b)) else (AC.mk b.Layers (Aj b.Outline) b.Parts (Ag b) (AH b) b.Vias [b.Pours.getD 0 default,A4.mk (b.Pours.getD 1 default).Id (b.Pours.getD 1 default).Net (b.Pours.getD 1 default).Layer (b.Pours.getD 1 default).Pitch (b.Pours.getD 1 default).Priority (b.Pours.getD 1 default).Relief (b.Pours.getD 1 default).Spoke ((b.Pours.getD 1 default).Rects++[Ai.mk (Int.tmod (AK q.e1 48) 9) (Int.tmod (AK q.e2 64) 9) (W64 ((Int.tmod (AK q.e1 48) 9)+2)) (W64 ((W64 ((Int.tmod (AK q.e2 64) 9)+2))+(W64 ((W64 (Int.tdiv (AK q.e1 48) 40))*1000))))])] (Aa b) (AY b) (AN b) (AO b) b.Waivers (AM b))
def pL:CT:=(9,(Nn b q),.val [] (.av (.agg (AC.c (K5 b q)))))
abbrev Nh (t_:List (Nat×Blk)):List (Nat×Blk):=(4,Zai)::(5,Zaw b)::(26,Zaj b)::(30,Zam b)::(34,Zas b)::t_
abbrev Hz:List (Nat×Blk):=(Nh b [(200100,Zak b),(200102,Zal b),(200106,Zao b),(200108,Zap b),(200110,Zaq b),(200112,Zat b),(200114,Zar b),(200340,Zan b),(200341,Zau b),(200342,Zav b)])
abbrev I3:=b.Pours.getD 0 default
abbrev lN:List Cl:=[.i (I3 b).Id,.s (I3 b).Net,.i (I3 b).Layer,.i (I3 b).Pitch,.i (I3 b).Priority,.i (I3 b).Relief,.i (I3 b).Spoke,lst 4 Ai.c ((I3 b).Rects++[Ai.mk (Px q) (Pw q) (W64 ((Px q)+2)) (W64 ((W64 ((Pw q)+2))+(W64 ((W64 (Int.tdiv (AK q.e1 48) 40))*1000))))])]
abbrev Vv:List Cl:=(H4 b [lst 4 Ai.c ((DP b).Rects++(Iw q))])
abbrev Vt:=[A4.mk (DP b).Id (DP b).Net (DP b).Layer (DP b).Pitch (DP b).Priority (DP b).Relief (DP b).Spoke ((DP b).Rects++(Iw q)),b.Pours.getD 1 default]
abbrev Vs:=As 4 1 [.i (Px q),.i (Pw q),.i (W64 ((Px q)+2)),.i (W64 ((W64 ((Pw q)+2))+(W64 ((W64 (Int.tdiv (AK q.e1 48) 40))*1000))))]
abbrev bD:List Cl:=(H4 b [.own 370 4 ((DP b).Rects.length+1)])
abbrev RN (t_:List (Nat×Blk)):List (Nat×Blk):=(4,Zaw b)::(26,Zaj b)::(30,Zam b)::(34,Zas b)::(200100,Zak b)::(200102,Zal b)::(200106,Zao b)::(200108,Zap b)::(200110,Zaq b)::(200112,Zat b)::(200114,Zar b)::t_
set_option maxHeartbeats 40000000 in
theorem nD (b:AC) (q:C5) (hc:CM b) (hq:AK q.e0 26=16) (hlen:(b.Pours.length:Int)=2):PuP 9 (pL b q).2.1 (.av (.agg (AC.c (K5 b q)))):=by
 refine pwf Try.func9 fun W0 M0 => ?_
 have hl0:=hc.lParts
 have hl1:=hc.lNets
 have hl2:=hc.lTracks
 have hl3:=hc.lVias
 have hl4:=hc.lPours
 have hl5:=hc.lKeeps
 have hl6:=hc.lSlots
 have hl7:=hc.lClasses
 have hl8:=hc.lWaivers
 have hl9:=hc.lMatches
 have hl10:=hc.lRules
 have hN:0<=AK q.e1 48/\AK q.e1 48<48:=Ik _ _ (by decide) (by decide)
 have hK0:=Ik q.e2 64 (by decide) (by decide)
 have hK:0<=AK q.e2 64/\AK q.e2 64<64:=hK0
 have hb0:=hc.rec' 0
 have hb1:=hc.rec' 1
 refine AB<|rn ⟨N5,[(2,.cells (AC.c b) 42),(Du q),(4,Zai)]⟩<|AB ?_
 refine Dc ?_
 refine FS DV 1 [] [] [] [3,4,11] [3,4] [] ⟨(OB b),[(Du q),(4,Zai)]⟩ .nil kr .nil ?_
 refine Hs (ι:=Unit) (I:=fun _=>True) (fun _=>⟨[(3,tP 3 0),(4,tP 4 0),(N7 b),(12,.av (.agg (Xc b)))],[(26,Zaj b),(200100,Zak b),(200102,Zal b),(30,Zam b),(200340,Zan b),(200106,Zao b),(200108,Zap b),(200110,Zaq b),(200114,Zar b),(34,Zas b),(200112,Zat b),(200341,Zau b),(200342,Zav b),(Du q),(4,Zai)]⟩) hk0 ⟨⟨_,_,rfl,rfl,⟨fun _=>default,by kernel_rfl⟩,by kernel_rfl⟩,fun _ _=>by kernel_rfl,rfl,rfl⟩ (qCyP2 b au16 au16) (fun _=>by kernel_rfl) (fun _=>by kernel_rfl) (fun _ _ => ?_)
 refine Ea DV [] [] [] [3,4,5] [3,4,5,26,30,34,200100,200102,200106,200108,200110,200112,200114,200340,200341,200342] [] ⟨N4,[(Du q),(4,Zai),(5,Zaw b),(26,Zaj b),(30,Zam b),(34,Zas b),(200100,Zak b),(200102,Zal b),(200106,Zao b),(200108,Zap b),(200110,Zaq b),(200112,Zat b),(200114,Zar b),(200340,Zan b),(200341,Zau b),(200342,Zav b)]⟩ .nil kr .nil<|AF<|AB ?_
 refine oc [(15,Ej q.e1 48)] [0<=(1:Int)/\(1:Int)<(3:Int),A0 (Ej q.e1 48).2.1] (.cons (GR q.e1 48 au16) .nil) (.cons (by decide) (.cons rfl .nil))<|AF<|AB ?_
 refine oc [(18,Ej q.e2 64)] [0<=(2:Int)/\(2:Int)<(3:Int),A0 (Ej q.e2 64).2.1] (.cons (GR q.e2 64 au16) .nil) (.cons (by decide) (.cons rfl .nil))<|AF ?_
 refine AB<|AB ?_
 refine oc [(21,Ej q.e0 26)] [0<=(0:Int)/\(0:Int)<(3:Int),A0 (Ej q.e0 26).2.1] (.cons (GR q.e0 26 au16) .nil) (.cons (by decide) (.cons rfl .nil))<|AF ?_
 refine AX<|AB ?_
 refine rn ⟨(OM q),(Hz b)⟩ ?_
 have h1:(SF q)=false:=(decide_eq_false fun e=>absurd (hq.symm.trans e) (by decide))
 have g1:=oF h1
 refine AL _ rfl (fun h=>absurd (h1.symm.trans h) (by decide)) (fun _ => ?_)
 refine AB<|rn ⟨(OL q),(Hz b)⟩ ?_
 have h2:(SE q)=false:=(decide_eq_false fun e=>absurd (hq.symm.trans e) (by decide))
 have g2:=oF h2
 refine AL _ rfl (fun h=>absurd (h2.symm.trans h) (by decide)) (fun _ => ?_)
 refine AB<|rn ⟨(OJ q),(Hz b)⟩ ?_
 have h3:(SD q)=false:=(decide_eq_false fun e=>absurd (hq.symm.trans e) (by decide))
 have g3:=oF h3
 refine AL _ rfl (fun h=>absurd (h3.symm.trans h) (by decide)) (fun _ => ?_)
 refine AB<|rn ⟨(OI q),(Hz b)⟩ ?_
 have h4:(SC q)=false:=(decide_eq_false fun e=>absurd (hq.symm.trans e) (by decide))
 have g4:=oF h4
 refine AL _ rfl (fun h=>absurd (h4.symm.trans h) (by decide)) (fun _ => ?_)
 refine AB<|rn ⟨(OG q),(Hz b)⟩ ?_
 have h5:(SB q)=false:=(decide_eq_false fun e=>absurd (hq.symm.trans e) (by decide))
 have g5:=oF h5
 refine AL _ rfl (fun h=>absurd (h5.symm.trans h) (by decide)) (fun _ => ?_)
 refine AB<|rn ⟨(OQ q),(Hz b)⟩ ?_
 have h6:(SA q)=false:=(decide_eq_false fun e=>absurd (hq.symm.trans e) (by decide))
 have g6:=oF h6
 refine AL _ rfl (fun h=>absurd (h6.symm.trans h) (by decide)) (fun _ => ?_)
 refine AB<|rn ⟨(OP q),(Hz b)⟩ ?_
 have h7:(R9 q)=false:=(decide_eq_false fun e=>absurd (hq.symm.trans e) (by decide))
 have g7:=oF h7
 refine AL _ rfl (fun h=>absurd (h7.symm.trans h) (by decide)) (fun _ => ?_)
 refine AB<|rn ⟨(OO q),(Hz b)⟩ ?_
 have h8:(OD q)=false:=(decide_eq_false fun e=>absurd (hq.symm.trans e) (by decide))
 have g8:=oF h8
 refine AL _ rfl (fun h=>absurd (h8.symm.trans h) (by decide)) (fun _ => ?_)
 refine AB<|rn ⟨(SK q),(Hz b)⟩ ?_
 have h9:(Ra q)=false:=(decide_eq_false fun e=>absurd (hq.symm.trans e) (by decide))
 have g9:=oF h9
 refine AL _ rfl (fun h=>absurd (h9.symm.trans h) (by decide)) (fun _ => ?_)
 refine AB<|rn ⟨(ON q),(Hz b)⟩ ?_
 have h10:(RZ q)=false:=(decide_eq_false fun e=>absurd (hq.symm.trans e) (by decide))
 have g10:=oF h10
 refine AL _ rfl (fun h=>absurd (h10.symm.trans h) (by decide)) (fun _ => ?_)
 refine AB<|rn ⟨(ST q),(Hz b)⟩ ?_
 have h11:(Rg q)=false:=(decide_eq_false fun e=>absurd (hq.symm.trans e) (by decide))
 have g11:=oF h11
 refine AL _ rfl (fun h=>absurd (h11.symm.trans h) (by decide)) (fun _ => ?_)
 refine AB<|rn ⟨(SS q),(Hz b)⟩ ?_
 have h12:(Rf q)=false:=(decide_eq_false fun e=>absurd (hq.symm.trans e) (by decide))
 have g12:=oF h12
 refine AL _ rfl (fun h=>absurd (h12.symm.trans h) (by decide)) (fun _ => ?_)
 refine AB<|rn ⟨(SR q),(Hz b)⟩ ?_
 have h13:(Re q)=false:=(decide_eq_false fun e=>absurd (hq.symm.trans e) (by decide))
 have g13:=oF h13
 refine AL _ rfl (fun h=>absurd (h13.symm.trans h) (by decide)) (fun _ => ?_)
 refine AB<|rn ⟨(SP q),(Hz b)⟩ ?_
 have h14:(Rd q)=false:=(decide_eq_false fun e=>absurd (hq.symm.trans e) (by decide))
 have g14:=oF h14
 refine AL _ rfl (fun h=>absurd (h14.symm.trans h) (by decide)) (fun _ => ?_)
 refine AB<|rn ⟨(SO q),(Hz b)⟩ ?_
 have h15:(Rc q)=false:=(decide_eq_false fun e=>absurd (hq.symm.trans e) (by decide))
 have g15:=oF h15
 refine AL _ rfl (fun h=>absurd (h15.symm.trans h) (by decide)) (fun _ => ?_)
 refine AB<|rn ⟨(SN q),(Hz b)⟩ ?_
 have h16:(Rb q)=false:=(decide_eq_false fun e=>absurd (hq.symm.trans e) (by decide))
 have g16:=oF h16
 refine AL _ rfl (fun h=>absurd (h16.symm.trans h) (by decide)) (fun _ => ?_)
 refine AB<|rn ⟨(SM q),(Hz b)⟩ ?_
 have h17:(SG q)=true:=(decide_eq_true hq)
 have g17:=oT h17
 refine AL _ rfl (fun _ => ?_) (fun h=>absurd (h17.symm.trans h) (by decide))
 refine AB<|rn ⟨(B6 q [(340,tB (decide ((0:Int)<((2:Nat):Int))))]),(Hz b)⟩ ?_
 have h18:(decide ((0:Int)<((2:Nat):Int)))=true:=(by decide)
 have g18:=oT h18
 refine AL _ rfl (fun _ => ?_) (fun h=>absurd (h18.symm.trans h) (by decide))
 refine AB<|dw [] [] [(((2:Nat):Int):Int)≠0,0<=(Int.tmod (AK q.e2 64) ((2:Nat):Int):Int)/\(Int.tmod (AK q.e2 64) ((2:Nat):Int):Int)<((2:Nat):Int)] ⟨(B6 q [(9,.av (.one (.rptr 200340 8 (Int.tmod (AK q.e2 64) ((2:Nat):Int)).toNat 0)))]),(Hz b)⟩ .nil (.cons au14 (.cons (by first | decide | omega | (have:=tmb hK.1 (n:=((2:Nat):Int)) (by decide);omega)) .nil))<|AF ?_
 refine NC (decide (((Int.tmod (AK q.e2 64) ((2:Nat):Int)).toNat:Nat)=0)) (fun h19 => ?_) (fun h19 => ?_)
 ·have g19:=oT h19
  (try rw [g19])
  refine rc [] [(9:Int)≠0,(9:Int)≠0,(9:Int)≠0,(9:Int)≠0,(40:Int)≠0,(b.Pours.getD 0 default).Rects.length=(b.Pours.getD 0 default).Rects.length,(b.Pours.getD 0 default).Rects.length+1<=maxLen,((b.Pours.getD 0 default).Rects.length+1)*32<=140737488355328] ⟨DW,(Nh b [(370,.row 4 ((DP b).Rects.length+1) (fun i_ j_=>if i_<(DP b).Rects.length then (I1 b) i_ j_ else (Vs q) (i_-(DP b).Rects.length) j_) 76),(200100,Zak b),(200102,Zal b),(200106,Zao b),(200108,Zap b),(200110,Zaq b),(200112,Zat b),(200114,Zar b),(200340,.rowx 8 2 (fun i_ j_=>if i_<1 then (fun _ _=>default) i_ j_ else (fun _ _=>default) (i_-1) j_) 90 [(0,(bD b)),(1,(Ts b))]),(200342,Zav b)])⟩ .nil (.cons au14 (.cons au14 (.cons au14 (.cons au14 (.cons au14 (.cons rfl (.cons au8 (.cons au8 .nil))))))))<|A8<|AF ?_
  refine Aq (Cv.trans (BS (⟨DW,(Nh b [(370,Zax b q),(200100,Zak b),(200102,Zal b),(200106,Zao b),(200108,Zap b),(200110,Zaq b),(200112,Zat b),(200114,Zar b),(200340,Zay b q),(200342,Zav b)])⟩) lr (.cons ⟨rfl,.refl _⟩ (.cons ⟨rfl,.refl _⟩ (.cons ⟨rfl,.refl _⟩ (.cons ⟨rfl,.refl _⟩ (.cons ⟨rfl,.refl _⟩ (.cons ⟨rfl,Ao 76 (Au (An 4 Ai.c (b.Pours.getD 0 default).Rects) (Ae (c:=Ai.c) (xs:=([Ai.mk (Int.tmod (AK q.e1 48) 9) (Int.tmod (AK q.e2 64) 9) (W64 ((Int.tmod (AK q.e1 48) 9)+2)) (W64 ((W64 ((Int.tmod (AK q.e2 64) 9)+2))+(W64 ((W64 (Int.tdiv (AK q.e1 48) 40))*1000))))]:List Ai)) rfl kr))⟩ (.cons ⟨rfl,.refl _⟩ (.cons ⟨rfl,.refl _⟩ (.cons ⟨rfl,.refl _⟩ (.cons ⟨rfl,.refl _⟩ (.cons ⟨rfl,.refl _⟩ (.cons ⟨rfl,.refl _⟩ (.cons ⟨rfl,.refl _⟩ (.cons ⟨rfl,.rowx _ _ _ _ (.cons ⟨rfl,(rr5 (rr2 (.cons (.own _ _ au0) .nil)))⟩ (.cons ⟨rfl,(rr5 (rr3 .nil))⟩ .nil))⟩ lr))))))))))))))) (Cv.refl _))<|AB ?_
  refine rn ⟨[(4,tP 4 0)],[(4,Zaw b),(26,Zaj b),(30,Zam b),(34,Zas b),(370,Zax b q),(200100,Zak b),(200102,Zal b),(200106,Zao b),(200108,Zap b),(200110,Zaq b),(200112,Zat b),(200114,Zar b),(200340,Zay b q),(200342,Zav b)]⟩<|Ac ?_
  exact zy (Cv.trans (vf 370 hk0) (Cv.trans (Hq (⟨[(4,tP 4 0)],(RN b [(200340,.rowx 8 2 (fun i_ j_=>if i_<1 then (fun _ _=>default) i_ j_ else (fun _ _=>default) (i_-1) j_) 90 [(0,(Vv b q)),(1,(A4.c (Bn b)))])])⟩) 200342 hk0) (Cv.trans (G0 (⟨[(4,tP 4 0)],(RN b [(200340,.row 8 2 (As 8 2 (H4 b [lst 4 Ai.c ((DP b).Rects++(Iw q)),.i (Bn b).Id,.s (Bn b).Net,.i (Bn b).Layer,.i (Bn b).Pitch,.i (Bn b).Priority,.i (Bn b).Relief,.i (Bn b).Spoke,lst 4 Ai.c (Bn b).Rects])) 90)])⟩) 200340 8 2 (fun i_ j_=>if i_<1 then (fun _ _=>default) i_ j_ else (fun _ _=>default) (i_-1) j_) 90 [(lN b q),(A4.c (b.Pours.getD 1 default))] kr kr kr kr) (Cv.trans (BS (⟨[(4,tP 4 0)],[(4,.cells (B8 b [.own 200340 8 ((Vt b q).length),.own 200106 5 (Aa b).length,.own 200108 4 (AY b).length,.own 200110 2 (AN b).length,.own 200114 20 (AO b).length,.own 34 3 b.Waivers.length,.own 200112 3 (AM b).length]) 42),(26,Zaj b),(30,Zam b),(34,Zas b),(200100,Zak b),(200102,Zal b),(200106,Zao b),(200108,Zap b),(200110,Zaq b),(200112,Zat b),(200114,Zar b),(200340,.row 8 ((Vt b q).length) (AP A4.c (Vt b q)) 90)]⟩) lr (.cons ⟨rfl,.cells _ (rr5 (rr3 (.cons (.own _ _ au0) (rr (rr (rr (rr (rr (rr .nil)))))))))⟩ (.cons ⟨rfl,.refl _⟩ (.cons ⟨rfl,.refl _⟩ (.cons ⟨rfl,.refl _⟩ (.cons ⟨rfl,.refl _⟩ (.cons ⟨rfl,.refl _⟩ (.cons ⟨rfl,.refl _⟩ (.cons ⟨rfl,.refl _⟩ (.cons ⟨rfl,.refl _⟩ (.cons ⟨rfl,.refl _⟩ (.cons ⟨rfl,.refl _⟩ (.cons ⟨rfl,Ao 90 (Ae (c:=A4.c) (xs:=([A4.mk (b.Pours.getD 0 default).Id (b.Pours.getD 0 default).Net (b.Pours.getD 0 default).Layer (b.Pours.getD 0 default).Pitch (b.Pours.getD 0 default).Priority (b.Pours.getD 0 default).Relief (b.Pours.getD 0 default).Spoke ((b.Pours.getD 0 default).Rects++[Ai.mk (Int.tmod (AK q.e1 48) 9) (Int.tmod (AK q.e2 64) 9) (W64 ((Int.tmod (AK q.e1 48) 9)+2)) (W64 ((W64 ((Int.tmod (AK q.e2 64) 9)+2))+(W64 ((W64 (Int.tdiv (AK q.e1 48) 40))*1000))))]),b.Pours.getD 1 default]:List A4)) rfl kr)⟩ .nil))))))))))))) (Cv.trans (Bu [26,200100,200102,30,200340,200106,200108,200110,200114,34,200112] hk0) (Cv.refl _)))))) (by simp only [K5,h1,h2,h3,h4,h5,h6,h7,h8,h9,h10,h11,h12,h13,h14,h15,h16,h17,h18,h19,cond_true,cond_false] <;> kernel_rfl)
 have g19:=oF h19
 have g20:((Int.tmod (AK q.e2 64) ((2:Nat):Int)).toNat:Nat)=1:=(by have:=tmb hK.1 (n:=((2:Nat):Int)) (by decide);omega)
 (try rw [g20])
 refine rc [] [(9:Int)≠0,(9:Int)≠0,(9:Int)≠0,(9:Int)≠0,(40:Int)≠0,(b.Pours.getD 1 default).Rects.length=(b.Pours.getD 1 default).Rects.length,(b.Pours.getD 1 default).Rects.length+1<=maxLen,((b.Pours.getD 1 default).Rects.length+1)*32<=140737488355328] ⟨DW,(Nh b [(370,.row 4 ((Bn b).Rects.length+1) (fun i_ j_=>if i_<(Bn b).Rects.length then (AP Ai.c (Bn b).Rects) i_ j_ else (Vs q) (i_-(Bn b).Rects.length) j_) 76),(200100,Zak b),(200102,Zal b),(200106,Zao b),(200108,Zap b),(200110,Zaq b),(200112,Zat b),(200114,Zar b),(200340,.rowx 8 2 (fun i_ j_=>if i_<1 then (fun _ _=>default) i_ j_ else (fun _ _=>default) (i_-1) j_) 90 [(0,(Tr b)),(1,(Lx b [.own 370 4 ((Bn b).Rects.length+1)]))]),(200341,Zau b)])⟩ .nil (.cons au14 (.cons au14 (.cons au14 (.cons au14 (.cons au14 (.cons rfl (.cons au8 (.cons au8 .nil))))))))<|A8<|AF ?_
 refine Aq (Cv.trans (BS (⟨DW,(Nh b [(370,Zaz b q),(200100,Zak b),(200102,Zal b),(200106,Zao b),(200108,Zap b),(200110,Zaq b),(200112,Zat b),(200114,Zar b),(200340,ZaA b q),(200341,Zau b)])⟩) lr (.cons ⟨rfl,.refl _⟩ (.cons ⟨rfl,.refl _⟩ (.cons ⟨rfl,.refl _⟩ (.cons ⟨rfl,.refl _⟩ (.cons ⟨rfl,.refl _⟩ (.cons ⟨rfl,Ao 76 (Au (An 4 Ai.c (b.Pours.getD 1 default).Rects) (Ae (c:=Ai.c) (xs:=([Ai.mk (Int.tmod (AK q.e1 48) 9) (Int.tmod (AK q.e2 64) 9) (W64 ((Int.tmod (AK q.e1 48) 9)+2)) (W64 ((W64 ((Int.tmod (AK q.e2 64) 9)+2))+(W64 ((W64 (Int.tdiv (AK q.e1 48) 40))*1000))))]:List Ai)) rfl kr))⟩ (.cons ⟨rfl,.refl _⟩ (.cons ⟨rfl,.refl _⟩ (.cons ⟨rfl,.refl _⟩ (.cons ⟨rfl,.refl _⟩ (.cons ⟨rfl,.refl _⟩ (.cons ⟨rfl,.refl _⟩ (.cons ⟨rfl,.refl _⟩ (.cons ⟨rfl,.rowx _ _ _ _ (.cons ⟨rfl,(rr5 (rr3 .nil))⟩ (.cons ⟨rfl,(rr5 (rr2 (.cons (.own _ _ au0) .nil)))⟩ .nil))⟩ lr))))))))))))))) (Cv.refl _))<|AB ?_
 refine rn ⟨[(4,tP 4 0)],[(4,Zaw b),(26,Zaj b),(30,Zam b),(34,Zas b),(370,Zaz b q),(200100,Zak b),(200102,Zal b),(200106,Zao b),(200108,Zap b),(200110,Zaq b),(200112,Zat b),(200114,Zar b),(200340,ZaA b q),(200341,Zau b)]⟩<|Ac ?_
 exact zy (Cv.trans (vf 200341 hk0) (Cv.trans (Hq (⟨[(4,tP 4 0)],(RN b [(200340,.rowx 8 2 (fun i_ j_=>if i_<1 then (fun _ _=>default) i_ j_ else (fun _ _=>default) (i_-1) j_) 90 [(0,(A4.c (DP b))),(1,(Lx b [lst 4 Ai.c ((Bn b).Rects++(Iw q))]))])])⟩) 370 hk0) (Cv.trans (G0 (⟨[(4,tP 4 0)],(RN b [(200340,.row 8 2 (As 8 2 (H4 b [lst 4 Ai.c (DP b).Rects,.i (Bn b).Id,.s (Bn b).Net,.i (Bn b).Layer,.i (Bn b).Pitch,.i (Bn b).Priority,.i (Bn b).Relief,.i (Bn b).Spoke,lst 4 Ai.c ((Bn b).Rects++(Iw q))])) 90)])⟩) 200340 8 2 (fun i_ j_=>if i_<1 then (fun _ _=>default) i_ j_ else (fun _ _=>default) (i_-1) j_) 90 [(A4.c (b.Pours.getD 0 default)),(Z1 b [lst 4 Ai.c ((b.Pours.getD 1 default).Rects++[Ai.mk (Int.tmod (AK q.e1 48) 9) (Int.tmod (AK q.e2 64) 9) (W64 ((Int.tmod (AK q.e1 48) 9)+2)) (W64 ((W64 ((Int.tmod (AK q.e2 64) 9)+2))+(W64 ((W64 (Int.tdiv (AK q.e1 48) 40))*1000))))])])] kr kr kr kr) (Cv.trans (BS (⟨[(4,tP 4 0)],[(4,.cells (B8 b [.own 200340 8 ([b.Pours.getD 0 default,A4.mk (Bn b).Id (Bn b).Net (Bn b).Layer (Bn b).Pitch (Bn b).Priority (Bn b).Relief (Bn b).Spoke ((Bn b).Rects++(Iw q))].length),.own 200106 5 (Aa b).length,.own 200108 4 (AY b).length,.own 200110 2 (AN b).length,.own 200114 20 (AO b).length,.own 34 3 b.Waivers.length,.own 200112 3 (AM b).length]) 42),(26,Zaj b),(30,Zam b),(34,Zas b),(200100,Zak b),(200102,Zal b),(200106,Zao b),(200108,Zap b),(200110,Zaq b),(200112,Zat b),(200114,Zar b),(200340,.row 8 ([b.Pours.getD 0 default,A4.mk (Bn b).Id (Bn b).Net (Bn b).Layer (Bn b).Pitch (Bn b).Priority (Bn b).Relief (Bn b).Spoke ((Bn b).Rects++(Iw q))].length) (AP A4.c [b.Pours.getD 0 default,A4.mk (Bn b).Id (Bn b).Net (Bn b).Layer (Bn b).Pitch (Bn b).Priority (Bn b).Relief (Bn b).Spoke ((Bn b).Rects++(Iw q))]) 90)]⟩) lr (.cons ⟨rfl,.cells _ (rr5 (rr3 (.cons (.own _ _ au0) (rr (rr (rr (rr (rr (rr .nil)))))))))⟩ (.cons ⟨rfl,.refl _⟩ (.cons ⟨rfl,.refl _⟩ (.cons ⟨rfl,.refl _⟩ (.cons ⟨rfl,.refl _⟩ (.cons ⟨rfl,.refl _⟩ (.cons ⟨rfl,.refl _⟩ (.cons ⟨rfl,.refl _⟩ (.cons ⟨rfl,.refl _⟩ (.cons ⟨rfl,.refl _⟩ (.cons ⟨rfl,.refl _⟩ (.cons ⟨rfl,Ao 90 (Ae (c:=A4.c) (xs:=([b.Pours.getD 0 default,A4.mk (b.Pours.getD 1 default).Id (b.Pours.getD 1 default).Net (b.Pours.getD 1 default).Layer (b.Pours.getD 1 default).Pitch (b.Pours.getD 1 default).Priority (b.Pours.getD 1 default).Relief (b.Pours.getD 1 default).Spoke ((b.Pours.getD 1 default).Rects++[Ai.mk (Int.tmod (AK q.e1 48) 9) (Int.tmod (AK q.e2 64) 9) (W64 ((Int.tmod (AK q.e1 48) 9)+2)) (W64 ((W64 ((Int.tmod (AK q.e2 64) 9)+2))+(W64 ((W64 (Int.tdiv (AK q.e1 48) 40))*1000))))])]:List A4)) rfl kr)⟩ .nil))))))))))))) (Cv.trans (Bu [26,200100,200102,30,200340,200106,200108,200110,200114,34,200112] hk0) (Cv.refl _)))))) (by simp only [K5,h1,h2,h3,h4,h5,h6,h7,h8,h9,h10,h11,h12,h13,h14,h15,h16,h17,h18,h19,cond_true,cond_false] <;> kernel_rfl)
end
section
open Go.RowKit
def ZaB:Blk:=.cells GD 42
variable (b:AC) (v:Nat->Value)
def ZaC:Blk:=.cells (bE v) 42
def ZaD:Blk:=.row 4 (DP b).Rects.length (I1 b) 76
def ZaE:Blk:=.rowx 8 1 (fun _ _=>default) 90 [(0,(aV b))]
def ZaF:Blk:=.cells (bJ v) 42
def ZaG:Blk:=.rowx 8 1 (fun _ _=>default) 90 [(0,(SY b))]
def ZaH:Blk:=.cells (bK v) 42
def ZaI:Blk:=.cells (Cf v [.own 200320 8 1,.val (v 9),.val (v 10),.val (v 11),.val (v 12),.val (v 13),.val (v 14)]) 42
abbrev Vy:List Cl:=(H4 b [.own 200321 4 (DP b).Rects.length])
def ZaJ:Blk:=.rowx 8 1 (fun _ _=>default) 90 [(0,(Vy b))]
abbrev sCxP1 (b:AC) (v:Nat->Value):AS:=⟨Bh,[(200003,ZaI v),(Bk b),(200002,ZaB),(200320,ZaJ b),(200321,ZaD b)]⟩
set_option maxHeartbeats 4000000 in
theorem gCxP1 (b:AC) (hc:CM b) (hlen:(b.Pours.length:Int)=1) {c:Code} (hpc:Try.f12.body.bind (Fg [true,true,true,true,false,true])=some c):NN Try.prog 229 [200003,200001,200002] c (fun _:Unit=>True) (fun v=>⟨[(1,tP 200001 0),(2,tP 200002 0),(3,tP 200003 0),(7,tI 0)],[(200003,.cells [.val (v 0),.val (v 1),.val (v 2),.val (v 3),.val (v 4),.val (v 5),.val (v 6),.val (v 7),vN,.val (v 9),.val (v 10),.val (v 11),.val (v 12),.val (v 13),.val (v 14)] 42),(200001,.cells (AC.c b) 42),(200002,.cells [.i 0,.i 0,vN,.i 0,vN,vN,vN,vN,vN,vN,vN,vN,vN,vN,vN] 42)]⟩) (fun v _=>sCxP1 b v):=by
 cases hpc
 intro W0 M0 X v hP hFl
 show AWp _ _ _ _ _ _ _ _ ⟨[(1,tP 200001 0),(2,tP 200002 0),(3,tP 200003 0),(7,tI 0)],[(200003,.cells [.val (v 0),.val (v 1),.val (v 2),.val (v 3),.val (v 4),.val (v 5),.val (v 6),.val (v 7),vN,.val (v 9),.val (v 10),.val (v 11),.val (v 12),.val (v 13),.val (v 14)] 42),(200001,.cells (AC.c b) 42),(200002,.cells [.i 0,.i 0,vN,.i 0,vN,vN,vN,vN,vN,vN,vN,vN,vN,vN,vN] 42)]⟩
 have h0:=hc.lParts
 have h1:=hc.lNets
 have h2:=hc.lTracks
 have h3:=hc.lVias
 have h4:=hc.lPours
 have h5:=hc.lKeeps
 have h6:=hc.lSlots
 have h7:=hc.lClasses
 have h8:=hc.lWaivers
 have h9:=hc.lMatches
 have h10:=hc.lRules
 have hr:=hc.rok
 have hb0:=hc.rec' 0
 refine AX ?_
 refine Dy 2 ?_
 refine B7<|AB<|AB ?_
 refine rn ⟨[(1,tP 200001 0),(2,tP 200002 0),(3,tP 200003 0),(7,tI 0),(89,tB (decide ((0:Int)<(b.Pours.length:Int))))],[(200001,.cells (AC.c b) 42),(200002,ZaB),(200003,ZaC v)]⟩ ?_
 have h1:(decide ((0:Int)<(b.Pours.length:Int)))=true:=(by rw [hlen];decide)
 have g1:=oT h1
 refine AL _ rfl (fun _ => ?_) (fun h=>absurd (h1.symm.trans h) (by decide))
 refine Af<|AF ?_
 refine AB<|AX<|AB ?_
 refine rc [] [0<=(0:Int)/\(0:Int)<((b.Pours.length:Nat):Int)] ⟨[(1,tP 200001 0),(2,tP 200002 0),(3,tP 200003 0),(7,tI 0),(8,tP 8 0)],[(8,.cells (A4.c (b.Pours.getD 0 default)) 90),(200001,.cells (AC.c b) 42),(200002,ZaB),(200003,ZaC v)]⟩ .nil (.cons (by first | decide | omega | (rw [hlen];decide) | (rw [show (b.Pours.length:Int)=1 from hlen];decide)) .nil)<|AF<|AB ?_
 refine C4 DV [97] [] [] [1,2,3,7,8] [8,100,200001,200002,200003] [0=0,0+(b.Pours.getD 0 default).Rects.length<=maxLen,(0+(b.Pours.getD 0 default).Rects.length)*32<=140737488355328] ⟨[(1,tP 200001 0),(2,tP 200002 0),(3,tP 200003 0),(7,tI 0),(8,tP 8 0)],[(8,.cells [.i (b.Pours.getD 0 default).Id,.s (b.Pours.getD 0 default).Net,.i (b.Pours.getD 0 default).Layer,.i (b.Pours.getD 0 default).Pitch,.i (b.Pours.getD 0 default).Priority,.i (b.Pours.getD 0 default).Relief,.i (b.Pours.getD 0 default).Spoke,.own 100 4 (0+(b.Pours.getD 0 default).Rects.length)] 90),(100,.row 4 (0+(b.Pours.getD 0 default).Rects.length) (fun i_ j_=>if i_<0 then (As 4 0 []) i_ j_ else (AP Ai.c (b.Pours.getD 0 default).Rects) (i_-0) j_) 76),(200001,.cells (AC.c b) 42),(200002,ZaB),(200003,ZaC v)]⟩ .nil kr (.cons rfl (.cons au8 (.cons au8 .nil)))<|AF ?_
 refine Aq (Cv.trans (BS (⟨[(1,tP 200001 0),(2,tP 200002 0),(3,tP 200003 0),(7,tI 0),(8,tP 8 0)],[(8,.cells [.i (b.Pours.getD 0 default).Id,.s (b.Pours.getD 0 default).Net,.i (b.Pours.getD 0 default).Layer,.i (b.Pours.getD 0 default).Pitch,.i (b.Pours.getD 0 default).Priority,.i (b.Pours.getD 0 default).Relief,.i (b.Pours.getD 0 default).Spoke,.own 100 4 (b.Pours.getD 0 default).Rects.length] 90),(100,ZaD b),(200001,.cells (AC.c b) 42),(200002,ZaB),(200003,ZaC v)]⟩) lr (.cons ⟨rfl,.cells _ (rr (rr (rr (rr (rr (rr (rr (.cons (.own _ _ au0) .nil))))))))⟩ (.cons ⟨rfl,Ao 76 (Au (Ae (c:=Ai.c) (xs:=(([]:List Ai):List Ai)) rfl kr) (An 4 Ai.c (b.Pours.getD 0 default).Rects))⟩ lr))) (Cv.refl _)) ?_
 refine oc [] [1=1,0<1,1<=maxLen,1*88<=140737488355328] .nil (.cons rfl (.cons (by decide) (.cons au8 (.cons au8 .nil))))<|A8<|AF ?_
 refine rn ⟨[(1,tP 200001 0),(2,tP 200002 0),(3,tP 200003 0),(7,tI 1)],[(100,ZaD b),(106,ZaE b),(200001,.cells (AC.c b) 42),(200002,ZaB),(200003,ZaF v)]⟩ ?_
 refine B7 ?_
 refine Aq (Cv.trans (CC (⟨[(1,tP 200001 0),(2,tP 200002 0),(3,tP 200003 0),(7,tI 1)],[(100000,ZaD b),(106,ZaG b),(200001,.cells (AC.c b) 42),(200002,ZaB),(200003,ZaF v)]⟩) 100 100000 (K:=[200003,200001,200002]) hP rfl rfl kr kr) (Cv.trans (CC (⟨[(1,tP 200001 0),(2,tP 200002 0),(3,tP 200003 0),(7,tI 1)],[(100000,ZaD b),(100001,ZaG b),(200001,.cells (AC.c b) 42),(200002,ZaB),(200003,ZaH v)]⟩) 106 100001 (K:=[200003,200001,200002]) hP rfl rfl kr kr) (Cv.refl _)))<|AB<|AB ?_
 refine rn ⟨[(1,tP 200001 0),(2,tP 200002 0),(3,tP 200003 0),(7,tI 1),(89,tB (decide ((1:Int)<(b.Pours.length:Int))))],[(100000,ZaD b),(100001,ZaG b),(200001,.cells (AC.c b) 42),(200002,ZaB),(200003,ZaH v)]⟩ ?_
 have h2:(decide ((1:Int)<(b.Pours.length:Int)))=false:=(by rw [hlen];decide)
 have g2:=oF h2
 refine AL _ rfl (fun h=>absurd (h2.symm.trans h) (by decide)) (fun _ => ?_)
 refine BU<|BE ?_
 refine BE<|BV ?_
 exact ⟨_,Cv.trans (B4 [1,2,3] [100000,100001,200001,200002,200003] (⟨[(1,tP 200001 0),(2,tP 200002 0),(3,tP 200003 0)],[(100000,ZaD b),(100001,ZaG b),(200001,.cells (AC.c b) 42),(200002,ZaB),(200003,ZaH v)]⟩) kr) (Cv.trans (CC (⟨[(1,tP 200001 0),(2,tP 200002 0),(3,tP 200003 0)],[(100000,ZaD b),(200320,ZaG b),(200001,.cells (AC.c b) 42),(200002,ZaB),(200003,ZaI v)]⟩) 100001 200320 (K:=[200003,200001,200002]) hP rfl rfl kr kr) (Cv.trans (CC (⟨[(1,tP 200001 0),(2,tP 200002 0),(3,tP 200003 0)],[(200321,ZaD b),(200320,ZaJ b),(200001,.cells (AC.c b) 42),(200002,ZaB),(200003,ZaI v)]⟩) 100000 200321 (K:=[200003,200001,200002]) hP rfl rfl kr kr) (Cv.trans (B4 [1,2,3] [200003,200001,200002,200320,200321] (⟨[(1,tP 200001 0),(2,tP 200002 0),(3,tP 200003 0)],[(200003,ZaI v),(200001,.cells (AC.c b) 42),(200002,ZaB),(200320,ZaJ b),(200321,ZaD b)]⟩) kr) (Cv.refl _)))),rfl,(),trivial,rfl⟩
end
section
open Go.RowKit
def ZaK:Blk:=.cells GD 42
variable (b:AC)
def ZaL:Blk:=.cells (Sa b) 42
def ZaM:Blk:=.row 7 b.Parts.length (H9 b) 59
def ZaN:Blk:=.row 8 b.Vias.length (HN b) 87
def ZaO:Blk:=.row 3 b.Waivers.length (HW b) 102
def ZaP:Blk:=.cells (V3 b) 42
def ZaQ:Blk:=.row 2 (Ag b).length (H7 b) 48
def ZaR:Blk:=.cells (V7 b) 42
def ZaS:Blk:=.row 6 (AH b).length (HO b) 85
def ZaT:Blk:=.cells (B8 b [.own 200320 8 1,vN,vN,vN,vN,.own 34 3 b.Waivers.length,vN]) 42
def ZaU:Blk:=.rowx 8 1 (fun _ _=>default) 90 [(0,(Vy b))]
def ZaV:Blk:=.row 4 (DP b).Rects.length (I1 b) 76
abbrev Q9 (t_:List Cl):List Cl:=(.own 200320 8 1)::(Ll b)::t_
def ZaW:Blk:=.cells (B8 b (Q9 b (Q2 b))) 42
def ZaX:Blk:=.row 5 (Aa b).length (HR b) 93
def ZaY:Blk:=.cells (B8 b (Q9 b (Q6 b [vN]))) 42
def ZaZ:Blk:=.row 4 (AY b).length (HP b) 95
abbrev Lu (t_:List Cl):List Cl:=(.own 200320 8 1)::(Ll b)::(Qz b)::(Qy b)::t_
def Zb0:Blk:=.cells (B8 b (Lu b (Q0 b))) 42
def Zb1:Blk:=.row 2 (AN b).length (HS b) 98
def Zb2:Blk:=.cells (B8 b (Lu b (Q4 b))) 42
def Zb3:Blk:=.row 3 (AM b).length (Gm b) 100
abbrev Xd:List Cl:=(B8 b (Lu b (Q5 b)))
def Zb4:Blk:=.cells (Xd b) 42
def Zb5:Blk:=.row 20 (AO b).length (HQ b) 107
def lP (b:AC):Tv:=.av (.agg (Xd b))
def hCyP1 (b:AC):List (Nat×Blk):=[(26,.row 7 b.Parts.length (AP AG.c b.Parts) 59),(200100,.row 2 (Ag b).length (AP A7.c (Ag b)) 48),(200102,.row 6 (AH b).length (AP Ap.c (AH b)) 85),(30,.row 8 b.Vias.length (AP Bo.c b.Vias) 87),(200320,.rowx 8 1 (fun _ _=>default) 90 [(0,[.i (b.Pours.getD 0 default).Id,.s (b.Pours.getD 0 default).Net,.i (b.Pours.getD 0 default).Layer,.i (b.Pours.getD 0 default).Pitch,.i (b.Pours.getD 0 default).Priority,.i (b.Pours.getD 0 default).Relief,.i (b.Pours.getD 0 default).Spoke,.own 200321 4 (b.Pours.getD 0 default).Rects.length])]),(200106,.row 5 (Aa b).length (AP BT.c (Aa b)) 93),(200108,.row 4 (AY b).length (AP Bi.c (AY b)) 95),(200110,.row 2 (AN b).length (AP BQ.c (AN b)) 98),(200114,.row 20 (AO b).length (AP Az.c (AO b)) 107),(34,.row 3 b.Waivers.length (AP BF.c b.Waivers) 102),(200112,.row 3 (AM b).length (AP Ba.c (AM b)) 100),(200321,.row 4 (b.Pours.getD 0 default).Rects.length (AP Ai.c (b.Pours.getD 0 default).Rects) 76)]
abbrev Iq (t_:List (Nat×Blk)):List (Nat×Blk):=(26,ZaM b)::(30,ZaN b)::(34,ZaO b)::(Bk b)::(200002,ZaK)::t_
abbrev bR:List (Nat×Blk):=(Iq b [(200003,Zb2 b),(200100,ZaQ b),(200102,ZaS b),(200106,ZaX b),(200108,ZaZ b),(200110,Zb1 b),(200112,Zb3 b),(200320,ZaU b),(200321,ZaV b)])
abbrev bM:List (Nat×Blk):=(Iq b [(200003,Zb0 b),(200100,ZaQ b),(200102,ZaS b),(200106,ZaX b),(200108,ZaZ b),(200110,Zb1 b),(200320,ZaU b),(200321,ZaV b)])
abbrev bF:List (Nat×Blk):=(Iq b [(200003,ZaY b),(200100,ZaQ b),(200102,ZaS b),(200106,ZaX b),(200108,ZaZ b),(200320,ZaU b),(200321,ZaV b)])
abbrev aY:List (Nat×Blk):=(Iq b [(200003,ZaW b),(200100,ZaQ b),(200102,ZaS b),(200106,ZaX b),(200320,ZaU b),(200321,ZaV b)])
abbrev aQ:List (Nat×Blk):=(Iq b [(200003,ZaT b),(200100,ZaQ b),(200102,ZaS b),(200320,ZaU b),(200321,ZaV b)])
abbrev aL:List (Nat×Blk):=(Iq b [(200003,ZaR b),(200100,ZaQ b),(200102,ZaS b)])
abbrev aA:List (Nat×Blk):=(Iq b [(200003,ZaP b),(200100,ZaQ b)])
set_option maxHeartbeats 4000000 in
theorem qCyP1 (b:AC) (hc:CM b) (hlen:(b.Pours.length:Int)=1):Frs Try.prog 12 [.agg (AC.c b)] (fun _:Unit=>True) (fun _=>lP b) (fun _=>hCyP1 b):=by
 refine Jl Try.func12 rfl kr kr kr fun W0 M0 X hP hFl => ?_
 have h0:=hc.lParts
 have h1:=hc.lNets
 have h2:=hc.lTracks
 have h3:=hc.lVias
 have h4:=hc.lPours
 have h5:=hc.lKeeps
 have h6:=hc.lSlots
 have h7:=hc.lClasses
 have h8:=hc.lWaivers
 have h9:=hc.lMatches
 have h10:=hc.lRules
 have hr:=hc.rok
 refine AB<|on<|AB ?_
 refine dw [23,27,31] [(22,Bv b.Outline)] [A0 (Bv b.Outline).2.1,0=0,0+b.Parts.length<=maxLen,(0+b.Parts.length)*72<=140737488355328,0=0,0+b.Vias.length<=maxLen,(0+b.Vias.length)*72<=140737488355328,0=0,0+b.Waivers.length<=maxLen,(0+b.Waivers.length)*32<=140737488355328] ⟨I6,[(GJ b),(2,ZaK),(XY b),(26,.row 7 (0+b.Parts.length) (fun i_ j_=>if i_<0 then (As 7 0 []) i_ j_ else (AP AG.c b.Parts) (i_-0) j_) 59),(30,.row 8 (0+b.Vias.length) (fun i_ j_=>if i_<0 then (As 8 0 []) i_ j_ else (AP Bo.c b.Vias) (i_-0) j_) 87),(34,.row 3 (0+b.Waivers.length) (fun i_ j_=>if i_<0 then (As 3 0 []) i_ j_ else (AP BF.c b.Waivers) (i_-0) j_) 102)]⟩ (.cons (Dm b.Outline au27) .nil) (.cons rfl (.cons rfl (.cons au4 (.cons au4 (.cons rfl (.cons au4 (.cons au4 (.cons rfl (.cons au4 (.cons au4 .nil))))))))))<|AF ?_
 refine Aq (Cv.trans (BS (⟨I6,[(GJ b),(2,ZaK),(3,ZaL b),(26,ZaM b),(30,ZaN b),(34,ZaO b)]⟩) lr (.cons ⟨rfl,.refl _⟩ (.cons ⟨rfl,.refl _⟩ (.cons ⟨rfl,.cells _ (rr4 (.cons (.own _ _ au0) (rr (rr (.cons (.own _ _ au0) (rr (rr (rr (rr (rr (.cons (.own _ _ au0) (rr .nil))))))))))))⟩ (.cons ⟨rfl,Ao 59 (Au (Ae (c:=AG.c) (xs:=(([]:List AG):List AG)) rfl kr) (An 7 AG.c b.Parts))⟩ (.cons ⟨rfl,Ao 87 (Au (Ae (c:=Bo.c) (xs:=(([]:List Bo):List Bo)) rfl kr) (An 8 Bo.c b.Vias))⟩ (.cons ⟨rfl,Ao 102 (Au (Ae (c:=BF.c) (xs:=(([]:List BF):List BF)) rfl kr) (An 3 BF.c b.Waivers))⟩ .nil))))))) (Cv.refl _))<|AB<|AB ?_
 refine rn ⟨Rx,[(GJ b),(2,ZaK),(3,ZaL b),(26,ZaM b),(30,ZaN b),(34,ZaO b)]⟩ ?_
 refine Aq (Cv.trans (vr 3 200003 (K:=[]) hP) (Cv.trans (vr 1 200001 (K:=[]) hP) (Cv.trans (wr (⟨R4,[(Bk b),(200002,ZaK),(200003,ZaL b),(26,ZaM b),(30,ZaN b),(34,ZaO b)]⟩) 2 200002 (K:=[]) hP) (Cv.refl _)))) ?_
 refine B5 (ι:=Unit) (I:=fun _=>True) 200003 (Xg b) 42 (mkB 15 5) [1,2,3,4] [200001,200002] (fun _=>Bh) (fun _=>lEB 15 5 (Lm b)) (fun _=>(Va b)) (fun _=>⟨Bh,[(200003,ZaP b),(Bk b),(200002,ZaK),(200100,ZaQ b),(26,ZaM b),(30,ZaN b),(34,ZaO b)]⟩) hP hFl (TL b hc kr) (fun _ _ => ?_)
 refine AF ?_
 refine Aq (Cv.trans (ck (⟨Bh,(aA b)⟩)) (Cv.refl _))<|AB<|AB ?_
 refine rn ⟨R3,(aA b)⟩ ?_
 refine B5 (ι:=Unit) (I:=fun _=>True) 200003 (Z7 b) 42 (mkB 15 6) [1,2,3,5] [200001,200002] (fun _=>Bh) (fun _=>lEB 15 6 (RV b)) (fun _=>(Rn b)) (fun _=>⟨Bh,[(200003,ZaR b),(Bk b),(200002,ZaK),(200102,ZaS b),(26,ZaM b),(30,ZaN b),(34,ZaO b),(200100,ZaQ b)]⟩) hP hFl (Jk b hc kr) (fun _ _ => ?_)
 refine AF ?_
 refine Aq (Cv.trans (ck (⟨Bh,(aL b)⟩)) (Cv.refl _))<|AB<|AB ?_
 refine rn ⟨R2,(aL b)⟩ ?_
 refine B5 (ι:=Unit) (I:=fun _=>True) 200003 (aH b) 42 (mkB 15 8) [1,2,3,7] [200001,200002] (fun _=>Bh) (fun _=>lEB 15 8 (.own 200320 8 1)) (fun _=>[(Bk b),D2,(200320,.rowx 8 1 (fun _ _=>default) 90 [(0,(Z2 b [.own 200321 4 (H0 b).Rects.length]))]),(200321,.row 4 (b.Pours.getD 0 default).Rects.length (AP Ai.c (b.Pours.getD 0 default).Rects) 76)]) (fun _=>⟨Bh,[(200003,ZaT b),(Bk b),(200002,ZaK),(200320,ZaU b),(200321,ZaV b),(26,ZaM b),(30,ZaN b),(34,ZaO b),(200100,ZaQ b),(200102,ZaS b)]⟩) hP hFl (gCxP1 b hc hlen kr) (fun _ _ => ?_)
 refine AF ?_
 refine Aq (Cv.trans (ck (⟨Bh,(aQ b)⟩)) (Cv.refl _))<|AB<|AB ?_
 refine rn ⟨R1,(aQ b)⟩ ?_
 refine B5 (ι:=Unit) (I:=fun _=>True) 200003 (ET b [.own 200320 8 1,vN,vN,vN,vN,.own 34 3 b.Waivers.length,vN]) 42 (mkB 15 9) [1,2,3,9] [200001,200002] (fun _=>Bh) (fun _=>lEB 15 9 (RU b)) (fun _=>(Rm b)) (fun _=>⟨Bh,[(200003,ZaW b),(Bk b),(200002,ZaK),(200106,ZaX b),(26,ZaM b),(30,ZaN b),(34,ZaO b),(200100,ZaQ b),(200102,ZaS b),(200320,ZaU b),(200321,ZaV b)]⟩) hP hFl (LU b hc kr) (fun _ _ => ?_)
 refine AF ?_
 refine Aq (Cv.trans (ck (⟨Bh,(aY b)⟩)) (Cv.refl _))<|AB<|AB ?_
 refine rn ⟨R8,(aY b)⟩ ?_
 refine B5 (ι:=Unit) (I:=fun _=>True) 200003 (ET b (Q9 b (Q2 b))) 42 (mkB 15 10) [1,2,3,11] [200001,200002] (fun _=>Bh) (fun _=>lEB 15 10 (RS b)) (fun _=>(Rl b)) (fun _=>⟨Bh,[(200003,ZaY b),(Bk b),(200002,ZaK),(200108,ZaZ b),(26,ZaM b),(30,ZaN b),(34,ZaO b),(200100,ZaQ b),(200102,ZaS b),(200106,ZaX b),(200320,ZaU b),(200321,ZaV b)]⟩) hP hFl (LS b hc kr) (fun _ _ => ?_)
 refine AF ?_
 refine Aq (Cv.trans (ck (⟨Bh,(bF b)⟩)) (Cv.refl _))<|AB<|AB ?_
 refine rn ⟨R7,(bF b)⟩ ?_
 refine B5 (ι:=Unit) (I:=fun _=>True) 200003 (ET b (Q9 b (Q6 b [vN]))) 42 (mkB 15 11) [1,2,3,13] [200001,200002] (fun _=>Bh) (fun _=>lEB 15 11 (RR b)) (fun _=>(Rk b)) (fun _=>⟨Bh,[(200003,Zb0 b),(Bk b),(200002,ZaK),(200110,Zb1 b),(26,ZaM b),(30,ZaN b),(34,ZaO b),(200100,ZaQ b),(200102,ZaS b),(200106,ZaX b),(200108,ZaZ b),(200320,ZaU b),(200321,ZaV b)]⟩) hP hFl (IM b hc kr) (fun _ _ => ?_)
 refine AF ?_
 refine Aq (Cv.trans (ck (⟨Bh,(bM b)⟩)) (Cv.refl _))<|AB<|AB ?_
 refine rn ⟨R6,(bM b)⟩ ?_
 refine B5 (ι:=Unit) (I:=fun _=>True) 200003 (ET b (Lu b (Q0 b))) 42 (mkB 15 14) [1,2,3,14] [200001,200002] (fun _=>Bh) (fun _=>lEB 15 14 (RQ b)) (fun _=>[(Bk b),D2,(Rq b)]) (fun _=>⟨Bh,[(200003,Zb2 b),(Bk b),(200002,ZaK),(200112,Zb3 b),(26,ZaM b),(30,ZaN b),(34,ZaO b),(200100,ZaQ b),(200102,ZaS b),(200106,ZaX b),(200108,ZaZ b),(200110,Zb1 b),(200320,ZaU b),(200321,ZaV b)]⟩) hP hFl (IL b hc kr) (fun _ _ => ?_)
 refine AF ?_
 refine Aq (Cv.trans (ck (⟨Bh,(bR b)⟩)) (Cv.refl _))<|AB<|AB ?_
 refine rn ⟨R5,(bR b)⟩ ?_
 refine B5 (ι:=Unit) (I:=fun _=>True) 200003 (ET b (Lu b (Q4 b))) 42 (mkB 15 12) [1,2,3,16] [200001,200002] (fun _=>Bh) (fun _=>lEB 15 12 (RX b)) (fun _=>[(Bk b),D2,(Rr b)]) (fun _=>⟨Bh,[(200003,Zb4 b),(Bk b),(200002,ZaK),(200114,Zb5 b),(26,ZaM b),(30,ZaN b),(34,ZaO b),(200100,ZaQ b),(200102,ZaS b),(200106,ZaX b),(200108,ZaZ b),(200110,Zb1 b),(200112,Zb3 b),(200320,ZaU b),(200321,ZaV b)]⟩) hP hFl (LT b hc kr) (fun _ _ => ?_)
 refine AF ?_
 refine Aq (Cv.trans (ck (⟨Bh,(Iq b [(200003,Zb4 b),(200100,ZaQ b),(200102,ZaS b),(200106,ZaX b),(200108,ZaZ b),(200110,Zb1 b),(200112,Zb3 b),(200114,Zb5 b),(200320,ZaU b),(200321,ZaV b)])⟩)) (Cv.refl _))<|AB ?_
 refine rn ⟨Iz,[(26,ZaM b),(30,ZaN b),(34,ZaO b),(200002,Zb4 b),(200100,ZaQ b),(200102,ZaS b),(200106,ZaX b),(200108,ZaZ b),(200110,Zb1 b),(200112,Zb3 b),(200114,Zb5 b),(200320,ZaU b),(200321,ZaV b)]⟩<|Ac ?_
 refine ⟨_,Cv.trans (ck (⟨Iz,[(26,ZaM b),(200100,ZaQ b),(200102,ZaS b),(30,ZaN b),(200320,ZaU b),(200106,ZaX b),(200108,ZaZ b),(200110,Zb1 b),(200114,Zb5 b),(34,ZaO b),(200112,Zb3 b),(200321,ZaV b),(200002,Zb4 b)]⟩)) (Cv.refl _),.inl rfl,lP b,by kernel_rfl,kP (m:=[(200002,.cells (ET b (Lu b (Q5 b))) 42)]) kr⟩
end
section
open Go.RowKit
def Zb6:Blk:=.cells GD 42
variable (b:AC) (q:C5)
def Zb7:Blk:=.row 7 b.Parts.length (H9 b) 59
def Zb8:Blk:=.row 2 (Ag b).length (H7 b) 48
def Zb9:Blk:=.row 6 (AH b).length (HO b) 85
def Zba:Blk:=.row 8 b.Vias.length (HN b) 87
def Zbb:Blk:=.rowx 8 1 (fun _ _=>default) 90 [(0,(Vy b))]
def Zbc:Blk:=.row 5 (Aa b).length (HR b) 93
def Zbd:Blk:=.row 4 (AY b).length (HP b) 95
def Zbe:Blk:=.row 2 (AN b).length (HS b) 98
def Zbf:Blk:=.row 20 (AO b).length (HQ b) 107
def Zbg:Blk:=.row 3 b.Waivers.length (HW b) 102
def Zbh:Blk:=.row 3 (AM b).length (Gm b) 100
def Zbi:Blk:=.row 4 (DP b).Rects.length (I1 b) 76
def Zbj:Blk:=.cells (Xd b) 42
def Zbk:Blk:=.row 4 ((DP b).Rects++(Iw q)).length (AP Ai.c ((DP b).Rects++(Iw q))) 76
def Zbl:Blk:=.rowx 8 1 (fun _ _=>default) 90 [(0,(aU b q))]
def Mh (b:AC) (q:C5):AC:=AC.mk b.Layers (Aj b.Outline) b.Parts (Ag b) (AH b) b.Vias [A4.mk (b.Pours.getD 0 default).Id (b.Pours.getD 0 default).Net (b.Pours.getD 0 default).Layer (b.Pours.getD 0 default).Pitch (b.Pours.getD 0 default).Priority (b.Pours.getD 0 default).Relief (b.Pours.getD 0 default).Spoke ((b.Pours.getD 0 default).Rects++[Ai.mk (Int.tmod (AK q.e1 48) 9) (Int.tmod (AK q.e2 64) 9) (W64 ((Int.tmod (AK q.e1 48) 9)+2)) (W64 ((W64 ((Int.tmod (AK q.e2 64) 9)+2))+(W64 ((W64 (Int.tdiv (AK q.e1 48) 40))*1000))))])] (Aa b) (AY b) (AN b) (AO b) b.Waivers (AM b)
def pM:CT:=(9,(Nn b q),.val [] (.av (.agg (AC.c (Mh b q)))))
abbrev Hy:List (Nat×Blk):=[(4,Zb6),(5,Zbj b),(26,Zb7 b),(30,Zba b),(34,Zbg b),(200100,Zb8 b),(200102,Zb9 b),(200106,Zbc b),(200108,Zbd b),(200110,Zbe b),(200112,Zbh b),(200114,Zbf b),(200320,Zbb b),(200321,Zbi b)]
abbrev Vn:=[A4.mk (DP b).Id (DP b).Net (DP b).Layer (DP b).Pitch (DP b).Priority (DP b).Relief (DP b).Spoke ((DP b).Rects++(Iw q))]
abbrev Zz (t_:List (Nat×Blk)):List (Nat×Blk):=(4,Zbj b)::(26,Zb7 b)::(30,Zba b)::(34,Zbg b)::(200100,Zb8 b)::(200102,Zb9 b)::(200106,Zbc b)::(200108,Zbd b)::(200110,Zbe b)::(200112,Zbh b)::(200114,Zbf b)::t_
set_option maxHeartbeats 40000000 in
theorem nE (b:AC) (q:C5) (hc:CM b) (hq:AK q.e0 26=16) (hlen:(b.Pours.length:Int)=1):PuP 9 (pM b q).2.1 (.av (.agg (AC.c (Mh b q)))):=by
 refine pwf Try.func9 fun W0 M0 => ?_
 have hl0:=hc.lParts
 have hl1:=hc.lNets
 have hl2:=hc.lTracks
 have hl3:=hc.lVias
 have hl4:=hc.lPours
 have hl5:=hc.lKeeps
 have hl6:=hc.lSlots
 have hl7:=hc.lClasses
 have hl8:=hc.lWaivers
 have hl9:=hc.lMatches
 have hl10:=hc.lRules
 have hN:0<=AK q.e1 48/\AK q.e1 48<48:=Ik _ _ (by decide) (by decide)
 have hK0:=Ik q.e2 64 (by decide) (by decide)
 have hK:0<=AK q.e2 64/\AK q.e2 64<64:=hK0
 have hb0:=hc.rec' 0
 refine AB<|rn ⟨N5,[(2,.cells (AC.c b) 42),(Du q),(4,Zb6)]⟩<|AB ?_
 refine Dc ?_
 refine FS DV 1 [] [] [] [3,4,11] [3,4] [] ⟨(OB b),[(Du q),(4,Zb6)]⟩ .nil kr .nil ?_
 refine Hs (ι:=Unit) (I:=fun _=>True) (fun _=>⟨[(3,tP 3 0),(4,tP 4 0),(N7 b),(12,.av (.agg (Xd b)))],[(26,Zb7 b),(200100,Zb8 b),(200102,Zb9 b),(30,Zba b),(200320,Zbb b),(200106,Zbc b),(200108,Zbd b),(200110,Zbe b),(200114,Zbf b),(34,Zbg b),(200112,Zbh b),(200321,Zbi b),(Du q),(4,Zb6)]⟩) hk0 ⟨⟨_,_,rfl,rfl,⟨fun _=>default,by kernel_rfl⟩,by kernel_rfl⟩,fun _ _=>by kernel_rfl,rfl,rfl⟩ (qCyP1 b au16 au16) (fun _=>by kernel_rfl) (fun _=>by kernel_rfl) (fun _ _ => ?_)
 refine Ea DV [] [] [] [3,4,5] [3,4,5,26,30,34,200100,200102,200106,200108,200110,200112,200114,200320,200321] [] ⟨N4,[(Du q),(4,Zb6),(5,Zbj b),(26,Zb7 b),(30,Zba b),(34,Zbg b),(200100,Zb8 b),(200102,Zb9 b),(200106,Zbc b),(200108,Zbd b),(200110,Zbe b),(200112,Zbh b),(200114,Zbf b),(200320,Zbb b),(200321,Zbi b)]⟩ .nil kr .nil<|AF<|AB ?_
 refine oc [(15,Ej q.e1 48)] [0<=(1:Int)/\(1:Int)<(3:Int),A0 (Ej q.e1 48).2.1] (.cons (GR q.e1 48 au16) .nil) (.cons (by decide) (.cons rfl .nil))<|AF<|AB ?_
 refine oc [(18,Ej q.e2 64)] [0<=(2:Int)/\(2:Int)<(3:Int),A0 (Ej q.e2 64).2.1] (.cons (GR q.e2 64 au16) .nil) (.cons (by decide) (.cons rfl .nil))<|AF ?_
 refine AB<|AB ?_
 refine oc [(21,Ej q.e0 26)] [0<=(0:Int)/\(0:Int)<(3:Int),A0 (Ej q.e0 26).2.1] (.cons (GR q.e0 26 au16) .nil) (.cons (by decide) (.cons rfl .nil))<|AF ?_
 refine AX<|AB ?_
 refine rn ⟨(OM q),(Hy b)⟩ ?_
 have h1:(SF q)=false:=(decide_eq_false fun e=>absurd (hq.symm.trans e) (by decide))
 have g1:=oF h1
 refine AL _ rfl (fun h=>absurd (h1.symm.trans h) (by decide)) (fun _ => ?_)
 refine AB<|rn ⟨(OL q),(Hy b)⟩ ?_
 have h2:(SE q)=false:=(decide_eq_false fun e=>absurd (hq.symm.trans e) (by decide))
 have g2:=oF h2
 refine AL _ rfl (fun h=>absurd (h2.symm.trans h) (by decide)) (fun _ => ?_)
 refine AB<|rn ⟨(OJ q),(Hy b)⟩ ?_
 have h3:(SD q)=false:=(decide_eq_false fun e=>absurd (hq.symm.trans e) (by decide))
 have g3:=oF h3
 refine AL _ rfl (fun h=>absurd (h3.symm.trans h) (by decide)) (fun _ => ?_)
 refine AB<|rn ⟨(OI q),(Hy b)⟩ ?_
 have h4:(SC q)=false:=(decide_eq_false fun e=>absurd (hq.symm.trans e) (by decide))
 have g4:=oF h4
 refine AL _ rfl (fun h=>absurd (h4.symm.trans h) (by decide)) (fun _ => ?_)
 refine AB<|rn ⟨(OG q),(Hy b)⟩ ?_
 have h5:(SB q)=false:=(decide_eq_false fun e=>absurd (hq.symm.trans e) (by decide))
 have g5:=oF h5
 refine AL _ rfl (fun h=>absurd (h5.symm.trans h) (by decide)) (fun _ => ?_)
 refine AB<|rn ⟨(OQ q),(Hy b)⟩ ?_
 have h6:(SA q)=false:=(decide_eq_false fun e=>absurd (hq.symm.trans e) (by decide))
 have g6:=oF h6
 refine AL _ rfl (fun h=>absurd (h6.symm.trans h) (by decide)) (fun _ => ?_)
 refine AB<|rn ⟨(OP q),(Hy b)⟩ ?_
 have h7:(R9 q)=false:=(decide_eq_false fun e=>absurd (hq.symm.trans e) (by decide))
 have g7:=oF h7
 refine AL _ rfl (fun h=>absurd (h7.symm.trans h) (by decide)) (fun _ => ?_)
 refine AB<|rn ⟨(OO q),(Hy b)⟩ ?_
 have h8:(OD q)=false:=(decide_eq_false fun e=>absurd (hq.symm.trans e) (by decide))
 have g8:=oF h8
 refine AL _ rfl (fun h=>absurd (h8.symm.trans h) (by decide)) (fun _ => ?_)
 refine AB<|rn ⟨(SK q),(Hy b)⟩ ?_
 have h9:(Ra q)=false:=(decide_eq_false fun e=>absurd (hq.symm.trans e) (by decide))
 have g9:=oF h9
 refine AL _ rfl (fun h=>absurd (h9.symm.trans h) (by decide)) (fun _ => ?_)
 refine AB<|rn ⟨(ON q),(Hy b)⟩ ?_
 have h10:(RZ q)=false:=(decide_eq_false fun e=>absurd (hq.symm.trans e) (by decide))
 have g10:=oF h10
 refine AL _ rfl (fun h=>absurd (h10.symm.trans h) (by decide)) (fun _ => ?_)
 refine AB<|rn ⟨(ST q),(Hy b)⟩ ?_
 have h11:(Rg q)=false:=(decide_eq_false fun e=>absurd (hq.symm.trans e) (by decide))
 have g11:=oF h11
 refine AL _ rfl (fun h=>absurd (h11.symm.trans h) (by decide)) (fun _ => ?_)
 refine AB<|rn ⟨(SS q),(Hy b)⟩ ?_
 have h12:(Rf q)=false:=(decide_eq_false fun e=>absurd (hq.symm.trans e) (by decide))
 have g12:=oF h12
 refine AL _ rfl (fun h=>absurd (h12.symm.trans h) (by decide)) (fun _ => ?_)
 refine AB<|rn ⟨(SR q),(Hy b)⟩ ?_
 have h13:(Re q)=false:=(decide_eq_false fun e=>absurd (hq.symm.trans e) (by decide))
 have g13:=oF h13
 refine AL _ rfl (fun h=>absurd (h13.symm.trans h) (by decide)) (fun _ => ?_)
 refine AB<|rn ⟨(SP q),(Hy b)⟩ ?_
 have h14:(Rd q)=false:=(decide_eq_false fun e=>absurd (hq.symm.trans e) (by decide))
 have g14:=oF h14
 refine AL _ rfl (fun h=>absurd (h14.symm.trans h) (by decide)) (fun _ => ?_)
 refine AB<|rn ⟨(SO q),(Hy b)⟩ ?_
 have h15:(Rc q)=false:=(decide_eq_false fun e=>absurd (hq.symm.trans e) (by decide))
 have g15:=oF h15
 refine AL _ rfl (fun h=>absurd (h15.symm.trans h) (by decide)) (fun _ => ?_)
 refine AB<|rn ⟨(SN q),(Hy b)⟩ ?_
 have h16:(Rb q)=false:=(decide_eq_false fun e=>absurd (hq.symm.trans e) (by decide))
 have g16:=oF h16
 refine AL _ rfl (fun h=>absurd (h16.symm.trans h) (by decide)) (fun _ => ?_)
 refine AB<|rn ⟨(SM q),(Hy b)⟩ ?_
 have h17:(SG q)=true:=(decide_eq_true hq)
 have g17:=oT h17
 refine AL _ rfl (fun _ => ?_) (fun h=>absurd (h17.symm.trans h) (by decide))
 refine AB<|rn ⟨(B6 q [(340,tB (decide ((0:Int)<((1:Nat):Int))))]),(Hy b)⟩ ?_
 have h18:(decide ((0:Int)<((1:Nat):Int)))=true:=(by decide)
 have g18:=oT h18
 refine AL _ rfl (fun _ => ?_) (fun h=>absurd (h18.symm.trans h) (by decide))
 refine AB<|dw [] [] [(((1:Nat):Int):Int)≠0,0<=(Int.tmod (AK q.e2 64) ((1:Nat):Int):Int)/\(Int.tmod (AK q.e2 64) ((1:Nat):Int):Int)<((1:Nat):Int)] ⟨(B6 q [(9,.av (.one (.rptr 200320 8 (Int.tmod (AK q.e2 64) ((1:Nat):Int)).toNat 0)))]),(Hy b)⟩ .nil (.cons au14 (.cons (by first | decide | omega | (have:=tmb hK.1 (n:=((1:Nat):Int)) (by decide);omega)) .nil))<|AF ?_
 have g19:((Int.tmod (AK q.e2 64) ((1:Nat):Int)).toNat:Nat)=0:=(by have:=tmb hK.1 (n:=((1:Nat):Int)) (by decide);omega)
 (try rw [g19])
 refine rc [] [(9:Int)≠0,(9:Int)≠0,(9:Int)≠0,(9:Int)≠0,(40:Int)≠0,(b.Pours.getD 0 default).Rects.length=(b.Pours.getD 0 default).Rects.length,(b.Pours.getD 0 default).Rects.length+1<=maxLen,((b.Pours.getD 0 default).Rects.length+1)*32<=140737488355328] ⟨DW,[(4,Zb6),(5,Zbj b),(26,Zb7 b),(30,Zba b),(34,Zbg b),(370,.row 4 ((DP b).Rects.length+1) (fun i_ j_=>if i_<(DP b).Rects.length then (I1 b) i_ j_ else (Vs q) (i_-(DP b).Rects.length) j_) 76),(200100,Zb8 b),(200102,Zb9 b),(200106,Zbc b),(200108,Zbd b),(200110,Zbe b),(200112,Zbh b),(200114,Zbf b),(200320,.rowx 8 1 (fun _ _=>default) 90 [(0,(bD b))])]⟩ .nil (.cons au14 (.cons au14 (.cons au14 (.cons au14 (.cons au14 (.cons rfl (.cons au8 (.cons au8 .nil))))))))<|A8<|AF ?_
 refine Aq (Cv.trans (BS (⟨DW,[(4,Zb6),(5,Zbj b),(26,Zb7 b),(30,Zba b),(34,Zbg b),(370,Zbk b q),(200100,Zb8 b),(200102,Zb9 b),(200106,Zbc b),(200108,Zbd b),(200110,Zbe b),(200112,Zbh b),(200114,Zbf b),(200320,Zbl b q)]⟩) lr (.cons ⟨rfl,.refl _⟩ (.cons ⟨rfl,.refl _⟩ (.cons ⟨rfl,.refl _⟩ (.cons ⟨rfl,.refl _⟩ (.cons ⟨rfl,.refl _⟩ (.cons ⟨rfl,Ao 76 (Au (An 4 Ai.c (b.Pours.getD 0 default).Rects) (Ae (c:=Ai.c) (xs:=([Ai.mk (Int.tmod (AK q.e1 48) 9) (Int.tmod (AK q.e2 64) 9) (W64 ((Int.tmod (AK q.e1 48) 9)+2)) (W64 ((W64 ((Int.tmod (AK q.e2 64) 9)+2))+(W64 ((W64 (Int.tdiv (AK q.e1 48) 40))*1000))))]:List Ai)) rfl kr))⟩ (.cons ⟨rfl,.refl _⟩ (.cons ⟨rfl,.refl _⟩ (.cons ⟨rfl,.refl _⟩ (.cons ⟨rfl,.refl _⟩ (.cons ⟨rfl,.refl _⟩ (.cons ⟨rfl,.refl _⟩ (.cons ⟨rfl,.refl _⟩ (.cons ⟨rfl,.rowx _ _ _ _ (.cons ⟨rfl,(rr5 (rr2 (.cons (.own _ _ au0) .nil)))⟩ .nil)⟩ .nil))))))))))))))) (Cv.refl _))<|AB ?_
 refine rn ⟨[(4,tP 4 0)],[(4,Zbj b),(26,Zb7 b),(30,Zba b),(34,Zbg b),(370,Zbk b q),(200100,Zb8 b),(200102,Zb9 b),(200106,Zbc b),(200108,Zbd b),(200110,Zbe b),(200112,Zbh b),(200114,Zbf b),(200320,Zbl b q)]⟩<|Ac ?_
 exact zy (Cv.trans (Hq (⟨[(4,tP 4 0)],(Zz b [(200320,.rowx 8 1 (fun _ _=>default) 90 [(0,(Vv b q))])])⟩) 370 hk0) (Cv.trans (G0 (⟨[(4,tP 4 0)],(Zz b [(200320,.row 8 1 (As 8 1 (Vv b q)) 90)])⟩) 200320 8 1 (fun _ _=>default) 90 [(lN b q)] kr kr kr kr) (Cv.trans (BS (⟨[(4,tP 4 0)],[(4,.cells (B8 b [.own 200320 8 ((Vn b q).length),.own 200106 5 (Aa b).length,.own 200108 4 (AY b).length,.own 200110 2 (AN b).length,.own 200114 20 (AO b).length,.own 34 3 b.Waivers.length,.own 200112 3 (AM b).length]) 42),(26,Zb7 b),(30,Zba b),(34,Zbg b),(200100,Zb8 b),(200102,Zb9 b),(200106,Zbc b),(200108,Zbd b),(200110,Zbe b),(200112,Zbh b),(200114,Zbf b),(200320,.row 8 ((Vn b q).length) (AP A4.c (Vn b q)) 90)]⟩) lr (.cons ⟨rfl,.cells _ (rr5 (rr3 (.cons (.own _ _ au0) (rr (rr (rr (rr (rr (rr .nil)))))))))⟩ (.cons ⟨rfl,.refl _⟩ (.cons ⟨rfl,.refl _⟩ (.cons ⟨rfl,.refl _⟩ (.cons ⟨rfl,.refl _⟩ (.cons ⟨rfl,.refl _⟩ (.cons ⟨rfl,.refl _⟩ (.cons ⟨rfl,.refl _⟩ (.cons ⟨rfl,.refl _⟩ (.cons ⟨rfl,.refl _⟩ (.cons ⟨rfl,.refl _⟩ (.cons ⟨rfl,Ao 90 (Ae (c:=A4.c) (xs:=([A4.mk (b.Pours.getD 0 default).Id (b.Pours.getD 0 default).Net (b.Pours.getD 0 default).Layer (b.Pours.getD 0 default).Pitch (b.Pours.getD 0 default).Priority (b.Pours.getD 0 default).Relief (b.Pours.getD 0 default).Spoke ((b.Pours.getD 0 default).Rects++[Ai.mk (Int.tmod (AK q.e1 48) 9) (Int.tmod (AK q.e2 64) 9) (W64 ((Int.tmod (AK q.e1 48) 9)+2)) (W64 ((W64 ((Int.tmod (AK q.e2 64) 9)+2))+(W64 ((W64 (Int.tdiv (AK q.e1 48) 40))*1000))))])]:List A4)) rfl kr)⟩ .nil))))))))))))) (Cv.trans (Bu [26,200100,200102,30,200320,200106,200108,200110,200114,34,200112] hk0) (Cv.refl _))))) (by simp only [Mh,h1,h2,h3,h4,h5,h6,h7,h8,h9,h10,h11,h12,h13,h14,h15,h16,h17,h18,cond_true,cond_false] <;> kernel_rfl)
end
section
open Go.RowKit
def Zbm:Blk:=.cells GD 42
variable (b:AC) (q:C5)
def Zbn:Blk:=.row 7 b.Parts.length (H9 b) 59
def Zbo:Blk:=.row 2 (Ag b).length (H7 b) 48
def Zbp:Blk:=.row 6 (AH b).length (HO b) 85
def Zbq:Blk:=.row 8 b.Vias.length (HN b) 87
def Zbr:Blk:=.row 8 (Ad b).length (AP A4.c (Ad b)) 90
def Zbs:Blk:=.row 5 (Aa b).length (HR b) 93
def Zbt:Blk:=.row 4 (AY b).length (HP b) 95
def Zbu:Blk:=.row 2 (AN b).length (HS b) 98
def Zbv:Blk:=.row 20 (AO b).length (HQ b) 107
def Zbw:Blk:=.row 3 b.Waivers.length (HW b) 102
def Zbx:Blk:=.row 3 (AM b).length (Gm b) 100
def Zby:Blk:=.cells (OH b) 42
def Mi (b:AC) (q:C5):AC:=AC.mk b.Layers (Aj b.Outline) b.Parts (Ag b) (AH b) b.Vias (Ad b) (Aa b) (AY b) (AN b) (AO b) b.Waivers (AM b)
def pN:CT:=(9,(Nn b q),.val [] (.av (.agg (AC.c (Mi b q)))))
abbrev Fd:List (Nat×Blk):=[(4,Zbm),(5,Zby b),(26,Zbn b),(30,Zbq b),(34,Zbw b),(200100,Zbo b),(200102,Zbp b),(200104,Zbr b),(200106,Zbs b),(200108,Zbt b),(200110,Zbu b),(200112,Zbx b),(200114,Zbv b)]
set_option maxHeartbeats 40000000 in
theorem nF (b:AC) (q:C5) (hc:CM b) (hq:AK q.e0 26=16) (hlen:(b.Pours.length:Int)=0):PuP 9 (pN b q).2.1 (.av (.agg (AC.c (Mi b q)))):=by
 refine pwf Try.func9 fun W0 M0 => ?_
 have hl0:=hc.lParts
 have hl1:=hc.lNets
 have hl2:=hc.lTracks
 have hl3:=hc.lVias
 have hl4:=hc.lPours
 have hl5:=hc.lKeeps
 have hl6:=hc.lSlots
 have hl7:=hc.lClasses
 have hl8:=hc.lWaivers
 have hl9:=hc.lMatches
 have hl10:=hc.lRules
 have hN:0<=AK q.e1 48/\AK q.e1 48<48:=Ik _ _ (by decide) (by decide)
 have hK0:=Ik q.e2 64 (by decide) (by decide)
 have hK:0<=AK q.e2 64/\AK q.e2 64<64:=hK0
 have hfP:=QO b
 refine AB<|rn ⟨N5,[(2,.cells (AC.c b) 42),(Du q),(4,Zbm)]⟩<|AB ?_
 refine Dc ?_
 refine FS DV 1 [] [] [] [3,4,11] [3,4] [] ⟨(OB b),[(Du q),(4,Zbm)]⟩ .nil kr .nil ?_
 refine Hs (ι:=Unit) (I:=fun _=>True) (fun _=>⟨[(3,tP 3 0),(4,tP 4 0),(N7 b),(12,.av (.agg (OH b)))],[(26,Zbn b),(200100,Zbo b),(200102,Zbp b),(30,Zbq b),(200104,Zbr b),(200106,Zbs b),(200108,Zbt b),(200110,Zbu b),(200114,Zbv b),(34,Zbw b),(200112,Zbx b),(Du q),(4,Zbm)]⟩) hk0 ⟨⟨_,_,rfl,rfl,⟨fun _=>default,by kernel_rfl⟩,by kernel_rfl⟩,fun _ _=>by kernel_rfl,rfl,rfl⟩ (qCpA b au16) (fun _=>by kernel_rfl) (fun _=>by kernel_rfl) (fun _ _ => ?_)
 refine Ea DV [] [] [] [3,4,5] [3,4,5,26,30,34,200100,200102,200104,200106,200108,200110,200112,200114] [] ⟨N4,[(Du q),(4,Zbm),(5,Zby b),(26,Zbn b),(30,Zbq b),(34,Zbw b),(200100,Zbo b),(200102,Zbp b),(200104,Zbr b),(200106,Zbs b),(200108,Zbt b),(200110,Zbu b),(200112,Zbx b),(200114,Zbv b)]⟩ .nil kr .nil<|AF<|AB ?_
 refine oc [(15,Ej q.e1 48)] [0<=(1:Int)/\(1:Int)<(3:Int),A0 (Ej q.e1 48).2.1] (.cons (GR q.e1 48 au16) .nil) (.cons (by decide) (.cons rfl .nil))<|AF<|AB ?_
 refine oc [(18,Ej q.e2 64)] [0<=(2:Int)/\(2:Int)<(3:Int),A0 (Ej q.e2 64).2.1] (.cons (GR q.e2 64 au16) .nil) (.cons (by decide) (.cons rfl .nil))<|AF ?_
 refine AB<|AB ?_
 refine oc [(21,Ej q.e0 26)] [0<=(0:Int)/\(0:Int)<(3:Int),A0 (Ej q.e0 26).2.1] (.cons (GR q.e0 26 au16) .nil) (.cons (by decide) (.cons rfl .nil))<|AF ?_
 refine AX<|AB ?_
 refine rn ⟨(OM q),(Fd b)⟩ ?_
 have h1:(SF q)=false:=(decide_eq_false fun e=>absurd (hq.symm.trans e) (by decide))
 have g1:=oF h1
 refine AL _ rfl (fun h=>absurd (h1.symm.trans h) (by decide)) (fun _ => ?_)
 refine AB<|rn ⟨(OL q),(Fd b)⟩ ?_
 have h2:(SE q)=false:=(decide_eq_false fun e=>absurd (hq.symm.trans e) (by decide))
 have g2:=oF h2
 refine AL _ rfl (fun h=>absurd (h2.symm.trans h) (by decide)) (fun _ => ?_)
 refine AB<|rn ⟨(OJ q),(Fd b)⟩ ?_
 have h3:(SD q)=false:=(decide_eq_false fun e=>absurd (hq.symm.trans e) (by decide))
 have g3:=oF h3
 refine AL _ rfl (fun h=>absurd (h3.symm.trans h) (by decide)) (fun _ => ?_)
 refine AB<|rn ⟨(OI q),(Fd b)⟩ ?_
 have h4:(SC q)=false:=(decide_eq_false fun e=>absurd (hq.symm.trans e) (by decide))
 have g4:=oF h4
 refine AL _ rfl (fun h=>absurd (h4.symm.trans h) (by decide)) (fun _ => ?_)
 refine AB<|rn ⟨(OG q),(Fd b)⟩ ?_
 have h5:(SB q)=false:=(decide_eq_false fun e=>absurd (hq.symm.trans e) (by decide))
 have g5:=oF h5
 refine AL _ rfl (fun h=>absurd (h5.symm.trans h) (by decide)) (fun _ => ?_)
 refine AB<|rn ⟨(OQ q),(Fd b)⟩ ?_
 have h6:(SA q)=false:=(decide_eq_false fun e=>absurd (hq.symm.trans e) (by decide))
 have g6:=oF h6
 refine AL _ rfl (fun h=>absurd (h6.symm.trans h) (by decide)) (fun _ => ?_)
 refine AB<|rn ⟨(OP q),(Fd b)⟩ ?_
 have h7:(R9 q)=false:=(decide_eq_false fun e=>absurd (hq.symm.trans e) (by decide))
 have g7:=oF h7
 refine AL _ rfl (fun h=>absurd (h7.symm.trans h) (by decide)) (fun _ => ?_)
 refine AB<|rn ⟨(OO q),(Fd b)⟩ ?_
 have h8:(OD q)=false:=(decide_eq_false fun e=>absurd (hq.symm.trans e) (by decide))
 have g8:=oF h8
 refine AL _ rfl (fun h=>absurd (h8.symm.trans h) (by decide)) (fun _ => ?_)
 refine AB<|rn ⟨(SK q),(Fd b)⟩ ?_
 have h9:(Ra q)=false:=(decide_eq_false fun e=>absurd (hq.symm.trans e) (by decide))
 have g9:=oF h9
 refine AL _ rfl (fun h=>absurd (h9.symm.trans h) (by decide)) (fun _ => ?_)
 refine AB<|rn ⟨(ON q),(Fd b)⟩ ?_
 have h10:(RZ q)=false:=(decide_eq_false fun e=>absurd (hq.symm.trans e) (by decide))
 have g10:=oF h10
 refine AL _ rfl (fun h=>absurd (h10.symm.trans h) (by decide)) (fun _ => ?_)
 refine AB<|rn ⟨(ST q),(Fd b)⟩ ?_
 have h11:(Rg q)=false:=(decide_eq_false fun e=>absurd (hq.symm.trans e) (by decide))
 have g11:=oF h11
 refine AL _ rfl (fun h=>absurd (h11.symm.trans h) (by decide)) (fun _ => ?_)
 refine AB<|rn ⟨(SS q),(Fd b)⟩ ?_
 have h12:(Rf q)=false:=(decide_eq_false fun e=>absurd (hq.symm.trans e) (by decide))
 have g12:=oF h12
 refine AL _ rfl (fun h=>absurd (h12.symm.trans h) (by decide)) (fun _ => ?_)
 refine AB<|rn ⟨(SR q),(Fd b)⟩ ?_
 have h13:(Re q)=false:=(decide_eq_false fun e=>absurd (hq.symm.trans e) (by decide))
 have g13:=oF h13
 refine AL _ rfl (fun h=>absurd (h13.symm.trans h) (by decide)) (fun _ => ?_)
 refine AB<|rn ⟨(SP q),(Fd b)⟩ ?_
 have h14:(Rd q)=false:=(decide_eq_false fun e=>absurd (hq.symm.trans e) (by decide))
 have g14:=oF h14
 refine AL _ rfl (fun h=>absurd (h14.symm.trans h) (by decide)) (fun _ => ?_)
 refine AB<|rn ⟨(SO q),(Fd b)⟩ ?_
 have h15:(Rc q)=false:=(decide_eq_false fun e=>absurd (hq.symm.trans e) (by decide))
 have g15:=oF h15
 refine AL _ rfl (fun h=>absurd (h15.symm.trans h) (by decide)) (fun _ => ?_)
 refine AB<|rn ⟨(SN q),(Fd b)⟩ ?_
 have h16:(Rb q)=false:=(decide_eq_false fun e=>absurd (hq.symm.trans e) (by decide))
 have g16:=oF h16
 refine AL _ rfl (fun h=>absurd (h16.symm.trans h) (by decide)) (fun _ => ?_)
 refine AB<|rn ⟨(SM q),(Fd b)⟩ ?_
 have h17:(SG q)=true:=(decide_eq_true hq)
 refine AL _ rfl (fun _ => ?_) (fun h=>absurd (h17.symm.trans h) (by decide))
 refine AB<|rn ⟨(B6 q [(340,tB (decide ((0:Int)<(((Ad b).length:Nat):Int))))]),(Fd b)⟩ ?_
 have h18:(decide ((0:Int)<(((Ad b).length:Nat):Int)))=false:=(by rw [hfP,hlen];decide)
 refine AL _ rfl (fun h=>absurd (h18.symm.trans h) (by decide)) (fun _ => ?_)
 refine Af<|A8 ?_
 refine AF<|AB ?_
 refine on<|Ac ?_
 exact zy (Cv.trans (Bu [26,200100,200102,30,200104,200106,200108,200110,200114,34,200112] hk0) (Cv.refl _)) (by simp only [Mi,h1,h2,h3,h4,h5,h6,h7,h8,h9,h10,h11,h12,h13,h14,h15,h16,h17,h18,cond_true,cond_false] <;> kernel_rfl)
end
def Df (b:AC) (q:C5):AC:=bif decide (AK q.e0 26=7) then NE b q else bif decide (AK q.e0 26=16) then (bif decide ((b.Pours.length:Int)=2) then K5 b q else bif decide ((b.Pours.length:Int)=1) then Mh b q else Mi b q) else B1 b q
def Yd (b:AC) (q:C5):CT:=(9,(XL b q).2.1,.val [] (.av (.agg (AC.c (Df b q)))))
theorem pOddA (b:AC) (q:C5) (hc:CM b) (hn:(b.Nets.length:Int)=3) (hp:(b.Pours.length:Int)<=2):PuP 9 (Yd b q).2.1 (.av (.agg (AC.c (Df b q)))):=by
 show Fo Try.prog 9 (XL b q).2.1 _
 by_cases h7:AK q.e0 26=7
 ·have e:Df b q=NE b q:=by unfold Df;rw [decide_eq_true h7,cond_true]
  rw [e];exact pOddN b q hc h7 hn
 by_cases h16:AK q.e0 26=16
 ·by_cases h2:(b.Pours.length:Int)=2
  ·have e:Df b q=K5 b q:=by unfold Df;rw [decide_eq_false h7,cond_false,decide_eq_true h16,cond_true,decide_eq_true h2,cond_true]
   rw [e];exact nD b q hc h16 h2
  by_cases h1:(b.Pours.length:Int)=1
  ·have e:Df b q=Mh b q:=by unfold Df;rw [decide_eq_false h7,cond_false,decide_eq_true h16,cond_true,decide_eq_false h2,cond_false,decide_eq_true h1,cond_true]
   rw [e];exact nE b q hc h16 h1
  have e:Df b q=Mi b q:=by unfold Df;rw [decide_eq_false h7,cond_false,decide_eq_true h16,cond_true,decide_eq_false h2,cond_false,decide_eq_false h1,cond_false]
  rw [e];exact nF b q hc h16 oM
 have e:Df b q=B1 b q:=by unfold Df;rw [decide_eq_false h7,cond_false,decide_eq_false h16,cond_false]
 rw [e];exact nG b q hc h7 h16
theorem nZ (b:AC) (q:C5) (hc:CM b) (hn:(b.Nets.length:Int)=3) (hp:(b.Pours.length:Int)<=2):OKc (Yd b q):=cPu<|pOddA b q hc hn hp
theorem Yx (r:Ai):(DM r).Edges.length=4:=rfl
theorem Zj (p:AE) (r:Int):(C7 p r).Edges.length=1:=rfl
def Me (n:Nat) (l:List BL):Prop:=l.length<=n/\∀ g∈l,Kz g
theorem W4 {n:Nat} {c:Bool} {a b:List BL} (ha:Me n a) (hb:Me n b):Me n (bif c then a else b):=by cases c <;> assumption
theorem W3 {n:Nat}:Me n []:=⟨Nat.zero_le _,fun g hg=>by cases hg⟩
theorem TH {n:Nat} {g:BL} {l:List BL} (hg:Kz g) (h:Me n l):Me (n+1) (g::l):=⟨Nat.succ_le_succ h.1,fun x hx=>(List.mem_cons.1 hx).elim (fun e=>e▸hg) (h.2 x)⟩
theorem pA {n:Nat} {g:BL} {l:List BL} (hg:Kz g) (h:Me n l):Me (n+1) (l++[g]):=⟨by rw [List.length_append];exact Nat.succ_le_succ h.1,fun x hx=>(List.mem_append.1 hx).elim (h.2 x) (fun e=>by rw [List.mem_singleton.1 e];exact hg)⟩
theorem YS {k:Int} {a c:Bw}:Kz (BL.mk k [a,c]):=(by decide:((2:Nat):Int)<=1000000)
theorem gs_up {n m:Nat} {l:List BL} (h:Me n l) (k:n<=m):Me m l:=⟨Nat.le_trans h.1 k,h.2⟩
theorem ZT (l:List Int) (d:AD):Me 3 (Z4R l d):=by
 have h1:Me 2 (Z4D l d):=W4 (TH YS W3) W3
 have h2:Me 2 (Z4L l d):=W4 (TH YS (TH YS W3)) h1
 exact W4 (pA YS h2) (gs_up h2 (by decide))
theorem S4 (d:AD) (k:Int):((Z4t d k).length:Int)<=1000000:=by
 unfold Z4t Z4o Z4r
 cases decide ((AA (AA d 2).2 3).1=0) with
 | true=>rw [cond_true,Yx];decide
 | false =>
  rw [cond_false]
  cases decide ((AA (AA d 2).2 3).1=1) with
  | true=>rw [cond_true,Zj];decide
  | false=>exact (by decide:((1:Nat):Int)<=1000000)
theorem QL (l:List Int) (name:ByteArray):∀ (n:Nat) (v:List BJ) (d:AD) (k:Int),(∀ p∈v,VH p)->(v.length:Int)<=1000000->((v.length:Int)+(W64 (2+(AA (AD.mk l 0) 5).1)-k)<=1000000)->((W64 (2+(AA (AD.mk l 0) 5).1))-k).toNat<n ->
  Ky (DO l name n v d k)
 | 0,v,d,k,_,_,_,h=>absurd h (Nat.not_lt_zero _)
 | n+1,v,d,k,hv,h0,h1,h2=>by
  unfold DO
  by_cases h:k<W64 (2+(AA (AD.mk l 0) 5).1)
  ·rw [decide_eq_true h,cond_true]
   refine QL l name n _ _ (k+1) (fun p hp => ?_) (by simp only [List.length_append,List.length_cons,List.length_nil];omega) (by simp only [List.length_append,List.length_cons,List.length_nil];omega) (by omega)
   rcases List.mem_append.1 hp with hp | hp
   ·exact hv p hp
   rw [List.mem_singleton.1 hp]
   exact S4 d k
  rw [decide_eq_false h,cond_false]
  have hg:=ZT l d
  exact ⟨h0,by have:=hg.1;show ((Z4R l d).length:Int)<=1000000;omega,hv,hg.2⟩
theorem Uf (l:List Int) (name:ByteArray):Ky (BG l name):=by
 have hn:=DU (AD.mk l 0) 5 (by decide) (by decide)
 have hw:W64 (2+(AA (AD.mk l 0) 5).1)=2+(AA (AD.mk l 0) 5).1:=A1 (by omega) (by omega)
 unfold BG
 exact QL l name _ [] _ 0 (fun p hp=>by cases hp) (by decide) (by simp only [List.length_nil];omega) (by omega)
theorem YD (l:List (List Int)) (v6_4:List AG) (v5:AD) (v8:Int) (a1 a3 a5:List AU) (d1:AD) (v10:Int) (K0:List AG->AD->Int->(AC×(List AV))) (K1:List AU->List AU->List AU->AD->Int->(AC×(List AV))) (hK:∀ a b c d,Cd (K1 a b c d (v10+1)).2):∀ (n:Nat) (x y z:List AU) (d:AD) (k:Int),0<=k->(((Bp [BG (AZ l 0) ({ data := #[82] }:ByteArray),BG (AZ l 1) ({ data := #[81] }:ByteArray)] (v6_4.getD v10.toNat default).Type').1.Pads.length:Int)-k).toNat<n->Cd (Dd l v6_4 v5 v8 a1 a3 a5 d1 v10 K0 K1 n x y z d k).2
 | 0,x,y,z,d,k,_,h=>absurd h (Nat.not_lt_zero _)
 | n+1,x,y,z,d,k,k0,h=>by
  unfold Dd
  show Cd (bif decide ((k:Int)<((Bp [BG (AZ l 0) ({ data := #[82] }:ByteArray),BG (AZ l 1) ({ data := #[81] }:ByteArray)] (v6_4.getD v10.toNat default).Type').1.Pads.length:Int)) then (_:AC×List AV) else _).2
  by_cases hc:(k:Int)<((Bp [BG (AZ l 0) ({ data := #[82] }:ByteArray),BG (AZ l 1) ({ data := #[81] }:ByteArray)] (v6_4.getD v10.toNat default).Type').1.Pads.length:Int)
  ·rw [decide_eq_true hc]
   exact YD l v6_4 v5 v8 a1 a3 a5 d1 v10 K0 K1 hK n _ _ _ _ _ (by omega) (by omega)
  rw [decide_eq_false hc]
  exact hK _ _ _ _
theorem mU (a c:List Int) (x y:ByteArray):Cd [BG a x,BG c y]:=by
 refine ⟨(by decide:((2:Nat):Int)<=1000000),fun t ht => ?_⟩
 simp only [List.mem_cons,List.not_mem_nil,or_false] at ht
 rcases ht with rfl | rfl <;> exact Uf _ _
theorem YE (l:List (List Int)) (v6_4:List AG) (v5:AD) (v8:Int) (K0:List AG->AD->Int->(AC×(List AV))):∀ (n:Nat) (x y z:List AU) (d:AD) (k:Int),0<=k->(W64 (1+(AA (AA (AD.mk (AZ l 2) 0) 3).2 3).1)-k).toNat<n->Cd (DN l v6_4 v5 v8 K0 n x y z d k).2
 | 0,x,y,z,d,k,_,h=>absurd h (Nat.not_lt_zero _)
 | n+1,x,y,z,d,k,k0,h=>by
  unfold DN
  by_cases hc:k<W64 (1+(AA (AA (AD.mk (AZ l 2) 0) 3).2 3).1)
  ·simp only [hc,decide_true,cond_true]
   exact YD l v6_4 v5 v8 x y z d k K0 _ (fun a b c e=>YE l v6_4 v5 v8 K0 n a b c e (k+1) (by omega) (by omega)) _ _ _ _ _ 0 (by omega) (Nat.lt_succ_self _)
  simp only [hc,decide_false,cond_false]
  exact mU _ _ _ _
theorem YF (l:List (List Int)):∀ (n:Nat) (v:List AG) (d:AD) (k:Int),0<=k->(W64 (1+(AA (AA (AD.mk (AZ l 2) 0) 3).2 3).1)-k).toNat<n->Cd (Ch l n v d k).2
 | 0,v,d,k,_,h=>absurd h (Nat.not_lt_zero _)
 | n+1,v,d,k,k0,h=>by
  unfold Ch
  by_cases hc:k<W64 (1+(AA (AA (AD.mk (AZ l 2) 0) 3).2 3).1)
  ·simp only [hc,decide_true,cond_true]
   exact YF l n _ _ _ (by omega) (by omega)
  simp only [hc,decide_false,cond_false]
  exact YE l v d k _ _ _ _ _ _ 0 (by omega) (Nat.lt_succ_self _)
theorem Wp (l:List (List Int)):Cd (DA l).2:=by
 unfold DA
 exact YF l _ _ _ 0 (by omega) (Nat.lt_succ_self _)
def Ix {α:Type} [Inhabited α] (P:Nat->α->Prop) (v:List α):Prop:=∀ k,k<v.length->P k (v.getD k default)
theorem S7 {α:Type} [Inhabited α] {P:Nat->α->Prop}:Ix P ([]:List α):=fun k h=>absurd h (Nat.not_lt_zero _)
theorem S8 {α:Type} [Inhabited α] {P:Nat->α->Prop} {v:List α} {x:α} (h:Ix P v) (hx:P v.length x):Ix P (v++[x]):=by
 intro k hk
 by_cases h1:k<v.length
 ·rw [List.getD_eq_getElem?_getD,List.getElem?_append_left h1,<- List.getD_eq_getElem?_getD];exact h k h1
 have e:k=v.length:=by simp only [List.length_append,List.length_cons,List.length_nil] at hk;omega
 subst e
 rw [List.getD_eq_getElem?_getD,List.getElem?_append_right (Nat.le_refl _),Nat.sub_self];exact hx
theorem oQ {α:Type} [Inhabited α] {P:Nat->α->Prop} {v:List α} {x:α} (h:Ix P v) (hx:x∈v):∃ k,k<v.length/\v.getD k default=x/\P k x:=by
 obtain ⟨k,hk,e⟩:=List.getElem_of_mem hx
 have e2:v.getD k default=x:=by rw [List.getD_eq_getElem?_getD,List.getElem?_eq_getElem hk];exact e
 exact ⟨k,hk,e2,e2▸h k hk⟩
structure pV (k:Nat) (p:BJ):Prop where
 lt:k<6
 name:p.Name=Ar k
 drill:0<=p.Drill/\p.Drill<=6
 shp:∃ y:Int,0<=y/\y<=10/\p.At=AE.mk (30*(k:Int)) y/\(p.Shape=DM (Ai.mk (30*(k:Int)-6) (y-6) (30*(k:Int)+6) (y+6))\/(∃ r:Int,4<=r/\r<=6/\p.Shape=C7 (AE.mk (30*(k:Int)) y) r)\/p.Shape=A2.mk 1 [AQ.mk 1 (AE.mk (30*(k:Int)-2) y) (AE.mk (30*(k:Int)+2) y) (AE.mk 0 0)] 4)
theorem CW {d:AD} {n:Int} (h0:0<n) (h1:n<=1000000):0<=(AA d n).1/\(AA d n).1<n:=DU d n h0 (by omega)
theorem QN (l:List Int) (name:ByteArray):∀ (n:Nat) (v:List BJ) (d:AD) (k:Int),Ix pV v->(v.length:Int)=k->k<=W64 (2+(AA (AD.mk l 0) 5).1)->(W64 (2+(AA (AD.mk l 0) 5).1)-k).toNat<n->Ix pV (DO l name n v d k).Pads
 | 0,v,d,k,_,_,_,h=>absurd h (Nat.not_lt_zero _)
 | n+1,v,d,k,hv,hl,hk,h=>by
  have hn:=CW (d:=AD.mk l 0) (n:=5) (by decide) (by decide)
  have hw:W64 (2+(AA (AD.mk l 0) 5).1)=2+(AA (AD.mk l 0) 5).1:=A1 (by omega) (by omega)
  unfold DO
  by_cases hc:k<W64 (2+(AA (AD.mk l 0) 5).1)
  ·rw [decide_eq_true hc,cond_true]
   refine QN l name n _ _ _ (S8 hv ?_) (by simp only [List.length_append,List.length_cons,List.length_nil];omega) (by omega) (by omega)
   have hk6:v.length<6:=by omega
   have hy:=CW (d:=d) (n:=2) (by decide) (by decide)
   have hr:=CW (d:=(AA (AA d 2).2 3).2) (n:=3) (by decide) (by decide)
   have h4:=CW (d:=Z4s d) (n:=4) (by decide) (by decide)
   have h2:=CW (d:=(AA (Z4s d) 4).2) (n:=2) (by decide) (by decide)
   have e1:W64 (30*k)=30*(v.length:Int):=by rw [A1 (by omega) (by omega)];omega
   have e2:W64 (10*(AA d 2).1)=10*(AA d 2).1:=A1 (by omega) (by omega)
   refine ⟨hk6,by rw [<- hl],?_,10*(AA d 2).1,by omega,by omega,by show AE.mk _ _=_;rw [e1,e2],?_⟩
   ·show 0<=W64 (W64 (2*(AA (Z4s d) 4).1)*(AA (AA (Z4s d) 4).2 2).1)/\W64 (W64 (2*(AA (Z4s d) 4).1)*(AA (AA (Z4s d) 4).2 2).1)<=6
    rw [A1 (x:=2*(AA (Z4s d) 4).1) (by omega) (by omega)]
    have h01:(AA (AA (Z4s d) 4).2 2).1=0\/(AA (AA (Z4s d) 4).2 2).1=1:=by omega
    rcases h01 with h01 | h01 <;> rw [h01] <;> rw [A1 (by omega) (by omega)] <;> omega
   show (A2.mk _ (Z4t d k) _=_)\/_
   unfold Z4t Z4o Z4r
   rw [e1,e2]
   cases decide ((AA (AA d 2).2 3).1=0) with
   | true =>
    simp only [cond_true]
    left
    rw [A1 (x:=30*(v.length:Int)-6) (by omega) (by omega),A1 (x:=10*(AA d 2).1-6) (by omega) (by omega),A1 (x:=30*(v.length:Int)+6) (by omega) (by omega),A1 (x:=10*(AA d 2).1+6) (by omega) (by omega)]
   | false =>
    simp only [cond_false]
    right
    cases decide ((AA (AA d 2).2 3).1=1) with
    | true =>
     simp only [cond_true]
     left
     exact ⟨W64 (4+(AA (AA (AA d 2).2 3).2 3).1),by rw [A1 (by omega) (by omega)];omega,by rw [A1 (by omega) (by omega)];omega,rfl⟩
    | false =>
     simp only [cond_false]
     right
     rw [A1 (x:=30*(v.length:Int)-2) (by omega) (by omega),A1 (x:=30*(v.length:Int)+2) (by omega) (by omega)]
  rw [decide_eq_false hc,cond_false]
  exact hv
theorem Ug (l:List Int) (name:ByteArray):Ix pV (BG l name).Pads:=by
 have hn:=CW (d:=AD.mk l 0) (n:=5) (by decide) (by decide)
 have hw:W64 (2+(AA (AD.mk l 0) 5).1)=2+(AA (AD.mk l 0) 5).1:=A1 (by omega) (by omega)
 unfold BG
 exact QN l name _ [] _ 0 S7 rfl (by omega) (by omega)
abbrev nR:ByteArray:={ data := #[82] }
abbrev nQ:ByteArray:={ data := #[81] }
abbrev refs3:List ByteArray:=[({ data := #[82,49] }:ByteArray),({ data := #[82,50] }:ByteArray),({ data := #[120,47,82,49] }:ByteArray)]
structure Qt (k:Nat) (p:AG):Prop where
 id:p.Id=1+(k:Int)
 ref:p.Ref=refs3.getD k ⟨#[]⟩
 typ:p.Type'=nR\/p.Type'=nQ
 turn:0<=p.Turn/\p.Turn<4
 x:80<=p.At.X/\p.At.X<=300
 y:100<=p.At.Y/\p.At.Y<=270
abbrev Kb (l:List (List Int)):List AV:=[Z5s l,Z5t l]
theorem Yr (l:List (List Int)) {i:Int} (hi:0<=i/\i<2):((Kb l).getD i.toNat default).Name=nR\/((Kb l).getD i.toNat default).Name=nQ:=by
 have h01:i=0\/i=1:=by omega
 rcases h01 with rfl | rfl
 ·exact .inl (Fj _ _).1
 exact .inr (Fj _ _).1
theorem Tz (l:List (List Int)) {x:ByteArray} (h:x=nR\/x=nQ):∃ a,Bp (Kb l) x=(BG a x,true)/\BG a x∈Kb l:=by
 have h0:=(Fj (AZ l 0) nR).1
 have h1:=(Fj (AZ l 1) nQ).1
 rcases h with rfl | rfl
 ·refine ⟨AZ l 0,?_,List.mem_cons_self ..⟩
  have:=QZ (a:=Z5s l) (c:=Z5t l)
  rw [show (Z5s l).Name=nR from h0] at this
  exact this
 refine ⟨AZ l 1,?_,List.mem_cons_of_mem _ (List.mem_cons_self ..)⟩
 have:=QX (a:=Z5s l) (c:=Z5t l) (by rw [show (Z5s l).Name=nR from h0,show (Z5t l).Name=nQ from h1];decide +kernel)
 rw [show (Z5t l).Name=nQ from h1] at this
 exact this
theorem fO (l:List (List Int)) {x:ByteArray} (h:x=nR\/x=nQ):((Bp (Kb l) x).1.Pads.length:Int)<=6:=by
 obtain ⟨a,e,_⟩:=Tz l h
 rw [e]
 exact (Fj a x).2.2
theorem Oo (v5'':AD) (v:List AU) (v6_4:List AG) (v10:Int) (l:List (List Int)) (v13:Int):(Z6a v5'' v v6_4 v10 l v13).length<=v.length+1/\(Z6b v5'' v v6_4 v10 l v13).length<=v.length+1/\(Z6c v5'' v v6_4 v10 l v13).length<=v.length+1:=by
 unfold Z6a Z6b Z6c
 cases decide ((AA v5'' 5).1<3) <;> cases decide ((AA v5'' 5).1=0) <;> cases decide ((AA v5'' 5).1=1) <;> simp
theorem YJ (l:List (List Int)) (v6_4:List AG) (v5:AD) (v8:Int) (a1 a3 a5:List AU) (d1:AD) (v10:Int) (K0:List AG->AD->Int->(AC×(List AV))) (K1:List AU->List AU->List AU->AD->Int->(AC×(List AV))) (Q:AC×List AV->Prop) (M:Nat) (hK:∀ a b c d,a.length<=M->b.length<=M->c.length<=M->Q (K1 a b c d (v10+1))) :
  ∀ (n:Nat) (x y z:List AU) (d:AD) (k:Int),0<=k->(x.length:Int)+((Z61 l v6_4 v10).Pads.length-k)<=M->(y.length:Int)+((Z61 l v6_4 v10).Pads.length-k)<=M->(z.length:Int)+((Z61 l v6_4 v10).Pads.length-k)<=M->k<=(Z61 l v6_4 v10).Pads.length->(((Z61 l v6_4 v10).Pads.length:Int)-k).toNat<n->Q (Dd l v6_4 v5 v8 a1 a3 a5 d1 v10 K0 K1 n x y z d k)
 | 0,x,y,z,d,k,_,_,_,_,_,h=>absurd h (Nat.not_lt_zero _)
 | n+1,x,y,z,d,k,k0,hx,hy,hz,hk,h=>by
  unfold Dd
  by_cases hc:(k:Int)<((Z61 l v6_4 v10).Pads.length:Int)
  ·rw [decide_eq_true hc,cond_true]
   have p1:=(Oo d x v6_4 v10 l k).1
   have p2:=(Oo d y v6_4 v10 l k).2.1
   have p3:=(Oo d z v6_4 v10 l k).2.2
   exact YJ l v6_4 v5 v8 a1 a3 a5 d1 v10 K0 K1 Q M hK n _ _ _ _ _ (by omega) (by omega) (by omega) (by omega) (by omega) (by omega)
  rw [decide_eq_false hc,cond_false]
  exact hK _ _ _ _ (by omega) (by omega) (by omega)
theorem YK (l:List (List Int)) (v6_4:List AG) (v5:AD) (v8:Int) (K0:List AG->AD->Int->(AC×(List AV))) (Q:AC×List AV->Prop) (hp:Ix Qt v6_4) (hm:(v6_4.length:Int)=W64 (1+(AA (AA (AD.mk (AZ l 2) 0) 3).2 3).1)) (h3:v6_4.length<=3) (hQ:∀ x y z:List AU,x.length<=18->y.length<=18->z.length<=18->Q ((Z6i l v6_4 x y z).1,Kb l)) :
  ∀ (n:Nat) (x y z:List AU) (d:AD) (k:Int),0<=k->(x.length:Int)<=6*k->(y.length:Int)<=6*k->(z.length:Int)<=6*k->k<=(v6_4.length:Int)->((v6_4.length:Int)-k).toNat<n->Q (DN l v6_4 v5 v8 K0 n x y z d k)
 | 0,x,y,z,d,k,_,_,_,_,_,h=>absurd h (Nat.not_lt_zero _)
 | n+1,x,y,z,d,k,k0,hx,hy,hz,hk,h=>by
  unfold DN
  rw [<- hm]
  by_cases hc:k<(v6_4.length:Int)
  ·rw [decide_eq_true hc,cond_true]
   have hg:=fO l (hp k.toNat (by omega)).typ
   have hg:((Z61 l v6_4 k).Pads.length:Int)<=6:=hg
   exact YJ l v6_4 v5 v8 x y z d k K0 _ Q (6*(k+1)).toNat (fun a b c e ha hb hc'=>YK l v6_4 v5 v8 K0 Q hp hm h3 hQ n a b c e (k+1) (by omega) (by omega) (by omega) (by omega) (by omega) (by omega)) _ _ _ _ _ 0 (by omega) (by omega) (by omega) (by omega) (by omega) (by omega)
  rw [decide_eq_false hc,cond_false]
  exact hQ _ _ _ (by omega) (by omega) (by omega)
theorem YL (l:List (List Int)) (Q:AC×List AV->Prop) (hQ:∀ (v:List AG) (x y z:List AU),Ix Qt v->1<=v.length->v.length<=3->x.length<=18->y.length<=18->z.length<=18->Q ((Z6i l v x y z).1,Kb l)) :
  ∀ (n:Nat) (v:List AG) (d:AD) (k:Int),Ix Qt v->(v.length:Int)=k->k<=W64 (1+(AA (AA (AD.mk (AZ l 2) 0) 3).2 3).1)->(W64 (1+(AA (AA (AD.mk (AZ l 2) 0) 3).2 3).1)-k).toNat<n->Q (Ch l n v d k)
 | 0,v,d,k,_,_,_,h=>absurd h (Nat.not_lt_zero _)
 | n+1,v,d,k,hv,hl,hk,h=>by
  have hn:=CW (d:=(AA (AD.mk (AZ l 2) 0) 3).2) (n:=3) (by decide) (by decide)
  have hw:W64 (1+(AA (AA (AD.mk (AZ l 2) 0) 3).2 3).1)=1+(AA (AA (AD.mk (AZ l 2) 0) 3).2 3).1:=A1 (by omega) (by omega)
  unfold Ch
  by_cases hc:k<W64 (1+(AA (AA (AD.mk (AZ l 2) 0) 3).2 3).1)
  ·rw [decide_eq_true hc,cond_true]
   refine YL l Q hQ n _ _ _ (S8 hv ?_) (by simp only [List.length_append,List.length_cons,List.length_nil];omega) (by omega) (by omega)
   have h2:=CW (d:=d) (n:=2) (by decide) (by decide)
   have h4:=CW (d:=(AA d 2).2) (n:=4) (by decide) (by decide)
   have h5:=CW (d:=Z5N d) (n:=5) (by decide) (by decide)
   have h6:=CW (d:=(AA (Z5N d) 5).2) (n:=3) (by decide) (by decide)
   have h7:=CW (d:=Z5Q d) (n:=3) (by decide) (by decide)
   refine ⟨?_,by rw [<- hl];rfl,Yr l h2,h4,?_,?_⟩
   ·show W64 (1+k)=_
    rw [A1 (by omega) (by omega)];omega
   ·show 80<=W64 (W64 (80+W64 (100*k))+W64 (5*(AA (Z5N d) 5).1))/\W64 (W64 (80+W64 (100*k))+W64 (5*(AA (Z5N d) 5).1))<=300
    rw [A1 (x:=100*k) (by omega) (by omega),A1 (x:=80+100*k) (by omega) (by omega),A1 (x:=5*(AA (Z5N d) 5).1) (by omega) (by omega),A1 (by omega) (by omega)]
    omega
   show 100<=W64 (W64 (100+W64 (80*(AA (AA (Z5N d) 5).2 3).1))+W64 (5*(AA (Z5Q d) 3).1))/\W64 (W64 (100+W64 (80*(AA (AA (Z5N d) 5).2 3).1))+W64 (5*(AA (Z5Q d) 3).1))<=270
   rw [A1 (x:=80*(AA (AA (Z5N d) 5).2 3).1) (by omega) (by omega),A1 (x:=100+80*(AA (AA (Z5N d) 5).2 3).1) (by omega) (by omega),A1 (x:=5*(AA (Z5Q d) 3).1) (by omega) (by omega),A1 (by omega) (by omega)]
   omega
  rw [decide_eq_false hc,cond_false]
  exact YK l v d k _ Q hv (by omega) (by omega) (fun x y z hx hy hz=>hQ v x y z hv (by omega) (by omega) hx hy hz) _ [] [] [] _ 0 (by omega) (by simp) (by simp) (by simp) (by omega) (by omega)
theorem O9 (l:List (List Int)) (Q:AC×List AV->Prop) (hQ:∀ (v:List AG) (x y z:List AU),Ix Qt v->1<=v.length->v.length<=3->x.length<=18->y.length<=18->z.length<=18->Q ((Z6i l v x y z).1,Kb l)):Q (DA l):=by
 have hn:=CW (d:=(AA (AD.mk (AZ l 2) 0) 3).2) (n:=3) (by decide) (by decide)
 have hw:W64 (1+(AA (AA (AD.mk (AZ l 2) 0) 3).2 3).1)=1+(AA (AA (AD.mk (AZ l 2) 0) 3).2 3).1:=A1 (by omega) (by omega)
 unfold DA
 exact YL l Q hQ _ [] _ 0 S7 rfl (by omega) (by omega)
def PtB (p:AE):Prop:=(-900<=p.X/\p.X<=900) /\ -900<=p.Y/\p.Y<=900
theorem O5 {x:Int} (h : -500<=x/\x<=500) : -500<=W64 (0-x)/\W64 (0-x)<=500:=by rw [A1 (by omega) (by omega)];omega
theorem iD {x y:Int} (h : -500<=x/\x<=500) (k : -400<=y/\y<=400) : -900<=W64 (x+y)/\W64 (x+y)<=900:=by rw [A1 (by omega) (by omega)];omega
theorem hZ {m:Al} {p:AE} (hp:(-500<=p.X/\p.X<=500) /\ -500<=p.Y/\p.Y<=500) (ha:(-400<=m.At.X/\m.At.X<=400) /\ -400<=m.At.Y/\m.At.Y<=400):PtB (Dj m p):=by
 have h1:(-500<=(CE p m.Mirror).X/\(CE p m.Mirror).X<=500) /\ -500<=(CE p m.Mirror).Y/\(CE p m.Mirror).Y<=500:=by
  unfold CE
  cases m.Mirror with
  | true=>exact ⟨O5 hp.1,hp.2⟩
  | false=>exact hp
 have h2:∀ q:AE,((-500<=q.X/\q.X<=500) /\ -500<=q.Y/\q.Y<=500)->(-500<=(CS q m.Turn).X/\(CS q m.Turn).X<=500) /\ -500<=(CS q m.Turn).Y/\(CS q m.Turn).Y<=500:=fun q hq=>by
  unfold CS
  cases decide (CG m.Turn=1) with
  | true=>exact ⟨O5 hq.2,hq.1⟩
  | false =>
   cases decide (CG m.Turn=2) with
   | true=>exact ⟨O5 hq.1,O5 hq.2⟩
   | false =>
    cases decide (CG m.Turn=3) with
    | true=>exact ⟨hq.2,O5 hq.1⟩
    | false=>exact hq
 have h3:=h2 _ h1
 exact ⟨iD h3.1 ha.1,iD h3.2 ha.2⟩
theorem iN (b:AC) (l:List (List Int)) (d:AD) (hP:Ix Qt b.Parts):PtB (Bx b (Kb l) d).1:=by
 have h12:=CW (d:=d) (n:=12) (by decide) (by decide)
 have h6:=CW (d:=(AA d 12).2) (n:=6) (by decide) (by decide)
 unfold Bx
 cases hq:(bif decide ((AA d 12).1<8) then decide ((0:Int)<(b.Parts.length:Int)) else false) with
 | true =>
  have hi:=T4 hq
  rw [cond_true]
  show PtB (Z1m b d (Kb l))
  have hp:=hP (Int.tmod (AA d 12).1 (b.Parts.length:Int)).toNat (by omega)
  obtain ⟨a,e,_⟩:=Tz l hp.typ
  have hx:=hp.x
  have hy:=hp.y
  unfold Z1m
  refine hZ ?_ (by show (-400<=(Z1k b d).At.X/\(Z1k b d).At.X<=400) /\ -400<=(Z1k b d).At.Y/\(Z1k b d).At.Y<=400;unfold Z1k;omega)
  unfold Z1l Z1k
  rw [e]
  generalize (Int.tmod (AA (AA d 12).2 6).1 _).toNat=k
  by_cases hk:k<(BG a (b.Parts.getD (Int.tmod (AA d 12).1 (b.Parts.length:Int)).toNat default).Type').Pads.length
  ·obtain ⟨h1,_,_,y,hy0,hy1,hat,_⟩:=Ug a _ k hk
   show (-500<=((BG a (b.Parts.getD (Int.tmod (AA d 12).1 (b.Parts.length:Int)).toNat default).Type').Pads.getD k default).At.X/\_)/\_
   rw [hat]
   simp only
   omega
  rw [List.getD_eq_getElem?_getD,List.getElem?_eq_none (by show (BG a (b.Parts.getD (Int.tmod (AA d 12).1 (b.Parts.length:Int)).toNat default).Type').Pads.length<=k;omega)]
  exact (by decide:(-500<=(0:Int)/\(0:Int)<=500) /\ -500<=(0:Int)/\(0:Int)<=500)
 | false =>
  rw [cond_false]
  show (-900<=W64 (30+Int.tmod (W64 (40*(AA d 12).1)) 360)/\W64 (30+Int.tmod (W64 (40*(AA d 12).1)) 360)<=900) /\ -900<=W64 (30+W64 (60*(AA (AA d 12).2 6).1))/\W64 (30+W64 (60*(AA (AA d 12).2 6).1))<=900
  rw [A1 (x:=40*(AA d 12).1) (by omega) (by omega),Int.tmod_eq_emod_of_nonneg (by omega),A1 (x:=60*(AA (AA d 12).2 6).1) (by omega) (by omega),A1 (by omega) (by omega),A1 (by omega) (by omega)]
  omega
structure Pd (k:Nat) (t:Ap):Prop where
 id:t.Id=11+(k:Int)
 lay:1<=t.Layer/\t.Layer<=2
 kind:t.Shape.Kind=1
 r:3<=t.Shape.R/\t.Shape.R<=6
 edg:∃ a c d,PtB a/\PtB c/\t.Shape.Edges=(C2 a c d).1
structure lB (k:Nat) (v:Bo):Prop where
 id:v.Id=21+(k:Int)
 lay:v.From=1/\v.To=2
 r:6<=v.R/\v.R<=10
 at_:PtB v.At
 drill:4<=v.Drill/\v.Drill<=8
def mJ (s:Bi):Prop:=∃ r p,3<=r/\r<=6/\PtB p/\s.Shape=A2.mk 1 [EB p (AE.mk (W64 (p.X+25)) (W64 (p.Y+10)))] r
def Yl (p:A4):Prop:=p.Rects.length<=2
def Ym (p:BT):Prop:=p.Shape.Edges.length=4
abbrev Yi (b:AC) (types:List AV):Prop:=∀ d,PtB (Bx (AC.mk b.Layers b.Outline b.Parts [] [] [] [] [] [] [] [] [] []) types d).1
abbrev lD (b:AC) (Q:AC->Prop):Prop:=∀ (v1:List Ap) (v2:List Bo) (v3:List A4) (v4:List BT) (v5:List Bi),Ix Pd v1->v1.length<=5->Ix lB v2->v2.length<=2->v3.length<=2->v4.length<=1->v5.length<=1->(∀ s∈v5,mJ s)->(∀ p∈v3,Yl p)->(∀ p∈v4,Ym p)->Q (AC.mk b.Layers b.Outline b.Parts b.Nets v1 v2 v3 v4 v5 [] [] [] [])
theorem eF (b:AC) (types:List AV) (l:List (List Int)) (v1:List Ap) (v6:AD) (v7:ByteArray) (v9:Int) (v2:List Bo) (v6':AD) (v11:Int) (K0:List Ap->AD->ByteArray->Int->AC) (K1:List Bo->AD->Int->AC) (Q:AC->Prop) (hs:Yi b types) (hQ:lD b Q) (h1:Ix Pd v1) (h1l:v1.length<=5) (h2:Ix lB v2) (h2l:v2.length<=2) :
  ∀ (n:Nat) (v:List A4) (d:AD) (k:Int),(∀ p∈v,Yl p)->0<=k->(v.length:Int)<=k->k<=(AA v6' 3).1->((AA v6' 3).1-k).toNat<n->Q (CN b types l v1 v6 v7 v9 v2 v6' v11 K0 K1 n v d k)
 | 0,v,d,k,_,_,_,_,h=>absurd h (Nat.not_lt_zero _)
 | n+1,v,d,k,hv,k0,kv,kk,h=>by
  have hb:=CW (d:=v6') (n:=3) (by decide) (by decide)
  unfold CN
  by_cases hc:k<(AA v6' 3).1
  ·rw [decide_eq_true hc,cond_true]
   exact eF b types l v1 v6 v7 v9 v2 v6' v11 K0 K1 Q hs hQ h1 h1l h2 h2l n _ _ _ (fun p hp=>by
    rcases List.mem_append.1 hp with hp | hp
    ·exact hv p hp
    rw [List.mem_singleton.1 hp]
    show (Z2P b d).length<=2
    unfold Z2P
    cases decide ((AA (AA (Z2H b d) 6).2 3).1=0) <;> simp) (by omega) (by simp only [List.length_append,List.length_cons,List.length_nil];omega) (by omega) (by omega)
  rw [decide_eq_false hc,cond_false]
  have h4:(Z1M l b types).length<=1:=by
   unfold Z1M
   cases decide ((AA (AD.mk (AZ l 6) 0) 3).1=0) <;> simp
  have h4k:∀ p∈Z1M l b types,Ym p:=by
   unfold Z1M
   cases decide ((AA (AD.mk (AZ l 6) 0) 3).1=0) with
   | true=>intro p hp;rw [cond_true] at hp;rw [List.mem_singleton.1 hp];rfl
   | false=>intro p hp;cases hp
  cases decide ((AA (Z1L l b types) 3).1=0) with
  | true =>
   rw [cond_true]
   refine hQ _ _ _ _ _ h1 h1l h2 h2l (by omega) h4 (by simp) (fun s hm => ?_) hv h4k
   rw [List.mem_singleton.1 hm]
   have hr:=CW (d:=Z1R b types l) (n:=4) (by decide) (by decide)
   exact ⟨W64 (3+(AA (Z1R b types l) 4).1),Z1S b types l,by rw [A1 (by omega) (by omega)];omega,by rw [A1 (by omega) (by omega)];omega,hs _,rfl⟩
  | false =>
   rw [cond_false]
   exact hQ _ _ _ _ _ h1 h1l h2 h2l (by omega) h4 (by simp) (fun s hm=>by cases hm) hv h4k
theorem eG (b:AC) (types:List AV) (l:List (List Int)) (v1:List Ap) (v6:AD) (v7:ByteArray) (v9:Int) (K0:List Ap->AD->ByteArray->Int->AC) (Q:AC->Prop) (hs:Yi b types) (hQ:lD b Q) (h1:Ix Pd v1) (h1l:v1.length<=5) :
  ∀ (n:Nat) (v:List Bo) (d:AD) (k:Int),Ix lB v->(v.length:Int)=k->k<=(AA (AD.mk (AZ l 5) 0) 3).1->((AA (AD.mk (AZ l 5) 0) 3).1-k).toNat<n->Q (Cc b types l v1 v6 v7 v9 K0 n v d k)
 | 0,v,d,k,_,_,_,h=>absurd h (Nat.not_lt_zero _)
 | n+1,v,d,k,hv,kv,kk,h=>by
  have hb:=CW (d:=AD.mk (AZ l 5) 0) (n:=3) (by decide) (by decide)
  unfold Cc
  by_cases hc:k<(AA (AD.mk (AZ l 5) 0) 3).1
  ·rw [decide_eq_true hc,cond_true]
   refine eG b types l v1 v6 v7 v9 K0 Q hs hQ h1 h1l n _ _ _ (S8 hv ?_) (by simp only [List.length_append,List.length_cons,List.length_nil];omega) (by omega) (by omega)
   have h5:=CW (d:=Z2m b types d) (n:=5) (by decide) (by decide)
   have h3:=CW (d:=(AA (Z2m b types d) 5).2) (n:=3) (by decide) (by decide)
   refine ⟨?_,⟨rfl,rfl⟩,?_,hs _,?_⟩
   ·show W64 (21+k)=_
    rw [A1 (by omega) (by omega)];omega
   ·show 6<=W64 (6+_)/\W64 (6+_)<=10
    rw [A1 (by omega) (by omega)];omega
   show 4<=W64 (4+W64 (2*_))/\W64 (4+W64 (2*_))<=8
   rw [A1 (x:=2*_) (by omega) (by omega),A1 (by omega) (by omega)];omega
  rw [decide_eq_false hc,cond_false]
  have hd:=CW (d:=d) (n:=3) (by decide) (by decide)
  exact eF b types l v1 v6 v7 v9 v d k K0 _ Q hs hQ h1 h1l hv (by omega) _ [] _ 0 (fun p hp=>by cases hp) (by omega) (by simp) (by omega) (by omega)
theorem eI (b:AC) (types:List AV) (l:List (List Int)) (Q:AC->Prop) (hs:Yi b types) (hQ:lD b Q) :
  ∀ (n:Nat) (v:List Ap) (d:AD) (s:ByteArray) (k:Int),Ix Pd v->(v.length:Int)=k->k<=(AA (Z1x b l) 6).1->((AA (Z1x b l) 6).1-k).toNat<n->Q (CF b types l n v d s k)
 | 0,v,d,s,k,_,_,_,h=>absurd h (Nat.not_lt_zero _)
 | n+1,v,d,s,k,hv,kv,kk,h=>by
  have hb:=CW (d:=Z1x b l) (n:=6) (by decide) (by decide)
  unfold CF
  by_cases hc:k<(AA (Z1x b l) 6).1
  ·rw [decide_eq_true hc,cond_true]
   refine eI b types l Q hs hQ n _ _ _ _ (S8 hv ?_) (by simp only [List.length_append,List.length_cons,List.length_nil];omega) (by omega) (by omega)
   have h2:=CW (d:=d) (n:=2) (by decide) (by decide)
   have h4:=CW (d:=(AA d 2).2) (n:=4) (by decide) (by decide)
   refine ⟨?_,?_,rfl,?_,_,_,_,?_,?_,rfl⟩
   ·show W64 (11+k)=_
    rw [A1 (by omega) (by omega)];omega
   ·show 1<=W64 (1+_)/\W64 (1+_)<=2
    rw [A1 (by omega) (by omega)];omega
   ·show 3<=W64 (3+_)/\W64 (3+_)<=6
    rw [A1 (by omega) (by omega)];omega
   ·exact hs _
   exact hs _
  rw [decide_eq_false hc,cond_false]
  exact eG b types l v d s k _ Q hs hQ hv (by omega) _ [] _ 0 S7 rfl (by have:=CW (d:=AD.mk (AZ l 5) 0) (n:=3) (by decide) (by decide);omega) (by omega)
theorem kA (b:AC) (types:List AV) (l:List (List Int)) (Q:AC->Prop) (hs:Yi b types) (hQ:lD b Q):Q (Bb b types l):=by
 have hb:=CW (d:=Z1x b l) (n:=6) (by decide) (by decide)
 unfold Bb
 exact eI b types l Q hs hQ _ [] _ _ 0 S7 rfl (by omega) (by omega)
structure Lc (B:AC) (T:List AV) (l:List (List Int)):Prop where
 lay:B.Layers=2
 types:T=Kb l
 par:Ix Qt B.Parts
 parl:1<=B.Parts.length/\B.Parts.length<=3
 net:∃ p q r,B.Nets=[A7.mk nN1 p,A7.mk nN2 q,A7.mk kG r]/\p.length<=18/\q.length<=18/\r.length<=18
 trk:Ix Pd B.Tracks
 trkl:B.Tracks.length<=5
 via:Ix lB B.Vias
 vial:B.Vias.length<=2
 slot:∀ s∈B.Slots,mJ s
 slotl:B.Slots.length<=1
 poul:B.Pours.length<=2
 keel:B.Keeps.length<=1
 pour:∀ p∈B.Pours,Yl p
 keep:∀ p∈B.Keeps,Ym p
theorem oG {α:Type} {c:Bool} {a b:AC×α} {T:List AV} {l:List (List Int)} (h:Lc a.1 T l) (k:Lc b.1 T l):Lc (bif c then a else b).1 T l:=by cases c <;> assumption
theorem eV (l:List (List Int)):Lc (DA l).1 (DA l).2 l:=by
 refine O9 l (fun x=>Lc x.1 x.2 l) fun v x y z hv h1 h3 hx hy hz => ?_
 show Lc (Z6i l v x y z).1 (Kb l) l
 unfold Z6i
 have ho:=kA (AC.mk 2 (Z5A l) v [A7.mk nN1 x,A7.mk nN2 y,A7.mk kG z] [] [] [] [] [] [] [] [] []) (Kb l) l
  (fun B=>Lc B (Kb l) l) (fun d=>iN _ l d hv) (fun v1 v2 v3 v4 v5 a b c e f g h i j k=>⟨rfl,rfl,hv,⟨h1,h3⟩,⟨x,y,z,rfl,hx,hy,hz⟩,a,b,c,e,i,h,f,g,j,k⟩)
 have ho:Lc (Z6g l v x y z) (Kb l) l:=ho
 obtain ⟨a1,a2,a3,a4,a5,a6,a7,a8,a9,a10,a11,a12,a13,a14,a15⟩:=ho
 unfold C1
 exact oG ⟨a1,a2,a3,a4,a5,a6,a7,a8,a9,a10,a11,a12,a13,a14,a15⟩ ⟨a1,a2,a3,a4,a5,a6,a7,a8,a9,a10,a11,a12,a13,a14,a15⟩
def Zbz (l:(List (List Int))):AC:=(DA (l.take (min (l.length:Int) 8:Int).toNat)).1
def Am (l:(List (List Int))):(AC×(List AV)):=(Zbz l,(DA (l.take (min (l.length:Int) 8:Int).toNat)).2)
def TR (l:(List (List Int))):CT:=(8,[.one (lst 1 (fun x=>[lst 1 eIn x]) l)],.val [] (.tup [.agg (AC.c (Am l).1),.one (lst 3 AV.c (Am l).2)]))
theorem jJ (l:(List (List Int))) (hl:(l.length:Int)<=9223372036854775807) (hll:∀ x∈l,(x.length:Int)<=9223372036854775807):PuP 8 (TR l).2.1 (.tup [.agg (AC.c (Am l).1),.one (lst 3 AV.c (Am l).2)]):=by
 refine pwf Try.func8 fun W0 M0 => ?_
 refine AB<|on<|AB ?_
 refine oc [(9,ceI [.one (.list false 1 ((min (l.length:Int) 8:Int).toNat-(0:Int).toNat) (fun i_ j_=>(AP (fun x=>[lst 1 eIn x]) l) (i_+(0:Int).toNat) j_))] (NV (l.take (min (l.length:Int) 8:Int).toNat)))] [0<=(0:Int)/\(0:Int)<=(min (l.length:Int) 8:Int)/\(min (l.length:Int) 8:Int)<=((l.length:Nat):Int),A0 (ceI [.one (.list false 1 ((min (l.length:Int) 8:Int).toNat-(0:Int).toNat) (fun i_ j_=>(AP (fun x=>[lst 1 eIn x]) l) (i_+(0:Int).toNat) j_))] (NV (l.take (min (l.length:Int) 8:Int).toNat))).2.1] (.cons (DI (eB (l.take (min (l.length:Int) 8:Int).toNat) (by first | (exact fun x hx=>hll x (List.mem_of_mem_take hx)) | (simp only [List.length_take];omega) | with_reducible assumption | omega | decide | (simp only [List.length_cons,List.length_nil,List.length_append];omega) | assumption) (by first | (exact fun x hx=>hll x (List.mem_of_mem_take hx)) | (simp only [List.length_take];omega) | with_reducible assumption | omega | decide | (simp only [List.length_cons,List.length_nil,List.length_append];omega) | assumption)) (.cons (.one (Bm false (P0 (b:=min (l.length:Int) 8) (An 1 (fun x=>[lst 1 eIn x]) l) (by have hc:=(show 0<=(0:Int)/\(0:Int)<=(min (l.length:Int) 8:Int)/\(min (l.length:Int) 8:Int)<=((l.length:Nat):Int) from au1);exact hc.2.1) (by have hc:=(show 0<=(0:Int)/\(0:Int)<=(min (l.length:Int) 8:Int)/\(min (l.length:Int) 8:Int)<=((l.length:Nat):Int) from au1);exact hc.2.2)))) .nil)) .nil) (.cons au1 (.cons rfl .nil))<|AF<|Ac ?_
 exact zl
theorem dZ (l:(List (List Int))) (hl:(l.length:Int)<=9223372036854775807) (hll:∀ x∈l,(x.length:Int)<=9223372036854775807):OKc (TR l):=cPu<|jJ l hl hll
theorem S3 (l:List (List Int)):Cd (Am l).2:=Wp _
theorem PA (l:List (List Int)):Hv (Am l).1:=oK _
theorem eW (l:List (List Int)):∃ k,Lc (Am l).1 (Am l).2 k:=⟨_,eV _⟩
theorem Ud (l:List (List Int)):∀ n∈(Am l).1.Nets,(n.Pins.length:Int)<=1000000:=by
 obtain ⟨k,h⟩:=eW l
 obtain ⟨p,q,r,e,h1,h2,h3⟩:=h.net
 rw [e]
 intro n hn
 simp only [List.mem_cons,List.not_mem_nil,or_false] at hn
 rcases hn with rfl | rfl | rfl <;> (simp only;omega)
theorem XJ {α:Type} {c:Bool} {a b:Bg×α} (h:CA a.1) (k:CA b.1):CA (bif c then a else b).1:=by cases c <;> assumption
theorem JS:CA AJ:=.inl ⟨_,rfl⟩
theorem YZ (d:AD):CA (BW d).1:=by
 unfold BW
 repeat (first | exact .inl ⟨_,rfl⟩ | exact .inr (.inl ⟨_,_,_,⟨_,_,_,_⟩,rfl⟩) | exact .inr (.inr ⟨_,_,_,⟨_,_,_,_⟩,_,_,_,⟨_,_,_,_⟩,rfl⟩) | refine XJ ?_ ?_)
theorem QC {l m:List Az} (h:∀ r∈l,CA r.A/\CA r.B) (k:∀ r∈m,CA r.A/\CA r.B):∀ r∈l++m,CA r.A/\CA r.B:=fun r hr=>(List.mem_append.1 hr).elim (h r) (k r)
theorem P8 {a b:Az} (h:CA a.A/\CA a.B) (k:CA b.A/\CA b.B):∀ r∈[a,b],CA r.A/\CA r.B:=fun r hr=>by
 simp only [List.mem_cons,List.not_mem_nil,or_false] at hr
 rcases hr with rfl | rfl <;> assumption
theorem Yv {a:Az} (h:CA a.A/\CA a.B):∀ r∈[a],CA r.A/\CA r.B:=fun r hr=>by
 rw [List.mem_singleton.1 hr];exact h
theorem QB {c:Bool} {l m:List Az} (h:∀ r∈l,CA r.A/\CA r.B) (k:∀ r∈m,CA r.A/\CA r.B):∀ r∈(bif c then l else m),CA r.A/\CA r.B:=by cases c <;> assumption
theorem UC (d:AD):∀ r∈Z3y d,CA r.A/\CA r.B:=by
 unfold Z3y
 have h2:=fun x y=>P8 (a:=Az.mk ({ data := #[99,49] }:ByteArray) 1 1 AJ AJ x) (b:=Az.mk ({ data := #[101,49] }:ByteArray) 1 3 AJ AJ y) ⟨JS,JS⟩ ⟨JS,JS⟩
 exact QB (QC (h2 _ _) (P8 ⟨JS,JS⟩ ⟨JS,JS⟩)) (h2 _ _)
theorem P9 (d:AD):∀ r∈Z3N d,CA r.A/\CA r.B:=by
 unfold Z3N
 exact QB (QC (UC d) (Yv ⟨YZ _,YZ _⟩)) (UC d)
theorem QA (d:AD):(Z3N d).length<=5:=by
 unfold Z3N Z3y
 cases decide ((AA (Z3x d) 2).1=1) <;> cases decide ((AA (AA (AA d 10).2 8).2 2).1=1) <;> simp
structure Zq (b:AC):Prop where
 rul:Tc b
 rull:b.Rules.length<=5
 cla:b.Classes.length<=1
 clan:∀ c∈b.Classes,c.Nets.length<=1
 wai:b.Waivers.length<=1
 mat:b.Matches.length<=1
 matn:∀ c∈b.Matches,c.Nets.length<=2
theorem pK (d:AD):(Z3S d).length<=1/\∀ c∈Z3S d,c.Nets.length<=1:=by
 unfold Z3S
 cases decide ((AA (Z3M d) 3).1=0) with
 | true=>exact ⟨by simp,fun c hc=>by rw [cond_true] at hc;rw [List.mem_singleton.1 hc];exact Nat.le_refl 1⟩
 | false=>exact ⟨by simp,fun c hc=>by cases hc⟩
theorem cG (d:AD) (b:AC):(Z42 d b).length<=1:=by
 unfold Z42
 cases decide ((AA (AA (Z3M d) 3).2 4).1=0) <;> simp
theorem cV {α:Type} {c:Bool} {a b:AC×α} (h:Zq a.1) (k:Zq b.1):Zq (bif c then a else b).1:=by cases c <;> assumption
theorem iT (b:AC) (d:AD):Zq (C1 b d).1:=by
 unfold C1
 have hc:=pK d
 refine cV ⟨P9 d,QA d,hc.1,hc.2,cG d b,?_,fun c h => ?_⟩ ⟨P9 d,QA d,hc.1,hc.2,cG d b,?_,fun c h => ?_⟩
 ·exact Nat.le_refl 1
 ·rw [List.mem_singleton.1 h];exact Nat.le_refl 2
 ·exact Nat.zero_le 1
 cases h
theorem eU (l:List (List Int)):Zq (DA l).1:=O9 l (fun x=>Zq x.1) fun v x y z _ _ _ _ _ _=>iT _ _
theorem IK {α:Type} [Inhabited α] {l:List α} {f:α->Nat} (hd:f default<=1000000) (h:∀ x∈l,f x<=1000000) (k:Nat):((f (l.getD k default):Nat):Int)<=1000000:=by
 have:=HI (p:=fun x=>f x<=1000000) hd h k
 omega
theorem iU (b:AC) (d:AD):(C1 b d).1.Outline=b.Outline:=by
 unfold C1
 cases decide ((AA (Z41 d b) 4).1=0) <;> rfl
theorem jV (l:List (List Int)):((DA l).1.Outline.Edges.length:Int)<=1000000:=by
 refine O9 l (fun x=>(x.1.Outline.Edges.length:Int)<=1000000) fun v x y z _ _ _ _ _ _ => ?_
 show ((Z6i l v x y z).1.Outline.Edges.length:Int)<=1000000
 unfold Z6i
 rw [iU]
 show ((Z6g l v x y z).Outline.Edges.length:Int)<=1000000
 unfold Z6g
 rw [(GY _ _ _).out]
 show ((Z5A l).Edges.length:Int)<=1000000
 unfold Z5A
 cases decide ((AA (AD.mk (AZ l 2) 0) 3).1=0) with
 | true=>exact (by decide:((8:Nat):Int)<=1000000)
 | false=>exact (by decide:((4:Nat):Int)<=1000000)
theorem ZS (l:List (List Int)):CM (DA l).1:=by
 have h:=eV l
 have hr:=eU l
 have h1:=h.parl
 have h2:=h.trkl
 have h3:=h.vial
 have h4:=h.slotl
 have h5:=h.poul
 have h6:=h.keel
 have r1:=hr.rull
 have r2:=hr.cla
 have r3:=hr.wai
 have r4:=hr.mat
 obtain ⟨p,q,r,e,n1,n2,n3⟩:=h.net
 refine ⟨by omega,by rw [e];show ((3:Nat):Int)<=1000000;decide,by omega,by omega,by omega,by omega,by omega,by omega,by omega,by omega,by omega,jV l,?_,?_,?_,?_,?_,?_,?_,hr.rul⟩
 ·refine IK (f:=fun n:A7=>n.Pins.length) (by decide) fun n hn => ?_
  rw [e] at hn
  simp only [List.mem_cons,List.not_mem_nil,or_false] at hn
  rcases hn with rfl | rfl | rfl <;> (simp only;omega)
 ·refine IK (f:=fun t:Ap=>t.Shape.Edges.length) (by decide) fun t ht => ?_
  obtain ⟨k,hk,_,hm⟩:=oQ h.trk ht
  obtain ⟨a,c,d,_,_,e2⟩:=hm.edg
  rw [e2]
  have:=Qo a c d
  omega
 ·refine IK (f:=fun t:A4=>t.Rects.length) (by decide) fun t ht => ?_
  have:=h.pour t ht
  unfold Yl at this
  omega
 ·refine IK (f:=fun t:BT=>t.Shape.Edges.length) (by decide) fun t ht => ?_
  have:=h.keep t ht
  unfold Ym at this
  omega
 ·refine IK (f:=fun t:Bi=>t.Shape.Edges.length) (by decide) fun t ht => ?_
  obtain ⟨r,p,_,_,_,e2⟩:=h.slot t ht
  rw [e2]
  show 1<=1000000;decide
 ·refine IK (f:=fun t:BQ=>t.Nets.length) (by decide) fun t ht => ?_
  have:=hr.clan t ht
  omega
 refine IK (f:=fun t:Ba=>t.Nets.length) (by decide) fun t ht => ?_
 have:=hr.matn t ht
 omega
theorem lL (t:Int):A64 t 3=t % 4:=by
 unfold A64
 have h3:(BitVec.ofInt 64 3).toNat=2 ^ 2-1:=by decide
 rw [BitVec.toNat_and,h3,Nat.and_two_pow_sub_one_eq_mod,BitVec.toNat_ofInt,IntKind.wrap_i64]
 omega
theorem WA (t:Int):CG t=t % 4:=by
 unfold CG
 rcases Int.lt_or_le t 0 with h | h
 ·have b1:=Int.emod_nonneg (-t) (show (4:Int)≠0 by omega)
  rw [show t.tmod 4 = -((-t) % 4) by rw [<- Int.tmod_eq_emod_of_nonneg (by omega),Int.neg_tmod,Int.neg_neg]]
  rw [A1 (by omega) (by omega),Int.tmod_eq_emod_of_nonneg (by omega)]
  omega
 rw [Int.tmod_eq_emod_of_nonneg h,A1 (by omega) (by omega),Int.tmod_eq_emod_of_nonneg (by omega)]
 omega
theorem Zo (m:Al) (p:AE):Ah m p=Dj m p:=by
 have ht:Ca m=m.Turn % 4:=lL m.Turn
 unfold Dj Z09 CE CS Ah
 rw [WA]
 generalize (bif m.Mirror then (W64 (0-p.X)) else p.X)=x at *
 have h4:m.Turn % 4=0\/m.Turn % 4=1\/m.Turn % 4=2\/m.Turn % 4=3:=by omega
 rcases h4 with h | h | h | h <;> rw [h] at ht ⊢ <;> rw [ht]
 ·show CR m p 1 ⟨x,p.Y⟩ 0=_
  simp only [CR,ht,Int.reduceLT,decide_false,cond_false,Gd,CU,Int.reduceEq,if_true]
 ·show CR m p 2 ⟨x,p.Y⟩ 0=_
  simp only [CR,ht,Int.reduceLT,Int.reduceAdd,decide_true,cond_true,decide_false,cond_false,Gd,CU,Int.reduceEq,if_true,if_false]
 ·show CR m p 3 ⟨x,p.Y⟩ 0=_
  simp only [CR,ht,Int.reduceLT,Int.reduceAdd,decide_true,cond_true,decide_false,cond_false,Gd,CU,Int.reduceEq,if_true,if_false]
 show CR m p 4 ⟨x,p.Y⟩ 0=_
 have e:∀ u v:Int,W64 (W64 (0-W64 (0-u))+v)=W64 (u+v):=fun u v=>by simp only [EA];omega
 simp only [CR,ht,Int.reduceLT,Int.reduceAdd,decide_true,cond_true,decide_false,cond_false,Gd,CU,Int.reduceEq,if_false,e]
theorem pB {types:List AV} {name:ByteArray} (h:(Ci types name).2=false):(Ci types name).1.Pads=[]:=by
 rw [Jr] at *
 unfold U4 at *
 cases hf:types.find? (fun t=>GU t name) with
 | none=>rfl
 | some t=>rw [hf] at h;cases h
theorem YV (t:AV) (pad:ByteArray):FV t pad=El t pad:=by
 have e:DR t pad=GB t.Pads pad:=by rw [JX,VK]
 unfold FV El Z0m Z0w
 rw [e]
theorem kR (t:AV) (pad:ByteArray) (h:t.Pads=[]):(El t pad).2=false:=by
 unfold El
 rw [JX,h]
 rfl
theorem mH (b:AC) (types:List AV) (p:AU):FL b types p=FAt b types p:=by
 have h:=YU (fun x:AG=>KB x p) (fun x=>bif !((FV (Ci types x.Type').1 p.Pad).2) then ((AE.mk 0 0,0,false):AE×Int×Bool) else (Ah (C9 x) (FV (Ci types x.Type').1 p.Pad).1.At,FU b x,true)) (AE.mk 0 0,0,false) b.Parts (FY b types p) (fun m v=>by
  rw [FY]
  unfold Z0x Z0A Z0z Z0D Z0C Z0B Z0y
  rw [Int.toNat_natCast]
  generalize b.Parts.getD v default=x
  rw [Mm,<- YV,<- Zo]
  unfold KB
  have hb:(bif !(Ci types x.Type').2 then true else !(FV (Ci types x.Type').1 p.Pad).2) = !(FV (Ci types x.Type').1 p.Pad).2:=by
   cases hk:(Ci types x.Type').2 with
   | true=>rfl
   | false=>rw [YV,kR _ _ (pB hk)];rfl
  rw [hb]
  cases (x.Ref.toList==p.Ref.toList) <;> rfl) b.Parts.length 0 (((((b.Parts.length:Int)))-0).toNat+1) rfl (Nat.zero_le _) (by omega)
 rw [List.drop_zero] at h
 unfold FL
 refine h.trans ?_
 unfold FAt Z0r Z0q Z0p
 rw [VJ]
 cases hc:decide ((ixI (fun x=>KB x p) b.Parts:Int)<0) with
 | true =>
  rw [Up (oT hc)]
  rfl
 | false =>
  obtain ⟨_,h2⟩:=Uo (oF hc)
  rw [h2]
  rfl
theorem X5 {P:AC->Prop} {c:Bool} {x y:AC} (h:P x) (k:P y):P (bif c then x else y):=by cases c <;> assumption
theorem nP {α:Type} (xs:List α) {K:Int} (hK:0<=K) (hl:(xs.length:Int)<=2000000):(Oy xs ((Int.tmod K ((xs.length:Nat):Int)).toNat-(0:Int).toNat) (W64 (Int.tmod K ((xs.length:Nat):Int)+1)).toNat (((xs.length:Nat):Int).toNat-(W64 (Int.tmod K ((xs.length:Nat):Int)+1)).toNat)).length<=xs.length:=by
 rw [dV]
 rcases Nat.eq_zero_or_pos xs.length with h | h
 ·rw [h];omega
 rw [ow hK (by omega) hl]
 have:=tmb hK (n:=((xs.length:Nat):Int)) (by omega)
 omega
theorem mY {α:Type} (xs:List α) (k:Nat) (x:α):(xs.set k x).length<=xs.length:=by rw [List.length_set];exact Nat.le_refl _
theorem dQ (b:AC) (q:C5):∀ (n:Nat) (v:List BT) (k:Int),(Fq b q n v k).Parts.length<=b.Parts.length
 | 0,_,_=>Nat.zero_le _
 | n+1,v,k=>by
  unfold Fq
  exact X5 (P:=fun B=>B.Parts.length<=b.Parts.length) (dQ b q n _ _) (Nat.le_refl _)
theorem eE (b:AC) (q:C5) (hl:(b.Parts.length:Int)<=2000000):(Df b q).Parts.length<=b.Parts.length:=by
 have hK:=(Ik q.e2 64 (by decide) (by decide)).1
 unfold Df NE K5 Mh Mi B1
 repeat (first | refine X5 (P:=fun B=>B.Parts.length<=b.Parts.length) ?_ ?_ | exact Nat.le_refl _ | exact mY _ _ _ | exact nP _ hK hl | exact dQ _ _ _ _ _)
theorem Ue (l:List (List Int)):CM (Am l).1:=ZS _
theorem IG (l:List (List Int)):((Am l).1.Nets.length:Int)=3:=by
 obtain ⟨p,q,r,h⟩:=(PA l).net
 rw [h];rfl
theorem QK (l:List (List Int)):((Am l).1.Parts.length:Int)<=1000000:=by
 have:=(PA l).par
 omega
theorem Wq (l:List (List Int)):((Am l).1.Pours.length:Int)<=2:=(PA l).pou
theorem Wk (l:List (List Int)) (q:C5):((Df (Am l).1 q).Parts.length:Int)<=1000000:=by
 have:=QK l
 have:=eE (Am l).1 q (by omega)
 omega
section
open Go.RowKit
variable (l:List (List Int)) (v10:List AU) (q:C5) (raw:AU) (v37 v58:Int)
def ZbA:Tv:=.av (.one (lst 3 AV.c (Am l).2))
def ZbB:Tv:=.av (.one (.own 33 2 ([raw,AU.mk ({ data := #[82,49] }:ByteArray) raw.Pad].length)))
def ZbC:Blk:=.row 2 ([raw,AU.mk ({ data := #[82,49] }:ByteArray) raw.Pad].length) (AP AU.c [raw,AU.mk ({ data := #[82,49] }:ByteArray) raw.Pad]) 25
def ZbD:Tv:=.av (.one (lst 2 A7.c (Am l).1.Nets))
def ZbE:Tv:=tI ((Am l).1.Nets.length:Int)
def ZbF:A7:=(Am l).1.Nets.getD v37.toNat default
def ZbG (v10:List AU) (l:(List (List Int))) (v37:Int):Blk:=.row 2 (v10++(ZbF l v37).Pins).length (AP AU.c (v10++(ZbF l v37).Pins)) 25
abbrev EK:=Df (Am l).1 q
def ZbH:Tv:=.av (.one (.list true 15 2 (As 15 2 [.i (Am l).1.Layers,.i (Am l).1.Outline.Kind,lst 7 AQ.c (Am l).1.Outline.Edges,.i (Am l).1.Outline.R,lst 7 AG.c (Am l).1.Parts,lst 2 A7.c (Am l).1.Nets,lst 6 Ap.c (Am l).1.Tracks,lst 8 Bo.c (Am l).1.Vias,lst 8 A4.c (Am l).1.Pours,lst 5 BT.c (Am l).1.Keeps,lst 4 Bi.c (Am l).1.Slots,lst 2 BQ.c (Am l).1.Classes,lst 20 Az.c (Am l).1.Rules,lst 3 BF.c (Am l).1.Waivers,lst 3 Ba.c (Am l).1.Matches,.i (EK l q).Layers,.i (EK l q).Outline.Kind,lst 7 AQ.c (EK l q).Outline.Edges,.i (EK l q).Outline.R,lst 7 AG.c (EK l q).Parts,lst 2 A7.c (EK l q).Nets,lst 6 Ap.c (EK l q).Tracks,lst 8 Bo.c (EK l q).Vias,lst 8 A4.c (EK l q).Pours,lst 5 BT.c (EK l q).Keeps,lst 4 Bi.c (EK l q).Slots,lst 2 BQ.c (EK l q).Classes,lst 20 Az.c (EK l q).Rules,lst 3 BF.c (EK l q).Waivers,lst 3 Ba.c (EK l q).Matches])))
def ZbI:AE:=(FAt (Am l).1 (Am l).2 (v10.getD v58.toNat default)).1
def ZbJ:Bool:=(FAt (Am l).1 (Am l).2 (v10.getD v58.toNat default)).2.2
def ZbK:AE:=(FL (Am l).1 (Am l).2 (v10.getD v58.toNat default)).1
def ZbL:Bool:=(FL (Am l).1 (Am l).2 (v10.getD v58.toNat default)).2.2
def ZbM:Blk:=.cells (AC.c (EK l q)) 42
def ZbN (l:(List (List Int))) (q:C5) (v10:List AU) (v58':Int):AE:=(FAt (Df (Am l).1 q) (Am l).2 (v10.getD v58'.toNat default)).1
def ZbO (l:(List (List Int))) (q:C5) (v10:List AU) (v58':Int):Bool:=(FAt (Df (Am l).1 q) (Am l).2 (v10.getD v58'.toNat default)).2.2
def ZbP (l:(List (List Int))) (q:C5) (v10:List AU) (v58':Int):AE:=(FL (Df (Am l).1 q) (Am l).2 (v10.getD v58'.toNat default)).1
def ZbQ (l:(List (List Int))) (q:C5) (v10:List AU) (v58':Int):Bool:=(FL (Df (Am l).1 q) (Am l).2 (v10.getD v58'.toNat default)).2.2
def D7 (l:(List (List Int))) (q:C5) (raw:AU) (v10:List AU) (v37:Int) (v58:Int) (K0:List AU->Int->Bool) (K1:Int->Bool):Nat->Int->Bool
 | 0,_=>default
 | n3+1,v58'=>bif decide ((v58':Int)<((v10.length:Nat):Int)) then (bif bif bif !(decide ((ZbN l q v10 v58').X=(ZbP l q v10 v58').X)&&(decide ((ZbN l q v10 v58').Y=(ZbP l q v10 v58').Y)&&true)) then true else !decide (((FAt (Df (Am l).1 q) (Am l).2 (v10.getD v58'.toNat default)).2.1:Int)=(FL (Df (Am l).1 q) (Am l).2 (v10.getD v58'.toNat default)).2.1) then true else !((ZbO l q v10 v58')==(ZbQ l q v10 v58')) then false else ((D7 l q raw v10 v37 v58 K0 K1 n3) (v58'+1))) else DK
def DY (l:(List (List Int))) (q:C5) (raw:AU) (v10:List AU) (v37:Int) (K0:List AU->Int->Bool):Nat->Int->Bool
 | 0,_=>default
 | n2+1,v58=>bif decide ((v58:Int)<((v10.length:Nat):Int)) then (bif bif bif !(decide ((ZbI l v10 v58).X=(ZbK l v10 v58).X)&&(decide ((ZbI l v10 v58).Y=(ZbK l v10 v58).Y)&&true)) then true else !decide (((FAt (Am l).1 (Am l).2 (v10.getD v58.toNat default)).2.1:Int)=(FL (Am l).1 (Am l).2 (v10.getD v58.toNat default)).2.1) then true else !((ZbJ l v10 v58)==(ZbL l v10 v58)) then false else ((DY l q raw v10 v37 K0 n2) (v58+1))) else (D7 l q raw v10 v37 v58 K0 (DY l q raw v10 v37 K0 n2) ((((v10.length:Nat):Int)-0).toNat+1) 0)
def DG (l:(List (List Int))) (q:C5) (raw:AU):Nat->List AU->Int->Bool
 | 0,_,_=>default
 | n0+1,v10,v37=>bif decide ((v37:Int)<((Am l).1.Nets.length:Int)) then ((DG l q raw n0) (v10++(ZbF l v37).Pins) (v37+1)) else (DY l q raw v10 v37 (DG l q raw n0) ((((v10.length:Nat):Int)-0).toNat+1) 0)
def G7 (l:(List (List Int))) (q:C5) (raw:AU):Bool:=DG l q raw ((((Am l).1.Nets.length:Int)-0).toNat+1) [raw,AU.mk ({ data := #[82,49] }:ByteArray) raw.Pad] 0
def gL:CT:=(3,[.one (lst 1 (fun x=>[lst 1 eIn x]) l),.agg (C5.c q),.agg (AU.c raw)],.val [] (.av (.one (.b (G7 l q raw)))))
abbrev IC:Nat×Blk:=(100000,.row 2 v10.length (AP AU.c v10) 25)
abbrev OC:Nat×Blk:=(33,.row 2 v10.length (AP AU.c v10) 25)
abbrev bY:Nat×Tv:=(57,tI ((v10.length:Nat):Int))
abbrev Vm:Cl:=.own 100000 2 v10.length
abbrev N8:Nat×Tv:=(10,tO (.own 33 2 v10.length))
abbrev KU:Nat×Blk:=(8,.cells (AC.c (Am l).1) 42)
abbrev KN:Nat×Blk:=(4,.cells (C5.c q) 23)
abbrev Nx:List (Nat×Blk):=[(14,.cells (AC.c (Am l).1) 42),(OC v10)]
abbrev mM:Nat×Tv:=(56,tO (.own 33 2 v10.length))
abbrev Nj (t_:List (Nat×Tv)):List (Nat×Tv):=(7,tB DK)::(9,ZbA l)::(10,tO (Vm v10))::(14,tP 14 0)::(50,ZbH l q)::(51,tI 2)::(52,tI 1)::(56,tO (Vm v10))::(bY v10)::t_
abbrev Ni (t_:List (Nat×Tv)):List (Nat×Tv):=(7,tB DK)::(9,ZbA l)::(N8 v10)::(14,tP 14 0)::(50,ZbH l q)::(51,tI 2)::(52,tI 0)::(mM v10)::(bY v10)::t_
abbrev Lq (t_:List (Nat×Tv)):List (Nat×Tv):=(4,tP 4 0)::(7,tB DK)::(8,tP 8 0)::(9,ZbA l)::t_
abbrev RE (t_:List (Nat×Tv)):List (Nat×Tv):=(7,tB DK)::(9,ZbA l)::(10,tO (Vm v10))::(50,ZbH l q)::(51,tI 2)::t_
theorem au19 {p:Prop} (h:p:=by first | (with_reducible exact S3 l) | (with_reducible exact Ue l) | (with_reducible exact IG l) | (with_reducible exact Wq l) | (with_reducible exact Wk l q) | (with_reducible exact IG l) | (with_reducible exact QK l) | with_reducible assumption | omega | decide | (simp only [List.length_cons,List.length_nil,List.length_append];omega) | assumption):p:=h
set_option maxHeartbeats 4000000 in
theorem dS (l:(List (List Int))) (q:C5) (raw:AU) (hl:(l.length:Int)<=9223372036854775807) (hll:∀ x∈l,(x.length:Int)<=9223372036854775807):PuP 3 (gL l q raw).2.1 (tO (.b (G7 l q raw))):=by
 refine pwf Try.func3 fun W0 M0 => ?_
 have hNl:=IG l
 have hNp:=Ud l
 refine AB<|on<|AB ?_
 refine oq 23 MU Wf<|AF<|AB ?_
 refine rs 26 (TR l) ⟨[(4,tP 4 0),(5,tP 5 0),(7,tB DK),(8,tP 8 0),(9,ZbA l)],[(KN q),(5,.cells (AU.c raw) 25),(KU l)]⟩ (dZ l au19 au19)<|AF<|AB ?_
 refine C4 DV [33] [] [] [4,7,8,9,10] [4,8,33] [] ⟨(Lq l [(10,tO (.own 33 2 2))]),[(KN q),(KU l),(33,.row 2 2 (As 2 2 [.s raw.Ref,.s raw.Pad,.s ({ data := #[82,49] }:ByteArray),.s raw.Pad]) 25)]⟩ .nil kr .nil<|AF ?_
 refine Aq (Cv.trans (BS (⟨(Lq l [(10,ZbB raw)]),[(KN q),(KU l),(33,ZbC raw)]⟩) (.cons ⟨rfl,.refl _⟩ (.cons ⟨rfl,.refl _⟩ (.cons ⟨rfl,.refl _⟩ (.cons ⟨rfl,.refl _⟩ (.cons ⟨rfl,.av (.one (.own _ _ au0))⟩ .nil))))) (.cons ⟨rfl,.refl _⟩ (.cons ⟨rfl,.refl _⟩ (.cons ⟨rfl,Ao 25 (Ae (c:=AU.c) (xs:=([raw,AU.mk ({ data := #[82,49] }:ByteArray) raw.Pad]:List AU)) rfl kr)⟩ .nil)))) (Cv.refl _))<|AB<|AB ?_
 refine rn ⟨(Lq l [(10,ZbB raw),(35,ZbD l),(36,ZbE l),(37,tI 0)]),[(KN q),(KU l),(33,ZbC raw)]⟩<|AX ?_
 refine Bc (ι:=Nat×List AU×Int) (fun x=>⟨(Lq l [(10,tO (.own 33 2 x.2.1.length)),(35,ZbD l),(36,ZbE l),(37,tI x.2.2)]),[(KN q),(KU l),(33,.row 2 x.2.1.length (AP AU.c x.2.1) 25)]⟩) (fun x=>(((Am l).1.Nets.length:Int)-x.2.2).toNat<x.1/\((x.2.1.length:Int)<=2+1000000*x.2.2/\0<=x.2.2/\(x.2.2<=((Am l).1.Nets.length:Int)\/x.2.2=0))/\DG l q raw x.1 x.2.1 x.2.2=G7 l q raw) (fun x=>x.1) ?_ ((((Am l).1.Nets.length:Int)-0).toNat+1,[raw,AU.mk ({ data := #[82,49] }:ByteArray) raw.Pad],0) ⟨Nat.lt_succ_self _,⟨ax0,ax0,ax0⟩,(by simp only [G7,cond_true,cond_false])⟩
 rintro ⟨n0,v10,v37⟩ ⟨hm0,hinv0,hF0⟩
 try dsimp only at hm0 hinv0 hF0
 cases n0 with | zero=>exact nz hm0 | succ n0 => ?_
 have hpn:((ZbF l v37).Pins.length:Int)<=1000000:=jL hNp v37.toNat
 refine AB<|rn ⟨(Lq l [(N8 v10),(35,ZbD l),(36,ZbE l),(37,tI v37),(38,tB (decide ((v37:Int)<((Am l).1.Nets.length:Int))))]),[(KN q),(KU l),(OC v10)]⟩<|AB ?_
 refine AL _ rfl (fun h1 => ?_) (fun h1 => ?_)
 ·have g1:=oT h1
  refine Af<|AF ?_
  refine AB<|AX<|AB ?_
  refine oc [] [0<=(v37:Int)/\(v37:Int)<(((Am l).1.Nets.length:Nat):Int)] .nil (.cons au1 .nil)<|AF ?_
  refine oc [] [v10.length=v10.length,v10.length+(ZbF l v37).Pins.length<=maxLen,(v10.length+(ZbF l v37).Pins.length)*32<=140737488355328] .nil (.cons rfl (.cons au3 (.cons au3 .nil)))<|A8<|AF ?_
  refine Aq (Cr 44 (Au (An 2 AU.c v10) (An 2 AU.c (ZbF l v37).Pins))) ?_
  refine rg ⟨(Lq l [(10,tO (.own 44 2 (v10++(ZbF l v37).Pins).length)),(35,ZbD l),(36,ZbE l),(37,tI (W64 (v37+1)))]),[(KN q),(KU l),(44,ZbG v10 l v37)]⟩ ?_
  (try rw [(show W64 (v37+1)=v37+1 from A1 oM au9)])
  refine AF ?_
  refine ⟨(n0,v10++(ZbF l v37).Pins,v37+1),⟨?_,?_,(by rw [<- hF0];simp only [DG,h1,cond_true,cond_false])⟩,Nat.lt_succ_self _,Cv.trans (vr 44 33 hk0) (BM kr)⟩
  ·show (((Am l).1.Nets.length:Int)-(v37+1)).toNat<n0;omega
  exact ⟨ax0,ax0,ax0⟩
 have g1:=oF h1
 refine BU<|BE ?_
 refine BE<|BV ?_
 refine AF<|AB<|AB ?_
 refine dw [] [(49,Yd (Am l).1 q)] [A0 (Yd (Am l).1 q).2.1] ⟨[(7,tB DK),(9,ZbA l),(N8 v10),(50,ZbH l q),(51,tI 2),(52,tI 0)],[(OC v10)]⟩ (.cons (nZ (Am l).1 q au19 au19 au19) .nil) (.cons rfl .nil)<|AF<|AX ?_
 refine Dy 3 ?_
 refine B7<|AB ?_
 refine rn ⟨[(7,tB DK),(9,ZbA l),(N8 v10),(50,ZbH l q),(51,tI 2),(52,tI 0),(53,tB true)],[(OC v10)]⟩<|AB ?_
 refine DZ kr<|Af ?_
 refine AF<|AB ?_
 refine AX<|AB ?_
 refine oc [] [0<=(0:Int)/\(0:Int)<((2:Nat):Int)] .nil (.cons au1 .nil)<|AF<|AB ?_
 refine rn ⟨(Ni l v10 q [(58,tI 0)]),(Nx l v10)⟩<|AX ?_
 refine Bc (ι:=Nat×Int) (fun x=>⟨(Ni l v10 q [(58,tI x.2)]),(Nx l v10)⟩) (fun x=>(((v10.length:Nat):Int)-x.2).toNat<x.1/\(0<=x.2/\(x.2<=((v10.length:Nat):Int)\/x.2=0))/\DY l q raw v10 v37 (DG l q raw n0) x.1 x.2=G7 l q raw) (fun x=>x.1) ?_ ((((v10.length:Nat):Int)-0).toNat+1,0) ⟨Nat.lt_succ_self _,⟨ax0,ax0⟩,(by rw [<- hF0];simp only [DG,h1,cond_true,cond_false])⟩
 rintro ⟨n2,v58⟩ ⟨hm2,hinv2,hF2⟩
 try dsimp only at hm2 hinv2 hF2
 cases n2 with | zero=>exact nz hm2 | succ n2 => ?_
 refine AB<|rn ⟨(Ni l v10 q [(58,tI v58),(59,tB (decide ((v58:Int)<((v10.length:Nat):Int))))]),(Nx l v10)⟩<|AB ?_
 refine AL _ rfl (fun h2 => ?_) (fun h2 => ?_)
 ·have g2:=oT h2
  refine Af<|AF ?_
  refine AB<|AX<|AB ?_
  refine oc [] [0<=(v58:Int)/\(v58:Int)<((v10.length:Nat):Int),v58.toNat<v10.length] .nil (.cons au1 (.cons au1 .nil))<|AF<|AB ?_
  refine oq 66 (ceI [.agg (AC.c (Am l).1),.one (lst 3 AV.c (Am l).2),.agg (AU.c (v10.getD v58.toNat default))] (cAt (Am l).1 (Am l).2 (v10.getD v58.toNat default))) (DI (oD (Am l).1 (Am l).2 (v10.getD v58.toNat default) au19 au19) (.cons (.agg (rr9 (rr3 (.cons (.any _) (rr (rr .nil)))))) (.cons (AvE.refl _) (.cons (AvE.refl _) .nil))))<|AF<|AB ?_
  refine oq 74 (ceI [.agg (AC.c (Am l).1),.one (lst 3 AV.c (Am l).2),.agg (AU.c (v10.getD v58.toNat default))] (Yf (Am l).1 (Am l).2 (v10.getD v58.toNat default))) (DI (eD (Am l).1 (Am l).2 (v10.getD v58.toNat default) au19 au19) (.cons (.agg (rr9 (rr3 (.cons (.any _) (rr (rr .nil)))))) (.cons (AvE.refl _) (.cons (AvE.refl _) .nil))))<|AF<|AB ?_
  refine rc [] (i3 (!(decide ((ZbI l v10 v58).X=(ZbK l v10 v58).X)&&(decide ((ZbI l v10 v58).Y=(ZbK l v10 v58).Y)&&true))) (i3 (bif !(decide ((ZbI l v10 v58).X=(ZbK l v10 v58).X)&&(decide ((ZbI l v10 v58).Y=(ZbK l v10 v58).Y)&&true)) then true else !decide (((FAt (Am l).1 (Am l).2 (v10.getD v58.toNat default)).2.1:Int)=(FL (Am l).1 (Am l).2 (v10.getD v58.toNat default)).2.1)) [])) ⟨(Ni l v10 q [(58,tI v58),(90,tB (bif bif !(decide ((ZbI l v10 v58).X=(ZbK l v10 v58).X)&&(decide ((ZbI l v10 v58).Y=(ZbK l v10 v58).Y)&&true)) then true else !decide (((FAt (Am l).1 (Am l).2 (v10.getD v58.toNat default)).2.1:Int)=(FL (Am l).1 (Am l).2 (v10.getD v58.toNat default)).2.1) then true else !((ZbJ l v10 v58)==(ZbL l v10 v58))))]),(Nx l v10)⟩ .nil (c3 (c3 .nil))<|AF ?_
  refine AL _ rfl (fun h3 => ?_) (fun h3 => ?_)
  ·refine AB<|on ?_
   refine Ac<|Cb ?_
   refine Bf<|Bf ?_
   refine Cb<|Cb ?_
   refine Bf<|Bf ?_
   refine Cb<|Bf ?_
   exact zl (by rw [<- hF2];simp only [DY,h2,h3,cond_true,cond_false] <;> kernel_rfl)
  refine Af<|A8<|AF ?_
  refine rg ⟨(Ni l v10 q [(58,tI (W64 (v58+1)))]),(Nx l v10)⟩ ?_
  (try rw [(show W64 (v58+1)=v58+1 from A1 oM au9)])
  refine AF ?_
  refine ⟨(n2,v58+1),⟨?_,?_,(by rw [<- hF2];simp only [DY,h2,h3,cond_true,cond_false])⟩,Nat.lt_succ_self _,BM kr⟩
  ·show (((v10.length:Nat):Int)-(v58+1)).toNat<n2;omega
  exact ⟨ax0,ax0⟩
 have g2:=oF h2
 refine BU<|BE ?_
 refine BE<|BV ?_
 refine A8<|AF ?_
 refine rn ⟨[(7,tB DK),(9,ZbA l),(N8 v10),(50,ZbH l q),(51,tI 2),(52,tI 1)],[(OC v10)]⟩ ?_
 refine B7 ?_
 refine Aq (Cv.trans (wr (⟨(RE l v10 q [(52,tI 1)]),[(IC v10)]⟩) 33 100000 hk0) (Cv.refl _))<|AB ?_
 refine rn ⟨(RE l v10 q [(52,tI 1),(53,tB true)]),[(IC v10)]⟩<|AB ?_
 refine DZ kr<|Af ?_
 refine AF<|AB ?_
 refine AX<|AB ?_
 refine oc [] [0<=(1:Int)/\(1:Int)<((2:Nat):Int)] .nil (.cons au1 .nil)<|AF<|AB ?_
 refine rn ⟨(Nj l v10 q [(58,tI 0)]),[(14,ZbM l q),(IC v10)]⟩<|AX ?_
 refine Bc (ι:=Nat×Int) (fun x=>⟨(Nj l v10 q [(58,tI x.2)]),[(14,ZbM l q),(IC v10)]⟩) (fun x=>(((v10.length:Nat):Int)-x.2).toNat<x.1/\(0<=x.2/\(x.2<=((v10.length:Nat):Int)\/x.2=0))/\D7 l q raw v10 v37 v58 (DG l q raw n0) (DY l q raw v10 v37 (DG l q raw n0) n2) x.1 x.2=G7 l q raw) (fun x=>x.1) ?_ ((((v10.length:Nat):Int)-0).toNat+1,0) ⟨Nat.lt_succ_self _,⟨ax0,ax0⟩,(by rw [<- hF2];simp only [DY,h2,cond_true,cond_false])⟩
 rintro ⟨n3,v58'⟩ ⟨hm3,hinv3,hF3⟩
 try dsimp only at hm3 hinv3 hF3
 cases n3 with | zero=>exact nz hm3 | succ n3 => ?_
 refine AB<|rn ⟨(Nj l v10 q [(58,tI v58'),(59,tB (decide ((v58':Int)<((v10.length:Nat):Int))))]),[(14,ZbM l q),(IC v10)]⟩<|AB ?_
 refine AL _ rfl (fun h3 => ?_) (fun h3 => ?_)
 ·have g3:=oT h3
  refine Af<|AF ?_
  refine AB<|AX<|AB ?_
  refine oc [] [0<=(v58':Int)/\(v58':Int)<((v10.length:Nat):Int),v58'.toNat<v10.length] .nil (.cons au1 (.cons au1 .nil))<|AF<|AB ?_
  refine oq 66 (ceI [.agg (AC.c (Df (Am l).1 q)),.one (lst 3 AV.c (Am l).2),.agg (AU.c (v10.getD v58'.toNat default))] (cAt (Df (Am l).1 q) (Am l).2 (v10.getD v58'.toNat default))) (DI (oD (Df (Am l).1 q) (Am l).2 (v10.getD v58'.toNat default) au19 au19) (.cons (.agg (rr9 (rr3 (.cons (.any _) (rr (rr .nil)))))) (.cons (AvE.refl _) (.cons (AvE.refl _) .nil))))<|AF<|AB ?_
  refine oq 74 (ceI [.agg (AC.c (Df (Am l).1 q)),.one (lst 3 AV.c (Am l).2),.agg (AU.c (v10.getD v58'.toNat default))] (Yf (Df (Am l).1 q) (Am l).2 (v10.getD v58'.toNat default))) (DI (eD (Df (Am l).1 q) (Am l).2 (v10.getD v58'.toNat default) au19 au19) (.cons (.agg (rr9 (rr3 (.cons (.any _) (rr (rr .nil)))))) (.cons (AvE.refl _) (.cons (AvE.refl _) .nil))))<|AF<|AB ?_
  refine rc [] (i3 (!(decide ((ZbN l q v10 v58').X=(ZbP l q v10 v58').X)&&(decide ((ZbN l q v10 v58').Y=(ZbP l q v10 v58').Y)&&true))) (i3 (bif !(decide ((ZbN l q v10 v58').X=(ZbP l q v10 v58').X)&&(decide ((ZbN l q v10 v58').Y=(ZbP l q v10 v58').Y)&&true)) then true else !decide (((FAt (EK l q) (Am l).2 (v10.getD v58'.toNat default)).2.1:Int)=(FL (EK l q) (Am l).2 (v10.getD v58'.toNat default)).2.1)) [])) ⟨(Nj l v10 q [(58,tI v58'),(90,tB (bif bif !(decide ((ZbN l q v10 v58').X=(ZbP l q v10 v58').X)&&(decide ((ZbN l q v10 v58').Y=(ZbP l q v10 v58').Y)&&true)) then true else !decide (((FAt (Df (Am l).1 q) (Am l).2 (v10.getD v58'.toNat default)).2.1:Int)=(FL (Df (Am l).1 q) (Am l).2 (v10.getD v58'.toNat default)).2.1) then true else !((ZbO l q v10 v58')==(ZbQ l q v10 v58'))))]),[(14,ZbM l q),(IC v10)]⟩ .nil (c3 (c3 .nil))<|AF ?_
  refine AL _ rfl (fun h4 => ?_) (fun h4 => ?_)
  ·refine AB<|on ?_
   refine Ac<|Cb ?_
   refine Bf<|Bf ?_
   refine Cb<|Cb ?_
   refine Bf<|Bf ?_
   refine Cb<|Bf ?_
   exact zl (by rw [<- hF3];simp only [D7,h3,h4,cond_true,cond_false] <;> kernel_rfl)
  refine Af<|A8<|AF ?_
  refine rg ⟨(Nj l v10 q [(58,tI (W64 (v58'+1)))]),[(14,ZbM l q),(IC v10)]⟩ ?_
  (try rw [(show W64 (v58'+1)=v58'+1 from A1 oM au9)])
  refine AF ?_
  refine ⟨(n3,v58'+1),⟨?_,?_,(by rw [<- hF3];simp only [D7,h3,h4,cond_true,cond_false])⟩,Nat.lt_succ_self _,BM kr⟩
  ·show (((v10.length:Nat):Int)-(v58'+1)).toNat<n3;omega
  exact ⟨ax0,ax0⟩
 refine BU<|BE ?_
 refine BE<|BV ?_
 refine A8<|AF ?_
 refine rn ⟨(RE l v10 q [(52,tI 2)]),[(IC v10)]⟩ ?_
 refine B7<|AB ?_
 refine rn ⟨(RE l v10 q [(52,tI 2),(53,tB false)]),[(IC v10)]⟩<|AB ?_
 refine Dz kr<|BU ?_
 refine BE<|BE ?_
 refine BV<|AF<|AB ?_
 refine on<|Ac ?_
 exact zl (by rw [<- hF3];simp only [D7,h3,cond_true,cond_false] <;> kernel_rfl)
end
theorem mE (l:List (List Int)) (q:C5) (raw:AU) (v10:List AU) (v37 v58:Int) (K0:List AU->Int->Bool) (K1:Int->Bool):∀ (n i:Nat),v10.length-i<n->D7 l q raw v10 v37 v58 K0 K1 n (i:Int)=true
 | 0,i,h=>absurd h (Nat.not_lt_zero _)
 | n+1,i,h=>by
  rw [D7]
  by_cases hc:(i:Int)<((v10.length:Nat):Int)
  ·rw [decide_eq_true hc,cond_true]
   have:=mE l q raw v10 v37 v58 K0 K1 n (i+1) (by omega)
   rw [show ((i+1:Nat):Int)=(i:Int)+1 by omega] at this
   unfold ZbN ZbO ZbP ZbQ
   simp only [mH,decide_true,Bool.and_true,Bool.not_true,cond_false,beq_self_eq_true]
   exact this
  rw [decide_eq_false hc,cond_false]
  exact mZ
theorem mF (l:List (List Int)) (q:C5) (raw:AU) (v10:List AU) (v37:Int) (K0:List AU->Int->Bool):∀ (n i:Nat),v10.length-i<n->DY l q raw v10 v37 K0 n (i:Int)=true
 | 0,i,h=>absurd h (Nat.not_lt_zero _)
 | n+1,i,h=>by
  rw [DY]
  by_cases hc:(i:Int)<((v10.length:Nat):Int)
  ·rw [decide_eq_true hc,cond_true]
   have:=mF l q raw v10 v37 K0 n (i+1) (by omega)
   rw [show ((i+1:Nat):Int)=(i:Int)+1 by omega] at this
   unfold ZbI ZbJ ZbK ZbL
   simp only [mH,decide_true,Bool.and_true,Bool.not_true,cond_false,beq_self_eq_true]
   exact this
  rw [decide_eq_false hc,cond_false]
  exact mE l q raw v10 v37 _ K0 _ _ 0 (by omega)
theorem mG (l:List (List Int)) (q:C5) (raw:AU):∀ (n:Nat) (v:List AU) (k:Int),(((Am l).1.Nets.length:Int)-k).toNat<n->DG l q raw n v k=true
 | 0,v,k,h=>absurd h (Nat.not_lt_zero _)
 | n+1,v,k,h=>by
  rw [DG]
  by_cases hc:k<((Am l).1.Nets.length:Int)
  ·rw [decide_eq_true hc,cond_true]
   exact mG l q raw n _ _ (by omega)
  rw [decide_eq_false hc,cond_false]
  exact mF l q raw v k _ _ 0 (by omega)
theorem Sh (l:List (List Int)) (q:C5) (raw:AU):G7 l q raw=true:=mG l q raw _ _ _ (by omega)
section
open Go.ChangeShapes Go.WideShapes Go.ChangeAt Go.RowKit
theorem On (os:Os) (started:os.Started) (H:Type) (enc:TypeId×Value->H) :
  ReturnsInHanded {} Try.checked os 3 .any (Rows.placeAtSpec.pre6 enc Try.prog Try.f3 Rows.placeAtRow.domain false) (Rows.placeAtSpec.post enc Try.prog Try.f3 false true false false):=by
 refine returnsInHanded_of_change (C:=Try.checked) own started kr Try.func3
  (ChangeSpec.witness6 (enc:=enc) (C:=Try.checked) false ⟨#[],#[.slice none 0 0,.agg #[.int .i64 0,.int .i64 0,.int .i64 0],.agg #[.string ⟨#[]⟩,.string ⟨#[]⟩]],[]⟩ 8 kr kr kr kr) ?_
 intro W base args ds gs before hval0 hW hcnd _
 have hval:∀ (j:Nat) t v,Try.f3.params[j]? = some t->args[j]? = some v->Value.okWide Try.prog W .any base t v:=hval0
 have hW':=hW
 obtain ⟨p,q,hA0,hV,rfl,hfz,hnd⟩:=hW
 have hA:DataW.TrodAll enc Try.prog W 0 (fun _=>true) true Try.f3.params.toList args.toList ds p:=hA0
 rw [Try.params3] at hA hval
 obtain ⟨v0,vs0,d0,ds0,p0,q0,hargs,rfl,rfl,h0,r0⟩:=trodAll_cons hA
 obtain ⟨v1,vs1,d1,ds1,p1,q1,rfl,rfl,rfl,h1,r1⟩:=trodAll_cons r0
 obtain ⟨v2,vs2,d2,ds2,p2,q2,rfl,rfl,rfl,h2,r2⟩:=trodAll_cons r1
 obtain ⟨rfl,rfl,rfl⟩:=trodAll_nil r2
 obtain rfl:args = #[v0,v1,v2]:=by cases args;simp_all
 obtain ⟨l,kl,x0⟩:=dW opT22 (.inl ⟨_,Try.underlying22⟩) (hval 0 22 v0 rfl rfl) h0
 obtain ⟨q,kq,x1⟩:=UM opT23 (.inr ⟨_,_,Try.underlying23⟩) (hval 1 23 v1 rfl rfl) h1
 obtain ⟨raw,kraw,x2⟩:=UM opT25 (.inl ⟨_,Try.underlying25⟩) (hval 2 25 v2 rfl rfl) h2
 clear hA0 hval0
 refine (Un (dS l q raw (Ub kl.1) (fun x hx=>Ub (kl.2 x hx).1)) (Sh l q raw) (.cons x0 (.cons x1 (.cons x2 .nil)))).mono fun e W' ⟨he,hb⟩ => ?_
 subst he
 exact ⟨_,rfl,fC hW' rfl rfl kK (by rw [Try.params3];exact List.forall_mem_cons.2 ⟨⟨by kernel_rfl,oT (by kernel_rfl)⟩,List.forall_mem_cons.2 ⟨⟨by kernel_rfl,oT (by kernel_rfl)⟩,List.forall_mem_cons.2 ⟨⟨by kernel_rfl,oT (by kernel_rfl)⟩,List.forall_mem_nil _⟩⟩⟩) rfl Try.underlying4 hb⟩
theorem placeAt_holds:Rows.PlaceAtSaid :=
 OpenClaim.holds_of_wide 3 Try.f3 rfl rfl rfl rfl rfl rfl rfl ⟨rfl,rfl,rfl,rfl,rfl⟩ rfl rfl rfl rfl rfl kr Try.func3 kr
  (oT (by kernel_rfl)) (by unfold Func.isWrapper;first | (rw [if_pos (by decide +kernel)];kernel_rfl) | (rw [if_neg (by decide +kernel)];exact ⟨rfl,rfl⟩))
  (fun os started H enc _=>On os started H enc)
#print axioms placeAt_holds
end
end Go.Proofs.Ytdbampcfmjbgmaa
