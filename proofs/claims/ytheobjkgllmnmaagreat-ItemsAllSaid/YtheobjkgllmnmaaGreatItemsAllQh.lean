/-
  Proved: the statement of ItemsAll; the parts before it hold what its proof needs.
-/
import Derived.Test.YtheobjkgllmnmaaGreatItemsAllQg
namespace Go.Proofs.YtheobjkgllmnmaaGreat
set_option maxRecDepth 100000
set_option linter.unusedVariables false
set_option linter.unusedSimpArgs false
open Go.RowKit
section
open Go.RowKit
def Zca:Blk:=.cells IA 41
variable (b:AC)
def Zcc:Blk:=.row 7 b.Parts.length (IC b) 78
def Zcd:Blk:=.row 8 b.Vias.length (JY b) 133
def Zce:Blk:=.row 3 b.Waivers.length (Jc b) 142
def Zcg:Blk:=.row 2 (A4 b).length (Ja b) 120
def Zch:Blk:=.cells (Pi b) 41
def Zci:Blk:=.row 6 (AR b).length (KW b) 131
abbrev pH:List Cl:=(DN b [.own 3320 8 1,vN,vN,vN,vN,.own 34 3 b.Waivers.length,vN])
def Zcj:Blk:=.cells (pH b) 41
def Zck:Blk:=.rowx 8 1 m8 97 [(0,(WT b))]
def Zcl:Blk:=.row 4 (CZ b).Rects.length (ID b) 90
abbrev aF:List Cl:=(DN b [.own 3320 8 1,.own 3106 5 (BK b).length,vN,vN,vN,.own 34 3 b.Waivers.length,vN])
def Zcm:Blk:=.cells (aF b) 41
def Zcn:Blk:=.row 5 (BK b).length (KZ b) 136
abbrev Vm(t_:List Cl):List Cl:=(.own 3320 8 1)::(NG b)::(NF b)::t_
def Zco:Blk:=.cells ((DN b (Vm b (Vb b)))) 41
def Zcp:Blk:=.row 4 (BP b).length (KX b) 112
def Zcq:Blk:=.cells ((DN b (Vm b (JT b [vN])))) 41
def Zcr:Blk:=.row 2 (A0 b).length (Je b) 138
abbrev aR:List Cl:=(DN b (Vm b (JT b (KO b))))
def Zcs:Blk:=.cells (aR b) 41
def Zct:Blk:=.row 3 (Ar b).length (Jd b) 140
abbrev SS:List Cl:=(DN b (Vm b (PD b (KO b))))
def Zcu:Blk:=.cells (SS b) 41
def Zcv:Blk:=.row 20 (A2 b).length (KY b) 147
def cz(b:AC):Tv:=.av (.agg (SS b))
def hCyP1(b:AC):List (Nat×Blk):=[(26,.row 7 b.Parts.length (AL AD.c b.Parts) 78),(3100,.row 2 (A4 b).length (AL A7.c (A4 b)) 120),(3102,.row 6 (AR b).length (AL AM.c (AR b)) 131),(30,.row 8 b.Vias.length (AL Ak.c b.Vias) 133),(3320,.rowx 8 1 m8 97 [(0,[.i (b.Pours.getD 0 default).Id,.s (b.Pours.getD 0 default).Net,.i (b.Pours.getD 0 default).Layer,.i (b.Pours.getD 0 default).Pitch,.i (b.Pours.getD 0 default).Priority,.i (b.Pours.getD 0 default).Relief,.i (b.Pours.getD 0 default).Spoke,.own 3321 4 (b.Pours.getD 0 default).Rects.length])]),(3106,.row 5 (BK b).length (AL BA.c (BK b)) 136),(3108,.row 4 (BP b).length (AL AX.c (BP b)) 112),(3110,.row 2 (A0 b).length (AL BG.c (A0 b)) 138),(3114,.row 20 (A2 b).length (AL A5.c (A2 b)) 147),(34,.row 3 b.Waivers.length (AL As.c b.Waivers) 142),(3112,.row 3 (Ar b).length (AL BI.c (Ar b)) 140),(3321,.row 4 (b.Pours.getD 0 default).Rects.length (AL Al.c (b.Pours.getD 0 default).Rects) 90)]
abbrev LW(t_:List (Nat×Blk)):List (Nat×Blk):=(26,Zcc b)::(30,Zcd b)::(34,Zce b)::(A1 b)::(3002,Zca)::t_
abbrev oY:List (Nat×Blk):=(LW b [(3003,Zcs b),(3100,Zcg b),(3102,Zci b),(3106,Zcn b),(3108,Zcp b),(3110,Zcr b),(3112,Zct b),(3320,Zck b),(3321,Zcl b)])
abbrev oI:List (Nat×Blk):=(LW b [(3003,Zcq b),(3100,Zcg b),(3102,Zci b),(3106,Zcn b),(3108,Zcp b),(3110,Zcr b),(3320,Zck b),(3321,Zcl b)])
abbrev nZ:List (Nat×Blk):=(LW b [(3003,Zco b),(3100,Zcg b),(3102,Zci b),(3106,Zcn b),(3108,Zcp b),(3320,Zck b),(3321,Zcl b)])
abbrev nP:List (Nat×Blk):=(LW b [(3003,Zcm b),(3100,Zcg b),(3102,Zci b),(3106,Zcn b),(3320,Zck b),(3321,Zcl b)])
abbrev nK:List (Nat×Blk):=(LW b [(3003,Zcj b),(3100,Zcg b),(3102,Zci b),(3320,Zck b),(3321,Zcl b)])
abbrev mX:List (Nat×Blk):=(LW b [(3003,Zch b),(3100,Zcg b),(3102,Zci b)])
abbrev mL:List (Nat×Blk):=(LW b [(3003,.cells (Nh b) 41),(3100,Zcg b)])
set_option maxHeartbeats 4000000 in
theorem qCyP1(b:AC)(hc:Ct b)(hlen:(b.Pours.length:Int)=1):Frs Tryz.prog 46 [.agg (AC.c b)] (fun _:Unit=>True) (fun _=>cz b) (fun _=>hCyP1 b):=by
 refine Mm Tryz.func46 rfl kr kr kr fun W0 M0 X hP hFl=>?_;have ⟨p0,p1,p2,p3,p4,p5,p6,p7,p8,p9,p10,_,_,_,_,_,_,_,_,_⟩:=hc;have hr:=hc.rok;refine AA<|on<|AA<|oe [23,27,31] _ [none,0=0,0+b.Parts.length<=maxLen,(0+b.Parts.length)*72<=140737488355328,0=0,0+b.Vias.length<=maxLen,(0+b.Vias.length)*72<=140737488355328,0=0,0+b.Waivers.length<=maxLen,(0+b.Waivers.length)*32<=140737488355328] (J1 22 (EX b.Outline au31)) (.cons rfl (.cons au4 (.cons au4 (.cons rfl (.cons au4 (.cons au4 (.cons rfl (.cons au4 (.cons au4 .nil)))))))))<|AE<|AZ (Cv.trans (Ag 26 (Ac (Ai 7 AD.c (([]:List AD):List AD)) (AU 7 AD.c b.Parts))) (Cv.trans (Ag 30 (Ac (Ai 8 Ak.c (([]:List Ak):List Ak)) (AU 8 Ak.c b.Vias))) (Ag 34 (Ac (Ai 3 As.c (([]:List As):List As)) (AU 3 As.c b.Waivers)))))<|AA<|AA<|rn ⟨Pd,[(1,.cells (AC.c b) 41),(2,Zca),(3,.cells (Jm b) 41),(26,Zcc b),(30,Zcd b),(34,Zce b)]⟩<|AZ (Cv.trans (vr 3 3003 (K:=[]) hP) (Cv.trans (vr 1 3001 (K:=[]) hP) (wr (⟨LT,[(A1 b),(3002,Zca),(3003,.cells (Jm b) 41),(26,Zcc b),(30,Zcd b),(34,Zce b)]⟩) 2 3002 (K:=[]) hP))) ?_;refine CL (ι:=Unit) (I:=fun _=>True) 3003 (Jm b) 41 (mkB 15 5) [1,2,3,4] [3001,3002] (fun _=>BJ) (fun _=>lEB 15 5 (.own 3100 2 (A4 b).length)) (fun _=>(Zp b)) (fun _=>⟨BJ,[(3003,.cells (Nh b) 41),(A1 b),(3002,Zca),(3100,Zcg b),(26,Zcc b),(30,Zcd b),(34,Zce b)]⟩) hP hFl (XH b hc kr) (fun _ _=>?_)
 refine AE<|AZ (ck (⟨BJ,(mL b)⟩))<|AA<|AA<|rn ⟨Lq,(mL b)⟩<|CL (ι:=Unit) (I:=fun _=>True) 3003 (Nh b) 41 (mkB 15 6) [1,2,3,5] [3001,3002] (fun _=>BJ) (fun _=>lEB 15 6 (PB b)) (fun _=>(WA b)) (fun _=>⟨BJ,[(3003,Zch b),(A1 b),(3002,Zca),(3102,Zci b),(26,Zcc b),(30,Zcd b),(34,Zce b),(3100,Zcg b)]⟩) hP hFl (Ml b hc kr) (fun _ _=>?_);refine AE<|AZ (ck (⟨BJ,(mX b)⟩))<|AA<|AA<|rn ⟨Jo,(mX b)⟩<|CL (ι:=Unit) (I:=fun _=>True) 3003 (Pi b) 41 (mkB 15 8) [1,2,3,7] [3001,3002] (fun _=>BJ) (fun _=>lEB 15 8 (.own 3320 8 1)) (fun _=>[(A1 b),C7,(3320,.rowx 8 1 m8 97 [(0,(WT b))]),(3321,.row 4 (CZ b).Rects.length (ID b) 90)]) (fun _=>⟨BJ,[(3003,Zcj b),(A1 b),(3002,Zca),(3320,Zck b),(3321,Zcl b),(26,Zcc b),(30,Zcd b),(34,Zce b),(3100,Zcg b),(3102,Zci b)]⟩) hP hFl (gCxP1 b hc hlen kr) (fun _ _=>?_);refine AE<|AZ (ck (⟨BJ,(nK b)⟩))<|AA<|AA<|rn ⟨Lp,(nK b)⟩<|CL (ι:=Unit) (I:=fun _=>True) 3003 (pH b) 41 (mkB 15 9) [1,2,3,9] [3001,3002] (fun _=>BJ) (fun _=>lEB 15 9 (NG b)) (fun _=>(V9 b)) (fun _=>⟨BJ,[(3003,Zcm b),(A1 b),(3002,Zca),(3106,Zcn b),(26,Zcc b),(30,Zcd b),(34,Zce b),(3100,Zcg b),(3102,Zci b),(3320,Zck b),(3321,Zcl b)]⟩) hP hFl (Od b hc kr) (fun _ _=>?_)
 refine AE<|AZ (ck (⟨BJ,(nP b)⟩))<|AA<|AA<|rn ⟨Lw,(nP b)⟩<|CL (ι:=Unit) (I:=fun _=>True) 3003 (aF b) 41 (mkB 15 10) [1,2,3,11] [3001,3002] (fun _=>BJ) (fun _=>lEB 15 10 (NF b)) (fun _=>(V8 b)) (fun _=>⟨BJ,[(3003,Zco b),(A1 b),(3002,Zca),(3108,Zcp b),(26,Zcc b),(30,Zcd b),(34,Zce b),(3100,Zcg b),(3102,Zci b),(3106,Zcn b),(3320,Zck b),(3321,Zcl b)]⟩) hP hFl (Ob b hc kr) (fun _ _=>?_);refine AE<|AZ (ck (⟨BJ,(nZ b)⟩))<|AA<|AA<|rn ⟨Lu,(nZ b)⟩<|CL (ι:=Unit) (I:=fun _=>True) 3003 ((DN b (Vm b (Vb b)))) 41 (mkB 15 11) [1,2,3,13] [3001,3002] (fun _=>BJ) (fun _=>lEB 15 11 (PA b)) (fun _=>(V7 b)) (fun _=>⟨BJ,[(3003,Zcq b),(A1 b),(3002,Zca),(3110,Zcr b),(26,Zcc b),(30,Zcd b),(34,Zce b),(3100,Zcg b),(3102,Zci b),(3106,Zcn b),(3108,Zcp b),(3320,Zck b),(3321,Zcl b)]⟩) hP hFl (Kx b hc kr) (fun _ _=>?_);refine AE<|AZ (ck (⟨BJ,(oI b)⟩))<|AA<|AA<|rn ⟨Ls,(oI b)⟩<|CL (ι:=Unit) (I:=fun _=>True) 3003 ((DN b (Vm b (JT b [vN])))) 41 (mkB 15 14) [1,2,3,14] [3001,3002] (fun _=>BJ) (fun _=>lEB 15 14 (.own 3112 3 (Ar b).length)) (fun _=>(V6 b)) (fun _=>⟨BJ,[(3003,Zcs b),(A1 b),(3002,Zca),(3112,Zct b),(26,Zcc b),(30,Zcd b),(34,Zce b),(3100,Zcg b),(3102,Zci b),(3106,Zcn b),(3108,Zcp b),(3110,Zcr b),(3320,Zck b),(3321,Zcl b)]⟩) hP hFl (Kw b hc kr) (fun _ _=>?_)
 refine AE<|AZ (ck (⟨BJ,(oY b)⟩))<|AA<|AA<|rn ⟨Lr,(oY b)⟩<|CL (ι:=Unit) (I:=fun _=>True) 3003 (aR b) 41 (mkB 15 12) [1,2,3,16] [3001,3002] (fun _=>BJ) (fun _=>lEB 15 12 (Vp b)) (fun _=>(WB b)) (fun _=>⟨BJ,[(3003,Zcu b),(A1 b),(3002,Zca),(3114,Zcv b),(26,Zcc b),(30,Zcd b),(34,Zce b),(3100,Zcg b),(3102,Zci b),(3106,Zcn b),(3108,Zcp b),(3110,Zcr b),(3112,Zct b),(3320,Zck b),(3321,Zcl b)]⟩) hP hFl (Oc b hc kr) (fun _ _=>?_);refine AE<|AZ (ck (⟨BJ,(LW b [(3003,Zcu b),(3100,Zcg b),(3102,Zci b),(3106,Zcn b),(3108,Zcp b),(3110,Zcr b),(3112,Zct b),(3114,Zcv b),(3320,Zck b),(3321,Zcl b)])⟩))<|AA<|rn ⟨[(2,tP 3002 0)],[(26,Zcc b),(30,Zcd b),(34,Zce b),(3002,Zcu b),(3100,Zcg b),(3102,Zci b),(3106,Zcn b),(3108,Zcp b),(3110,Zcr b),(3112,Zct b),(3114,Zcv b),(3320,Zck b),(3321,Zcl b)]⟩<|AO ?_;refine⟨_,Cv.trans (ck (⟨[(2,tP 3002 0)],[(26,Zcc b),(3100,Zcg b),(3102,Zci b),(30,Zcd b),(3320,Zck b),(3106,Zcn b),(3108,Zcp b),(3110,Zcr b),(3114,Zcv b),(34,Zce b),(3112,Zct b),(3321,Zcl b),(3002,Zcu b)]⟩)) (Cv.refl _),.inl rfl,cz b,by kernel_rfl,be (m:=[(3002,.cells (SS b) 41)]) kr⟩
end
section
open Go.RowKit
def Zcw:Blk:=.cells IA 41
variable (b:AC)(q:Ee)
def Zcx:Blk:=.row 7 b.Parts.length (IC b) 78
def Zcy:Blk:=.row 2 (A4 b).length (Ja b) 120
def Zcz:Blk:=.row 6 (AR b).length (KW b) 131
def ZcA:Blk:=.row 8 b.Vias.length (JY b) 133
def ZcB:Blk:=.rowx 8 1 m8 97 [(0,(WT b))]
def ZcC:Blk:=.row 5 (BK b).length (KZ b) 136
def ZcD:Blk:=.row 4 (BP b).length (KX b) 112
def ZcE:Blk:=.row 2 (A0 b).length (Je b) 138
def ZcF:Blk:=.row 20 (A2 b).length (KY b) 147
def ZcG:Blk:=.row 3 b.Waivers.length (Jc b) 142
def ZcH:Blk:=.row 3 (Ar b).length (Jd b) 140
def ZcI:Blk:=.row 4 (CZ b).Rects.length (ID b) 90
def ZcJ:Blk:=.cells (SS b) 41
def ZcK:Blk:=.row 4 ((CZ b).Rects++(KN q)).length (AL Al.c ((CZ b).Rects++(KN q))) 90
def ZcL:Blk:=.rowx 8 1 m8 97 [(0,(nV b q))]
def QJ(b:AC)(q:Ee):AC:={ Cx b with Pours:=[A8.mk (b.Pours.getD 0 default).Id (b.Pours.getD 0 default).Net (b.Pours.getD 0 default).Layer (b.Pours.getD 0 default).Pitch (b.Pours.getD 0 default).Priority (b.Pours.getD 0 default).Relief (b.Pours.getD 0 default).Spoke ((b.Pours.getD 0 default).Rects++[Al.mk (Int.tmod (mqa q) 9) (tqb q 9) (W64 ((Int.tmod (mqa q) 9)+2)) (W64 ((W64 ((tqb q 9)+2))+(W64 ((W64 (Int.tdiv (mqa q) 40))*1000))))])] }
def jp:CT:=(11,(Rc b q),.val [] (.av (.agg (AC.c (QJ b q)))))
abbrev aT:List (Nat×Blk):=[(4,Zcw),(5,ZcJ b),(26,Zcx b),(30,ZcA b),(34,ZcG b),(3100,Zcy b),(3102,Zcz b),(3106,ZcC b),(3108,ZcD b),(3110,ZcE b),(3112,ZcH b),(3114,ZcF b),(3320,ZcB b),(3321,ZcI b)]
abbrev mE(t_:List (Nat×Blk)):List (Nat×Blk):=(4,ZcJ b)::(26,Zcx b)::(30,ZcA b)::(34,ZcG b)::(3100,Zcy b)::(3102,Zcz b)::(3106,ZcC b)::(3108,ZcD b)::(3110,ZcE b)::(3112,ZcH b)::(3114,ZcF b)::t_
set_option maxHeartbeats 40000000 in
theorem fq(b:AC)(q:Ee)(hc:Ct b)(hq:Bw q.e0 26=16)(hlen:(b.Pours.length:Int)=1):PuP 11 (jp b q).2.1 (.av (.agg (AC.c (QJ b q)))):=by
 refine pwf Tryz.func11 fun W0 M0=>?_;have hl0:=hc.lParts;have hl1:=hc.lNets;have hl2:=hc.lTracks;have hl3:=hc.lVias;have hl4:=hc.lPours;have hl5:=hc.lKeeps;have hl6:=hc.lSlots;have hl7:=hc.lClasses;have hl8:=hc.lWaivers;have hl9:=hc.lMatches;have hl10:=hc.lRules;have hN:0<=(mqa q)/\(mqa q)<48:=LJ _ _ m4 m4;have hK0:=LJ q.e2 64 m4 m4;have hK:0<=(mqb q)/\(mqb q)<64:=hK0;have hb0:=hc.rec' 0;refine AA<|rn ⟨Hk,[(DT b),(Ek q),(4,Zcw)]⟩<|AA<|DZ<|Fk C8 1 [] [] [] [3,4,11] [3,4] [] ⟨(R5 b),[(Ek q),(4,Zcw)]⟩ .nil kr .nil<|KF (ι:=Unit) (I:=fun _=>True) (fun _=>⟨[(3,tP 3 0),(4,tP 4 0),(R3 b),(12,.av (.agg (SS b)))],[(26,Zcx b),(3100,Zcy b),(3102,Zcz b),(30,ZcA b),(3320,ZcB b),(3106,ZcC b),(3108,ZcD b),(3110,ZcE b),(3114,ZcF b),(34,ZcG b),(3112,ZcH b),(3321,ZcI b),(Ek q),(4,Zcw)]⟩) hk0 ⟨⟨_,_,rfl,rfl,⟨fun _=>default,by kernel_rfl⟩,by kernel_rfl⟩,fun _ _=>by kernel_rfl,rfl,rfl⟩ (qCyP1 b au19 au19) (fun _=>by kernel_rfl) (fun _=>by kernel_rfl) (fun _ _=>?_)
 refine Er C8 [] [] [] [3,4,5] [3,4,5,26,30,34,3100,3102,3106,3108,3110,3112,3114,3320,3321] [] ⟨Rz,[(Ek q),(4,Zcw),(5,ZcJ b),(26,Zcx b),(30,ZcA b),(34,ZcG b),(3100,Zcy b),(3102,Zcz b),(3106,ZcC b),(3108,ZcD b),(3110,ZcE b),(3112,ZcH b),(3114,ZcF b),(3320,ZcB b),(3321,ZcI b)]⟩ .nil kr .nil<|AE<|AA<|oo _ [0<=(1:Int)/\(1:Int)<(3:Int),none] (J1 15 (IR q.e1 48 au19)) (H1 m4)<|AE<|AA<|oo _ [0<=(2:Int)/\(2:Int)<(3:Int),none] (J1 18 (IR q.e2 64 au19)) (H1 m4)<|AE<|AA<|AA<|ro _ [0<=(0:Int)/\(0:Int)<(3:Int),none] ⟨[(4,tP 4 0),(5,tP 5 0),(6,tI (mqa q)),(7,tI (mqb q)),(21,tI (Bw q.e0 26))],[(4,Zcw),(5,ZcJ b),(26,Zcx b),(30,ZcA b),(34,ZcG b),(3100,Zcy b),(3102,Zcz b),(3106,ZcC b),(3108,ZcD b),(3110,ZcE b),(3112,ZcH b),(3114,ZcF b),(3320,ZcB b),(3321,ZcI b)]⟩ (J1 21 (IR q.e0 26 au19)) (H1 m4) ?_
 (try rw[hq])
 refine AE<|AJ<|AA<|on<|An kr<|AA<|on<|An kr<|AA<|on<|An kr<|AA<|on<|An kr<|AA<|on<|An kr<|AA<|on<|An kr<|AA<|on<|An kr<|AA<|on<|An kr<|AA<|rn ⟨(Z8 q),(aT b)⟩<|An kr<|AA<|on<|An kr<|AA<|on<|An kr<|AA<|on<|An kr<|AA<|on<|An kr<|AA<|on<|An kr<|AA<|on<|An kr<|AA<|on<|An kr<|AA<|on<|CN kr<|AA<|rn ⟨(JW q [(340,tB (decide ((0:Int)<((1:Nat):Int))))]),(aT b)⟩ ?_;have h1:(decide ((0:Int)<((1:Nat):Int)))=true:=m4;have g1:=oT h1;refine BC _ rfl (fun _=>?_) (fun h=>absurd (h1.symm.trans h) m4);refine AA<|dw [] [] [(((1:Nat):Int):Int)≠0,0<=(tqb q ((1:Nat):Int):Int)/\(tqb q ((1:Nat):Int):Int)<((1:Nat):Int)] ⟨(JW q [(9,.av (.one (.rptr 3320 8 (tqb q ((1:Nat):Int)).toNat 0)))]),(aT b)⟩ .nil (H2 au11 (by first|decide|omega|(have:0≤tqb q ((1:Nat):Int)∧tqb q ((1:Nat):Int)<((1:Nat):Int):=tmb hK.1 (n:=((1:Nat):Int)) m4;omega)))<|AE ?_;have g2:((tqb q ((1:Nat):Int)).toNat:Nat)=0:=(by have:0≤tqb q ((1:Nat):Int)∧tqb q ((1:Nat):Int)<((1:Nat):Int):=tmb hK.1 (n:=((1:Nat):Int)) m4;omega)
 (try rw[g2])
 refine rc [] [(9:Int)≠0,(9:Int)≠0,(9:Int)≠0,(9:Int)≠0,(40:Int)≠0,(b.Pours.getD 0 default).Rects.length=(b.Pours.getD 0 default).Rects.length,(b.Pours.getD 0 default).Rects.length+1<=maxLen,((b.Pours.getD 0 default).Rects.length+1)*32<=140737488355328] ⟨E5,[(4,Zcw),(5,ZcJ b),(26,Zcx b),(30,ZcA b),(34,ZcG b),(370,.row 4 ((CZ b).Rects.length+1) (fun i_ j_=>if i_<(CZ b).Rects.length then(ID b) i_ j_ else(aH q) (i_-(CZ b).Rects.length) j_) 90),(3100,Zcy b),(3102,Zcz b),(3106,ZcC b),(3108,ZcD b),(3110,ZcE b),(3112,ZcH b),(3114,ZcF b),(3320,.rowx 8 1 m8 97 [(0,(nY b))])]⟩ .nil (H8 au11 au11 au11 au11 au11 rfl au12 au12)<|Ao<|AE ?_;refine AZ (DD (⟨E5,[(4,Zcw),(5,ZcJ b),(26,Zcx b),(30,ZcA b),(34,ZcG b),(370,ZcK b q),(3100,Zcy b),(3102,Zcz b),(3106,ZcC b),(3108,ZcD b),(3110,ZcE b),(3112,ZcH b),(3114,ZcF b),(3320,ZcL b q)]⟩) lr (rz (rz (rz (rz (rz (.cons ⟨rfl,CS 90 (Ac (AU 4 Al.c (b.Pours.getD 0 default).Rects) (BN (c:=Al.c) (xs:=([Al.mk (Int.tmod (mqa q) 9) (tqb q 9) (W64 ((Int.tmod (mqa q) 9)+2)) (W64 ((W64 ((tqb q 9)+2))+(W64 ((W64 (Int.tdiv (mqa q) 40))*1000))))]:List Al)) rfl kr))⟩ (rz (rz (rz (rz (rz (rz (rz (.cons ⟨rfl,.rowx _ _ _ _ (.cons ⟨rfl,(rr5 (rr2 (.cons (.own _ _ au17) .nil)))⟩ .nil)⟩ .nil)))))))))))))))<|AA<|rn ⟨[(4,tP 4 0)],[(4,ZcJ b),(26,Zcx b),(30,ZcA b),(34,ZcG b),(370,ZcK b q),(3100,Zcy b),(3102,Zcz b),(3106,ZcC b),(3108,ZcD b),(3110,ZcE b),(3112,ZcH b),(3114,ZcF b),(3320,ZcL b q)]⟩<|AO ?_
 exact zy (Cv.trans (KD (⟨[(4,tP 4 0)],(mE b [(3320,.rowx 8 1 m8 97 [(0,(SK b q))])])⟩) 370 hk0) (Cv.trans (I2 (⟨[(4,tP 4 0)],(mE b [(3320,.row 8 1 (A9 8 1 (SK b q)) 97)])⟩) 3320 8 1 m8 97 [[.i (b.Pours.getD 0 default).Id,.s (b.Pours.getD 0 default).Net,.i (b.Pours.getD 0 default).Layer,.i (b.Pours.getD 0 default).Pitch,.i (b.Pours.getD 0 default).Priority,.i (b.Pours.getD 0 default).Relief,.i (b.Pours.getD 0 default).Spoke,lst 4 Al.c ((b.Pours.getD 0 default).Rects++[Al.mk (Int.tmod (mqa q) 9) (tqb q 9) (W64 ((Int.tmod (mqa q) 9)+2)) (W64 ((W64 ((tqb q 9)+2))+(W64 ((W64 (Int.tdiv (mqa q) 40))*1000))))])]] kr kr kr kr) (Cv.trans (Ag 3320 (Ai 8 A8.c ([A8.mk (b.Pours.getD 0 default).Id (b.Pours.getD 0 default).Net (b.Pours.getD 0 default).Layer (b.Pours.getD 0 default).Pitch (b.Pours.getD 0 default).Priority (b.Pours.getD 0 default).Relief (b.Pours.getD 0 default).Spoke ((b.Pours.getD 0 default).Rects++[Al.mk (Int.tmod (mqa q) 9) (tqb q 9) (W64 ((Int.tmod (mqa q) 9)+2)) (W64 ((W64 ((tqb q 9)+2))+(W64 ((W64 (Int.tdiv (mqa q) 40))*1000))))])]:List A8))) (CC [26,3100,3102,30,3320,3106,3108,3110,3114,34,3112] hk0)))) (by simp only[QJ,h1,mi,mj]<;>kernel_rfl)
end
section
open Go.RowKit
def ZcM:Blk:=.cells IA 41
variable (b:AC)(q:Ee)
def ZcN:Blk:=.row 7 b.Parts.length (IC b) 78
def ZcO:Blk:=.row 2 (A4 b).length (Ja b) 120
def ZcP:Blk:=.row 6 (AR b).length (KW b) 131
def ZcQ:Blk:=.row 8 b.Vias.length (JY b) 133
def ZcR:Blk:=.row 8 (BQ b).length (Lb b) 97
def ZcS:Blk:=.row 5 (BK b).length (KZ b) 136
def ZcT:Blk:=.row 4 (BP b).length (KX b) 112
def ZcU:Blk:=.row 2 (A0 b).length (Je b) 138
def ZcV:Blk:=.row 20 (A2 b).length (KY b) 147
def ZcW:Blk:=.row 3 b.Waivers.length (Jc b) 142
def ZcX:Blk:=.row 3 (Ar b).length (Jd b) 140
def QK(b:AC)(q:Ee):AC:=Cx b
def jq:CT:=(11,(Rc b q),.val [] (.av (.agg (AC.c (QK b q)))))
abbrev oO:List (Nat×Blk):=[(4,ZcM),(5,.cells (Ki b) 41),(26,ZcN b),(30,ZcQ b),(34,ZcW b),(3100,ZcO b),(3102,ZcP b),(3104,ZcR b),(3106,ZcS b),(3108,ZcT b),(3110,ZcU b),(3112,ZcX b),(3114,ZcV b)]
set_option maxHeartbeats 40000000 in
theorem fr(b:AC)(q:Ee)(hc:Ct b)(hq:Bw q.e0 26=16)(hlen:(b.Pours.length:Int)=0):PuP 11 (jq b q).2.1 (.av (.agg (AC.c (QK b q)))):=by
 refine pwf Tryz.func11 fun W0 M0=>?_;have hl0:=hc.lParts;have hl1:=hc.lNets;have hl2:=hc.lTracks;have hl3:=hc.lVias;have hl4:=hc.lPours;have hl5:=hc.lKeeps;have hl6:=hc.lSlots;have hl7:=hc.lClasses;have hl8:=hc.lWaivers;have hl9:=hc.lMatches;have hl10:=hc.lRules;have hN:0<=(mqa q)/\(mqa q)<48:=LJ _ _ m4 m4;have hK0:=LJ q.e2 64 m4 m4;have hK:0<=(mqb q)/\(mqb q)<64:=hK0;have hfP:=Ul b;refine AA<|rn ⟨Hk,[(DT b),(Ek q),(4,ZcM)]⟩<|AA<|DZ<|Fk C8 1 [] [] [] [3,4,11] [3,4] [] ⟨(R5 b),[(Ek q),(4,ZcM)]⟩ .nil kr .nil<|KF (ι:=Unit) (I:=fun _=>True) (fun _=>⟨[(3,tP 3 0),(4,tP 4 0),(R3 b),(12,.av (.agg (Ki b)))],[(26,ZcN b),(3100,ZcO b),(3102,ZcP b),(30,ZcQ b),(3104,ZcR b),(3106,ZcS b),(3108,ZcT b),(3110,ZcU b),(3114,ZcV b),(34,ZcW b),(3112,ZcX b),(Ek q),(4,ZcM)]⟩) hk0 ⟨⟨_,_,rfl,rfl,⟨fun _=>default,by kernel_rfl⟩,by kernel_rfl⟩,fun _ _=>by kernel_rfl,rfl,rfl⟩ (qCpA b au19) (fun _=>by kernel_rfl) (fun _=>by kernel_rfl) (fun _ _=>?_)
 refine Er C8 [] [] [] [3,4,5] [3,4,5,26,30,34,3100,3102,3104,3106,3108,3110,3112,3114] [] ⟨Rz,[(Ek q),(4,ZcM),(5,.cells (Ki b) 41),(26,ZcN b),(30,ZcQ b),(34,ZcW b),(3100,ZcO b),(3102,ZcP b),(3104,ZcR b),(3106,ZcS b),(3108,ZcT b),(3110,ZcU b),(3112,ZcX b),(3114,ZcV b)]⟩ .nil kr .nil<|AE<|AA<|oo _ [0<=(1:Int)/\(1:Int)<(3:Int),none] (J1 15 (IR q.e1 48 au19)) (H1 m4)<|AE<|AA<|oo _ [0<=(2:Int)/\(2:Int)<(3:Int),none] (J1 18 (IR q.e2 64 au19)) (H1 m4)<|AE<|AA<|AA<|ro _ [0<=(0:Int)/\(0:Int)<(3:Int),none] ⟨[(4,tP 4 0),(5,tP 5 0),(6,tI (mqa q)),(7,tI (mqb q)),(21,tI (Bw q.e0 26))],[(4,ZcM),(5,.cells (Ki b) 41),(26,ZcN b),(30,ZcQ b),(34,ZcW b),(3100,ZcO b),(3102,ZcP b),(3104,ZcR b),(3106,ZcS b),(3108,ZcT b),(3110,ZcU b),(3112,ZcX b),(3114,ZcV b)]⟩ (J1 21 (IR q.e0 26 au19)) (H1 m4) ?_
 (try rw[hq])
 refine AE<|AJ<|AA<|on<|An kr<|AA<|on<|An kr<|AA<|on<|An kr<|AA<|on<|An kr<|AA<|on<|An kr<|AA<|on<|An kr<|AA<|on<|An kr<|AA<|on<|An kr<|AA<|rn ⟨(Z8 q),(oO b)⟩<|An kr<|AA<|on<|An kr<|AA<|on<|An kr<|AA<|on<|An kr<|AA<|on<|An kr<|AA<|on<|An kr<|AA<|on<|An kr<|AA<|on<|An kr<|AA<|on<|CN kr<|AA<|rn ⟨(JW q [(340,tB (decide ((0:Int)<((BQ b).length:Int))))]),(oO b)⟩ ?_;have h1:(decide ((0:Int)<((BQ b).length:Int)))=false:=(by rw[hfP,hlen];decide);refine BC _ rfl (fun h=>absurd (h1.symm.trans h) m4) (fun _=>?_);exact AP<|Ao<|AE<|AA<|on<|AO<|zy (CC [26,3100,3102,30,3104,3106,3108,3110,3114,34,3112] hk0) (by simp only[QK,h1,mi,mj]<;>kernel_rfl)
end
abbrev jz:=Ee
def Gb(b:AC)(q:Ee):AC:=bif decide (Bw q.e0 26=7)then Qr b q else bif decide (Bw q.e0 26=16)then(bif decide ((b.Pours.length:Int)=2)then N7 b q else bif decide ((b.Pours.length:Int)=1)then QJ b q else QK b q)else CG b q
def dy(b:AC)(q:Ee):CT:=(11,(dS b q).2.1,.val [] (.av (.agg (AC.c (Gb b q)))))
theorem pOddA(b:AC)(q:Ee)(hc:Ct b)(hn:(b.Nets.length:Int)=3)(hp:(b.Pours.length:Int)<=2):PuP 11 (dy b q).2.1 (.av (.agg (AC.c (Gb b q)))):=by
 show G4 Tryz.prog 11 (dS b q).2.1 _
 by_cases h7:Bw q.e0 26=7
 ·have e:Gb b q=Qr b q:=by unfold Gb;rw[lj h7,mi]
  rw[e];exact pOddN b q hc h7 hn
 by_cases h16:Bw q.e0 26=16
 ·by_cases h2:(b.Pours.length:Int)=2
  ·have e:Gb b q=N7 b q:=by unfold Gb;rw[lk h7,mj,lj h16,mi,lj h2,mi]
   rw[e];exact fp b q hc h16 h2
  by_cases h1:(b.Pours.length:Int)=1
  ·have e:Gb b q=QJ b q:=by unfold Gb;rw[lk h7,mj,lj h16,mi,lk h2,mj,lj h1,mi]
   rw[e];exact fq b q hc h16 h1
  have e:Gb b q=QK b q:=by unfold Gb;rw[lk h7,mj,lj h16,mi,lk h2,mj,lk h1,mj]
  rw[e];exact fr b q hc h16 oM
 have e:Gb b q=CG b q:=by unfold Gb;rw[lk h7,mj,lk h16,mj]
 rw[e];exact ft b q hc h7 h16
theorem il(b:AC)(q:Ee)(hc:Ct b)(hn:(b.Nets.length:Int)=3)(hp:(b.Pours.length:Int)<=2):OKc (dy b q):=cPu<|pOddA b q hc hn hp
section
open Go.RowKit
def ZcZ:Blk:=.cells IA 41
variable (b:AC)(nn:List A7)(ny:List AM)(pa:List BA)(v9:Int)(ov:List AX)(v4 v5 v7:Int)
abbrev Fy:=(b.Waivers.take (min (b.Waivers.length:Int) 4:Int).toNat)
abbrev nA:=(b.Parts.take (min (b.Parts.length:Int) 4:Int).toNat)
abbrev JF:=(b.Vias.take (min (b.Vias.length:Int) 4:Int).toNat)
abbrev Ei(t_:List Cl):List Cl:=(.i b.Layers)::(.i b.Outline.Kind)::(lst 7 AK.c ((b.Outline.Edges.take (min (b.Outline.Edges.length:Int) 5:Int).toNat)))::(.i b.Outline.R)::(lst 7 AD.c (nA b))::t_
def Zd0:Blk:=.cells (Ei b [vN,vN,lst 8 Ak.c (JF b),vN,vN,vN,vN,vN,lst 3 As.c (Fy b),vN]) 41
def Zd3:Blk:=.cells (Ei b [.own 2000 2 nn.length,vN,lst 8 Ak.c (JF b),vN,vN,vN,vN,vN,lst 3 As.c (Fy b),vN]) 41
def Zd4:Blk:=.row 2 nn.length (AL A7.c nn) 120
abbrev SG:=[A7.mk (E6 b v4).Name ((E6 b v4).Pins.take (min ((E6 b v4).Pins.length:Int) 5:Int).toNat)]
def Zd5:Blk:=.cells (Ei b [.own 84 2 (nn++(SG b v4)).length,vN,lst 8 Ak.c (JF b),vN,vN,vN,vN,vN,lst 3 As.c (Fy b),vN]) 41
def Zd6(nn:List A7)(b:AC)(v4:Int):Blk:=.row 2 (nn++(SG b v4)).length (AL A7.c (nn++(SG b v4))) 120
def Zd7:Blk:=.row 6 ([]:List AM).length Vu 131
def Zd8:Blk:=.cells (Ei b [.own 2000 2 nn.length,.own 2001 6 ([]:List AM).length,lst 8 Ak.c (JF b),vN,vN,vN,vN,vN,lst 3 As.c (Fy b),vN]) 41
abbrev KQ(nn:List A7)(ny:List AM)(b:AC)(t_:List Cl):List Cl:=(.own 2000 2 nn.length)::(.own 2001 6 ny.length)::(lst 8 Ak.c (JF b))::vN::t_
def Zd9:Blk:=.cells (Ei b (KQ nn ny b [vN,vN,vN,vN,lst 3 As.c (Fy b),vN])) 41
def Zda:Blk:=.row 6 ny.length (AL AM.c ny) 131
abbrev SN:=[AM.mk (DB b v5).Id (DB b v5).Net (DB b v5).Layer (AQ.mk (DB b v5).Shape.Kind ((DB b v5).Shape.Edges.take (min ((DB b v5).Shape.Edges.length:Int) 4:Int).toNat) (DB b v5).Shape.R)]
def Zdb:Blk:=.cells (Ei b [.own 2000 2 nn.length,.own 117 6 (ny++(SN b v5)).length,lst 8 Ak.c (JF b),vN,vN,vN,vN,vN,lst 3 As.c (Fy b),vN]) 41
def Zdc(ny:List AM)(b:AC)(v5:Int):Blk:=.row 6 (ny++(SN b v5)).length (AL AM.c (ny++(SN b v5))) 131
def Zde:Blk:=.row 4 ([]:List AX).length (AL AX.c ([]:List AX)) 112
def Zdf:Blk:=.cells (Ei b (KQ nn ny b [vN,.own 2002 4 ([]:List AX).length,vN,vN,lst 3 As.c (Fy b),vN])) 41
def Zdg:Blk:=.cells (Ei b (KQ nn ny b [vN,.own 2002 4 ov.length,vN,vN,lst 3 As.c (Fy b),vN])) 41
def Zdh:Blk:=.row 4 ov.length (AL AX.c ov) 112
abbrev GA:=b.Slots.getD v7.toNat default
abbrev Xt:=[AX.mk (GA b v7).Id (AQ.mk (GA b v7).Shape.Kind ((GA b v7).Shape.Edges.take (min ((GA b v7).Shape.Edges.length:Int) 4:Int).toNat) (GA b v7).Shape.R)]
def Zdl:Blk:=.row 5 ([]:List BA).length (AL BA.c ([]:List BA)) 136
def Zdm:Blk:=.cells (Ei b (KQ nn ny b [.own 2003 5 ([]:List BA).length,.own 2002 4 ov.length,vN,vN,lst 3 As.c (Fy b),vN])) 41
def Zdn:Blk:=.cells (Ei b (KQ nn ny b [.own 2003 5 pa.length,.own 2002 4 ov.length,vN,vN,lst 3 As.c (Fy b),vN])) 41
def Zdo:Blk:=.row 5 pa.length (AL BA.c pa) 136
abbrev SM:=[BA.mk (D9 b v9).Id (D9 b v9).Layer (AQ.mk (D9 b v9).Shape.Kind ((D9 b v9).Shape.Edges.take (min ((D9 b v9).Shape.Edges.length:Int) 4:Int).toNat) (D9 b v9).Shape.R)]
def Zdp:Blk:=.cells (Ei b (KQ nn ny b [.own 183 5 (pa++(SM b v9)).length,.own 2002 4 ov.length,vN,vN,lst 3 As.c (Fy b),vN])) 41
def Zdq(pa:List BA)(b:AC)(v9:Int):Blk:=.row 5 (pa++(SM b v9)).length (AL BA.c (pa++(SM b v9))) 136
def Hc(b:AC)(nn:List A7)(v4:Int)(ny:List AM)(v5:Int)(ov:List AX)(v7:Int)(K0:List A7->Int->AC)(K1:List AM->Int->AC)(K2:List AX->Int->AC):Nat->List BA->Int->AC
 |0,_,_=>default
 |n3+1,pa,v9=>bif bif decide ((v9:Int)<(b.Keeps.length:Int))then decide ((v9:Int)<4)else false then((Hc b nn v4 ny v5 ov v7 K0 K1 K2 n3) (pa++[BA.mk (b.Keeps.getD v9.toNat default).Id (b.Keeps.getD v9.toNat default).Layer (AQ.mk (b.Keeps.getD v9.toNat default).Shape.Kind ((b.Keeps.getD v9.toNat default).Shape.Edges.take (min ((b.Keeps.getD v9.toNat default).Shape.Edges.length:Int) 4:Int).toNat) (b.Keeps.getD v9.toNat default).Shape.R)]) (v9+1))else(AC.mk b.Layers (AQ.mk b.Outline.Kind (b.Outline.Edges.take (min (b.Outline.Edges.length:Int) 5:Int).toNat) b.Outline.R) (b.Parts.take (min (b.Parts.length:Int) 4:Int).toNat) nn ny (b.Vias.take (min (b.Vias.length:Int) 4:Int).toNat) [] pa ov [] [] (b.Waivers.take (min (b.Waivers.length:Int) 4:Int).toNat) [])
def Fv(b:AC)(nn:List A7)(v4:Int)(ny:List AM)(v5:Int)(K0:List A7->Int->AC)(K1:List AM->Int->AC):Nat->List AX->Int->AC
 |0,_,_=>default
 |n2+1,ov,v7=>bif bif decide ((v7:Int)<(b.Slots.length:Int))then decide ((v7:Int)<4)else false then((Fv b nn v4 ny v5 K0 K1 n2) (ov++[AX.mk (b.Slots.getD v7.toNat default).Id (AQ.mk (b.Slots.getD v7.toNat default).Shape.Kind ((b.Slots.getD v7.toNat default).Shape.Edges.take (min ((b.Slots.getD v7.toNat default).Shape.Edges.length:Int) 4:Int).toNat) (b.Slots.getD v7.toNat default).Shape.R)]) (v7+1))else(Hc b nn v4 ny v5 ov v7 K0 K1 (Fv b nn v4 ny v5 K0 K1 n2) (((4:Int)-0).toNat+1) ([]:List BA) 0)
def Eu(b:AC)(nn:List A7)(v4:Int)(K0:List A7->Int->AC):Nat->List AM->Int->AC
 |0,_,_=>default
 |n1+1,ny,v5=>bif bif decide ((v5:Int)<(b.Tracks.length:Int))then decide ((v5:Int)<4)else false then((Eu b nn v4 K0 n1) (ny++[AM.mk (b.Tracks.getD v5.toNat default).Id (b.Tracks.getD v5.toNat default).Net (b.Tracks.getD v5.toNat default).Layer (AQ.mk (b.Tracks.getD v5.toNat default).Shape.Kind ((b.Tracks.getD v5.toNat default).Shape.Edges.take (min ((b.Tracks.getD v5.toNat default).Shape.Edges.length:Int) 4:Int).toNat) (b.Tracks.getD v5.toNat default).Shape.R)]) (v5+1))else(Fv b nn v4 ny v5 K0 (Eu b nn v4 K0 n1) (((4:Int)-0).toNat+1) ([]:List AX) 0)
def Db(b:AC):Nat->List A7->Int->AC
 |0,_,_=>default
 |n0+1,nn,v4=>bif bif decide ((v4:Int)<(b.Nets.length:Int))then decide ((v4:Int)<4)else false then((Db b n0) (nn++[A7.mk (b.Nets.getD v4.toNat default).Name ((b.Nets.getD v4.toNat default).Pins.take (min ((b.Nets.getD v4.toNat default).Pins.length:Int) 5:Int).toNat)]) (v4+1))else(Eu b nn v4 (Db b n0) (((4:Int)-0).toNat+1) ([]:List AM) 0)
def Bg(b:AC):AC:=Db b (((4:Int)-0).toNat+1) ([]:List A7) 0
def vW:CT:=(12,[.agg (CE b)],.val [] (.av (.agg (AC.c (Bg b)))))
abbrev V1:List (Nat×Tv):=(D2 [])
theorem f7(b:AC):PuP 12 (vW b).2.1 (.av (.agg (AC.c (Bg b)))):=by
 refine pwf Tryz.func12 fun W0 M0=>?_;refine AA<|on<|AA<|dw [] [] [0<=(0:Int)/\(0:Int)<=(min (b.Parts.length:Int) 4:Int)/\(min (b.Parts.length:Int) 4:Int)<=(b.Parts.length:Int),0<=(0:Int)/\(0:Int)<=(min (b.Vias.length:Int) 4:Int)/\(min (b.Vias.length:Int) 4:Int)<=(b.Vias.length:Int),0<=(0:Int)/\(0:Int)<=(min (b.Waivers.length:Int) 4:Int)/\(min (b.Waivers.length:Int) 4:Int)<=(b.Waivers.length:Int)] ⟨V1,[(Bx b),(2,ZcZ),(3,.cells (Zn b [.list false 7 ((min (b.Parts.length:Int) 4:Int).toNat-(0:Int).toNat) (fun i_ j_=>(IC b) (i_+(0:Int).toNat) j_),vN,vN,.list false 8 ((min (b.Vias.length:Int) 4:Int).toNat-(0:Int).toNat) (fun i_ j_=>(JY b) (i_+(0:Int).toNat) j_),vN,vN,vN,vN,vN,.list false 3 ((min (b.Waivers.length:Int) 4:Int).toNat-(0:Int).toNat) (fun i_ j_=>(Jc b) (i_+(0:Int).toNat) j_),vN]) 41)]⟩ .nil (H3 (by first|omega|decide) (by first|omega|decide) (by first|omega|decide))<|AE ?_
 refine AZ (DD (⟨V1,[(Bx b),(2,ZcZ),(3,.cells (Zn b [lst 7 AD.c (nA b),vN,vN,lst 8 Ak.c (JF b),vN,vN,vN,vN,vN,lst 3 As.c (Fy b),vN]) 41)]⟩) lr (rz (rz (.cons ⟨rfl,.cells _ (rr4 (.cons (BO false (FF (b:=min (b.Parts.length:Int) 4) (AU 7 AD.c b.Parts) (by have hc:=(show 0<=(0:Int)/\(0:Int)<=(min (b.Parts.length:Int) 4:Int)/\(min (b.Parts.length:Int) 4:Int)<=(b.Parts.length:Int)from(by first|omega|decide));exact hc.2.1) (by have hc:=(show 0<=(0:Int)/\(0:Int)<=(min (b.Parts.length:Int) 4:Int)/\(min (b.Parts.length:Int) 4:Int)<=(b.Parts.length:Int)from(by first|omega|decide));exact hc.2.2))) (rr (rr (.cons (BO false (FF (b:=min (b.Vias.length:Int) 4) (AU 8 Ak.c b.Vias) (by have hc:=(show 0<=(0:Int)/\(0:Int)<=(min (b.Vias.length:Int) 4:Int)/\(min (b.Vias.length:Int) 4:Int)<=(b.Vias.length:Int)from(by first|omega|decide));exact hc.2.1) (by have hc:=(show 0<=(0:Int)/\(0:Int)<=(min (b.Vias.length:Int) 4:Int)/\(min (b.Vias.length:Int) 4:Int)<=(b.Vias.length:Int)from(by first|omega|decide));exact hc.2.2))) (rr (rr (rr (rr (rr (.cons (BO false (FF (b:=min (b.Waivers.length:Int) 4) (AU 3 As.c b.Waivers) (by have hc:=(show 0<=(0:Int)/\(0:Int)<=(min (b.Waivers.length:Int) 4:Int)/\(min (b.Waivers.length:Int) 4:Int)<=(b.Waivers.length:Int)from(by first|omega|decide));exact hc.2.1) (by have hc:=(show 0<=(0:Int)/\(0:Int)<=(min (b.Waivers.length:Int) 4:Int)/\(min (b.Waivers.length:Int) 4:Int)<=(b.Waivers.length:Int)from(by first|omega|decide));exact hc.2.2))) (rr .nil))))))))))))⟩ .nil))))<|AA ?_
 refine rc [] [0<=(0:Int)/\(0:Int)<=(min (b.Outline.Edges.length:Int) 5:Int)/\(min (b.Outline.Edges.length:Int) 5:Int)<=(b.Outline.Edges.length:Int)] ⟨V1,[(Bx b),(2,ZcZ),(3,.cells [.i b.Layers,.i b.Outline.Kind,.list false 7 ((min (b.Outline.Edges.length:Int) 5:Int).toNat-(0:Int).toNat) (fun i_ j_=>(AL AK.c b.Outline.Edges) (i_+(0:Int).toNat) j_),.i b.Outline.R,lst 7 AD.c (nA b),vN,vN,lst 8 Ak.c (JF b),vN,vN,vN,vN,vN,lst 3 As.c (Fy b),vN] 41)]⟩ .nil (H1 (by first|omega|decide))<|AE<|AZ (DD (⟨V1,[(Bx b),(2,ZcZ),(3,Zd0 b)]⟩) lr (rz (rz (.cons ⟨rfl,.cells _ (rr2 (.cons (BO false (FF (b:=min (b.Outline.Edges.length:Int) 5) (AU 7 AK.c b.Outline.Edges) (by have hc:=(show 0<=(0:Int)/\(0:Int)<=(min (b.Outline.Edges.length:Int) 5:Int)/\(min (b.Outline.Edges.length:Int) 5:Int)<=(b.Outline.Edges.length:Int)from(by first|omega|decide));exact hc.2.1) (by have hc:=(show 0<=(0:Int)/\(0:Int)<=(min (b.Outline.Edges.length:Int) 5:Int)/\(min (b.Outline.Edges.length:Int) 5:Int)<=(b.Outline.Edges.length:Int)from(by first|omega|decide));exact hc.2.2))) (rr (rr (rr (rr (rr (rr (rr (rr (rr (rr (rr (rr .nil))))))))))))))⟩ .nil))))<|AA<|AA ?_
 refine rn ⟨Pd,[(Bx b),(2,ZcZ),(3,Zd0 b)]⟩<|AJ<|AZ (Cv.trans (vg 2000 2 m8 120 [] [(3,[5])] hk0) (Cv.trans (Ag 2000 (Bh 2 m8 A7.c)) (ck (⟨Pd,[(Bx b),(2,ZcZ),(3,.cells (Ei b [.own 2000 2 ([]:List A7).length,vN,lst 8 Ak.c (JF b),vN,vN,vN,vN,vN,lst 3 As.c (Fy b),vN]) 41),(2000,.row 2 ([]:List A7).length (AL A7.c ([]:List A7)) 120)]⟩))))<|lpC (κ:=List A7×Int) (fun x=>⟨(D2 [(4,tI x.2.2)]),[(Bx b),(2,ZcZ),(3,.cells (Ei b [.own 2000 2 x.2.1.length,vN,lst 8 Ak.c (JF b),vN,vN,vN,vN,vN,lst 3 As.c (Fy b),vN]) 41),(2000,.row 2 x.2.1.length (AL A7.c x.2.1) 120)]⟩) (fun x=>((4:Int)-x.2.2).toNat) (fun x=>(0<=x.2.2/\x.2.2<=4/\(x.2.1.length:Int)=x.2.2/\0<=x.2.2)/\Db b x.1 x.2.1 x.2.2=Bg b) ?_ (((4:Int)-0).toNat+1,([]:List A7),0) ⟨lz _,⟨ax0,ax0,ax0,ax0⟩,(by simp only[Bg,mi,mj])⟩;rintro n0 ⟨nn,v4⟩ nq ⟨nm,ng⟩
 try dsimp only at nq nm ng
 refine AA<|AA<|oc [] (t2 (decide ((v4:Int)<(b.Nets.length:Int))) []) .nil (c2 .nil)<|AE<|kb (bif decide ((v4:Int)<(b.Nets.length:Int))then decide ((v4:Int)<4)else false) (fun h1=>?_) (fun h1=>?_)
 ·have g1:=Fl h1;refine AP<|AE<|AA<|AJ<|dw [] [] [0<=(v4:Int)/\(v4:Int)<(b.Nets.length:Int),0<=(v4:Int)/\(v4:Int)<(b.Nets.length:Int),0<=(v4:Int)/\(v4:Int)<(b.Nets.length:Int),0<=(0:Int)/\(0:Int)<=(min ((E6 b v4).Pins.length:Int) 5:Int)/\(min ((E6 b v4).Pins.length:Int) 5:Int)<=((E6 b v4).Pins.length:Int),nn.length=nn.length,nn.length+1<=maxLen,(nn.length+1)*40<=140737488355328] ⟨(D2 [(4,tI v4)]),[(Bx b),(2,ZcZ),(3,.cells (Ei b [.own 84 2 (nn.length+1),vN,lst 8 Ak.c (JF b),vN,vN,vN,vN,vN,lst 3 As.c (Fy b),vN]) 41),(84,.row 2 (nn.length+1) (fun i_ j_=>if i_<nn.length then(AL A7.c nn) i_ j_ else(A9 2 1 [.s (E6 b v4).Name,.list false 2 ((min ((E6 b v4).Pins.length:Int) 5:Int).toNat-(0:Int).toNat) (fun i_ j_=>(AL Ab.c (E6 b v4).Pins) (i_+(0:Int).toNat) j_)]) (i_-nn.length) j_) 120)]⟩ .nil (H7 (by first|omega|decide) (by first|omega|decide) (by first|omega|decide) (by first|omega|decide) rfl au2 au2)<|Ao<|AE ?_
  refine AZ (DD (⟨(D2 [(4,tI v4)]),[(Bx b),(2,ZcZ),(3,Zd5 b nn v4),(84,Zd6 nn b v4)]⟩) lr (rz (rz (.cons ⟨rfl,.cells _ (rr5 (.cons (.own _ _ au17) (rr (rr (rr (rr (rr (rr (rr (rr (rr .nil)))))))))))⟩ (.cons ⟨rfl,CS 120 (Ac (AU 2 A7.c nn) (Dn (c:=A7.c) (xs:=((SG b v4):List A7)) (y:=[[.s (E6 b v4).Name,.list false 2 ((min ((E6 b v4).Pins.length:Int) 5:Int).toNat-(0:Int).toNat) (fun i_ j_=>(AL Ab.c (E6 b v4).Pins) (i_+(0:Int).toNat) j_)]]) (z:=[[.s (E6 b v4).Name,lst 2 Ab.c ((E6 b v4).Pins.take (min ((E6 b v4).Pins.length:Int) 5:Int).toNat)]]) rfl kr kr (.cons (rr (.cons (BO false (FF (b:=min ((E6 b v4).Pins.length:Int) 5) (AU 2 Ab.c (E6 b v4).Pins) (by have hc:=(show 0<=(0:Int)/\(0:Int)<=(min ((E6 b v4).Pins.length:Int) 5:Int)/\(min ((E6 b v4).Pins.length:Int) 5:Int)<=((E6 b v4).Pins.length:Int)from(by first|omega|decide));exact hc.2.1) (by have hc:=(show 0<=(0:Int)/\(0:Int)<=(min ((E6 b v4).Pins.length:Int) 5:Int)/\(min ((E6 b v4).Pins.length:Int) 5:Int)<=((E6 b v4).Pins.length:Int)from(by first|omega|decide));exact hc.2.2))) .nil)) .nil)))⟩ .nil))))) ?_;refine rg ⟨(D2 [(4,tI (W64 (v4+1)))]),[(Bx b),(2,ZcZ),(3,Zd5 b nn v4),(84,Zd6 nn b v4)]⟩ ?_
  (try rw[(show W64 (v4+1)=v4+1 from Ae oM oM)])
  refine AE ?_;refine⟨(n0,nn++(SG b v4),v4+1),⟨?_,?_,(by rw[<- ng];simp only[Db,h1,mi,mj])⟩,lz _,Cv.trans (vr 84 2000 hk0) (Az kr)⟩
  ·dsimp only;omega
  exact⟨ax0,ax0,ax0,ax0⟩
 refine Aw<|Aj<|Aj<|Ay<|AE<|AA<|AA<|rn ⟨(D2 [(5,tI 0)]),[(Bx b),(2,ZcZ),(3,Zd3 b nn),(2000,Zd4 nn)]⟩<|AJ<|AZ (Cv.trans (vg 2001 6 m8 131 [] [(3,[6])] hk0) (Cv.trans (Ag 2001 (Bh 6 m8 AM.c)) (ck (⟨(D2 [(5,tI 0)]),[(Bx b),(2,ZcZ),(3,Zd8 b nn),(2000,Zd4 nn),(2001,Zd7)]⟩))))<|lpC (κ:=List AM×Int) (fun x=>⟨(D2 [(5,tI x.2.2)]),[(Bx b),(2,ZcZ),(3,.cells (Ei b [.own 2000 2 nn.length,.own 2001 6 x.2.1.length,lst 8 Ak.c (JF b),vN,vN,vN,vN,vN,lst 3 As.c (Fy b),vN]) 41),(2000,Zd4 nn),(2001,.row 6 x.2.1.length (AL AM.c x.2.1) 131)]⟩) (fun x=>((4:Int)-x.2.2).toNat) (fun x=>(0<=x.2.2/\x.2.2<=4/\(x.2.1.length:Int)=x.2.2/\0<=x.2.2)/\Eu b nn v4 (Db b n0) x.1 x.2.1 x.2.2=Bg b) ?_ (((4:Int)-0).toNat+1,([]:List AM),0) ⟨lz _,⟨ax0,ax0,ax0,ax0⟩,(by rw[<- ng];simp only[Db,h1,mi,mj])⟩;rintro n1 ⟨ny,v5⟩ o0 ⟨ox,np⟩
 try dsimp only at o0 ox np
 refine AA<|AA<|oc [] (t2 (decide ((v5:Int)<(b.Tracks.length:Int))) []) .nil (c2 .nil)<|AE<|kb (bif decide ((v5:Int)<(b.Tracks.length:Int))then decide ((v5:Int)<4)else false) (fun h2=>?_) (fun h2=>?_)
 ·have g2:=Fl h2;refine AP<|AE<|AA<|AJ<|AA<|oc [] [0<=(v5:Int)/\(v5:Int)<(b.Tracks.length:Int)] .nil (H1 (by first|omega|decide))<|AE<|AA<|rc [] [0<=(0:Int)/\(0:Int)<=(min ((DB b v5).Shape.Edges.length:Int) 4:Int)/\(min ((DB b v5).Shape.Edges.length:Int) 4:Int)<=((DB b v5).Shape.Edges.length:Int)] ⟨(D2 [(5,tI v5),(6,tP 6 0)]),[(Bx b),(2,ZcZ),(3,Zd9 b nn ny),(6,.cells [.i (DB b v5).Id,.s (DB b v5).Net,.i (DB b v5).Layer,.i (DB b v5).Shape.Kind,.list false 7 ((min ((DB b v5).Shape.Edges.length:Int) 4:Int).toNat-(0:Int).toNat) (fun i_ j_=>(AL AK.c (DB b v5).Shape.Edges) (i_+(0:Int).toNat) j_),.i (DB b v5).Shape.R] 131),(2000,Zd4 nn),(2001,Zda ny)]⟩ .nil (H1 (by first|omega|decide))<|AE ?_
  refine AZ (DD (⟨(D2 [(5,tI v5),(6,tP 6 0)]),[(Bx b),(2,ZcZ),(3,Zd9 b nn ny),(6,.cells [.i (DB b v5).Id,.s (DB b v5).Net,.i (DB b v5).Layer,.i (DB b v5).Shape.Kind,lst 7 AK.c ((DB b v5).Shape.Edges.take (min ((DB b v5).Shape.Edges.length:Int) 4:Int).toNat),.i (DB b v5).Shape.R] 131),(2000,Zd4 nn),(2001,Zda ny)]⟩) lr (rz (rz (rz (.cons ⟨rfl,.cells _ (rr4 (.cons (BO false (FF (b:=min ((DB b v5).Shape.Edges.length:Int) 4) (AU 7 AK.c (DB b v5).Shape.Edges) (by have hc:=(show 0<=(0:Int)/\(0:Int)<=(min ((DB b v5).Shape.Edges.length:Int) 4:Int)/\(min ((DB b v5).Shape.Edges.length:Int) 4:Int)<=((DB b v5).Shape.Edges.length:Int)from(by first|omega|decide));exact hc.2.1) (by have hc:=(show 0<=(0:Int)/\(0:Int)<=(min ((DB b v5).Shape.Edges.length:Int) 4:Int)/\(min ((DB b v5).Shape.Edges.length:Int) 4:Int)<=((DB b v5).Shape.Edges.length:Int)from(by first|omega|decide));exact hc.2.2))) (rr .nil)))⟩ lr)))))<|oc [] [ny.length=ny.length,ny.length+1<=maxLen,(ny.length+1)*72<=140737488355328] .nil (H3 rfl au2 au2)<|Ao<|AE<|AZ (Ag 117 (Ac (AU 6 AM.c ny) (Ai 6 AM.c ((SN b v5):List AM)))) ?_;refine rg ⟨(D2 [(5,tI (W64 (v5+1)))]),[(Bx b),(2,ZcZ),(3,Zdb b nn ny v5),(117,Zdc ny b v5),(2000,Zd4 nn)]⟩ ?_
  (try rw[(show W64 (v5+1)=v5+1 from Ae oM oM)])
  refine AE ?_;refine⟨(n1,ny++(SN b v5),v5+1),⟨?_,?_,(by rw[<- np];simp only[Eu,h2,mi,mj])⟩,lz _,Cv.trans (vr 117 2001 hk0) (Cv.trans (vk [1,2,3,5] [1,2,3,2000,2001]) (Az kr))⟩
  ·dsimp only;omega
  exact⟨ax0,ax0,ax0,ax0⟩
 refine Aw<|Aj<|Aj<|Ay<|AE<|AA<|AA<|rn ⟨(D2 [(7,tI 0)]),[(Bx b),(2,ZcZ),(3,Zd9 b nn ny),(2000,Zd4 nn),(2001,Zda ny)]⟩<|AJ<|AZ (Cv.trans (vg 2002 4 m8 112 [] [(3,[10])] hk0) (Cv.trans (Ag 2002 (Bh 4 m8 AX.c)) (ck (⟨(D2 [(7,tI 0)]),[(Bx b),(2,ZcZ),(3,Zdf b nn ny),(2000,Zd4 nn),(2001,Zda ny),(2002,Zde)]⟩))))<|lpC (κ:=List AX×Int) (fun x=>⟨(D2 [(7,tI x.2.2)]),[(Bx b),(2,ZcZ),(3,.cells (Ei b (KQ nn ny b [vN,.own 2002 4 x.2.1.length,vN,vN,lst 3 As.c (Fy b),vN])) 41),(2000,Zd4 nn),(2001,Zda ny),(2002,.row 4 x.2.1.length (AL AX.c x.2.1) 112)]⟩) (fun x=>((4:Int)-x.2.2).toNat) (fun x=>(0<=x.2.2/\x.2.2<=4/\(x.2.1.length:Int)=x.2.2/\0<=x.2.2)/\Fv b nn v4 ny v5 (Db b n0) (Eu b nn v4 (Db b n0) n1) x.1 x.2.1 x.2.2=Bg b) ?_ (((4:Int)-0).toNat+1,([]:List AX),0) ⟨lz _,⟨ax0,ax0,ax0,ax0⟩,(by rw[<- np];simp only[Eu,h2,mi,mj])⟩;rintro n2 ⟨ov,v7⟩ pd ⟨pg,oy⟩
 try dsimp only at pd pg oy
 refine AA<|AA<|oc [] (t2 (decide ((v7:Int)<(b.Slots.length:Int))) []) .nil (c2 .nil)<|AE<|kb (bif decide ((v7:Int)<(b.Slots.length:Int))then decide ((v7:Int)<4)else false) (fun h3=>?_) (fun h3=>?_)
 ·have g3:=Fl h3;refine AP<|AE<|AA<|AJ<|AA<|oc [] [0<=(v7:Int)/\(v7:Int)<(b.Slots.length:Int)] .nil (H1 (by first|omega|decide))<|AE<|AA<|rc [] [0<=(0:Int)/\(0:Int)<=(min ((GA b v7).Shape.Edges.length:Int) 4:Int)/\(min ((GA b v7).Shape.Edges.length:Int) 4:Int)<=((GA b v7).Shape.Edges.length:Int)] ⟨(D2 [(7,tI v7),(8,tP 8 0)]),[(Bx b),(2,ZcZ),(3,Zdg b nn ny ov),(8,.cells [.i (GA b v7).Id,.i (GA b v7).Shape.Kind,.list false 7 ((min ((GA b v7).Shape.Edges.length:Int) 4:Int).toNat-(0:Int).toNat) (fun i_ j_=>(AL AK.c (GA b v7).Shape.Edges) (i_+(0:Int).toNat) j_),.i (GA b v7).Shape.R] 112),(2000,Zd4 nn),(2001,Zda ny),(2002,Zdh ov)]⟩ .nil (H1 (by first|omega|decide))<|AE ?_
  refine AZ (DD (⟨(D2 [(7,tI v7),(8,tP 8 0)]),[(Bx b),(2,ZcZ),(3,Zdg b nn ny ov),(8,.cells [.i (GA b v7).Id,.i (GA b v7).Shape.Kind,lst 7 AK.c ((GA b v7).Shape.Edges.take (min ((GA b v7).Shape.Edges.length:Int) 4:Int).toNat),.i (GA b v7).Shape.R] 112),(2000,Zd4 nn),(2001,Zda ny),(2002,Zdh ov)]⟩) lr (rz (rz (rz (.cons ⟨rfl,.cells _ (rr2 (.cons (BO false (FF (b:=min ((GA b v7).Shape.Edges.length:Int) 4) (AU 7 AK.c (GA b v7).Shape.Edges) (by have hc:=(show 0<=(0:Int)/\(0:Int)<=(min ((GA b v7).Shape.Edges.length:Int) 4:Int)/\(min ((GA b v7).Shape.Edges.length:Int) 4:Int)<=((GA b v7).Shape.Edges.length:Int)from(by first|omega|decide));exact hc.2.1) (by have hc:=(show 0<=(0:Int)/\(0:Int)<=(min ((GA b v7).Shape.Edges.length:Int) 4:Int)/\(min ((GA b v7).Shape.Edges.length:Int) 4:Int)<=((GA b v7).Shape.Edges.length:Int)from(by first|omega|decide));exact hc.2.2))) (rr .nil)))⟩ lr)))))<|oc [] [ov.length=ov.length,ov.length+1<=maxLen,(ov.length+1)*48<=140737488355328] .nil (H3 rfl au2 au2)<|Ao<|AE<|AZ (Ag 150 (Ac (AU 4 AX.c ov) (Ai 4 AX.c ((Xt b v7):List AX)))) ?_;refine rg ⟨(D2 [(7,tI (W64 (v7+1)))]),[(Bx b),(2,ZcZ),(3,.cells (Ei b (KQ nn ny b [vN,.own 150 4 (ov++(Xt b v7)).length,vN,vN,lst 3 As.c (Fy b),vN])) 41),(150,.row 4 (ov++(Xt b v7)).length (AL AX.c (ov++(Xt b v7))) 112),(2000,Zd4 nn),(2001,Zda ny)]⟩ ?_
  (try rw[(show W64 (v7+1)=v7+1 from Ae oM oM)])
  refine AE ?_;refine⟨(n2,ov++(Xt b v7),v7+1),⟨?_,?_,(by rw[<- oy];simp only[Fv,h3,mi,mj])⟩,lz _,Cv.trans (vr 150 2002 hk0) (Cv.trans (vk [1,2,3,7] [1,2,3,2000,2001,2002]) (Az kr))⟩
  ·dsimp only;omega
  exact⟨ax0,ax0,ax0,ax0⟩
 refine Aw<|Aj<|Aj<|Ay<|AE<|AA<|AA<|rn ⟨(D2 [(9,tI 0)]),[(Bx b),(2,ZcZ),(3,Zdg b nn ny ov),(2000,Zd4 nn),(2001,Zda ny),(2002,Zdh ov)]⟩<|AJ<|AZ (Cv.trans (vg 2003 5 m8 136 [] [(3,[9])] hk0) (Cv.trans (Ag 2003 (Bh 5 m8 BA.c)) (ck (⟨(D2 [(9,tI 0)]),[(Bx b),(2,ZcZ),(3,Zdm b nn ny ov),(2000,Zd4 nn),(2001,Zda ny),(2002,Zdh ov),(2003,Zdl)]⟩))))<|lpC (κ:=List BA×Int) (fun x=>⟨(D2 [(9,tI x.2.2)]),[(Bx b),(2,ZcZ),(3,.cells (Ei b (KQ nn ny b [.own 2003 5 x.2.1.length,.own 2002 4 ov.length,vN,vN,lst 3 As.c (Fy b),vN])) 41),(2000,Zd4 nn),(2001,Zda ny),(2002,Zdh ov),(2003,.row 5 x.2.1.length (AL BA.c x.2.1) 136)]⟩) (fun x=>((4:Int)-x.2.2).toNat) (fun x=>(0<=x.2.2/\x.2.2<=4/\(x.2.1.length:Int)=x.2.2/\0<=x.2.2)/\Hc b nn v4 ny v5 ov v7 (Db b n0) (Eu b nn v4 (Db b n0) n1) (Fv b nn v4 ny v5 (Db b n0) (Eu b nn v4 (Db b n0) n1) n2) x.1 x.2.1 x.2.2=Bg b) ?_ (((4:Int)-0).toNat+1,([]:List BA),0) ⟨lz _,⟨ax0,ax0,ax0,ax0⟩,(by rw[<- oy];simp only[Fv,h3,mi,mj])⟩;rintro n3 ⟨pa,v9⟩ pn ⟨po,ph⟩
 try dsimp only at pn po ph
 refine AA<|AA<|oc [] (t2 (decide ((v9:Int)<(b.Keeps.length:Int))) []) .nil (c2 .nil)<|AE<|kb (bif decide ((v9:Int)<(b.Keeps.length:Int))then decide ((v9:Int)<4)else false) (fun h4=>?_) (fun h4=>?_)
 ·have g4:=Fl h4;refine AP<|AE<|AA<|AJ<|AA<|oc [] [0<=(v9:Int)/\(v9:Int)<(b.Keeps.length:Int)] .nil (H1 (by first|omega|decide))<|AE<|AA<|rc [] [0<=(0:Int)/\(0:Int)<=(min ((D9 b v9).Shape.Edges.length:Int) 4:Int)/\(min ((D9 b v9).Shape.Edges.length:Int) 4:Int)<=((D9 b v9).Shape.Edges.length:Int)] ⟨(D2 [(9,tI v9),(10,tP 10 0)]),[(Bx b),(2,ZcZ),(3,Zdn b nn ny pa ov),(10,.cells [.i (D9 b v9).Id,.i (D9 b v9).Layer,.i (D9 b v9).Shape.Kind,.list false 7 ((min ((D9 b v9).Shape.Edges.length:Int) 4:Int).toNat-(0:Int).toNat) (fun i_ j_=>(AL AK.c (D9 b v9).Shape.Edges) (i_+(0:Int).toNat) j_),.i (D9 b v9).Shape.R] 136),(2000,Zd4 nn),(2001,Zda ny),(2002,Zdh ov),(2003,Zdo pa)]⟩ .nil (H1 (by first|omega|decide))<|AE ?_
  refine AZ (DD (⟨(D2 [(9,tI v9),(10,tP 10 0)]),[(Bx b),(2,ZcZ),(3,Zdn b nn ny pa ov),(10,.cells [.i (D9 b v9).Id,.i (D9 b v9).Layer,.i (D9 b v9).Shape.Kind,lst 7 AK.c ((D9 b v9).Shape.Edges.take (min ((D9 b v9).Shape.Edges.length:Int) 4:Int).toNat),.i (D9 b v9).Shape.R] 136),(2000,Zd4 nn),(2001,Zda ny),(2002,Zdh ov),(2003,Zdo pa)]⟩) lr (rz (rz (rz (.cons ⟨rfl,.cells _ (rr3 (.cons (BO false (FF (b:=min ((D9 b v9).Shape.Edges.length:Int) 4) (AU 7 AK.c (D9 b v9).Shape.Edges) (by have hc:=(show 0<=(0:Int)/\(0:Int)<=(min ((D9 b v9).Shape.Edges.length:Int) 4:Int)/\(min ((D9 b v9).Shape.Edges.length:Int) 4:Int)<=((D9 b v9).Shape.Edges.length:Int)from(by first|omega|decide));exact hc.2.1) (by have hc:=(show 0<=(0:Int)/\(0:Int)<=(min ((D9 b v9).Shape.Edges.length:Int) 4:Int)/\(min ((D9 b v9).Shape.Edges.length:Int) 4:Int)<=((D9 b v9).Shape.Edges.length:Int)from(by first|omega|decide));exact hc.2.2))) (rr .nil)))⟩ lr)))))<|oc [] [pa.length=pa.length,pa.length+1<=maxLen,(pa.length+1)*56<=140737488355328] .nil (H3 rfl au2 au2)<|Ao<|AE ?_;refine AZ (Ag 183 (Ac (AU 5 BA.c pa) (Ai 5 BA.c ((SM b v9):List BA))))<|rg ⟨(D2 [(9,tI (W64 (v9+1)))]),[(Bx b),(2,ZcZ),(3,Zdp b nn ny pa v9 ov),(183,Zdq pa b v9),(2000,Zd4 nn),(2001,Zda ny),(2002,Zdh ov)]⟩ ?_
  (try rw[(show W64 (v9+1)=v9+1 from Ae oM oM)])
  refine AE ?_;refine⟨(n3,pa++(SM b v9),v9+1),⟨?_,?_,(by rw[<- ph];simp only[Hc,h4,mi,mj])⟩,lz _,Cv.trans (vr 183 2003 hk0) (Cv.trans (vk [1,2,3,9] [1,2,3,2000,2001,2002,2003]) (Az kr))⟩
  ·dsimp only;omega
  exact⟨ax0,ax0,ax0,ax0⟩
 exact Aw<|Aj<|Aj<|Ay<|AE<|AA<|on<|AO<|yl (Cv.trans (vf 2000 hk0) (Cv.trans (vf 2001 hk0) (Cv.trans (vf 2003 hk0) (vf 2002 hk0)))) (.av (.agg (Ei b [lst 2 A7.c nn,lst 6 AM.c ny,lst 8 Ak.c (JF b),vN,lst 5 BA.c pa,lst 4 AX.c ov,vN,vN,lst 3 As.c (Fy b),vN]))) (De (y:=.av (.agg (Ei b [lst 2 A7.c nn,lst 6 AM.c ny,lst 8 Ak.c (JF b),lst 8 A8.c [],lst 5 BA.c pa,lst 4 AX.c ov,lst 2 BG.c [],lst 20 A5.c [],lst 3 As.c (Fy b),lst 3 BI.c []]))) (.av (.agg (rr5 (rr3 (.cons (Ca 8 A8.c) (rr (rr (.cons (Ca 2 BG.c) (.cons (Ca 20 A5.c) (rr (.cons (Ca 3 BI.c) .nil))))))))))) (by rw[<- ph];first|(simp only[Hc,h4,mi,mj]<;>rfl)))
theorem zS(b:AC):OKc (vW b):=cPu<|f7 b
end
theorem dP{α:Type}{c:Bool}{a b:Bu×α}(h:CP a.1)(k:CP b.1):CP (bif c then a else b).1:=by cases c<;>assumption
theorem MJ:CP AH:=.inl ⟨_,rfl⟩
theorem iF(d:AF):CP (Ba d).1:=by
 unfold Ba
 repeat (first|exact .inl ⟨_,rfl⟩|exact .inr (.inl ⟨_,_,_,⟨_,_,_,_⟩,rfl⟩)|exact .inr (.inr ⟨_,_,_,⟨_,_,_,_⟩,_,_,_,⟨_,_,_,_⟩,rfl⟩)|refine dP ?_ ?_)
theorem Ua{l m:List A5}(h:∀r∈l,CP r.A/\CP r.B)(k:∀r∈m,CP r.A/\CP r.B):∀r∈l++m,CP r.A/\CP r.B:=fun r hr=>(List.mem_append.1 hr).elim (h r) (k r)
theorem UW{a b:A5}(h:CP a.A/\CP a.B)(k:CP b.A/\CP b.B):∀r∈[a,b],CP r.A/\CP r.B:=fun r hr=>by
 simp only[kg,lg,or_false]at hr;rcases hr with rfl|rfl<;>assumption
theorem jG{a:A5}(h:CP a.A/\CP a.B):∀r∈[a],CP r.A/\CP r.B:=fun r hr=>by
 rw[List.mem_singleton.1 hr];exact h
theorem UZ{c:Bool}{l m:List A5}(h:∀r∈l,CP r.A/\CP r.B)(k:∀r∈m,CP r.A/\CP r.B):∀r∈(bif c then l else m),CP r.A/\CP r.B:=by cases c<;>assumption
theorem YB(d:AF):∀r∈Z4p d,CP r.A/\CP r.B:=by
 unfold Z4p;have h2:=fun x y=>UW (a:=A5.mk (⟨#[99,49]⟩:my) 1 1 AH AH x) (b:=A5.mk (⟨#[101,49]⟩:my) 1 3 AH AH y) ⟨MJ,MJ⟩ ⟨MJ,MJ⟩;exact UZ (Ua (h2 _ _) (UW ⟨MJ,MJ⟩ ⟨MJ,MJ⟩)) (h2 _ _)
theorem UX(d:AF):∀r∈Z4E d,CP r.A/\CP r.B:=by
 unfold Z4E;exact UZ (Ua (YB d) (jG ⟨iF _,iF _⟩)) (YB d)
theorem UY(d:AF):(Z4E d).length<=5:=by
 unfold Z4E Z4p;cases decide ((AB (Z4o d) 2).1=1)<;>cases decide ((AB (AB (AB d 10).2 8).2 2).1=1)<;>simp
structure lR (b:AC):Prop where
 rul:XX b
 rull:b.Rules.length<=5
 cla:b.Classes.length<=1
 clan:∀ c∈b.Classes,c.Nets.length<=1
 wai:b.Waivers.length<=1
 mat:b.Matches.length<=1
 matn:∀ c∈b.Matches,c.Nets.length<=2
theorem jn(d:AF):(Z4J d).length<=1/\∀c∈Z4J d,c.Nets.length<=1:=by
 unfold Z4J;cases decide ((AB (Z4D d) 3).1=0)with
 |true=>exact⟨by simp,fun c hc=>by rw[mi]at hc;rw[List.mem_singleton.1 hc];exact lu 1⟩
 |false=>exact⟨by simp,fun c hc=>by cases hc⟩
theorem pW(d:AF)(b:AC):(Z4T d b).length<=1:=by
 unfold Z4T;cases decide ((AB (AB (Z4D d) 3).2 4).1=0)<;>simp
theorem qL{α:Type}{c:Bool}{a b:AC×α}(h:lR a.1)(k:lR b.1):lR (bif c then a else b).1:=by cases c<;>assumption
theorem xS(b:AC)(d:AF):lR (DW b d).1:=by
 unfold DW;have hc:=jn d;refine qL ⟨UX d,UY d,hc.1,hc.2,pW d b,?_,fun c h=>?_⟩ ⟨UX d,UY d,hc.1,hc.2,pW d b,?_,fun c h=>?_⟩
 ·exact lu 1
 ·rw[List.mem_singleton.1 h];exact lu 2
 ·exact lv 1
 cases h
theorem tD(l:List (List Int)):lR (AW l).1:=S8 l (fun x=>lR x.1) fun v x y z _ _ _ _ _ _=>xS _ _
theorem Kv{α:Type}[Inhabited α]{l:List α}{f:α->Nat}(hd:f default<=1000000)(h:∀x∈l,f x<=1000000)(k:Nat):((f (l.getD k default):Nat):Int)<=1000000:=by
 have:=ER (p:=fun x=>f x<=1000000) hd h k;omega
theorem xT(b:AC)(d:AF):(DW b d).1.Outline=b.Outline:=by
 unfold DW;cases decide ((AB (Z4S d b) 4).1=0)<;>rfl
theorem zI(l:List (List Int)):((AW l).1.Outline.Edges.length:Int)<=1000000:=by
 refine S8 l (fun x=>(x.1.Outline.Edges.length:Int)<=1000000) fun v x y z _ _ _ _ _ _=>?_;show((Z78 l v x y z).1.Outline.Edges.length:Int)<=1000000;unfold Z78;rw[xT];show((Z76 l v x y z).Outline.Edges.length:Int)<=1000000;unfold Z76;rw[(IW _ _ _).out];show((Z6q l).Edges.length:Int)<=1000000;unfold Z6q;cases decide ((AB (AF.mk (Ah l 2) 0) 3).1=0)with
 |true=>exact(by decide:((8:Nat):Int)<=1000000)
 |false=>exact(by decide:((4:Nat):Int)<=1000000)
theorem kN(l:List (List Int)):Ct (AW l).1:=by
 have h:=Wx l;have hr:=tD l;have h1:=h.parl;have h2:=h.trkl;have h3:=h.vial;have h4:=h.slotl;have h5:=h.poul;have h6:=h.keel;have r1:=hr.rull;have r2:=hr.cla;have r3:=hr.wai;have r4:=hr.mat;obtain⟨p,q,r,e,n1,n2,n3⟩:=h.net;refine⟨by omega,by rw[e];show((3:Nat):Int)<=1000000;decide,by omega,by omega,by omega,by omega,by omega,by omega,by omega,by omega,by omega,zI l,?_,?_,?_,?_,?_,?_,?_,hr.rul⟩
 ·refine Kv (f:=fun n:A7=>n.Pins.length) m4 fun n hn=>?_;rw[e]at hn;simp only[kg,lg,or_false]at hn;rcases hn with rfl|rfl|rfl<;>(simp only;omega)
 ·refine Kv (f:=fun t:AM=>t.Shape.Edges.length) m4 fun t ht=>?_;obtain⟨k,hk,_,hm⟩:=tV h.trk ht;obtain⟨a,c,d,_,_,e2⟩:=hm.edg;rw[e2];have:=P3 a c d;omega
 ·refine Kv (f:=fun t:A8=>t.Rects.length) m4 fun t ht=>?_;have:=h.pour t ht;unfold iW at this;omega
 ·refine Kv (f:=fun t:BA=>t.Shape.Edges.length) m4 fun t ht=>?_;have:=h.keep t ht;unfold iX at this;omega
 ·refine Kv (f:=fun t:AX=>t.Shape.Edges.length) m4 fun t ht=>?_;obtain⟨r,p,_,_,_,e2⟩:=h.slot t ht;rw[e2];show 1<=1000000;decide
 ·refine Kv (f:=fun t:BG=>t.Nets.length) m4 fun t ht=>?_;have:=hr.clan t ht;omega
 refine Kv (f:=fun t:BI=>t.Nets.length) m4 fun t ht=>?_;have:=hr.matn t ht;omega
theorem MY{P:AC->Prop}{c:Bool}{x y:AC}(h:P x)(k:P y):P (bif c then x else y):=by cases c<;>assumption
theorem S6{α:Type}[Inhabited α](l:List α):([]:List α)++(List.range' 0 (l.length-0)).map (fun(k:Nat)=>l.getD (k:Int).toNat default)=l:=by
 rw[kn,Nat.sub_zero];apply List.ext_getElem
 ·simp
 intro i h1 h2;simp[aE,ea h2]
theorem ZL(b:AC):AR b=b.Tracks:=by
 have h:=II b.Tracks.length (E4 b) _ (fun _ _ _=>rfl) (((b.Tracks.length:Int)-0).toNat+1) [] 0 mz;exact h.trans (S6 b.Tracks)
theorem dL(b:AC):BP b=b.Slots:=by
 have h:=II b.Slots.length (Ff b) _ (fun _ _ _=>rfl) (((b.Slots.length:Int)-0).toNat+1) [] 0 mz;exact h.trans (S6 b.Slots)
theorem lI(b:AC):A4 b=b.Nets:=by
 have h:=II b.Nets.length (GT b) _ (fun _ _ _=>rfl) (((b.Nets.length:Int)-0).toNat+1) [] 0 mz;exact h.trans (S6 b.Nets)
def LQ{α:Type}(p:α->Nat)(n:Nat)(v:List α):Prop:=v.length<n/\∀x∈v,(p x:Int)<=1000000
def eT(t:AM):Nat:=t.Shape.Edges.length
def eS(t:AX):Nat:=t.Shape.Edges.length
def eN(t:A7):Nat:=t.Pins.length
def eP(t:AD):Nat:=0
def eV(t:Ak):Nat:=0
theorem QT{α:Type}{p:α->Nat}{v:List α}{n:Nat}(h:LQ p n v){m:Nat}(k:n<=m):LQ p m v:=⟨lp h.1 k,h.2⟩
theorem L4{α:Type}{p:α->Nat}{n:Nat}(h:0<n):LQ p n ([]:List α):=⟨h,fun x hx=>by cases hx⟩
theorem tL{α:Type}[Inhabited α]{p:α->Nat}{v:List α}{n:Nat}(h:LQ p n v)(hd:p default=0)(k:Nat):(p (v.getD k default):Int)<=1000000:=ER (p:=fun x:α=>(p x:Int)<=1000000) (by rw[hd];decide) h.2 k
theorem W4{α:Type}{p:α->Nat}{v:List α}(h:LQ p 19 v)(k:Nat){x:α}(hx:(p x:Int)<=1000000):LQ p 20 (v.set k x):=by
 refine⟨by rw[kj];have:=h.1;omega,fun y hy=>?_⟩;rcases List.mem_or_eq_of_mem_set hy with hy|rfl
 ·exact h.2 y hy
 exact hx
theorem Nr{α:Type}{p:α->Nat}{n:Nat}{v:List α}(h:LQ p n v){x:α}(hx:(p x:Int)<=1000000):LQ p (n+1) (v++[x]):=by
 refine⟨by rw[d9];have:=h.1;simp only[j8,j9];omega,fun y hy=>?_⟩;rcases List.mem_append.1 hy with hy|hy
 ·exact h.2 y hy
 rw[List.mem_singleton.1 hy];exact hx
theorem ao{α:Type}{p:α->Nat}{n:Nat}{v:List α}(h:LQ p n v){m:Nat}(hm:n<=m)(k:Nat):LQ p m (v.take k):=⟨by rw[ki];have:=h.1;omega,fun y hy=>h.2 y (List.mem_of_mem_take hy)⟩
theorem tK{α:Type}{p:α->Nat}{v:List α}(h:LQ p 19 v){K:Int}(hK:0<=K):LQ p 20 (UF v ((Int.tmod K (v.length:Int)).toNat-(0:Int).toNat) (W64 (Int.tmod K (v.length:Int)+1)).toNat ((v.length:Int).toNat-(W64 (Int.tmod K (v.length:Int)+1)).toNat)):=by
 have h1:=h.1;refine⟨?_,fun y hy=>?_⟩
 ·rw[rQ];rcases Nat.eq_zero_or_pos v.length with h0|h0
  ·rw[h0];omega
  rw[ow hK mz mz];have:=tmb hK (n:=(v.length:Int)) mz;omega
 unfold UF at hy;rcases List.mem_append.1 hy with hy|hy
 ·exact h.2 y (List.mem_of_mem_take hy)
 exact h.2 y (List.mem_of_mem_drop (List.mem_of_mem_take hy))
theorem QQ(n:Int):((DP n).Edges.length:Int)<=1000000:=by
 have hb:∀ {c:Bool} {x y:AQ},(x.Edges.length:Int)<=1000000->(y.Edges.length:Int)<=1000000->((bif c then x else y).Edges.length:Int)<=1000000:=fun {c x y} h k=>by cases c<;>assumption
 unfold DP;refine hb ?_ (hb ?_ (hb ?_ (hb ?_ (hb ?_ ?_))))
 ·show((0:Nat):Int)<=1000000;decide
 ·show((1:Nat):Int)<=1000000;decide
 ·show((4:Nat):Int)<=1000000;decide
 ·show((1:Nat):Int)<=1000000;decide
 ·show((1:Nat):Int)<=1000000;decide
 show((1:Nat):Int)<=1000000;decide
structure Q5 (n:Nat) (b:AC):Prop where
 par:LQ eP n b.Parts
 trk:LQ eT n b.Tracks
 via:LQ eV n b.Vias
 slt:LQ eS n b.Slots
 net:LQ eN n b.Nets
theorem wB{b:AC}(h:Q5 20 b):Fg b:=⟨h.par.1,h.trk.1,h.via.1,h.slt.1,by have:=h.net.1;omega,h.net.2,h.trk.2,h.slt.2⟩
theorem MG(n:Nat)(h:0<n):Q5 n default:=⟨L4 h,L4 h,L4 h,L4 h,L4 h⟩
theorem TB{a c e:A7}(ha:(eN a:Int)<=1000000)(hc:(eN c:Int)<=1000000)(he:(eN e:Int)<=1000000):LQ eN 20 [a,c,e]:=by
 refine⟨by show 3<20;decide,fun n hn=>?_⟩;simp only[kg,lg,or_false]at hn;rcases hn with rfl|rfl|rfl<;>assumption
theorem sH(b:AC)(q:jz)(h:∀v,Q5 20 { Cx b with Keeps:=v }):∀(n:Nat) (v:List BA) (k:Int),Q5 20 (Gc b q n v k)
 |0,_,_=>MG 20 m4
 |n+1,v,k=>by
  unfold Gc;exact MY (sH b q h n _ _) (h _)
set_option maxHeartbeats 4000000 in
theorem kD(b:AC)(q:jz)(h:Q5 19 b)(hp:∀k,((b.Nets.getD k default).Pins.length:Int)<=999999):Q5 20 (Gb b q):=by
 have hK:=(LJ q.e2 64 m4 m4).1;have hT:LQ eT 19 (AR b):=by rw[ZL];exact h.trk
 have hS:LQ eS 19 (BP b):=by rw[dL];exact h.slt
 have hN:LQ eN 19 (A4 b):=by rw[lI];exact h.net
 have p20:=QT h.par (show 19<=20 by decide);have pk:=QT h.via (show 19<=20 by decide);have t20:=QT hT (show 19<=20 by decide);have s20:=QT hS (show 19<=20 by decide);have n20:=QT hN (show 19<=20 by decide);have hl:=sH b q fun v=>⟨p20,t20,pk,s20,n20⟩;have hm:=fun k=>tL h.net rfl k;have hp2:∀k (x:my) (p:Ab),(eN (A7.mk x ((b.Nets.getD k default).Pins++[p])):Int)<=1000000:=fun k x p=>by
  have:=hp k;show(((b.Nets.getD k default).Pins++[p]).length:Int)<=1000000;rw[d9];simp only[j8,j9];omega
 have z:((0:Nat):Int)<=1000000:=by decide
 have o:((1:Nat):Int)<=1000000:=by decide
 have hP1:∀k x,LQ eP 20 (b.Parts.set k x):=fun k x=>W4 h.par k z;have hP2:=tK h.par hK;have hT1:∀k j a n l,LQ eT 20 ((AR b).set k (AM.mk a n l ((AR b).getD j default).Shape)):=fun k j a n l=>W4 hT k (tL hT rfl j);have hT2:∀a n l m,LQ eT 20 (AR b++[AM.mk a n l (DP m)]):=fun a n l m=>Nr hT (QQ m);have hT3:=tK hT hK;have hV1:∀k x,LQ eV 20 (b.Vias.set k x):=fun k x=>W4 h.via k z;have hV2:∀x,LQ eV 20 (b.Vias++[x]):=fun x=>Nr h.via z;have hS2:∀a m,LQ eS 20 (BP b++[AX.mk a (DP m)]):=fun a m=>Nr hS (QQ m);have hN1:∀k j x,LQ eN 20 ((A4 b).set k (A7.mk x ((A4 b).getD j default).Pins)):=fun k j x=>W4 hN k (tL hN rfl j);have hN2:∀x p,LQ eN 20 (A4 b++[A7.mk x [p]]):=fun x p=>Nr hN o;have hN3:∀k,LQ eN 20 ((A4 b).take k):=fun k=>ao hN m4 k;have hN4:=fun x p=>TB (hp2 0 x p) (hm 1) (hm 2);have hN5:=fun x p=>TB (hm 0) (hp2 1 x p) (hm 2);have hN6:=fun x p=>TB (hm 0) (hm 1) (hp2 2 x p);unfold Gb Qr N7 QJ QK CG;generalize Gc b q=F0 at hl ⊢
 repeat' (refine MY (P:=Q5 20) ?_ ?_)
 all_goals try dsimp only[Cx]
 all_goals first
  |with_reducible exact hl _ _ _
  |with_reducible exact⟨p20,t20,pk,s20,n20⟩
  |with_reducible exact⟨hP1 _ _,t20,pk,s20,n20⟩
  |with_reducible exact⟨hP2,t20,pk,s20,n20⟩
  |with_reducible exact⟨p20,hT1 _ _ _ _ _,pk,s20,n20⟩
  |with_reducible exact⟨p20,hT2 _ _ _ _,pk,s20,n20⟩
  |with_reducible exact⟨p20,hT3,pk,s20,n20⟩
  |with_reducible exact⟨p20,t20,hV1 _ _,s20,n20⟩
  |with_reducible exact⟨p20,t20,hV2 _,s20,n20⟩
  |with_reducible exact⟨p20,t20,pk,hS2 _ _,n20⟩
  |with_reducible exact⟨p20,t20,pk,s20,hN1 _ _ _⟩
  |with_reducible exact⟨p20,t20,pk,s20,hN2 _ _⟩
  |with_reducible exact⟨p20,t20,pk,s20,hN3 _⟩
  |with_reducible exact⟨p20,t20,pk,s20,hN4 _ _⟩
  |with_reducible exact⟨p20,t20,pk,s20,hN5 _ _⟩
  |with_reducible exact⟨p20,t20,pk,s20,hN6 _ _⟩
theorem kO(l:List (List Int)):Q5 19 (AW l).1:=by
 have h:=S9 l;have hq:=Wx l;have h1:=hq.parl;have h2:=hq.trkl;have h3:=hq.vial;have h4:=hq.slotl;have z:((0:Nat):Int)<=1000000:=by decide
 obtain⟨p,q,r,e,_⟩:=hq.net;exact⟨⟨by omega,fun _ _=>z⟩,⟨by omega,h.ted⟩,⟨by omega,fun _ _=>z⟩,⟨by omega,h.sed⟩,⟨by rw[e];show 3<19;decide,h.pins⟩⟩
theorem Yb(l:List (List Int))(q:jz):Fg (Gb (AW l).1 q):=by
 refine wB (kD _ q (kO l) fun k=>?_);obtain⟨a,c,r,e,h1,h2,h3⟩:=(Wx l).net;rw[e];refine ER (p:=fun n:A7=>(n.Pins.length:Int)<=999999) m4 (fun n hn=>?_) k;simp only[kg,lg,or_false]at hn;rcases hn with rfl|rfl|rfl
 ·show(a.length:Int)<=999999;omega
 ·show(c.length:Int)<=999999;omega
 show(r.length:Int)<=999999;omega
theorem tC(l:List (List Int)):((AW l).1.Pours.length:Int)<=2:=(tF l).pou
theorem cR(l:List (List Int)):((AW l).1.Nets.length:Int)=3:=by
 obtain⟨p,q,r,h⟩:=(tF l).net;rw[h];rfl
theorem vF(b:AC)(x0:List A7)(k0:Int)(v:List AM)(k1:Int)(x2:List AX)(k2:Int)(K0:List A7->Int->AC)(K1:List AM->Int->AC)(K2:List AX->Int->AC)(hx:LQ eN 20 x0)(hv:LQ eT 20 v)(h2:LQ eS 20 x2):∀(n:Nat) (x:List BA) (k:Int),Q5 20 (Hc b x0 k0 v k1 x2 k2 K0 K1 K2 n x k)
 |0,_,_=>MG 20 m4
 |n+1,x,k=>by
  unfold Hc;refine MY (vF b x0 k0 v k1 x2 k2 K0 K1 K2 hx hv h2 n _ _) ⟨⟨?_,fun _ _=>by show((0:Nat):Int)<=1000000;decide⟩,hv,⟨?_,fun _ _=>by show((0:Nat):Int)<=1000000;decide⟩,h2,hx⟩
  ·show(b.Parts.take (min (b.Parts.length:Int) 4:Int).toNat).length<20;rw[ki];omega
  show(b.Vias.take (min (b.Vias.length:Int) 4:Int).toNat).length<20;rw[ki];omega
theorem dt(l:List AK):((l.take (min (l.length:Int) 4:Int).toNat).length:Int)<=1000000:=by rw[ki];omega
theorem vG(b:AC)(x0:List A7)(k0:Int)(v:List AM)(k1:Int)(K0:List A7->Int->AC)(K1:List AM->Int->AC)(hx:LQ eN 20 x0)(hv:LQ eT 20 v):∀(n m:Nat) (x:List AX) (k:Int),LQ eS m x->m+n<=20->Q5 20 (Fv b x0 k0 v k1 K0 K1 n x k)
 |0,_,_,_,_,_=>MG 20 m4
 |n+1,m,x,k,h,hm=>by
  unfold Fv;exact MY (vG b x0 k0 v k1 K0 K1 hx hv n (m+1) _ _ (Nr h (dt _)) mz) (vF b x0 k0 v k1 x k K0 K1 _ hx hv (QT h mz) _ _ _)
theorem vH(b:AC)(x0:List A7)(k0:Int)(K0:List A7->Int->AC)(hx:LQ eN 20 x0):∀(n m:Nat) (v:List AM) (k:Int),LQ eT m v->m+n<=20->Q5 20 (Eu b x0 k0 K0 n v k)
 |0,_,_,_,_,_=>MG 20 m4
 |n+1,m,v,k,h,hm=>by
  unfold Eu;exact MY (vH b x0 k0 K0 hx n (m+1) _ _ (Nr h (dt _)) mz) (vG b x0 k0 v k K0 _ hx (QT h mz) _ 1 _ _ (L4 m4) m4)
theorem vI(b:AC):∀(n m:Nat) (v:List A7) (k:Int),LQ eN m v->m+n<=20->Q5 20 (Db b n v k)
 |0,_,_,_,_,_=>MG 20 m4
 |n+1,m,v,k,h,hm=>by
  unfold Db;exact MY (vI b n (m+1) _ _ (Nr h (by
   show(((b.Nets.getD k.toNat default).Pins.take (min ((b.Nets.getD k.toNat default).Pins.length:Int) 5:Int).toNat).length:Int)<=1000000;rw[ki];omega)) mz) (vH b v k _ (QT h mz) _ 1 _ _ (L4 m4) m4)
theorem iC(b:AC):Fg (Bg b):=wB (vI b _ 1 _ _ (L4 m4) m4)
theorem vZ{b:AC}(h:Fg b):(b.Tracks.length:Int)<=1000000:=by have:=h.tracks;omega
theorem vY{b:AC}(h:Fg b):(b.Vias.length:Int)<=1000000:=by have:=h.vias;omega
theorem wA{b:AC}(h:Fg b):(b.Slots.length:Int)<=1000000:=by have:=h.slots;omega
theorem Tj{b:AC}{m9:List AN}(hb:Fg b)(ht:B7 m9):((GG b m9).length:Int)<=1000000000:=by
 have h1:=HJ hb.parts ht;have h2:=hb.tracks;have h3:=hb.vias;rw[Xg];simp only[d9,ke,QI,Qn,Mp];omega
theorem XV{b:AC}{m9:List AN}(hb:Fg b)(ht:B7 m9)(k:Nat):(((GG b m9).getD k default).Shape.Edges.length:Int)<=1000000:=by
 refine ER (p:=fun x:AV=>(x.Shape.Edges.length:Int)<=1000000) m4 (fun x hx=>?_) k;rw[Xg,T4]at hx;rcases List.mem_append.1 hx with hx|hx
 ·rcases List.mem_append.1 hx with hx|hx
  ·obtain⟨y,hy,rfl⟩:=List.mem_map.1 hx;show((Ha y.2.Shape _).Edges.length:Int)<=_;rw[kL];obtain⟨i,hi,rfl⟩:=List.getElem_of_mem hy;have:=Uc (b:=b) ht i;rw[aE,ea hi]at this;exact this
  obtain⟨y,hy,rfl⟩:=List.mem_map.1 hx;exact hb.ted y (Qm.1 hy)
 obtain⟨y,hy,rfl⟩:=List.mem_map.1 hx;show((1:Nat):Int)<=1000000;decide
theorem jm(x y:Int):decide (Dk x y<0)=decide (x<y):=by
 unfold Dk Jr
 by_cases h:x<y<;>by_cases k:y<x<;>simp[h,k]
theorem WY{α:Type}[Inhabited α](f:α->Int)(l:List α):CY (fun x y=>decide (f x<f y)) l=CY (fun x y=>decide (Dk (f x) (f y)<0)) l:=by
 congr 1;funext x y;exact(jm _ _).symm
theorem jB(b:AC)(h:(b.Tracks.length:Int)<=1000000):BS b=Bv b:=by rw[MN b h,N5];exact WY (fun t:AM=>t.Id) _
theorem eX(b:AC)(h:(b.Vias.length:Int)<=1000000):BD b=BL b:=by rw[VN b h,ZX];exact WY (fun t:Ak=>t.Id) _
theorem rJ(b:AC)(h:(b.Parts.length:Int)<=1000000):Bo b=Bd b:=by rw[Tt b h,QF];exact WY (fun t:AD=>t.Id) _
theorem qG(b:AC)(h:(b.Slots.length:Int)<=1000000):Cc b=CO b:=by rw[N6 b h,QE];exact WY (fun t:AX=>t.Id) _
theorem ZT{b:AC}(m9:List AN)(h:Fg b):G8 b m9=GG b m9:=by
 have h1:=h.tracks;have h2:=h.vias;rw[xE,Xg,T5,jB b mz,eX b mz];rfl
theorem TG{b:AC}(m9:List AN)(h:Fg b):C4 b m9=DA b m9:=by
 have p1:=h.parts;have p2:=h.vias;have p3:=h.slots;have eP:=rJ b mz;have eV:=eX b mz;have eS:=qG b mz;rw[QN];have h3:∀o v o' w K0 K1,Fd b m9 o v o' w K0 K1 ((((Cc b).length:Int)-0).toNat+1) o' 0=o'++(CO b).map (Lz b):=fun o v o' w K0 K1=>by
  have:=F7 (Cc b) (fun acc s=>acc++[Lz b s]) (Fd b m9 o v o' w K0 K1) (fun acc _=>acc) (fun m acc v=>by rw[Fd];unfold Z7N;rw[l9];rfl) (Cc b).length 0 ((((Cc b).length:Int)-0).toNat+1) o' rfl (lv _) mz;rw[km,En]at this;rw[<- eS];exact this
 have h2:∀o v K0,Eb b m9 o v K0 ((((BD b).length:Int)-0).toNat+1) o 0=o++(BL b).map aY++(CO b).map (Lz b):=fun o v K0=>by
  have:=F7 (BD b) (fun acc v=>acc++[aY v]) (Eb b m9 o v K0) (fun acc _=>acc++(CO b).map (Lz b)) (fun m acc w=>by rw[Eb,h3];unfold Z7I;rw[l9];rfl) (BD b).length 0 ((((BD b).length:Int)-0).toNat+1) o rfl (lv _) mz;rw[km,En]at this;rw[<- eV];exact this
 have h1:∀(o:List Ad) (k:Nat) K0,Fe b m9 o (k:Int) K0 ((((Z7y m9 b k).Pads.length:Int)-0).toNat+1) o 0=K0 (o++((El m9 ((Bo b).getD k default)).filter drl).map (Wl b)) ((k:Int)+1):=fun o k K0=>by
  generalize hp:(Bo b).getD k default=p;have hw:Z7y m9 b k=(CM m9 p.Type').1:=by unfold Z7y;rw[l9,hp,Ij]
  have:=F7 (CM m9 p.Type').1.Pads (fun acc q=>bif drl (p,q)then acc++[Wl b (p,q)]else acc) (Fe b m9 o (k:Int) K0) (fun acc _=>K0 acc ((k:Int)+1)) (fun m acc w=>by
   rw[Fe];unfold Z7E Z7D Z7C Z7B;rw[hw,l9,l9,hp,Ij,<- EL];cases hk:(CM m9 p.Type').2 with
   |true =>
    cases decide ((w:Int)<((CM m9 p.Type').1.Pads.length:Int))<;>rfl
   |false =>
    rw[uK hk,lk (by simp only[j9];omega)];rfl) (CM m9 p.Type').1.Pads.length 0 ((((Z7y m9 b k).Pads.length:Int)-0).toNat+1) o rfl (lv _) (by rw[hw];omega)
  rw[km,Nv drl (Wl b) (fun q=>(p,q))]at this;exact this
 have:=F7 (Bo b) (fun acc p=>acc++((El m9 p).filter drl).map (Wl b)) (Dy b m9) (fun acc _=>acc++(BL b).map aY++(CO b).map (Lz b)) (fun m acc v=>by rw[Dy,h1,h2]) (Bo b).length 0 ((((Bo b).length:Int)-0).toNat+1) [] rfl (lv _) mz;rw[km,MC,kn,eP]at this;rw[List.filter_flatMap,List.map_flatMap,<- this];unfold C4;rw[eP];rfl
theorem Nt{b:AC}{m9:List AN}(hb:Fg b)(ht:B7 m9):((DA b m9).length:Int)<=1000000000:=by
 have h1:=HJ hb.parts ht;have h2:=hb.vias;have h3:=hb.slots;have h4:((((Bd b).flatMap (El m9)).filter drl).length:Int)<=20000000:=by
  have:=List.length_filter_le drl ((Bd b).flatMap (El m9));have e:(Bd b).flatMap (El m9)=BT b m9:=by
   unfold BT;rw[QF,Ze];rfl
  rw[e]at this ⊢;omega
 rw[QN];simp only[d9,ke,Tr,Mp];omega
theorem OZ{b:AC}(m9:List AN)(hb:Fg b)(k:Nat):(((DA b m9).getD k default).Shape.Edges.length:Int)<=1000000:=by
 refine ER (p:=fun x:Ad=>(x.Shape.Edges.length:Int)<=1000000) m4 (fun x hx=>?_) k;rw[QN]at hx;rcases List.mem_append.1 hx with hx|hx
 ·rcases List.mem_append.1 hx with hx|hx
  ·obtain⟨y,hy,rfl⟩:=List.mem_map.1 hx;show((1:Nat):Int)<=1000000;decide
  obtain⟨y,hy,rfl⟩:=List.mem_map.1 hx;show((1:Nat):Int)<=1000000;decide
 obtain⟨y,hy,rfl⟩:=List.mem_map.1 hx;exact hb.sed y (Tq.1 hy)
theorem XW{b:AC}{m9:List AN}(hb:Fg b)(ht:B7 m9)(k:Nat):(((G8 b m9).getD k default).Shape.Edges.length:Int)<=1000000:=by rw[ZT m9 hb];exact XV hb ht k
theorem Pw{b:AC}(m9:List AN)(hb:Fg b)(k:Nat):(((C4 b m9).getD k default).Shape.Edges.length:Int)<=1000000:=by rw[TG m9 hb];exact OZ m9 hb k
def I4(b:AC)(m9:(List AN)):CT:=(18,[.agg (CE b),.one (FT m9)],.val [] (.av (.one (lst 6 Ad.c (C4 b m9)))))
theorem Po(b:AC)(m9:(List AN))(hp:b.Parts.length<20)(ht:B7 m9)(hq3:(b.Slots.length:Int)<=1000000)(hq4:(b.Vias.length:Int)<=1000000)(hse:∀t∈b.Slots,(t.Shape.Edges.length:Int)<=1000000):OKc (I4 b m9):=cPu<|Iu (yF b m9 hp ht hq3 hq4 hse)
def O0(a:AV)(b:AV):Bool:=bif bif bif bif bif bif decide ((a.Id:Int)=b.Id)then(a.Pad.toList==b.Pad.toList)else false then decide ((a.Kind:Int)=b.Kind)else false then(a.Net.toList==b.Net.toList)else false then decide ((a.From:Int)=b.From)else false then decide ((a.To:Int)=b.To)else false then Js a.Shape b.Shape else false
def iN(a:AV)(b:AV):CT:=(50,[.agg (AV.c a),.agg (AV.c b)],.val [] (.av (.one (.b (O0 a b)))))
theorem zC(a:AV)(b:AV)(h0:(a.Shape.Edges.length:Int)<=1000000)(h1:(b.Shape.Edges.length:Int)<=1000000):PuP 50 (iN a b).2.1 (tO (.b (O0 a b))):=by
 refine pwf Tryz.func50 fun W0 M0=>?_;exact AA<|on<|AA<|oc [(50,P7 a.Shape b.Shape)] (t5 (decide ((a.Id:Int)=b.Id)) (t5 (bif decide ((a.Id:Int)=b.Id)then(WD a b)else false) (t5 (nE a b) (t5 (oR a b) (t5 (pI a b) (t4 (UN a b) [gk (UN a b) (Cp (P7 a.Shape b.Shape).2.1),gt (UN a b)])))))) (.cons (fY a.Shape b.Shape au15 au15) .nil) (c5 (c5 (c5 (c5 (c5 (c4 (.cons (fun _=>rfl) (ci .nil))))))))<|AE<|AO<|zl
theorem sD(a:AV)(b:AV)(h0:(a.Shape.Edges.length:Int)<=1000000)(h1:(b.Shape.Edges.length:Int)<=1000000):OKc (iN a b):=cPu<|zC a b h0 h1
def Zds(a:(List AV))(k:Int)(b:(List AV)):Bool:=O0 (a.getD k.toNat default) (b.getD k.toNat default)
def Ex(a:(List AV))(b:(List AV)):Nat->Int->Bool
 |0,_=>default
 |n0+1,k=>bif decide ((k:Int)<(a.length:Int))then(bif !(Zds a k b)then false else((Ex a b n0) (k+1)))else true
def Fb(a:(List AV))(b:(List AV)):Bool:=bif !decide (((a.length:Int):Int)=(b.length:Int))then false else(Ex a b (((a.length:Int)-0).toNat+1) 0)
def Hs(a:(List AV))(b:(List AV)):CT:=(13,[.one (lst 9 AV.c a),.one (lst 9 AV.c b)],.val [] (.av (.one (.b (Fb a b)))))
theorem rM(a:(List AV))(b:(List AV))(h0:(a.length:Int)<=1000000000)(ha:∀k,(((a.getD k default).Shape.Edges.length:Int)<=1000000))(hbb:∀k,(((b.getD k default).Shape.Edges.length:Int)<=1000000)):PuP 13 (Hs a b).2.1 (tO (.b (Fb a b))):=by
 refine pwf Tryz.func13 fun W0 M0=>?_;refine AA<|on<|AA<|AA<|on<|kb (!decide (((a.length:Int):Int)=(b.length:Int))) (fun h1=>?_) (fun h1=>?_)
 ·have g1:=B8 h1;exact AA<|on<|AO<|Bf<|zl (by simp only[Fb,h1,mi,mj]<;>kernel_rfl)
 have g1:=B3 h1;refine AP<|AE<|AA<|AA<|rn ⟨[(0,tO (lst 9 AV.c a)),(1,tO (lst 9 AV.c b)),(5,tI 0)],[]⟩<|AJ<|lpC (κ:=Int) (fun x=>⟨[(0,tO (lst 9 AV.c a)),(1,tO (lst 9 AV.c b)),(5,tI x.2)],[]⟩) (fun x=>((a.length:Int)-x.2).toNat) (fun x=>(0<=x.2/\(x.2<=(a.length:Int)\/x.2=0))/\Ex a b x.1 x.2=Fb a b) ?_ (((a.length:Int)-0).toNat+1,0) ⟨lz _,⟨ax0,ax0⟩,(by simp only[Fb,h1,mi,mj])⟩;rintro n0 k nq ⟨nm,ng⟩
 try dsimp only at nq nm ng
 refine AA<|AA<|on<|kb (decide ((k:Int)<(a.length:Int))) (fun h2=>?_) (fun h2=>?_)
 ·have g2:=oT h2;refine AP<|AE<|AA<|AJ<|AA<|oe [] _ [0<=(k:Int)/\(k:Int)<(a.length:Int),0<=(k:Int)/\(k:Int)<(b.length:Int),none] (J1 25 (sD (m7 a k) (m7 b k) (by first|(exact ha _)|(exact hbb _)|with_reducible assumption|omega|decide|(simp only[j8,j9,d9];omega)|assumption) (by first|(exact ha _)|(exact hbb _)|with_reducible assumption|omega|decide|(simp only[j8,j9,d9];omega)|assumption))) (H2 au0 au0)<|AE<|kb (!(Zds a k b)) (fun h3=>?_) (fun h3=>?_)
  ·exact AA<|on<|AO<|Cm<|Bf<|Bf<|Cm<|Bf<|zl (by rw[<- ng];simp only[Ex,h2,h3,mi,mj]<;>kernel_rfl)
  refine AP<|Ao<|AE<|rg ⟨[(0,tO (lst 9 AV.c a)),(1,tO (lst 9 AV.c b)),(5,tI (W64 (k+1)))],[]⟩ ?_
  (try rw[(show W64 (k+1)=k+1 from Ae oM au5)])
  refine AE ?_;refine⟨(n0,k+1),⟨?_,?_,(by rw[<- ng];simp only[Ex,h2,h3,mi,mj])⟩,lz _,Az kr⟩
  ·dsimp only;omega
  exact⟨ax0,ax0⟩
 exact Aw<|Aj<|Aj<|Ay<|AE<|AA<|on<|AO<|zl (by rw[<- ng];simp only[Ex,h2,mi,mj]<;>kernel_rfl)
theorem Pn(a:(List AV))(b:(List AV))(h0:(a.length:Int)<=1000000000)(ha:∀k,(((a.getD k default).Shape.Edges.length:Int)<=1000000))(hbb:∀k,(((b.getD k default).Shape.Edges.length:Int)<=1000000)):OKc (Hs a b):=cPu<|rM a b h0 ha hbb
section
open Go.RowKit
variable (c:KI)(raw:AC)
abbrev Nc:=lst 3 AN.c (AW c.Board).2
def Zdu:Tv:=.av (.one (Nc c))
abbrev Dm:=Gb (AW c.Board).1 c.Odd
def Zdv:Tv:=.av (.one (.list true 15 3 (A9 15 3 [.i (AW c.Board).1.Layers,.i (AW c.Board).1.Outline.Kind,lst 7 AK.c (AW c.Board).1.Outline.Edges,.i (AW c.Board).1.Outline.R,lst 7 AD.c (AW c.Board).1.Parts,lst 2 A7.c (AW c.Board).1.Nets,lst 6 AM.c (AW c.Board).1.Tracks,lst 8 Ak.c (AW c.Board).1.Vias,lst 8 A8.c (AW c.Board).1.Pours,lst 5 BA.c (AW c.Board).1.Keeps,lst 4 AX.c (AW c.Board).1.Slots,lst 2 BG.c (AW c.Board).1.Classes,lst 20 A5.c (AW c.Board).1.Rules,lst 3 As.c (AW c.Board).1.Waivers,lst 3 BI.c (AW c.Board).1.Matches,.i (Dm c).Layers,.i (Dm c).Outline.Kind,lst 7 AK.c (Dm c).Outline.Edges,.i (Dm c).Outline.R,lst 7 AD.c (Dm c).Parts,lst 2 A7.c (Dm c).Nets,lst 6 AM.c (Dm c).Tracks,lst 8 Ak.c (Dm c).Vias,lst 8 A8.c (Dm c).Pours,lst 5 BA.c (Dm c).Keeps,lst 4 AX.c (Dm c).Slots,lst 2 BG.c (Dm c).Classes,lst 20 A5.c (Dm c).Rules,lst 3 As.c (Dm c).Waivers,lst 3 BI.c (Dm c).Matches,.i (Bg raw).Layers,.i (Bg raw).Outline.Kind,lst 7 AK.c (Bg raw).Outline.Edges,.i (Bg raw).Outline.R,lst 7 AD.c (Bg raw).Parts,lst 2 A7.c (Bg raw).Nets,lst 6 AM.c (Bg raw).Tracks,lst 8 Ak.c (Bg raw).Vias,lst 8 A8.c (Bg raw).Pours,lst 5 BA.c (Bg raw).Keeps,lst 4 AX.c (Bg raw).Slots,lst 2 BG.c (Bg raw).Classes,lst 20 A5.c (Bg raw).Rules,lst 3 As.c (Bg raw).Waivers,lst 3 BI.c (Bg raw).Matches])))
def Zdw:(List AV):=GG (AW c.Board).1 (AW c.Board).2
def Zdx:(List AV):=G8 (AW c.Board).1 (AW c.Board).2
def Zdy:Bool:=!(Fb (Zdw c) (Zdx c))
def Zdz:Bool:=bif Zdy c then true else !(Du (DA (AW c.Board).1 (AW c.Board).2) (C4 (AW c.Board).1 (AW c.Board).2))
def ZdA:(List AV):=GG (Gb (AW c.Board).1 c.Odd) (AW c.Board).2
def ZdB:(List AV):=G8 (Gb (AW c.Board).1 c.Odd) (AW c.Board).2
def ZdC:Bool:=!(Fb (ZdA c) (ZdB c))
def ZdD:Bool:=bif ZdC c then true else !(Du (DA (Gb (AW c.Board).1 c.Odd) (AW c.Board).2) (C4 (Gb (AW c.Board).1 c.Odd) (AW c.Board).2))
def ZdE(raw:AC)(c:KI):Bool:=Fb (GG (Bg raw) (AW c.Board).2) (G8 (Bg raw) (AW c.Board).2)
def ZdF(raw:AC)(c:KI):Bool:=bif !(ZdE raw c)then true else !(Du (DA (Bg raw) (AW c.Board).2) (C4 (Bg raw) (AW c.Board).2))
def Gd(c:KI)(raw:AC):Bool:=bif Zdz c then false else(bif ZdD c then false else(bif ZdF raw c then false else FH))
def lM:CT:=(3,[.agg (KI.c c),.agg ([.i raw.Layers,.i raw.Outline.Kind,lst 7 AK.c raw.Outline.Edges,.i raw.Outline.R,lst 7 AD.c raw.Parts,lst 2 A7.c raw.Nets,lst 6 AM.c raw.Tracks,lst 8 Ak.c raw.Vias,lst 8 A8.c raw.Pours,lst 5 BA.c raw.Keeps,lst 4 AX.c raw.Slots,lst 2 BG.c raw.Classes,.any,lst 3 As.c raw.Waivers,lst 3 BI.c raw.Matches])],.val [] (.av (.one (.b (Gd c raw)))))
abbrev Vy:List Av:=[.agg (AC.c (AW c.Board).1),.one (Nc c)]
abbrev Vs:List Av:=[.agg (AC.c (Dm c)),.one (Nc c)]
theorem au3{p:Prop}(h:p:=by first|(with_reducible exact hT)|(with_reducible exact S7 _)|(with_reducible exact kN _)|(with_reducible exact cR _)|(with_reducible exact tC _)|(with_reducible exact hB1)|(with_reducible exact hB1.parts)|(with_reducible exact hB1.nets)|(with_reducible exact hB1.pins)|(with_reducible exact hB1.ted)|(with_reducible exact hB1.sed)|(with_reducible exact vZ hB1)|(with_reducible exact vY hB1)|(with_reducible exact wA hB1)|(with_reducible exact hL1)|(with_reducible exact hM1)|(with_reducible exact hE1)|(with_reducible exact np)|(with_reducible exact hG1)|(with_reducible exact hH1)|(with_reducible exact hB2)|(with_reducible exact hB2.parts)|(with_reducible exact hB2.nets)|(with_reducible exact hB2.pins)|(with_reducible exact hB2.ted)|(with_reducible exact hB2.sed)|(with_reducible exact vZ hB2)|(with_reducible exact vY hB2)|(with_reducible exact wA hB2)|(with_reducible exact hL2)|(with_reducible exact hM2)|(with_reducible exact hE2)|(with_reducible exact oy)|(with_reducible exact hG2)|(with_reducible exact hH2)|(with_reducible exact hB3)|(with_reducible exact hB3.parts)|(with_reducible exact hB3.nets)|(with_reducible exact hB3.pins)|(with_reducible exact hB3.ted)|(with_reducible exact hB3.sed)|(with_reducible exact vZ hB3)|(with_reducible exact vY hB3)|(with_reducible exact wA hB3)|(with_reducible exact hL3)|(with_reducible exact hM3)|(with_reducible exact hE3)|(with_reducible exact ph)|(with_reducible exact hG3)|(with_reducible exact hH3)|with_reducible assumption|omega|decide|(simp only[j8,j9,d9];omega)|assumption):p:=h
set_option maxHeartbeats 40000000 in
theorem jX(c:KI)(raw:AC)(hcb:(c.Board.length:Int)<=9223372036854775807)(hll:∀x∈c.Board,(x.length:Int)<=9223372036854775807):PuP 3 (lM c raw).2.1 (tO (.b (Gd c raw))):=by
 refine pwf Tryz.func3 fun W0 M0=>?_;have hT:=S7 c.Board;have hB1:=S9 c.Board;have hB2:=Yb c.Board c.Odd;have hB3:=iC raw;have hL1:((Zdw c).length:Int)<=1000000000:=Tj hB1 hT;have hM1:=Nt hB1 hT;have hE1:∀k,(((Zdw c).getD k default).Shape.Edges.length:Int)<=1000000:=XV hB1 hT;have np:∀k,(((Zdx c).getD k default).Shape.Edges.length:Int)<=1000000:=XW hB1 hT;have hG1:=OZ (AW c.Board).2 hB1;have hH1:=Pw (AW c.Board).2 hB1;have hL2:((ZdA c).length:Int)<=1000000000:=Tj hB2 hT;have hM2:=Nt hB2 hT;have hE2:∀k,(((ZdA c).getD k default).Shape.Edges.length:Int)<=1000000:=XV hB2 hT;have oy:∀k,(((ZdB c).getD k default).Shape.Edges.length:Int)<=1000000:=XW hB2 hT;have hG2:=OZ (AW c.Board).2 hB2;have hH2:=Pw (AW c.Board).2 hB2;have hL3:((GG (Bg raw) (AW c.Board).2).length:Int)<=1000000000:=Tj hB3 hT;have hM3:=Nt hB3 hT;have hE3:∀k,(((GG (Bg raw) (AW c.Board).2).getD k default).Shape.Edges.length:Int)<=1000000:=XV hB3 hT;have ph:∀k,(((G8 (Bg raw) (AW c.Board).2).getD k default).Shape.Edges.length:Int)<=1000000:=XW hB3 hT;have hG3:=OZ (AW c.Board).2 hB3;have hH3:=Pw (AW c.Board).2 hB3;refine AA<|on<|AA<|oq 10 _ cI<|AE<|AA<|oq 14 _ (sG c.Board au3 au3)<|AE<|AA<|AA<|dO [] _ [none,none] ⟨[(5,tB FH),(7,Zdu c),(24,Zdv c raw),(25,tI 3),(26,tI 0)],[]⟩ (J2 21 23 (il (AW c.Board).1 c.Odd au3 au3 au3) (zS raw)) .nil<|AE<|AJ<|Dq 4<|Bs<|AA<|on<|AA<|CN kr<|AP<|AE<|AA<|AJ<|AA<|oc [] [0<=(0:Int)/\(0:Int)<((3:Nat):Int)] .nil (H1 au0)<|AE<|AA ?_
 refine od [] [(32,Th (AW c.Board).1 (AW c.Board).2),(35,ceI (Vy c) (N1 (AW c.Board).1 (AW c.Board).2)),(36,Hs (Zdw c) (Zdx c)),(41,IY (AW c.Board).1 (AW c.Board).2),(44,ceI (Vy c) (I4 (AW c.Board).1 (AW c.Board).2)),(45,EZ (DA (AW c.Board).1 (AW c.Board).2) (C4 (AW c.Board).1 (AW c.Board).2))] [Cp (Th (AW c.Board).1 (AW c.Board).2).2.1,Cp (ceI (Vy c) (N1 (AW c.Board).1 (AW c.Board).2)).2.1,Cp (Hs (Zdw c) (Zdx c)).2.1,gp ((Zdy c)=false),gp ((Zdy c)=false),((Zdy c)=false)->(Cp (IY (AW c.Board).1 (AW c.Board).2).2.1),gp ((Zdy c)=false),gp ((Zdy c)=false),((Zdy c)=false)->(Cp (ceI (Vy c) (I4 (AW c.Board).1 (AW c.Board).2)).2.1),gp ((Zdy c)=false),gp ((Zdy c)=false),((Zdy c)=false)->(Cp (EZ (DA (AW c.Board).1 (AW c.Board).2) (C4 (AW c.Board).1 (AW c.Board).2)).2.1),gp ((Zdy c)=false),gp ((Zdy c)=false)] (.cons (Wo (AW c.Board).1 (AW c.Board).2 au3 au3) (.cons (Cq (Wp (AW c.Board).1 (AW c.Board).2 au3 au3 au3 au3 au3 au3 au3) (.cons (.agg (rr9 (rr3 (rA (rr (rr .nil)))))) (.cons (AvE.refl _) .nil))) (.cons (Pn (Zdw c) (Zdx c) au3 au3 au3) (.cons (OR (AW c.Board).1 (AW c.Board).2 au3 au3) (.cons (Cq (Po (AW c.Board).1 (AW c.Board).2 au3 au3 au3 au3 au3) (.cons (.agg (rr9 (rr3 (rA (rr (rr .nil)))))) (.cons (AvE.refl _) .nil))) (.cons (JG (DA (AW c.Board).1 (AW c.Board).2) (C4 (AW c.Board).1 (AW c.Board).2) au3 au3 au3) .nil)))))) (.cons rfl (.cons rfl (.cons rfl (ci (ci (.cons (fun _=>rfl) (ci (ci (.cons (fun _=>rfl) (ci (ci (.cons (fun _=>rfl) (ci (ci .nil))))))))))))))<|AE ?_
 refine kb (Zdz c) (fun h1=>?_) (fun h1=>?_)
 ·exact AA<|on<|AO<|Cm<|Bf<|Bf<|Cm<|Bf<|zl (by simp only[Gd,h1,mi,mj]<;>kernel_rfl)
 refine AP<|Ao<|AE<|rn ⟨[(5,tB FH),(7,Zdu c),(24,Zdv c raw),(25,tI 3),(26,tI 1)],[]⟩<|Bs<|AA<|on<|AA<|CN kr<|AP<|AE<|AA<|AJ<|AA<|oc [] [0<=(1:Int)/\(1:Int)<((3:Nat):Int)] .nil (H1 au0)<|AE<|AA ?_
 refine od [] [(32,Th (Dm c) (AW c.Board).2),(35,ceI (Vs c) (N1 (Dm c) (AW c.Board).2)),(36,Hs (ZdA c) (ZdB c)),(41,IY (Dm c) (AW c.Board).2),(44,ceI (Vs c) (I4 (Dm c) (AW c.Board).2)),(45,EZ (DA (Dm c) (AW c.Board).2) (C4 (Dm c) (AW c.Board).2))] [Cp (Th (Dm c) (AW c.Board).2).2.1,Cp (ceI (Vs c) (N1 (Dm c) (AW c.Board).2)).2.1,Cp (Hs (ZdA c) (ZdB c)).2.1,gp ((ZdC c)=false),gp ((ZdC c)=false),((ZdC c)=false)->(Cp (IY (Dm c) (AW c.Board).2).2.1),gp ((ZdC c)=false),gp ((ZdC c)=false),((ZdC c)=false)->(Cp (ceI (Vs c) (I4 (Dm c) (AW c.Board).2)).2.1),gp ((ZdC c)=false),gp ((ZdC c)=false),((ZdC c)=false)->(Cp (EZ (DA (Dm c) (AW c.Board).2) (C4 (Dm c) (AW c.Board).2)).2.1),gp ((ZdC c)=false),gp ((ZdC c)=false)] (.cons (Wo (Dm c) (AW c.Board).2 au3 au3) (.cons (Cq (Wp (Dm c) (AW c.Board).2 au3 au3 au3 au3 au3 au3 au3) (.cons (.agg (rr9 (rr3 (rA (rr (rr .nil)))))) (.cons (AvE.refl _) .nil))) (.cons (Pn (ZdA c) (ZdB c) au3 au3 au3) (.cons (OR (Dm c) (AW c.Board).2 au3 au3) (.cons (Cq (Po (Dm c) (AW c.Board).2 au3 au3 au3 au3 au3) (.cons (.agg (rr9 (rr3 (rA (rr (rr .nil)))))) (.cons (AvE.refl _) .nil))) (.cons (JG (DA (Dm c) (AW c.Board).2) (C4 (Dm c) (AW c.Board).2) au3 au3 au3) .nil)))))) (.cons rfl (.cons rfl (.cons rfl (ci (ci (.cons (fun _=>rfl) (ci (ci (.cons (fun _=>rfl) (ci (ci (.cons (fun _=>rfl) (ci (ci .nil))))))))))))))<|AE ?_;refine kb (ZdD c) (fun h2=>?_) (fun h2=>?_)
 ·exact AA<|on<|AO<|Cm<|Bf<|Bf<|Cm<|Bf<|zl (by simp only[Gd,h1,h2,mi,mj]<;>kernel_rfl)
 refine AP<|Ao<|AE<|rn ⟨[(5,tB FH),(7,Zdu c),(24,Zdv c raw),(25,tI 3),(26,tI 2)],[]⟩<|Bs<|AA<|on<|AA<|CN kr<|AP<|AE<|AA<|AJ<|AA<|oc [] [0<=(2:Int)/\(2:Int)<((3:Nat):Int)] .nil (H1 au0)<|AE<|AA ?_
 refine od [] [(32,Th (Bg raw) (AW c.Board).2),(35,ceI [.agg (AC.c (Bg raw)),.one (Nc c)] (N1 (Bg raw) (AW c.Board).2)),(36,Hs (GG (Bg raw) (AW c.Board).2) (G8 (Bg raw) (AW c.Board).2)),(41,IY (Bg raw) (AW c.Board).2),(44,ceI [.agg (AC.c (Bg raw)),.one (Nc c)] (I4 (Bg raw) (AW c.Board).2)),(45,EZ (DA (Bg raw) (AW c.Board).2) (C4 (Bg raw) (AW c.Board).2))] ((Cp (Th (Bg raw) (AW c.Board).2).2.1)::(Cp (ceI [.agg (AC.c (Bg raw)),.one (Nc c)] (N1 (Bg raw) (AW c.Board).2)).2.1)::(Cp (Hs (GG (Bg raw) (AW c.Board).2) (G8 (Bg raw) (AW c.Board).2)).2.1)::(i2 (!(ZdE raw c)) ((gj (!(ZdE raw c)) (Cp (IY (Bg raw) (AW c.Board).2).2.1))::(i2 (!(ZdE raw c)) ((gj (!(ZdE raw c)) (Cp (ceI [.agg (AC.c (Bg raw)),.one (Nc c)] (I4 (Bg raw) (AW c.Board).2)).2.1))::(i2 (!(ZdE raw c)) ((gj (!(ZdE raw c)) (Cp (EZ (DA (Bg raw) (AW c.Board).2) (C4 (Bg raw) (AW c.Board).2)).2.1))::(i2 (!(ZdE raw c)) [])))))))) (.cons (Wo (Bg raw) (AW c.Board).2 au3 au3) (.cons (Cq (Wp (Bg raw) (AW c.Board).2 au3 au3 au3 au3 au3 au3 au3) (.cons (.agg (rr9 (rr3 (rA (rr (rr .nil)))))) (.cons (AvE.refl _) .nil))) (.cons (Pn (GG (Bg raw) (AW c.Board).2) (G8 (Bg raw) (AW c.Board).2) au3 au3 au3) (.cons (OR (Bg raw) (AW c.Board).2 au3 au3) (.cons (Cq (Po (Bg raw) (AW c.Board).2 au3 au3 au3 au3 au3) (.cons (.agg (rr9 (rr3 (rA (rr (rr .nil)))))) (.cons (AvE.refl _) .nil))) (.cons (JG (DA (Bg raw) (AW c.Board).2) (C4 (Bg raw) (AW c.Board).2) au3 au3 au3) .nil)))))) (.cons rfl (.cons rfl (.cons rfl (c2 (.cons (fun _=>rfl) (c2 (.cons (fun _=>rfl) (c2 (.cons (fun _=>rfl) (c2 .nil))))))))))<|AE ?_
 refine kb (ZdF raw c) (fun h3=>?_) (fun h3=>?_)
 ·exact AA<|on<|AO<|Cm<|Bf<|Bf<|Cm<|Bf<|zl (by simp only[Gd,h1,h2,h3,mi,mj]<;>kernel_rfl)
 exact AP<|Ao<|AE<|rn ⟨[(5,tB FH),(7,Zdu c),(24,Zdv c raw),(25,tI 3),(26,tI 3)],[]⟩<|Bs<|AA<|on<|AA<|An kr<|Aw<|Aj<|Aj<|Ay<|AE<|AA<|on<|AO<|zl (by simp only[Gd,h1,h2,h3,mi,mj]<;>kernel_rfl)
end
theorem Sa(a:AQ):Js a a=true:=by
 have key:∀n k:Nat,a.Edges.length-k<n->Ga a a n (k:Int)=true:=by
  intro n;induction n with
  |zero=>intro k h;omega
  |succ n ih =>
   intro k h;rw[Ga]
   by_cases hc:(k:Int)<(a.Edges.length:Int)
   ·rw[lj hc,mi];have:=ih (k+1) mz;rw[show((k+1:Nat):Int)=(k:Int)+1 by omega]at this;simp only[ml,Bool.and_true,mc,mj];exact this
   rw[lk hc,mj]
 unfold Js;simp only[ml,mc,mj];exact key _ 0 mz
theorem Pt{g:Nat->Int->Bool}(len:Nat)(h:∀n v,g (n+1) v=bif decide (v<(len:Int))then g n (v+1)else true):∀(n:Nat) (v:Int),((len:Int)-v).toNat<n->g n v=true
 |0,v,hn=>absurd hn (lw _)
 |n+1,v,hn=>by
  rw[h]
  by_cases hc:v<(len:Int)
  ·rw[lj hc,mi];exact Pt len h n (v+1) mz
  rw[lk hc,mj]
theorem X6(a:AV):O0 a a=true:=by
 unfold O0;simp only[Sa,ml,mi,mb]
theorem WZ(l:List AV):Fb l l=true:=by
 unfold Fb;rw[lj rfl];exact Pt (g:=Ex l l) l.length (fun n v=>by rw[Ex];unfold Zds;simp only[X6,mc,mj]) _ _ mz
theorem Sb(l:List Ad):Du l l=true:=by
 unfold Du;rw[lj rfl];exact Pt (g:=EC l l) l.length (fun n v=>by rw[EC];simp only[Sa,ml,mc,mj,mb]) _ _ mz
theorem P8{b:AC}(m9:List AN)(h:Fg b):(bif !(Fb (GG b m9) (G8 b m9))then true else !(Du (DA b m9) (C4 b m9)))=false:=by
 rw[ZT m9 h,TG m9 h,WZ,Sb];rfl
theorem UI(c:KI)(raw:AC):Gd c raw=true:=by
 have h1:Zdz c=false:=P8 _ (S9 _);have h2:ZdD c=false:=P8 _ (Yb _ _);have h3:ZdF raw c=false:=P8 _ (iC _);unfold Gd;rw[h1,h2,h3];exact e7
section
open Go.ChangeShapes Go.WideShapes Go.ChangeAt Go.RowKit
theorem Q3(os:Os)(started:os.Started)(H:Type)(enc:TypeId×Value->H) :
  ReturnsInHanded {} Tryz.checked os 3 .any (Rows.itemsAllSpec.pre6 enc Tryz.prog Tryz.f3 Rows.itemsAllRow.domain false) (Rows.itemsAllSpec.post enc Tryz.prog Tryz.f3 false true false false):=by
 refine returnsInHanded_of_change (C:=Tryz.checked) own started kr Tryz.func3
  (ChangeSpec.witness6 (enc:=enc) (C:=Tryz.checked) false ⟨#[],#[.agg #[.slice none 0 0,.int .i64 0,.int .i64 0,.int .i64 0],.agg #[.int .i64 0,.int .i64 0,.slice none 0 0,.int .i64 0,.slice none 0 0,.slice none 0 0,.slice none 0 0,.slice none 0 0,.slice none 0 0,.slice none 0 0,.slice none 0 0,.slice none 0 0,.slice none 0 0,.slice none 0 0,.slice none 0 0]],[]⟩ 8 kr kr kr kr) ?_
 intro W base args ds gs before hval0 hW hcnd _;have hval:∀(j:Nat) t v,Tryz.f3.params[j]? = some t->args[j]? = some v->Value.okWide Tryz.prog W .any base t v:=hval0;have hW':=hW;obtain⟨p,q,hA0,hV,rfl,hfz,hnd⟩:=hW;have hA:DataW.TrodAll enc Tryz.prog W 0 (fun _=>true) true Tryz.f3.params.toList args.toList ds p:=hA0;rw[Tryz.params3]at hA hval;obtain⟨v0,vs0,d0,ds0,p0,q0,hargs,rfl,rfl,h0,r0⟩:=trodAll_cons hA;obtain⟨v1,vs1,d1,ds1,p1,q1,rfl,rfl,rfl,h1,r1⟩:=trodAll_cons r0;obtain⟨rfl,rfl,rfl⟩:=trodAll_nil r1;obtain rfl:args = #[v0,v1]:=by cases args;simp_all
 obtain⟨c,kc,x0⟩:=YL opT25 (.inl ⟨_,Tryz.underlying25⟩) (hval 0 25 v0 rfl rfl) h0;obtain⟨raw,kraw,x1⟩:=YL opT41 (.inl ⟨_,Tryz.underlying41⟩) (hval 1 41 v1 rfl rfl) h1;clear hA0 hval0;refine(Yw (jX c raw (Yl kc.1.1) (fun x hx=>Yl (kc.1.2 x hx).1)) (UI c raw) (.cons x0 (.cons x1 .nil))).mono fun e W' ⟨he,hb⟩=>?_;subst he;exact⟨_,rfl,tU hW' rfl rfl au (by rw[Tryz.params3];exact List.forall_mem_cons.2 ⟨⟨by kernel_rfl,oT (by kernel_rfl)⟩,List.forall_mem_cons.2 ⟨⟨by kernel_rfl,oT (by kernel_rfl)⟩,List.forall_mem_nil _⟩⟩) rfl Tryz.underlying4 hb⟩
theorem itemsAll_holds:Rows.ItemsAllSaid :=
 OpenClaim.holds_of_wide 3 Tryz.f3 rfl rfl rfl rfl rfl rfl rfl ⟨rfl,rfl,rfl,rfl,rfl⟩ rfl rfl rfl rfl rfl kr Tryz.func3 kr
  (oT (by kernel_rfl)) (by unfold Func.isWrapper;first | (rw [if_pos (by decide +kernel)];kernel_rfl) | (rw [if_neg (by decide +kernel)];exact ⟨rfl,rfl⟩))
  (fun os started H enc _=>Q3 os started H enc)
#print axioms itemsAll_holds
end
end Go.Proofs.YtheobjkgllmnmaaGreat
