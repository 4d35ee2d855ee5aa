/-
  Proved: the statement of PlacePads; the parts before it hold what its proof needs.
-/
import Derived.Test.YtdbampcfmjbgmaaGreatPlacePadsQf
namespace Go.Proofs.YtdbampcfmjbgmaaGreat
set_option maxRecDepth 100000
set_option linter.unusedVariables false
set_option linter.unusedSimpArgs false
open Go.RowKit
section
open Go.RowKit
def Zau:Blk:=.cells Gg 40
variable (b:AC) (q:DM)
def Zav:Blk:=.row 7 b.Parts.length (IX b) 49
def Zaw:Blk:=.row 2 (Af b).length (IV b) 84
def Zax:Blk:=.row 6 (AH b).length (IP b) 87
def Zay:Blk:=.row 8 b.Vias.length (IM b) 89
def Zaz:Blk:=.rowx 8 2 (fun i_ j_=>if i_<1 then (fun _ _=>default) i_ j_ else (fun _ _=>default) (i_-1) j_) 92 [(0,(Oj b)),(1,(Ok b))]
def ZaA:Blk:=.row 5 (Ai b).length (IW b) 95
def ZaB:Blk:=.row 4 (Ag b).length (IR b) 97
def ZaC:Blk:=.row 2 (AP b).length (He b) 100
def ZaD:Blk:=.row 20 (AR b).length (IU b) 109
def ZaE:Blk:=.row 3 b.Waivers.length (IZ b) 104
def ZaF:Blk:=.row 3 (AM b).length (Hd b) 102
def ZaG:Blk:=.row 4 (Eu b).Rects.length (JQ b) 74
def ZaH:Blk:=.row 4 (Cq b).Rects.length (AU Al.c (Cq b).Rects) 74
def ZaI:Blk:=.cells (SO b) 40
abbrev Ng:=[Al.mk (Tk q) (Tj q) (W64 ((Tk q)+2)) (W64 ((W64 ((Tj q)+2))+(W64 ((W64 (Int.tdiv (AK q.e1 48) 40))*1000))))]
def ZaJ:Blk:=.row 4 ((Eu b).Rects++(Ng q)).length (AU Al.c ((Eu b).Rects++(Ng q))) 74
abbrev aU:List Cl:=(IK b [.own 370 4 ((Eu b).Rects++(Ng q)).length])
def ZaK:Blk:=.rowx 8 2 (fun i_ j_=>if i_<1 then (fun _ _=>default) i_ j_ else (fun _ _=>default) (i_-1) j_) 92 [(0,(aU b q)),(1,(Ok b))]
def ZaL:Blk:=.row 4 ((Cq b).Rects++(Ng q)).length (AU Al.c ((Cq b).Rects++(Ng q))) 74
def ZaM:Blk:=.rowx 8 2 (fun i_ j_=>if i_<1 then (fun _ _=>default) i_ j_ else (fun _ _=>default) (i_-1) j_) 92 [(0,(Oj b)),(1,(MJ b [.own 370 4 ((Cq b).Rects++(Ng q)).length]))]
def Jv (b:AC) (q:DM):AC:=bif decide (((Int.tmod (AK q.e2 64) ((2:Nat):Int)).toNat:Nat)=0) then (AC.mk b.Layers (Ak b.Outline) b.Parts (Af b) (AH b) b.Vias [A8.mk (b.Pours.getD 0 default).Id (b.Pours.getD 0 default).Net (b.Pours.getD 0 default).Layer (b.Pours.getD 0 default).Pitch (b.Pours.getD 0 default).Priority (b.Pours.getD 0 default).Relief (b.Pours.getD 0 default).Spoke ((b.Pours.getD 0 default).Rects++[Al.mk (Int.tmod (AK q.e1 48) 9) (Int.tmod (AK q.e2 64) 9) (W64 ((Int.tmod (AK q.e1 48) 9)+2)) (W64 ((W64 ((Int.tmod (AK q.e2 64) 9)+2))+(W64 ((W64 (Int.tdiv (AK q.e1 48) 40))*1000))))]),b.Pours.getD 1 default] (Ai b) (Ag b) (AP b) (AR b) b.Waivers (AM b)) else (AC.mk b.Layers (Ak b.Outline) b.Parts (Af b) (AH b) b.Vias [b.Pours.getD 0 default,A8.mk (b.Pours.getD 1 default).Id (b.Pours.getD 1 default).Net (b.Pours.getD 1 default).Layer (b.Pours.getD 1 default).Pitch (b.Pours.getD 1 default).Priority (b.Pours.getD 1 default).Relief (b.Pours.getD 1 default).Spoke ((b.Pours.getD 1 default).Rects++[Al.mk (Int.tmod (AK q.e1 48) 9) (Int.tmod (AK q.e2 64) 9) (W64 ((Int.tmod (AK q.e1 48) 9)+2)) (W64 ((W64 ((Int.tmod (AK q.e2 64) 9)+2))+(W64 ((W64 (Int.tdiv (AK q.e1 48) 40))*1000))))])] (Ai b) (Ag b) (AP b) (AR b) b.Waivers (AM b))
def qI:CT:=(7,(OL b q),.val [] (.av (.agg (AC.c (Jv b q)))))
abbrev JT:=b.Pours.getD 0 default
abbrev mI:List Cl:=[.i (JT b).Id,.s (JT b).Net,.i (JT b).Layer,.i (JT b).Pitch,.i (JT b).Priority,.i (JT b).Relief,.i (JT b).Spoke,lst 4 Al.c ((JT b).Rects++[Al.mk (Tk q) (Tj q) (W64 ((Tk q)+2)) (W64 ((W64 ((Tj q)+2))+(W64 ((W64 (Int.tdiv (AK q.e1 48) 40))*1000))))])]
abbrev OG (t_:List (Nat×Blk)):List (Nat×Blk):=(4,Zau)::(5,ZaI b)::(26,Zav b)::(30,Zay b)::(34,ZaE b)::t_
abbrev Tp:List (Nat×Blk):=(OG b [(200100,Zaw b),(200102,Zax b),(200106,ZaA b),(200108,ZaB b),(200110,ZaC b),(200112,ZaF b),(200114,ZaD b),(200340,Zaz b),(200341,ZaG b),(200342,ZaH b)])
abbrev Vu:List Cl:=(IK b [lst 4 Al.c ((Eu b).Rects++(Ng q))])
abbrev Vs:=BB 4 1 [.i (Tk q),.i (Tj q),.i (W64 ((Tk q)+2)),.i (W64 ((W64 ((Tj q)+2))+(W64 ((W64 (Int.tdiv (AK q.e1 48) 40))*1000))))]
abbrev bC:List Cl:=(IK b [.own 370 4 ((Eu b).Rects.length+1)])
abbrev Ve:List (Nat×Tv):=(B1 q [(21,tI 16),(101,tB false)])
abbrev Vd:List (Nat×Tv):=(B1 q [(21,tI 16),(207,tB false)])
abbrev Rf (t_:List (Nat×Blk)):List (Nat×Blk):=(4,ZaI b)::(26,Zav b)::(30,Zay b)::(34,ZaE b)::(200100,Zaw b)::(200102,Zax b)::(200106,ZaA b)::(200108,ZaB b)::(200110,ZaC b)::(200112,ZaF b)::(200114,ZaD b)::t_
set_option maxHeartbeats 40000000 in
theorem nZ (b:AC) (q:DM) (hc:CW b) (hq:AK q.e0 26=16) (hlen:(b.Pours.length:Int)=2):PuP 7 (qI b q).2.1 (.av (.agg (AC.c (Jv b q)))):=by
 refine pwf Tryz.func7 fun W0 M0 => ?_
 have hl0:=hc.lParts
 have hl1:=hc.lNets
 have hl2:=hc.lTracks
 have hl3:=hc.lVias
 have hl4:=hc.lPours
 have hl5:=hc.lKeeps
 have hl6:=hc.lSlots
 have hl7:=hc.lClasses
 have hl8:=hc.lWaivers
 have hl9:=hc.lMatches
 have hl10:=hc.lRules
 have hN:0<=AK q.e1 48/\AK q.e1 48<48:=I9 _ _ (by decide) (by decide)
 have hK0:=I9 q.e2 64 (by decide) (by decide)
 have hK:0<=AK q.e2 64/\AK q.e2 64<64:=hK0
 have hb0:=hc.rec' 0
 have hb1:=hc.rec' 1
 refine AA<|rn ⟨Oc,[(2,.cells (AC.c b) 40),(FV q),(4,Zau)]⟩<|AA ?_
 refine Dm ?_
 refine Fw Dh 1 [] [] [] [3,4,11] [3,4] [] ⟨(Oi b),[(FV q),(4,Zau)]⟩ .nil kr .nil ?_
 refine H8 (ι:=Unit) (I:=fun _=>True) (fun _=>⟨[(3,tP 3 0),(4,tP 4 0),(Of b),(12,.av (.agg (SO b)))],[(26,Zav b),(200100,Zaw b),(200102,Zax b),(30,Zay b),(200340,Zaz b),(200106,ZaA b),(200108,ZaB b),(200110,ZaC b),(200114,ZaD b),(34,ZaE b),(200112,ZaF b),(200341,ZaG b),(200342,ZaH b),(FV q),(4,Zau)]⟩) hk0 ⟨⟨_,_,rfl,rfl,⟨fun _=>default,by kernel_rfl⟩,by kernel_rfl⟩,fun _ _=>by kernel_rfl,rfl,rfl⟩ (qCyP2 b au17 au17) (fun _=>by kernel_rfl) (fun _=>by kernel_rfl) (fun _ _ => ?_)
 refine En Dh [] [] [] [3,4,5] [3,4,5,26,30,34,200100,200102,200106,200108,200110,200112,200114,200340,200341,200342] [] ⟨Ob,[(FV q),(4,Zau),(5,ZaI b),(26,Zav b),(30,Zay b),(34,ZaE b),(200100,Zaw b),(200102,Zax b),(200106,ZaA b),(200108,ZaB b),(200110,ZaC b),(200112,ZaF b),(200114,ZaD b),(200340,Zaz b),(200341,ZaG b),(200342,ZaH b)]⟩ .nil kr .nil<|AG<|AA ?_
 refine oc [(15,Ez q.e1 48)] [0<=(1:Int)/\(1:Int)<(3:Int),Ay (Ez q.e1 48).2.1] (.cons (Gr q.e1 48 au17) .nil) (.cons (by decide) (.cons rfl .nil))<|AG<|AA ?_
 refine oc [(18,Ez q.e2 64)] [0<=(2:Int)/\(2:Int)<(3:Int),Ay (Ez q.e2 64).2.1] (.cons (Gr q.e2 64 au17) .nil) (.cons (by decide) (.cons rfl .nil))<|AG ?_
 refine AA<|AA ?_
 refine rc [(21,Ez q.e0 26)] [0<=(0:Int)/\(0:Int)<(3:Int),Ay (Ez q.e0 26).2.1] ⟨[(4,tP 4 0),(5,tP 5 0),(6,tI (AK q.e1 48)),(7,tI (AK q.e2 64)),(21,tI (AK q.e0 26))],[(4,Zau),(5,ZaI b),(26,Zav b),(30,Zay b),(34,ZaE b),(200100,Zaw b),(200102,Zax b),(200106,ZaA b),(200108,ZaB b),(200110,ZaC b),(200112,ZaF b),(200114,ZaD b),(200340,Zaz b),(200341,ZaG b),(200342,ZaH b)]⟩ (.cons (Gr q.e0 26 au17) .nil) (.cons (by decide) (.cons rfl .nil)) ?_
 (try rw [hq])
 refine AG<|AQ<|AA ?_
 refine on ?_
 refine Ar kr<|AA ?_
 refine on ?_
 refine Ar kr<|AA ?_
 refine on ?_
 refine Ar kr<|AA ?_
 refine on ?_
 refine Ar kr<|AA ?_
 refine on ?_
 refine Ar kr<|AA ?_
 refine rn ⟨(Ve q),(Tp b)⟩ ?_
 refine Ar kr<|AA ?_
 refine on ?_
 refine Ar kr<|AA ?_
 refine on ?_
 refine Ar kr<|AA ?_
 refine on ?_
 refine Ar kr<|AA ?_
 refine on ?_
 refine Ar kr<|AA ?_
 refine on ?_
 refine Ar kr<|AA ?_
 refine rn ⟨(Vd q),(Tp b)⟩ ?_
 refine Ar kr<|AA ?_
 refine on ?_
 refine Ar kr<|AA ?_
 refine on ?_
 refine Ar kr<|AA ?_
 refine on ?_
 refine Ar kr<|AA ?_
 refine on ?_
 refine Ar kr<|AA ?_
 refine on ?_
 refine CN kr<|AA ?_
 refine rn ⟨(B1 q [(340,tB (decide ((0:Int)<((2:Nat):Int))))]),(Tp b)⟩ ?_
 have h1:(decide ((0:Int)<((2:Nat):Int)))=true:=(by decide)
 have g1:=oT h1
 refine AO _ rfl (fun _ => ?_) (fun h=>absurd (h1.symm.trans h) (by decide))
 refine AA<|dw [] [] [(((2:Nat):Int):Int)≠0,0<=(Int.tmod (AK q.e2 64) ((2:Nat):Int):Int)/\(Int.tmod (AK q.e2 64) ((2:Nat):Int):Int)<((2:Nat):Int)] ⟨(B1 q [(9,.av (.one (.rptr 200340 8 (Int.tmod (AK q.e2 64) ((2:Nat):Int)).toNat 0)))]),(Tp b)⟩ .nil (.cons au14 (.cons (by first | decide | omega | (have:=tmb hK.1 (n:=((2:Nat):Int)) (by decide);omega)) .nil))<|AG ?_
 refine Nb (decide (((Int.tmod (AK q.e2 64) ((2:Nat):Int)).toNat:Nat)=0)) (fun h2 => ?_) (fun h2 => ?_)
 ·have g2:=oT h2
  (try rw [g2])
  refine rc [] [(9:Int)≠0,(9:Int)≠0,(9:Int)≠0,(9:Int)≠0,(40:Int)≠0,(b.Pours.getD 0 default).Rects.length=(b.Pours.getD 0 default).Rects.length,(b.Pours.getD 0 default).Rects.length+1<=maxLen,((b.Pours.getD 0 default).Rects.length+1)*32<=140737488355328] ⟨E4,(OG b [(370,.row 4 ((Eu b).Rects.length+1) (fun i_ j_=>if i_<(Eu b).Rects.length then (JQ b) i_ j_ else (Vs q) (i_-(Eu b).Rects.length) j_) 74),(200100,Zaw b),(200102,Zax b),(200106,ZaA b),(200108,ZaB b),(200110,ZaC b),(200112,ZaF b),(200114,ZaD b),(200340,.rowx 8 2 (fun i_ j_=>if i_<1 then (fun _ _=>default) i_ j_ else (fun _ _=>default) (i_-1) j_) 92 [(0,(bC b)),(1,(Ok b))]),(200342,ZaH b)])⟩ .nil (.cons au14 (.cons au14 (.cons au14 (.cons au14 (.cons au14 (.cons rfl (.cons au9 (.cons au9 .nil))))))))<|A3<|AG ?_
  refine Ap (Cv.trans (DH (⟨E4,(OG b [(370,ZaJ b q),(200100,Zaw b),(200102,Zax b),(200106,ZaA b),(200108,ZaB b),(200110,ZaC b),(200112,ZaF b),(200114,ZaD b),(200340,ZaK b q),(200342,ZaH b)])⟩) lr (.cons ⟨rfl,.refl _⟩ (.cons ⟨rfl,.refl _⟩ (.cons ⟨rfl,.refl _⟩ (.cons ⟨rfl,.refl _⟩ (.cons ⟨rfl,.refl _⟩ (.cons ⟨rfl,Ce 74 (Au (Am 4 Al.c (b.Pours.getD 0 default).Rects) (Bd (c:=Al.c) (xs:=([Al.mk (Int.tmod (AK q.e1 48) 9) (Int.tmod (AK q.e2 64) 9) (W64 ((Int.tmod (AK q.e1 48) 9)+2)) (W64 ((W64 ((Int.tmod (AK q.e2 64) 9)+2))+(W64 ((W64 (Int.tdiv (AK q.e1 48) 40))*1000))))]:List Al)) rfl kr))⟩ (.cons ⟨rfl,.refl _⟩ (.cons ⟨rfl,.refl _⟩ (.cons ⟨rfl,.refl _⟩ (.cons ⟨rfl,.refl _⟩ (.cons ⟨rfl,.refl _⟩ (.cons ⟨rfl,.refl _⟩ (.cons ⟨rfl,.refl _⟩ (.cons ⟨rfl,.rowx _ _ _ _ (.cons ⟨rfl,(rr5 (rr2 (.cons (.own _ _ au16) .nil)))⟩ (.cons ⟨rfl,(rr5 (rr3 .nil))⟩ .nil))⟩ lr))))))))))))))) (Cv.refl _))<|AA ?_
  refine rn ⟨[(4,tP 4 0)],[(4,ZaI b),(26,Zav b),(30,Zay b),(34,ZaE b),(370,ZaJ b q),(200100,Zaw b),(200102,Zax b),(200106,ZaA b),(200108,ZaB b),(200110,ZaC b),(200112,ZaF b),(200114,ZaD b),(200340,ZaK b q),(200342,ZaH b)]⟩<|AY ?_
  exact zy (Cv.trans (vf 370 hk0) (Cv.trans (H6 (⟨[(4,tP 4 0)],(Rf b [(200340,.rowx 8 2 (fun i_ j_=>if i_<1 then (fun _ _=>default) i_ j_ else (fun _ _=>default) (i_-1) j_) 92 [(0,(Vu b q)),(1,(A8.c (Cq b)))])])⟩) 200342 hk0) (Cv.trans (HK (⟨[(4,tP 4 0)],(Rf b [(200340,.row 8 2 (BB 8 2 (IK b [lst 4 Al.c ((Eu b).Rects++(Ng q)),.i (Cq b).Id,.s (Cq b).Net,.i (Cq b).Layer,.i (Cq b).Pitch,.i (Cq b).Priority,.i (Cq b).Relief,.i (Cq b).Spoke,lst 4 Al.c (Cq b).Rects])) 92)])⟩) 200340 8 2 (fun i_ j_=>if i_<1 then (fun _ _=>default) i_ j_ else (fun _ _=>default) (i_-1) j_) 92 [(mI b q),(A8.c (b.Pours.getD 1 default))] kr kr kr kr) (Cv.trans (A2 200340 (A0 8 A8.c ([A8.mk (b.Pours.getD 0 default).Id (b.Pours.getD 0 default).Net (b.Pours.getD 0 default).Layer (b.Pours.getD 0 default).Pitch (b.Pours.getD 0 default).Priority (b.Pours.getD 0 default).Relief (b.Pours.getD 0 default).Spoke ((b.Pours.getD 0 default).Rects++[Al.mk (Int.tmod (AK q.e1 48) 9) (Int.tmod (AK q.e2 64) 9) (W64 ((Int.tmod (AK q.e1 48) 9)+2)) (W64 ((W64 ((Int.tmod (AK q.e2 64) 9)+2))+(W64 ((W64 (Int.tdiv (AK q.e1 48) 40))*1000))))]),b.Pours.getD 1 default]:List A8))) (Cv.trans (B5 [26,200100,200102,30,200340,200106,200108,200110,200114,34,200112] hk0) (Cv.refl _)))))) (by simp only [Jv,h1,h2,cond_true,cond_false] <;> kernel_rfl)
 have g2:=oF h2
 have g3:((Int.tmod (AK q.e2 64) ((2:Nat):Int)).toNat:Nat)=1:=(by have:=tmb hK.1 (n:=((2:Nat):Int)) (by decide);omega)
 (try rw [g3])
 refine rc [] [(9:Int)≠0,(9:Int)≠0,(9:Int)≠0,(9:Int)≠0,(40:Int)≠0,(b.Pours.getD 1 default).Rects.length=(b.Pours.getD 1 default).Rects.length,(b.Pours.getD 1 default).Rects.length+1<=maxLen,((b.Pours.getD 1 default).Rects.length+1)*32<=140737488355328] ⟨E4,(OG b [(370,.row 4 ((Cq b).Rects.length+1) (fun i_ j_=>if i_<(Cq b).Rects.length then (AU Al.c (Cq b).Rects) i_ j_ else (Vs q) (i_-(Cq b).Rects.length) j_) 74),(200100,Zaw b),(200102,Zax b),(200106,ZaA b),(200108,ZaB b),(200110,ZaC b),(200112,ZaF b),(200114,ZaD b),(200340,.rowx 8 2 (fun i_ j_=>if i_<1 then (fun _ _=>default) i_ j_ else (fun _ _=>default) (i_-1) j_) 92 [(0,(Oj b)),(1,(MJ b [.own 370 4 ((Cq b).Rects.length+1)]))]),(200341,ZaG b)])⟩ .nil (.cons au14 (.cons au14 (.cons au14 (.cons au14 (.cons au14 (.cons rfl (.cons au9 (.cons au9 .nil))))))))<|A3<|AG ?_
 refine Ap (Cv.trans (DH (⟨E4,(OG b [(370,ZaL b q),(200100,Zaw b),(200102,Zax b),(200106,ZaA b),(200108,ZaB b),(200110,ZaC b),(200112,ZaF b),(200114,ZaD b),(200340,ZaM b q),(200341,ZaG b)])⟩) lr (.cons ⟨rfl,.refl _⟩ (.cons ⟨rfl,.refl _⟩ (.cons ⟨rfl,.refl _⟩ (.cons ⟨rfl,.refl _⟩ (.cons ⟨rfl,.refl _⟩ (.cons ⟨rfl,Ce 74 (Au (Am 4 Al.c (b.Pours.getD 1 default).Rects) (Bd (c:=Al.c) (xs:=([Al.mk (Int.tmod (AK q.e1 48) 9) (Int.tmod (AK q.e2 64) 9) (W64 ((Int.tmod (AK q.e1 48) 9)+2)) (W64 ((W64 ((Int.tmod (AK q.e2 64) 9)+2))+(W64 ((W64 (Int.tdiv (AK q.e1 48) 40))*1000))))]:List Al)) rfl kr))⟩ (.cons ⟨rfl,.refl _⟩ (.cons ⟨rfl,.refl _⟩ (.cons ⟨rfl,.refl _⟩ (.cons ⟨rfl,.refl _⟩ (.cons ⟨rfl,.refl _⟩ (.cons ⟨rfl,.refl _⟩ (.cons ⟨rfl,.refl _⟩ (.cons ⟨rfl,.rowx _ _ _ _ (.cons ⟨rfl,(rr5 (rr3 .nil))⟩ (.cons ⟨rfl,(rr5 (rr2 (.cons (.own _ _ au16) .nil)))⟩ .nil))⟩ lr))))))))))))))) (Cv.refl _))<|AA ?_
 refine rn ⟨[(4,tP 4 0)],[(4,ZaI b),(26,Zav b),(30,Zay b),(34,ZaE b),(370,ZaL b q),(200100,Zaw b),(200102,Zax b),(200106,ZaA b),(200108,ZaB b),(200110,ZaC b),(200112,ZaF b),(200114,ZaD b),(200340,ZaM b q),(200341,ZaG b)]⟩<|AY ?_
 exact zy (Cv.trans (vf 200341 hk0) (Cv.trans (H6 (⟨[(4,tP 4 0)],(Rf b [(200340,.rowx 8 2 (fun i_ j_=>if i_<1 then (fun _ _=>default) i_ j_ else (fun _ _=>default) (i_-1) j_) 92 [(0,(A8.c (Eu b))),(1,(MJ b [lst 4 Al.c ((Cq b).Rects++(Ng q))]))])])⟩) 370 hk0) (Cv.trans (HK (⟨[(4,tP 4 0)],(Rf b [(200340,.row 8 2 (BB 8 2 (IK b [lst 4 Al.c (Eu b).Rects,.i (Cq b).Id,.s (Cq b).Net,.i (Cq b).Layer,.i (Cq b).Pitch,.i (Cq b).Priority,.i (Cq b).Relief,.i (Cq b).Spoke,lst 4 Al.c ((Cq b).Rects++(Ng q))])) 92)])⟩) 200340 8 2 (fun i_ j_=>if i_<1 then (fun _ _=>default) i_ j_ else (fun _ _=>default) (i_-1) j_) 92 [(A8.c (b.Pours.getD 0 default)),(Z1 b [lst 4 Al.c ((b.Pours.getD 1 default).Rects++[Al.mk (Int.tmod (AK q.e1 48) 9) (Int.tmod (AK q.e2 64) 9) (W64 ((Int.tmod (AK q.e1 48) 9)+2)) (W64 ((W64 ((Int.tmod (AK q.e2 64) 9)+2))+(W64 ((W64 (Int.tdiv (AK q.e1 48) 40))*1000))))])])] kr kr kr kr) (Cv.trans (A2 200340 (A0 8 A8.c ([b.Pours.getD 0 default,A8.mk (b.Pours.getD 1 default).Id (b.Pours.getD 1 default).Net (b.Pours.getD 1 default).Layer (b.Pours.getD 1 default).Pitch (b.Pours.getD 1 default).Priority (b.Pours.getD 1 default).Relief (b.Pours.getD 1 default).Spoke ((b.Pours.getD 1 default).Rects++[Al.mk (Int.tmod (AK q.e1 48) 9) (Int.tmod (AK q.e2 64) 9) (W64 ((Int.tmod (AK q.e1 48) 9)+2)) (W64 ((W64 ((Int.tmod (AK q.e2 64) 9)+2))+(W64 ((W64 (Int.tdiv (AK q.e1 48) 40))*1000))))])]:List A8))) (Cv.trans (B5 [26,200100,200102,30,200340,200106,200108,200110,200114,34,200112] hk0) (Cv.refl _)))))) (by simp only [Jv,h1,h2,cond_true,cond_false] <;> kernel_rfl)
end
section
open Go.RowKit
def ZaN:Blk:=.cells Gg 40
variable (b:AC) (v:Nat->Value)
def ZaO:Blk:=.cells (bD v) 40
def ZaP:Blk:=.row 4 (Eu b).Rects.length (JQ b) 74
def ZaQ:Blk:=.rowx 8 1 (fun _ _=>default) 92 [(0,(aV b))]
def ZaR:Blk:=.cells (bI v) 40
def ZaS:Blk:=.rowx 8 1 (fun _ _=>default) 92 [(0,(SK b))]
def ZaT:Blk:=.cells (bJ v) 40
def ZaU:Blk:=.cells (Cr v [.own 200320 8 1,.val (v 9),.val (v 10),.val (v 11),.val (v 12),.val (v 13),.val (v 14)]) 40
abbrev Vv:List Cl:=(IK b [.own 200321 4 (Eu b).Rects.length])
def ZaV:Blk:=.rowx 8 1 (fun _ _=>default) 92 [(0,(Vv b))]
abbrev sCxP1 (b:AC) (v:Nat->Value):AS:=⟨Bn,[(200003,ZaU v),(B9 b),(200002,ZaN),(200320,ZaV b),(200321,ZaP b)]⟩
set_option maxHeartbeats 4000000 in
theorem gCxP1 (b:AC) (hc:CW b) (hlen:(b.Pours.length:Int)=1) {c:Code} (hpc:Tryz.f21.body.bind (F6 [true,true,true,true,false,true])=some c):Np Tryz.prog 229 [200003,200001,200002] c (fun _:Unit=>True) (fun v=>⟨[(1,tP 200001 0),(2,tP 200002 0),(3,tP 200003 0),(7,tI 0)],[(200003,.cells [.val (v 0),.val (v 1),.val (v 2),.val (v 3),.val (v 4),.val (v 5),.val (v 6),.val (v 7),vN,.val (v 9),.val (v 10),.val (v 11),.val (v 12),.val (v 13),.val (v 14)] 40),(200001,.cells (AC.c b) 40),(200002,.cells [.i 0,.i 0,vN,.i 0,vN,vN,vN,vN,vN,vN,vN,vN,vN,vN,vN] 40)]⟩) (fun v _=>sCxP1 b v):=by
 cases hpc
 intro W0 M0 X v hP hFl
 show AWp _ _ _ _ _ _ _ _ ⟨[(1,tP 200001 0),(2,tP 200002 0),(3,tP 200003 0),(7,tI 0)],[(200003,.cells [.val (v 0),.val (v 1),.val (v 2),.val (v 3),.val (v 4),.val (v 5),.val (v 6),.val (v 7),vN,.val (v 9),.val (v 10),.val (v 11),.val (v 12),.val (v 13),.val (v 14)] 40),(200001,.cells (AC.c b) 40),(200002,.cells [.i 0,.i 0,vN,.i 0,vN,vN,vN,vN,vN,vN,vN,vN,vN,vN,vN] 40)]⟩
 have h0:=hc.lParts
 have h1:=hc.lNets
 have h2:=hc.lTracks
 have h3:=hc.lVias
 have h4:=hc.lPours
 have h5:=hc.lKeeps
 have h6:=hc.lSlots
 have h7:=hc.lClasses
 have h8:=hc.lWaivers
 have h9:=hc.lMatches
 have h10:=hc.lRules
 have hr:=hc.rok
 have hb0:=hc.rec' 0
 refine AQ ?_
 refine Di 2 ?_
 refine Bu<|AA<|AA ?_
 refine rn ⟨[(1,tP 200001 0),(2,tP 200002 0),(3,tP 200003 0),(7,tI 0),(89,tB (decide ((0:Int)<(b.Pours.length:Int))))],[(200001,.cells (AC.c b) 40),(200002,ZaN),(200003,ZaO v)]⟩ ?_
 have h1:(decide ((0:Int)<(b.Pours.length:Int)))=true:=(by rw [hlen];decide)
 have g1:=oT h1
 refine AO _ rfl (fun _ => ?_) (fun h=>absurd (h1.symm.trans h) (by decide))
 refine AZ<|AG ?_
 refine AA<|AQ<|AA ?_
 refine rc [] [0<=(0:Int)/\(0:Int)<((b.Pours.length:Nat):Int)] ⟨[(1,tP 200001 0),(2,tP 200002 0),(3,tP 200003 0),(7,tI 0),(8,tP 8 0)],[(8,.cells (A8.c (b.Pours.getD 0 default)) 92),(200001,.cells (AC.c b) 40),(200002,ZaN),(200003,ZaO v)]⟩ .nil (.cons (by first | decide | omega | (rw [hlen];decide) | (rw [show (b.Pours.length:Int)=1 from hlen];decide)) .nil)<|AG<|AA ?_
 refine DP Dh [97] [] [] [1,2,3,7,8] [8,100,200001,200002,200003] [0=0,0+(b.Pours.getD 0 default).Rects.length<=maxLen,(0+(b.Pours.getD 0 default).Rects.length)*32<=140737488355328] ⟨[(1,tP 200001 0),(2,tP 200002 0),(3,tP 200003 0),(7,tI 0),(8,tP 8 0)],[(8,.cells [.i (b.Pours.getD 0 default).Id,.s (b.Pours.getD 0 default).Net,.i (b.Pours.getD 0 default).Layer,.i (b.Pours.getD 0 default).Pitch,.i (b.Pours.getD 0 default).Priority,.i (b.Pours.getD 0 default).Relief,.i (b.Pours.getD 0 default).Spoke,.own 100 4 (0+(b.Pours.getD 0 default).Rects.length)] 92),(100,.row 4 (0+(b.Pours.getD 0 default).Rects.length) (fun i_ j_=>if i_<0 then (BB 4 0 []) i_ j_ else (AU Al.c (b.Pours.getD 0 default).Rects) (i_-0) j_) 74),(200001,.cells (AC.c b) 40),(200002,ZaN),(200003,ZaO v)]⟩ .nil kr (.cons rfl (.cons au9 (.cons au9 .nil)))<|AG ?_
 refine Ap (A2 100 (Au (A0 4 Al.c (([]:List Al):List Al)) (Am 4 Al.c (b.Pours.getD 0 default).Rects))) ?_
 refine oc [] [1=1,0<1,1<=maxLen,1*88<=140737488355328] .nil (.cons rfl (.cons (by decide) (.cons au9 (.cons au9 .nil))))<|A3<|AG ?_
 refine rn ⟨[(1,tP 200001 0),(2,tP 200002 0),(3,tP 200003 0),(7,tI 1)],[(100,ZaP b),(106,ZaQ b),(200001,.cells (AC.c b) 40),(200002,ZaN),(200003,ZaR v)]⟩ ?_
 refine Bu ?_
 refine Ap (Cv.trans (CK (⟨[(1,tP 200001 0),(2,tP 200002 0),(3,tP 200003 0),(7,tI 1)],[(100000,ZaP b),(106,ZaS b),(200001,.cells (AC.c b) 40),(200002,ZaN),(200003,ZaR v)]⟩) 100 100000 (K:=[200003,200001,200002]) hP rfl rfl kr kr) (Cv.trans (CK (⟨[(1,tP 200001 0),(2,tP 200002 0),(3,tP 200003 0),(7,tI 1)],[(100000,ZaP b),(100001,ZaS b),(200001,.cells (AC.c b) 40),(200002,ZaN),(200003,ZaT v)]⟩) 106 100001 (K:=[200003,200001,200002]) hP rfl rfl kr kr) (Cv.refl _)))<|AA<|AA ?_
 refine rn ⟨[(1,tP 200001 0),(2,tP 200002 0),(3,tP 200003 0),(7,tI 1),(89,tB (decide ((1:Int)<(b.Pours.length:Int))))],[(100000,ZaP b),(100001,ZaS b),(200001,.cells (AC.c b) 40),(200002,ZaN),(200003,ZaT v)]⟩ ?_
 have h2:(decide ((1:Int)<(b.Pours.length:Int)))=false:=(by rw [hlen];decide)
 have g2:=oF h2
 refine AO _ rfl (fun h=>absurd (h2.symm.trans h) (by decide)) (fun _ => ?_)
 refine BH<|A5 ?_
 refine A5<|BI ?_
 exact ⟨_,Cv.trans (CD [1,2,3] [100000,100001,200001,200002,200003] (⟨[(1,tP 200001 0),(2,tP 200002 0),(3,tP 200003 0)],[(100000,ZaP b),(100001,ZaS b),(200001,.cells (AC.c b) 40),(200002,ZaN),(200003,ZaT v)]⟩) kr) (Cv.trans (CK (⟨[(1,tP 200001 0),(2,tP 200002 0),(3,tP 200003 0)],[(100000,ZaP b),(200320,ZaS b),(200001,.cells (AC.c b) 40),(200002,ZaN),(200003,ZaU v)]⟩) 100001 200320 (K:=[200003,200001,200002]) hP rfl rfl kr kr) (Cv.trans (CK (⟨[(1,tP 200001 0),(2,tP 200002 0),(3,tP 200003 0)],[(200321,ZaP b),(200320,ZaV b),(200001,.cells (AC.c b) 40),(200002,ZaN),(200003,ZaU v)]⟩) 100000 200321 (K:=[200003,200001,200002]) hP rfl rfl kr kr) (Cv.trans (CD [1,2,3] [200003,200001,200002,200320,200321] (⟨[(1,tP 200001 0),(2,tP 200002 0),(3,tP 200003 0)],[(200003,ZaU v),(200001,.cells (AC.c b) 40),(200002,ZaN),(200320,ZaV b),(200321,ZaP b)]⟩) kr) (Cv.refl _)))),rfl,(),trivial,rfl⟩
end
section
open Go.RowKit
def ZaW:Blk:=.cells Gg 40
variable (b:AC)
def ZaX:Blk:=.cells (SL b) 40
def ZaY:Blk:=.row 7 b.Parts.length (IX b) 49
def ZaZ:Blk:=.row 8 b.Vias.length (IM b) 89
def Zb0:Blk:=.row 3 b.Waivers.length (IZ b) 104
def Zb1:Blk:=.cells (Vy b) 40
def Zb2:Blk:=.row 2 (Af b).length (IV b) 84
def Zb3:Blk:=.cells (V3 b) 40
def Zb4:Blk:=.row 6 (AH b).length (IP b) 87
def Zb5:Blk:=.cells (Cn b [.own 200320 8 1,vN,vN,vN,vN,.own 34 3 b.Waivers.length,vN]) 40
def Zb6:Blk:=.rowx 8 1 (fun _ _=>default) 92 [(0,(Vv b))]
def Zb7:Blk:=.row 4 (Eu b).Rects.length (JQ b) 74
abbrev RR (t_:List Cl):List Cl:=(.own 200320 8 1)::(MC b)::t_
def Zb8:Blk:=.cells (Cn b (RR b (RL b))) 40
def Zb9:Blk:=.row 5 (Ai b).length (IW b) 95
def Zba:Blk:=.cells (Cn b (RR b (RP b [vN]))) 40
def Zbb:Blk:=.row 4 (Ag b).length (IR b) 97
abbrev MG (t_:List Cl):List Cl:=(.own 200320 8 1)::(MC b)::(RJ b)::(RI b)::t_
def Zbc:Blk:=.cells (Cn b (MG b (RK b))) 40
def Zbd:Blk:=.row 2 (AP b).length (He b) 100
def Zbe:Blk:=.cells (Cn b (MG b (RN b))) 40
def Zbf:Blk:=.row 3 (AM b).length (Hd b) 102
abbrev SP:List Cl:=(Cn b (MG b (RO b)))
def Zbg:Blk:=.cells (SP b) 40
def Zbh:Blk:=.row 20 (AR b).length (IU b) 109
def mK (b:AC):Tv:=.av (.agg (SP b))
def hCyP1 (b:AC):List (Nat×Blk):=[(26,.row 7 b.Parts.length (AU AF.c b.Parts) 49),(200100,.row 2 (Af b).length (AU BA.c (Af b)) 84),(200102,.row 6 (AH b).length (AU Aq.c (AH b)) 87),(30,.row 8 b.Vias.length (AU Bx.c b.Vias) 89),(200320,.rowx 8 1 (fun _ _=>default) 92 [(0,[.i (b.Pours.getD 0 default).Id,.s (b.Pours.getD 0 default).Net,.i (b.Pours.getD 0 default).Layer,.i (b.Pours.getD 0 default).Pitch,.i (b.Pours.getD 0 default).Priority,.i (b.Pours.getD 0 default).Relief,.i (b.Pours.getD 0 default).Spoke,.own 200321 4 (b.Pours.getD 0 default).Rects.length])]),(200106,.row 5 (Ai b).length (AU BR.c (Ai b)) 95),(200108,.row 4 (Ag b).length (AU Bq.c (Ag b)) 97),(200110,.row 2 (AP b).length (AU BS.c (AP b)) 100),(200114,.row 20 (AR b).length (AU A1.c (AR b)) 109),(34,.row 3 b.Waivers.length (AU BM.c b.Waivers) 104),(200112,.row 3 (AM b).length (AU Bb.c (AM b)) 102),(200321,.row 4 (b.Pours.getD 0 default).Rects.length (AU Al.c (b.Pours.getD 0 default).Rects) 74)]
abbrev JK (t_:List (Nat×Blk)):List (Nat×Blk):=(26,ZaY b)::(30,ZaZ b)::(34,Zb0 b)::(B9 b)::(200002,ZaW)::t_
abbrev bQ:List (Nat×Blk):=(JK b [(200003,Zbe b),(200100,Zb2 b),(200102,Zb4 b),(200106,Zb9 b),(200108,Zbb b),(200110,Zbd b),(200112,Zbf b),(200320,Zb6 b),(200321,Zb7 b)])
abbrev bL:List (Nat×Blk):=(JK b [(200003,Zbc b),(200100,Zb2 b),(200102,Zb4 b),(200106,Zb9 b),(200108,Zbb b),(200110,Zbd b),(200320,Zb6 b),(200321,Zb7 b)])
abbrev bE:List (Nat×Blk):=(JK b [(200003,Zba b),(200100,Zb2 b),(200102,Zb4 b),(200106,Zb9 b),(200108,Zbb b),(200320,Zb6 b),(200321,Zb7 b)])
abbrev aX:List (Nat×Blk):=(JK b [(200003,Zb8 b),(200100,Zb2 b),(200102,Zb4 b),(200106,Zb9 b),(200320,Zb6 b),(200321,Zb7 b)])
abbrev aP:List (Nat×Blk):=(JK b [(200003,Zb5 b),(200100,Zb2 b),(200102,Zb4 b),(200320,Zb6 b),(200321,Zb7 b)])
abbrev aK:List (Nat×Blk):=(JK b [(200003,Zb3 b),(200100,Zb2 b),(200102,Zb4 b)])
abbrev aC:List (Nat×Blk):=(JK b [(200003,Zb1 b),(200100,Zb2 b)])
set_option maxHeartbeats 4000000 in
theorem qCyP1 (b:AC) (hc:CW b) (hlen:(b.Pours.length:Int)=1):Frs Tryz.prog 21 [.agg (AC.c b)] (fun _:Unit=>True) (fun _=>mK b) (fun _=>hCyP1 b):=by
 refine J9 Tryz.func21 rfl kr kr kr fun W0 M0 X hP hFl => ?_
 have h0:=hc.lParts
 have h1:=hc.lNets
 have h2:=hc.lTracks
 have h3:=hc.lVias
 have h4:=hc.lPours
 have h5:=hc.lKeeps
 have h6:=hc.lSlots
 have h7:=hc.lClasses
 have h8:=hc.lWaivers
 have h9:=hc.lMatches
 have h10:=hc.lRules
 have hr:=hc.rok
 refine AA<|on<|AA ?_
 refine od [23,27,31] [(22,B7 b.Outline)] [Ay (B7 b.Outline).2.1,0=0,0+b.Parts.length<=maxLen,(0+b.Parts.length)*72<=140737488355328,0=0,0+b.Vias.length<=maxLen,(0+b.Vias.length)*72<=140737488355328,0=0,0+b.Waivers.length<=maxLen,(0+b.Waivers.length)*32<=140737488355328] (.cons (Dz b.Outline au28) .nil) (.cons rfl (.cons rfl (.cons au2 (.cons au2 (.cons rfl (.cons au2 (.cons au2 (.cons rfl (.cons au2 (.cons au2 .nil))))))))))<|AG ?_
 refine Ap (Cv.trans (A2 26 (Au (A0 7 AF.c (([]:List AF):List AF)) (Am 7 AF.c b.Parts))) (Cv.trans (A2 30 (Au (A0 8 Bx.c (([]:List Bx):List Bx)) (Am 8 Bx.c b.Vias))) (Cv.trans (A2 34 (Au (A0 3 BM.c (([]:List BM):List BM)) (Am 3 BM.c b.Waivers))) (Cv.refl _))))<|AA<|AA ?_
 refine rn ⟨R0,[(1,.cells (AC.c b) 40),(2,ZaW),(3,ZaX b),(26,ZaY b),(30,ZaZ b),(34,Zb0 b)]⟩ ?_
 refine Ap (Cv.trans (vr 3 200003 (K:=[]) hP) (Cv.trans (vr 1 200001 (K:=[]) hP) (Cv.trans (wr (⟨R9,[(B9 b),(200002,ZaW),(200003,ZaX b),(26,ZaY b),(30,ZaZ b),(34,Zb0 b)]⟩) 2 200002 (K:=[]) hP) (Cv.refl _)))) ?_
 refine CE (ι:=Unit) (I:=fun _=>True) 200003 (Xg b) 40 (mkB 15 5) [1,2,3,4] [200001,200002] (fun _=>Bn) (fun _=>lEB 15 5 (MD b)) (fun _=>[(B9 b),CF,(VS b)]) (fun _=>⟨Bn,[(200003,Zb1 b),(B9 b),(200002,ZaW),(200100,Zb2 b),(26,ZaY b),(30,ZaZ b),(34,Zb0 b)]⟩) hP hFl (TA b hc kr) (fun _ _ => ?_)
 refine AG ?_
 refine Ap (Cv.trans (ck (⟨Bn,(aC b)⟩)) (Cv.refl _))<|AA<|AA ?_
 refine rn ⟨R8,(aC b)⟩ ?_
 refine CE (ι:=Unit) (I:=fun _=>True) 200003 (aN b) 40 (mkB 15 6) [1,2,3,5] [200001,200002] (fun _=>Bn) (fun _=>lEB 15 6 (Rl b)) (fun _=>[(B9 b),CF,(Rw b)]) (fun _=>⟨Bn,[(200003,Zb3 b),(B9 b),(200002,ZaW),(200102,Zb4 b),(26,ZaY b),(30,ZaZ b),(34,Zb0 b),(200100,Zb2 b)]⟩) hP hFl (J8 b hc kr) (fun _ _ => ?_)
 refine AG ?_
 refine Ap (Cv.trans (ck (⟨Bn,(aK b)⟩)) (Cv.refl _))<|AA<|AA ?_
 refine rn ⟨R7,(aK b)⟩ ?_
 refine CE (ι:=Unit) (I:=fun _=>True) 200003 (aT b) 40 (mkB 15 8) [1,2,3,7] [200001,200002] (fun _=>Bn) (fun _=>lEB 15 8 (.own 200320 8 1)) (fun _=>[(B9 b),CF,(200320,.rowx 8 1 (fun _ _=>default) 92 [(0,(Z2 b [.own 200321 4 (IF b).Rects.length]))]),(200321,.row 4 (b.Pours.getD 0 default).Rects.length (AU Al.c (b.Pours.getD 0 default).Rects) 74)]) (fun _=>⟨Bn,[(200003,Zb5 b),(B9 b),(200002,ZaW),(200320,Zb6 b),(200321,Zb7 b),(26,ZaY b),(30,ZaZ b),(34,Zb0 b),(200100,Zb2 b),(200102,Zb4 b)]⟩) hP hFl (gCxP1 b hc hlen kr) (fun _ _ => ?_)
 refine AG ?_
 refine Ap (Cv.trans (ck (⟨Bn,(aP b)⟩)) (Cv.refl _))<|AA<|AA ?_
 refine rn ⟨R6,(aP b)⟩ ?_
 refine CE (ι:=Unit) (I:=fun _=>True) 200003 (Ed b [.own 200320 8 1,vN,vN,vN,vN,.own 34 3 b.Waivers.length,vN]) 40 (mkB 15 9) [1,2,3,9] [200001,200002] (fun _=>Bn) (fun _=>lEB 15 9 (Rk b)) (fun _=>[(B9 b),CF,(Rv b)]) (fun _=>⟨Bn,[(200003,Zb8 b),(B9 b),(200002,ZaW),(200106,Zb9 b),(26,ZaY b),(30,ZaZ b),(34,Zb0 b),(200100,Zb2 b),(200102,Zb4 b),(200320,Zb6 b),(200321,Zb7 b)]⟩) hP hFl (Lr b hc kr) (fun _ _ => ?_)
 refine AG ?_
 refine Ap (Cv.trans (ck (⟨Bn,(aX b)⟩)) (Cv.refl _))<|AA<|AA ?_
 refine rn ⟨SD,(aX b)⟩ ?_
 refine CE (ι:=Unit) (I:=fun _=>True) 200003 (Ed b (RR b (RL b))) 40 (mkB 15 10) [1,2,3,11] [200001,200002] (fun _=>Bn) (fun _=>lEB 15 10 (Rj b)) (fun _=>[(B9 b),CF,(Ru b)]) (fun _=>⟨Bn,[(200003,Zba b),(B9 b),(200002,ZaW),(200108,Zbb b),(26,ZaY b),(30,ZaZ b),(34,Zb0 b),(200100,Zb2 b),(200102,Zb4 b),(200106,Zb9 b),(200320,Zb6 b),(200321,Zb7 b)]⟩) hP hFl (Lp b hc kr) (fun _ _ => ?_)
 refine AG ?_
 refine Ap (Cv.trans (ck (⟨Bn,(bE b)⟩)) (Cv.refl _))<|AA<|AA ?_
 refine rn ⟨SC,(bE b)⟩ ?_
 refine CE (ι:=Unit) (I:=fun _=>True) 200003 (Ed b (RR b (RP b [vN]))) 40 (mkB 15 11) [1,2,3,13] [200001,200002] (fun _=>Bn) (fun _=>lEB 15 11 (Ri b)) (fun _=>[(B9 b),CF,(Ry b)]) (fun _=>⟨Bn,[(200003,Zbc b),(B9 b),(200002,ZaW),(200110,Zbd b),(26,ZaY b),(30,ZaZ b),(34,Zb0 b),(200100,Zb2 b),(200102,Zb4 b),(200106,Zb9 b),(200108,Zbb b),(200320,Zb6 b),(200321,Zb7 b)]⟩) hP hFl (Io b hc kr) (fun _ _ => ?_)
 refine AG ?_
 refine Ap (Cv.trans (ck (⟨Bn,(bL b)⟩)) (Cv.refl _))<|AA<|AA ?_
 refine rn ⟨SB,(bL b)⟩ ?_
 refine CE (ι:=Unit) (I:=fun _=>True) 200003 (Ed b (MG b (RK b))) 40 (mkB 15 14) [1,2,3,14] [200001,200002] (fun _=>Bn) (fun _=>lEB 15 14 (Rh b)) (fun _=>[(B9 b),CF,(Rx b)]) (fun _=>⟨Bn,[(200003,Zbe b),(B9 b),(200002,ZaW),(200112,Zbf b),(26,ZaY b),(30,ZaZ b),(34,Zb0 b),(200100,Zb2 b),(200102,Zb4 b),(200106,Zb9 b),(200108,Zbb b),(200110,Zbd b),(200320,Zb6 b),(200321,Zb7 b)]⟩) hP hFl (In b hc kr) (fun _ _ => ?_)
 refine AG ?_
 refine Ap (Cv.trans (ck (⟨Bn,(bQ b)⟩)) (Cv.refl _))<|AA<|AA ?_
 refine rn ⟨SA,(bQ b)⟩ ?_
 refine CE (ι:=Unit) (I:=fun _=>True) 200003 (Ed b (MG b (RN b))) 40 (mkB 15 12) [1,2,3,16] [200001,200002] (fun _=>Bn) (fun _=>lEB 15 12 (Rn b)) (fun _=>[(B9 b),CF,(Rz b)]) (fun _=>⟨Bn,[(200003,Zbg b),(B9 b),(200002,ZaW),(200114,Zbh b),(26,ZaY b),(30,ZaZ b),(34,Zb0 b),(200100,Zb2 b),(200102,Zb4 b),(200106,Zb9 b),(200108,Zbb b),(200110,Zbd b),(200112,Zbf b),(200320,Zb6 b),(200321,Zb7 b)]⟩) hP hFl (Lq b hc kr) (fun _ _ => ?_)
 refine AG ?_
 refine Ap (Cv.trans (ck (⟨Bn,(JK b [(200003,Zbg b),(200100,Zb2 b),(200102,Zb4 b),(200106,Zb9 b),(200108,Zbb b),(200110,Zbd b),(200112,Zbf b),(200114,Zbh b),(200320,Zb6 b),(200321,Zb7 b)])⟩)) (Cv.refl _))<|AA ?_
 refine rn ⟨JP,[(26,ZaY b),(30,ZaZ b),(34,Zb0 b),(200002,Zbg b),(200100,Zb2 b),(200102,Zb4 b),(200106,Zb9 b),(200108,Zbb b),(200110,Zbd b),(200112,Zbf b),(200114,Zbh b),(200320,Zb6 b),(200321,Zb7 b)]⟩<|AY ?_
 refine ⟨_,Cv.trans (ck (⟨JP,[(26,ZaY b),(200100,Zb2 b),(200102,Zb4 b),(30,ZaZ b),(200320,Zb6 b),(200106,Zb9 b),(200108,Zbb b),(200110,Zbd b),(200114,Zbh b),(34,Zb0 b),(200112,Zbf b),(200321,Zb7 b),(200002,Zbg b)]⟩)) (Cv.refl _),.inl rfl,mK b,by kernel_rfl,lJ (m:=[(200002,.cells (Ed b (MG b (RO b))) 40)]) kr⟩
end
section
open Go.RowKit
def Zbi:Blk:=.cells Gg 40
variable (b:AC) (q:DM)
def Zbj:Blk:=.row 7 b.Parts.length (IX b) 49
def Zbk:Blk:=.row 2 (Af b).length (IV b) 84
def Zbl:Blk:=.row 6 (AH b).length (IP b) 87
def Zbm:Blk:=.row 8 b.Vias.length (IM b) 89
def Zbn:Blk:=.rowx 8 1 (fun _ _=>default) 92 [(0,(Vv b))]
def Zbo:Blk:=.row 5 (Ai b).length (IW b) 95
def Zbp:Blk:=.row 4 (Ag b).length (IR b) 97
def Zbq:Blk:=.row 2 (AP b).length (He b) 100
def Zbr:Blk:=.row 20 (AR b).length (IU b) 109
def Zbs:Blk:=.row 3 b.Waivers.length (IZ b) 104
def Zbt:Blk:=.row 3 (AM b).length (Hd b) 102
def Zbu:Blk:=.row 4 (Eu b).Rects.length (JQ b) 74
def Zbv:Blk:=.cells (SP b) 40
def Zbw:Blk:=.row 4 ((Eu b).Rects++(Ng q)).length (AU Al.c ((Eu b).Rects++(Ng q))) 74
def Zbx:Blk:=.rowx 8 1 (fun _ _=>default) 92 [(0,(aU b q))]
def LN (b:AC) (q:DM):AC:=AC.mk b.Layers (Ak b.Outline) b.Parts (Af b) (AH b) b.Vias [A8.mk (b.Pours.getD 0 default).Id (b.Pours.getD 0 default).Net (b.Pours.getD 0 default).Layer (b.Pours.getD 0 default).Pitch (b.Pours.getD 0 default).Priority (b.Pours.getD 0 default).Relief (b.Pours.getD 0 default).Spoke ((b.Pours.getD 0 default).Rects++[Al.mk (Int.tmod (AK q.e1 48) 9) (Int.tmod (AK q.e2 64) 9) (W64 ((Int.tmod (AK q.e1 48) 9)+2)) (W64 ((W64 ((Int.tmod (AK q.e2 64) 9)+2))+(W64 ((W64 (Int.tdiv (AK q.e1 48) 40))*1000))))])] (Ai b) (Ag b) (AP b) (AR b) b.Waivers (AM b)
def qJ:CT:=(7,(OL b q),.val [] (.av (.agg (AC.c (LN b q)))))
abbrev Tn:List (Nat×Blk):=[(4,Zbi),(5,Zbv b),(26,Zbj b),(30,Zbm b),(34,Zbs b),(200100,Zbk b),(200102,Zbl b),(200106,Zbo b),(200108,Zbp b),(200110,Zbq b),(200112,Zbt b),(200114,Zbr b),(200320,Zbn b),(200321,Zbu b)]
abbrev Zy (t_:List (Nat×Blk)):List (Nat×Blk):=(4,Zbv b)::(26,Zbj b)::(30,Zbm b)::(34,Zbs b)::(200100,Zbk b)::(200102,Zbl b)::(200106,Zbo b)::(200108,Zbp b)::(200110,Zbq b)::(200112,Zbt b)::(200114,Zbr b)::t_
set_option maxHeartbeats 40000000 in
theorem oA (b:AC) (q:DM) (hc:CW b) (hq:AK q.e0 26=16) (hlen:(b.Pours.length:Int)=1):PuP 7 (qJ b q).2.1 (.av (.agg (AC.c (LN b q)))):=by
 refine pwf Tryz.func7 fun W0 M0 => ?_
 have hl0:=hc.lParts
 have hl1:=hc.lNets
 have hl2:=hc.lTracks
 have hl3:=hc.lVias
 have hl4:=hc.lPours
 have hl5:=hc.lKeeps
 have hl6:=hc.lSlots
 have hl7:=hc.lClasses
 have hl8:=hc.lWaivers
 have hl9:=hc.lMatches
 have hl10:=hc.lRules
 have hN:0<=AK q.e1 48/\AK q.e1 48<48:=I9 _ _ (by decide) (by decide)
 have hK0:=I9 q.e2 64 (by decide) (by decide)
 have hK:0<=AK q.e2 64/\AK q.e2 64<64:=hK0
 have hb0:=hc.rec' 0
 refine AA<|rn ⟨Oc,[(2,.cells (AC.c b) 40),(FV q),(4,Zbi)]⟩<|AA ?_
 refine Dm ?_
 refine Fw Dh 1 [] [] [] [3,4,11] [3,4] [] ⟨(Oi b),[(FV q),(4,Zbi)]⟩ .nil kr .nil ?_
 refine H8 (ι:=Unit) (I:=fun _=>True) (fun _=>⟨[(3,tP 3 0),(4,tP 4 0),(Of b),(12,.av (.agg (SP b)))],[(26,Zbj b),(200100,Zbk b),(200102,Zbl b),(30,Zbm b),(200320,Zbn b),(200106,Zbo b),(200108,Zbp b),(200110,Zbq b),(200114,Zbr b),(34,Zbs b),(200112,Zbt b),(200321,Zbu b),(FV q),(4,Zbi)]⟩) hk0 ⟨⟨_,_,rfl,rfl,⟨fun _=>default,by kernel_rfl⟩,by kernel_rfl⟩,fun _ _=>by kernel_rfl,rfl,rfl⟩ (qCyP1 b au17 au17) (fun _=>by kernel_rfl) (fun _=>by kernel_rfl) (fun _ _ => ?_)
 refine En Dh [] [] [] [3,4,5] [3,4,5,26,30,34,200100,200102,200106,200108,200110,200112,200114,200320,200321] [] ⟨Ob,[(FV q),(4,Zbi),(5,Zbv b),(26,Zbj b),(30,Zbm b),(34,Zbs b),(200100,Zbk b),(200102,Zbl b),(200106,Zbo b),(200108,Zbp b),(200110,Zbq b),(200112,Zbt b),(200114,Zbr b),(200320,Zbn b),(200321,Zbu b)]⟩ .nil kr .nil<|AG<|AA ?_
 refine oc [(15,Ez q.e1 48)] [0<=(1:Int)/\(1:Int)<(3:Int),Ay (Ez q.e1 48).2.1] (.cons (Gr q.e1 48 au17) .nil) (.cons (by decide) (.cons rfl .nil))<|AG<|AA ?_
 refine oc [(18,Ez q.e2 64)] [0<=(2:Int)/\(2:Int)<(3:Int),Ay (Ez q.e2 64).2.1] (.cons (Gr q.e2 64 au17) .nil) (.cons (by decide) (.cons rfl .nil))<|AG ?_
 refine AA<|AA ?_
 refine rc [(21,Ez q.e0 26)] [0<=(0:Int)/\(0:Int)<(3:Int),Ay (Ez q.e0 26).2.1] ⟨[(4,tP 4 0),(5,tP 5 0),(6,tI (AK q.e1 48)),(7,tI (AK q.e2 64)),(21,tI (AK q.e0 26))],[(4,Zbi),(5,Zbv b),(26,Zbj b),(30,Zbm b),(34,Zbs b),(200100,Zbk b),(200102,Zbl b),(200106,Zbo b),(200108,Zbp b),(200110,Zbq b),(200112,Zbt b),(200114,Zbr b),(200320,Zbn b),(200321,Zbu b)]⟩ (.cons (Gr q.e0 26 au17) .nil) (.cons (by decide) (.cons rfl .nil)) ?_
 (try rw [hq])
 refine AG<|AQ<|AA ?_
 refine on ?_
 refine Ar kr<|AA ?_
 refine on ?_
 refine Ar kr<|AA ?_
 refine on ?_
 refine Ar kr<|AA ?_
 refine on ?_
 refine Ar kr<|AA ?_
 refine on ?_
 refine Ar kr<|AA ?_
 refine rn ⟨(Ve q),(Tn b)⟩ ?_
 refine Ar kr<|AA ?_
 refine on ?_
 refine Ar kr<|AA ?_
 refine on ?_
 refine Ar kr<|AA ?_
 refine on ?_
 refine Ar kr<|AA ?_
 refine on ?_
 refine Ar kr<|AA ?_
 refine on ?_
 refine Ar kr<|AA ?_
 refine rn ⟨(Vd q),(Tn b)⟩ ?_
 refine Ar kr<|AA ?_
 refine on ?_
 refine Ar kr<|AA ?_
 refine on ?_
 refine Ar kr<|AA ?_
 refine on ?_
 refine Ar kr<|AA ?_
 refine on ?_
 refine Ar kr<|AA ?_
 refine on ?_
 refine CN kr<|AA ?_
 refine rn ⟨(B1 q [(340,tB (decide ((0:Int)<((1:Nat):Int))))]),(Tn b)⟩ ?_
 have h1:(decide ((0:Int)<((1:Nat):Int)))=true:=(by decide)
 have g1:=oT h1
 refine AO _ rfl (fun _ => ?_) (fun h=>absurd (h1.symm.trans h) (by decide))
 refine AA<|dw [] [] [(((1:Nat):Int):Int)≠0,0<=(Int.tmod (AK q.e2 64) ((1:Nat):Int):Int)/\(Int.tmod (AK q.e2 64) ((1:Nat):Int):Int)<((1:Nat):Int)] ⟨(B1 q [(9,.av (.one (.rptr 200320 8 (Int.tmod (AK q.e2 64) ((1:Nat):Int)).toNat 0)))]),(Tn b)⟩ .nil (.cons au14 (.cons (by first | decide | omega | (have:=tmb hK.1 (n:=((1:Nat):Int)) (by decide);omega)) .nil))<|AG ?_
 have g2:((Int.tmod (AK q.e2 64) ((1:Nat):Int)).toNat:Nat)=0:=(by have:=tmb hK.1 (n:=((1:Nat):Int)) (by decide);omega)
 (try rw [g2])
 refine rc [] [(9:Int)≠0,(9:Int)≠0,(9:Int)≠0,(9:Int)≠0,(40:Int)≠0,(b.Pours.getD 0 default).Rects.length=(b.Pours.getD 0 default).Rects.length,(b.Pours.getD 0 default).Rects.length+1<=maxLen,((b.Pours.getD 0 default).Rects.length+1)*32<=140737488355328] ⟨E4,[(4,Zbi),(5,Zbv b),(26,Zbj b),(30,Zbm b),(34,Zbs b),(370,.row 4 ((Eu b).Rects.length+1) (fun i_ j_=>if i_<(Eu b).Rects.length then (JQ b) i_ j_ else (Vs q) (i_-(Eu b).Rects.length) j_) 74),(200100,Zbk b),(200102,Zbl b),(200106,Zbo b),(200108,Zbp b),(200110,Zbq b),(200112,Zbt b),(200114,Zbr b),(200320,.rowx 8 1 (fun _ _=>default) 92 [(0,(bC b))])]⟩ .nil (.cons au14 (.cons au14 (.cons au14 (.cons au14 (.cons au14 (.cons rfl (.cons au9 (.cons au9 .nil))))))))<|A3<|AG ?_
 refine Ap (Cv.trans (DH (⟨E4,[(4,Zbi),(5,Zbv b),(26,Zbj b),(30,Zbm b),(34,Zbs b),(370,Zbw b q),(200100,Zbk b),(200102,Zbl b),(200106,Zbo b),(200108,Zbp b),(200110,Zbq b),(200112,Zbt b),(200114,Zbr b),(200320,Zbx b q)]⟩) lr (.cons ⟨rfl,.refl _⟩ (.cons ⟨rfl,.refl _⟩ (.cons ⟨rfl,.refl _⟩ (.cons ⟨rfl,.refl _⟩ (.cons ⟨rfl,.refl _⟩ (.cons ⟨rfl,Ce 74 (Au (Am 4 Al.c (b.Pours.getD 0 default).Rects) (Bd (c:=Al.c) (xs:=([Al.mk (Int.tmod (AK q.e1 48) 9) (Int.tmod (AK q.e2 64) 9) (W64 ((Int.tmod (AK q.e1 48) 9)+2)) (W64 ((W64 ((Int.tmod (AK q.e2 64) 9)+2))+(W64 ((W64 (Int.tdiv (AK q.e1 48) 40))*1000))))]:List Al)) rfl kr))⟩ (.cons ⟨rfl,.refl _⟩ (.cons ⟨rfl,.refl _⟩ (.cons ⟨rfl,.refl _⟩ (.cons ⟨rfl,.refl _⟩ (.cons ⟨rfl,.refl _⟩ (.cons ⟨rfl,.refl _⟩ (.cons ⟨rfl,.refl _⟩ (.cons ⟨rfl,.rowx _ _ _ _ (.cons ⟨rfl,(rr5 (rr2 (.cons (.own _ _ au16) .nil)))⟩ .nil)⟩ .nil))))))))))))))) (Cv.refl _))<|AA ?_
 refine rn ⟨[(4,tP 4 0)],[(4,Zbv b),(26,Zbj b),(30,Zbm b),(34,Zbs b),(370,Zbw b q),(200100,Zbk b),(200102,Zbl b),(200106,Zbo b),(200108,Zbp b),(200110,Zbq b),(200112,Zbt b),(200114,Zbr b),(200320,Zbx b q)]⟩<|AY ?_
 exact zy (Cv.trans (H6 (⟨[(4,tP 4 0)],(Zy b [(200320,.rowx 8 1 (fun _ _=>default) 92 [(0,(Vu b q))])])⟩) 370 hk0) (Cv.trans (HK (⟨[(4,tP 4 0)],(Zy b [(200320,.row 8 1 (BB 8 1 (Vu b q)) 92)])⟩) 200320 8 1 (fun _ _=>default) 92 [(mI b q)] kr kr kr kr) (Cv.trans (A2 200320 (A0 8 A8.c ([A8.mk (b.Pours.getD 0 default).Id (b.Pours.getD 0 default).Net (b.Pours.getD 0 default).Layer (b.Pours.getD 0 default).Pitch (b.Pours.getD 0 default).Priority (b.Pours.getD 0 default).Relief (b.Pours.getD 0 default).Spoke ((b.Pours.getD 0 default).Rects++[Al.mk (Int.tmod (AK q.e1 48) 9) (Int.tmod (AK q.e2 64) 9) (W64 ((Int.tmod (AK q.e1 48) 9)+2)) (W64 ((W64 ((Int.tmod (AK q.e2 64) 9)+2))+(W64 ((W64 (Int.tdiv (AK q.e1 48) 40))*1000))))])]:List A8))) (Cv.trans (B5 [26,200100,200102,30,200320,200106,200108,200110,200114,34,200112] hk0) (Cv.refl _))))) (by simp only [LN,h1,cond_true,cond_false] <;> kernel_rfl)
end
section
open Go.RowKit
def Zby:Blk:=.cells Gg 40
variable (b:AC) (q:DM)
def Zbz:Blk:=.row 7 b.Parts.length (IX b) 49
def ZbA:Blk:=.row 2 (Af b).length (IV b) 84
def ZbB:Blk:=.row 6 (AH b).length (IP b) 87
def ZbC:Blk:=.row 8 b.Vias.length (IM b) 89
def ZbD:Blk:=.row 8 (Ah b).length (AU A8.c (Ah b)) 92
def ZbE:Blk:=.row 5 (Ai b).length (IW b) 95
def ZbF:Blk:=.row 4 (Ag b).length (IR b) 97
def ZbG:Blk:=.row 2 (AP b).length (He b) 100
def ZbH:Blk:=.row 20 (AR b).length (IU b) 109
def ZbI:Blk:=.row 3 b.Waivers.length (IZ b) 104
def ZbJ:Blk:=.row 3 (AM b).length (Hd b) 102
def ZbK:Blk:=.cells (VJ b) 40
def LO (b:AC) (q:DM):AC:=AC.mk b.Layers (Ak b.Outline) b.Parts (Af b) (AH b) b.Vias (Ah b) (Ai b) (Ag b) (AP b) (AR b) b.Waivers (AM b)
def qK:CT:=(7,(OL b q),.val [] (.av (.agg (AC.c (LO b q)))))
abbrev Xd:List (Nat×Blk):=[(4,Zby),(5,ZbK b),(26,Zbz b),(30,ZbC b),(34,ZbI b),(200100,ZbA b),(200102,ZbB b),(200104,ZbD b),(200106,ZbE b),(200108,ZbF b),(200110,ZbG b),(200112,ZbJ b),(200114,ZbH b)]
set_option maxHeartbeats 40000000 in
theorem oB (b:AC) (q:DM) (hc:CW b) (hq:AK q.e0 26=16) (hlen:(b.Pours.length:Int)=0):PuP 7 (qK b q).2.1 (.av (.agg (AC.c (LO b q)))):=by
 refine pwf Tryz.func7 fun W0 M0 => ?_
 have hl0:=hc.lParts
 have hl1:=hc.lNets
 have hl2:=hc.lTracks
 have hl3:=hc.lVias
 have hl4:=hc.lPours
 have hl5:=hc.lKeeps
 have hl6:=hc.lSlots
 have hl7:=hc.lClasses
 have hl8:=hc.lWaivers
 have hl9:=hc.lMatches
 have hl10:=hc.lRules
 have hN:0<=AK q.e1 48/\AK q.e1 48<48:=I9 _ _ (by decide) (by decide)
 have hK0:=I9 q.e2 64 (by decide) (by decide)
 have hK:0<=AK q.e2 64/\AK q.e2 64<64:=hK0
 have hfP:=Qi b
 refine AA<|rn ⟨Oc,[(2,.cells (AC.c b) 40),(FV q),(4,Zby)]⟩<|AA ?_
 refine Dm ?_
 refine Fw Dh 1 [] [] [] [3,4,11] [3,4] [] ⟨(Oi b),[(FV q),(4,Zby)]⟩ .nil kr .nil ?_
 refine H8 (ι:=Unit) (I:=fun _=>True) (fun _=>⟨[(3,tP 3 0),(4,tP 4 0),(Of b),(12,.av (.agg (VJ b)))],[(26,Zbz b),(200100,ZbA b),(200102,ZbB b),(30,ZbC b),(200104,ZbD b),(200106,ZbE b),(200108,ZbF b),(200110,ZbG b),(200114,ZbH b),(34,ZbI b),(200112,ZbJ b),(FV q),(4,Zby)]⟩) hk0 ⟨⟨_,_,rfl,rfl,⟨fun _=>default,by kernel_rfl⟩,by kernel_rfl⟩,fun _ _=>by kernel_rfl,rfl,rfl⟩ (qCpA b au17) (fun _=>by kernel_rfl) (fun _=>by kernel_rfl) (fun _ _ => ?_)
 refine En Dh [] [] [] [3,4,5] [3,4,5,26,30,34,200100,200102,200104,200106,200108,200110,200112,200114] [] ⟨Ob,[(FV q),(4,Zby),(5,ZbK b),(26,Zbz b),(30,ZbC b),(34,ZbI b),(200100,ZbA b),(200102,ZbB b),(200104,ZbD b),(200106,ZbE b),(200108,ZbF b),(200110,ZbG b),(200112,ZbJ b),(200114,ZbH b)]⟩ .nil kr .nil<|AG<|AA ?_
 refine oc [(15,Ez q.e1 48)] [0<=(1:Int)/\(1:Int)<(3:Int),Ay (Ez q.e1 48).2.1] (.cons (Gr q.e1 48 au17) .nil) (.cons (by decide) (.cons rfl .nil))<|AG<|AA ?_
 refine oc [(18,Ez q.e2 64)] [0<=(2:Int)/\(2:Int)<(3:Int),Ay (Ez q.e2 64).2.1] (.cons (Gr q.e2 64 au17) .nil) (.cons (by decide) (.cons rfl .nil))<|AG ?_
 refine AA<|AA ?_
 refine rc [(21,Ez q.e0 26)] [0<=(0:Int)/\(0:Int)<(3:Int),Ay (Ez q.e0 26).2.1] ⟨[(4,tP 4 0),(5,tP 5 0),(6,tI (AK q.e1 48)),(7,tI (AK q.e2 64)),(21,tI (AK q.e0 26))],[(4,Zby),(5,ZbK b),(26,Zbz b),(30,ZbC b),(34,ZbI b),(200100,ZbA b),(200102,ZbB b),(200104,ZbD b),(200106,ZbE b),(200108,ZbF b),(200110,ZbG b),(200112,ZbJ b),(200114,ZbH b)]⟩ (.cons (Gr q.e0 26 au17) .nil) (.cons (by decide) (.cons rfl .nil)) ?_
 (try rw [hq])
 refine AG<|AQ<|AA ?_
 refine on ?_
 refine Ar kr<|AA ?_
 refine on ?_
 refine Ar kr<|AA ?_
 refine on ?_
 refine Ar kr<|AA ?_
 refine on ?_
 refine Ar kr<|AA ?_
 refine on ?_
 refine Ar kr<|AA ?_
 refine rn ⟨(Ve q),(Xd b)⟩ ?_
 refine Ar kr<|AA ?_
 refine on ?_
 refine Ar kr<|AA ?_
 refine on ?_
 refine Ar kr<|AA ?_
 refine on ?_
 refine Ar kr<|AA ?_
 refine on ?_
 refine Ar kr<|AA ?_
 refine on ?_
 refine Ar kr<|AA ?_
 refine rn ⟨(Vd q),(Xd b)⟩ ?_
 refine Ar kr<|AA ?_
 refine on ?_
 refine Ar kr<|AA ?_
 refine on ?_
 refine Ar kr<|AA ?_
 refine on ?_
 refine Ar kr<|AA ?_
 refine on ?_
 refine Ar kr<|AA ?_
 refine on ?_
 refine CN kr<|AA ?_
 refine rn ⟨(B1 q [(340,tB (decide ((0:Int)<(((Ah b).length:Nat):Int))))]),(Xd b)⟩ ?_
 have h1:(decide ((0:Int)<(((Ah b).length:Nat):Int)))=false:=(by rw [hfP,hlen];decide)
 refine AO _ rfl (fun h=>absurd (h1.symm.trans h) (by decide)) (fun _ => ?_)
 refine AZ<|A3 ?_
 refine AG<|AA ?_
 refine on<|AY ?_
 exact zy (Cv.trans (B5 [26,200100,200102,30,200104,200106,200108,200110,200114,34,200112] hk0) (Cv.refl _)) (by simp only [LO,h1,cond_true,cond_false] <;> kernel_rfl)
end
def Cf (b:AC) (q:DM):AC:=bif decide (AK q.e0 26=7) then L6 b q else bif decide (AK q.e0 26=16) then (bif decide ((b.Pours.length:Int)=2) then Jv b q else bif decide ((b.Pours.length:Int)=1) then LN b q else LO b q) else B6 b q
def YX (b:AC) (q:DM):CT:=(7,(XM b q).2.1,.val [] (.av (.agg (AC.c (Cf b q)))))
theorem pOddA (b:AC) (q:DM) (hc:CW b) (hn:(b.Nets.length:Int)=3) (hp:(b.Pours.length:Int)<=2):PuP 7 (YX b q).2.1 (.av (.agg (AC.c (Cf b q)))):=by
 show GE Tryz.prog 7 (XM b q).2.1 _
 by_cases h7:AK q.e0 26=7
 ·have e:Cf b q=L6 b q:=by unfold Cf;rw [decide_eq_true h7,cond_true]
  rw [e];exact pOddN b q hc h7 hn
 by_cases h16:AK q.e0 26=16
 ·by_cases h2:(b.Pours.length:Int)=2
  ·have e:Cf b q=Jv b q:=by unfold Cf;rw [decide_eq_false h7,cond_false,decide_eq_true h16,cond_true,decide_eq_true h2,cond_true]
   rw [e];exact nZ b q hc h16 h2
  by_cases h1:(b.Pours.length:Int)=1
  ·have e:Cf b q=LN b q:=by unfold Cf;rw [decide_eq_false h7,cond_false,decide_eq_true h16,cond_true,decide_eq_false h2,cond_false,decide_eq_true h1,cond_true]
   rw [e];exact oA b q hc h16 h1
  have e:Cf b q=LO b q:=by unfold Cf;rw [decide_eq_false h7,cond_false,decide_eq_true h16,cond_true,decide_eq_false h2,cond_false,decide_eq_false h1,cond_false]
  rw [e];exact oB b q hc h16 oM
 have e:Cf b q=B6 b q:=by unfold Cf;rw [decide_eq_false h7,cond_false,decide_eq_false h16,cond_false]
 rw [e];exact oC b q hc h7 h16
theorem oX (b:AC) (q:DM) (hc:CW b) (hn:(b.Nets.length:Int)=3) (hp:(b.Pours.length:Int)<=2):OKc (YX b q):=cPu<|pOddA b q hc hn hp
theorem Yo (r:Al):(DT r).Edges.length=4:=rfl
theorem Zf (p:AE) (r:Int):(Dc p r).Edges.length=1:=rfl
def NC (n:Nat) (l:List BO):Prop:=l.length<=n/\∀ g∈l,LM g
theorem Wz {n:Nat} {c:Bool} {a b:List BO} (ha:NC n a) (hb:NC n b):NC n (bif c then a else b):=by cases c <;> assumption
theorem Wy {n:Nat}:NC n []:=⟨Nat.zero_le _,fun g hg=>by cases hg⟩
theorem S6 {n:Nat} {g:BO} {l:List BO} (hg:LM g) (h:NC n l):NC (n+1) (g::l):=⟨Nat.succ_le_succ h.1,fun x hx=>(List.mem_cons.1 hx).elim (fun e=>e▸hg) (h.2 x)⟩
theorem pX {n:Nat} {g:BO} {l:List BO} (hg:LM g) (h:NC n l):NC (n+1) (l++[g]):=⟨by rw [List.length_append];exact Nat.succ_le_succ h.1,fun x hx=>(List.mem_append.1 hx).elim (h.2 x) (fun e=>by rw [List.mem_singleton.1 e];exact hg)⟩
theorem YO {k:Int} {a c:CA}:LM (BO.mk k [a,c]):=(by decide:((2:Nat):Int)<=1000000)
theorem gs_up {n m:Nat} {l:List BO} (h:NC n l) (k:n<=m):NC m l:=⟨Nat.le_trans h.1 k,h.2⟩
theorem ZO (l:List Int) (d:AD):NC 3 (Z53 l d):=by
 have h1:NC 2 (Z4P l d):=Wz (S6 YO Wy) Wy
 have h2:NC 2 (Z4X l d):=Wz (S6 YO (S6 YO Wy)) h1
 exact Wz (pX YO h2) (gs_up h2 (by decide))
theorem Sq (d:AD) (k:Int):((Z4F d k).length:Int)<=1000000:=by
 unfold Z4F Z4A Z4D
 cases decide ((AB (AB d 2).2 3).1=0) with
 | true=>rw [cond_true,Yo];decide
 | false =>
  rw [cond_false]
  cases decide ((AB (AB d 2).2 3).1=1) with
  | true=>rw [cond_true,Zf];decide
  | false=>exact (by decide:((1:Nat):Int)<=1000000)
theorem Qf (l:List Int) (name:ByteArray):∀ (n:Nat) (v:List BL) (d:AD) (k:Int),(∀ p∈v,VE p)->(v.length:Int)<=1000000->((v.length:Int)+(W64 (2+(AB (AD.mk l 0) 5).1)-k)<=1000000)->((W64 (2+(AB (AD.mk l 0) 5).1))-k).toNat<n ->
  LL (DW l name n v d k)
 | 0,v,d,k,_,_,_,h=>absurd h (Nat.not_lt_zero _)
 | n+1,v,d,k,hv,h0,h1,h2=>by
  unfold DW
  by_cases h:k<W64 (2+(AB (AD.mk l 0) 5).1)
  ·rw [decide_eq_true h,cond_true]
   refine Qf l name n _ _ (k+1) (fun p hp => ?_) (by simp only [List.length_append,List.length_cons,List.length_nil];omega) (by simp only [List.length_append,List.length_cons,List.length_nil];omega) (by omega)
   rcases List.mem_append.1 hp with hp | hp
   ·exact hv p hp
   rw [List.mem_singleton.1 hp]
   exact Sq d k
  rw [decide_eq_false h,cond_false]
  have hg:=ZO l d
  exact ⟨h0,by have:=hg.1;show ((Z53 l d).length:Int)<=1000000;omega,hv,hg.2⟩
theorem Uf (l:List Int) (name:ByteArray):LL (BG l name):=by
 have hn:=Db (AD.mk l 0) 5 (by decide) (by decide)
 have hw:W64 (2+(AB (AD.mk l 0) 5).1)=2+(AB (AD.mk l 0) 5).1:=Az (by omega) (by omega)
 unfold BG
 exact Qf l name _ [] _ 0 (fun p hp=>by cases hp) (by decide) (by simp only [List.length_nil];omega) (by omega)
theorem YB (l:List (List Int)) (v6_4:List AF) (v5:AD) (v8:Int) (a1 a3 a5:List AX) (d1:AD) (v10:Int) (K0:List AF->AD->Int->(AC×(List AV))) (K1:List AX->List AX->List AX->AD->Int->(AC×(List AV))) (hK:∀ a b c d,CM (K1 a b c d (v10+1)).2):∀ (n:Nat) (x y z:List AX) (d:AD) (k:Int),0<=k->(((Bs [BG (Aa l 0) ({ data := #[82] }:ByteArray),BG (Aa l 1) ({ data := #[81] }:ByteArray)] (v6_4.getD v10.toNat default).Type').1.Pads.length:Int)-k).toNat<n->CM (Dn l v6_4 v5 v8 a1 a3 a5 d1 v10 K0 K1 n x y z d k).2
 | 0,x,y,z,d,k,_,h=>absurd h (Nat.not_lt_zero _)
 | n+1,x,y,z,d,k,k0,h=>by
  unfold Dn
  show CM (bif decide ((k:Int)<((Bs [BG (Aa l 0) ({ data := #[82] }:ByteArray),BG (Aa l 1) ({ data := #[81] }:ByteArray)] (v6_4.getD v10.toNat default).Type').1.Pads.length:Int)) then (_:AC×List AV) else _).2
  by_cases hc:(k:Int)<((Bs [BG (Aa l 0) ({ data := #[82] }:ByteArray),BG (Aa l 1) ({ data := #[81] }:ByteArray)] (v6_4.getD v10.toNat default).Type').1.Pads.length:Int)
  ·rw [decide_eq_true hc]
   exact YB l v6_4 v5 v8 a1 a3 a5 d1 v10 K0 K1 hK n _ _ _ _ _ (by omega) (by omega)
  rw [decide_eq_false hc]
  exact hK _ _ _ _
theorem nL (a c:List Int) (x y:ByteArray):CM [BG a x,BG c y]:=by
 refine ⟨(by decide:((2:Nat):Int)<=1000000),fun t ht => ?_⟩
 simp only [List.mem_cons,List.not_mem_nil,or_false] at ht
 rcases ht with rfl | rfl <;> exact Uf _ _
theorem YC (l:List (List Int)) (v6_4:List AF) (v5:AD) (v8:Int) (K0:List AF->AD->Int->(AC×(List AV))):∀ (n:Nat) (x y z:List AX) (d:AD) (k:Int),0<=k->(W64 (1+(AB (AB (AD.mk (Aa l 2) 0) 3).2 3).1)-k).toNat<n->CM (DV l v6_4 v5 v8 K0 n x y z d k).2
 | 0,x,y,z,d,k,_,h=>absurd h (Nat.not_lt_zero _)
 | n+1,x,y,z,d,k,k0,h=>by
  unfold DV
  by_cases hc:k<W64 (1+(AB (AB (AD.mk (Aa l 2) 0) 3).2 3).1)
  ·simp only [hc,decide_true,cond_true]
   exact YB l v6_4 v5 v8 x y z d k K0 _ (fun a b c e=>YC l v6_4 v5 v8 K0 n a b c e (k+1) (by omega) (by omega)) _ _ _ _ _ 0 (by omega) (Nat.lt_succ_self _)
  simp only [hc,decide_false,cond_false]
  exact nL _ _ _ _
theorem YD (l:List (List Int)):∀ (n:Nat) (v:List AF) (d:AD) (k:Int),0<=k->(W64 (1+(AB (AB (AD.mk (Aa l 2) 0) 3).2 3).1)-k).toNat<n->CM (Cs l n v d k).2
 | 0,v,d,k,_,h=>absurd h (Nat.not_lt_zero _)
 | n+1,v,d,k,k0,h=>by
  unfold Cs
  by_cases hc:k<W64 (1+(AB (AB (AD.mk (Aa l 2) 0) 3).2 3).1)
  ·simp only [hc,decide_true,cond_true]
   exact YD l n _ _ _ (by omega) (by omega)
  simp only [hc,decide_false,cond_false]
  exact YC l v d k _ _ _ _ _ _ 0 (by omega) (Nat.lt_succ_self _)
theorem Wo (l:List (List Int)):CM (DI l).2:=by
 unfold DI
 exact YD l _ _ _ 0 (by omega) (Nat.lt_succ_self _)
def Ix {α:Type} [Inhabited α] (P:Nat->α->Prop) (v:List α):Prop:=∀ k,k<v.length->P k (v.getD k default)
theorem Su {α:Type} [Inhabited α] {P:Nat->α->Prop}:Ix P ([]:List α):=fun k h=>absurd h (Nat.not_lt_zero _)
theorem Sv {α:Type} [Inhabited α] {P:Nat->α->Prop} {v:List α} {x:α} (h:Ix P v) (hx:P v.length x):Ix P (v++[x]):=by
 intro k hk
 by_cases h1:k<v.length
 ·rw [List.getD_eq_getElem?_getD,List.getElem?_append_left h1,<- List.getD_eq_getElem?_getD];exact h k h1
 have e:k=v.length:=by simp only [List.length_append,List.length_cons,List.length_nil] at hk;omega
 subst e
 rw [List.getD_eq_getElem?_getD,List.getElem?_append_right (Nat.le_refl _),Nat.sub_self];exact hx
theorem pP {α:Type} [Inhabited α] {P:Nat->α->Prop} {v:List α} {x:α} (h:Ix P v) (hx:x∈v):∃ k,k<v.length/\v.getD k default=x/\P k x:=by
 obtain ⟨k,hk,e⟩:=List.getElem_of_mem hx
 have e2:v.getD k default=x:=by rw [List.getD_eq_getElem?_getD,List.getElem?_eq_getElem hk];exact e
 exact ⟨k,hk,e2,e2▸h k hk⟩
structure qS (k:Nat) (p:BL):Prop where
 lt:k<6
 name:p.Name=As k
 drill:0<=p.Drill/\p.Drill<=6
 shp:∃ y:Int,0<=y/\y<=10/\p.At=AE.mk (30*(k:Int)) y/\(p.Shape=DT (Al.mk (30*(k:Int)-6) (y-6) (30*(k:Int)+6) (y+6))\/(∃ r:Int,4<=r/\r<=6/\p.Shape=Dc (AE.mk (30*(k:Int)) y) r)\/p.Shape=An.mk 1 [AN.mk 1 (AE.mk (30*(k:Int)-2) y) (AE.mk (30*(k:Int)+2) y) (AE.mk 0 0)] 4)
theorem Cg {d:AD} {n:Int} (h0:0<n) (h1:n<=1000000):0<=(AB d n).1/\(AB d n).1<n:=Db d n h0 (by omega)
theorem Qh (l:List Int) (name:ByteArray):∀ (n:Nat) (v:List BL) (d:AD) (k:Int),Ix qS v->(v.length:Int)=k->k<=W64 (2+(AB (AD.mk l 0) 5).1)->(W64 (2+(AB (AD.mk l 0) 5).1)-k).toNat<n->Ix qS (DW l name n v d k).Pads
 | 0,v,d,k,_,_,_,h=>absurd h (Nat.not_lt_zero _)
 | n+1,v,d,k,hv,hl,hk,h=>by
  have hn:=Cg (d:=AD.mk l 0) (n:=5) (by decide) (by decide)
  have hw:W64 (2+(AB (AD.mk l 0) 5).1)=2+(AB (AD.mk l 0) 5).1:=Az (by omega) (by omega)
  unfold DW
  by_cases hc:k<W64 (2+(AB (AD.mk l 0) 5).1)
  ·rw [decide_eq_true hc,cond_true]
   refine Qh l name n _ _ _ (Sv hv ?_) (by simp only [List.length_append,List.length_cons,List.length_nil];omega) (by omega) (by omega)
   have hk6:v.length<6:=by omega
   have hy:=Cg (d:=d) (n:=2) (by decide) (by decide)
   have hr:=Cg (d:=(AB (AB d 2).2 3).2) (n:=3) (by decide) (by decide)
   have h4:=Cg (d:=Z4E d) (n:=4) (by decide) (by decide)
   have h2:=Cg (d:=(AB (Z4E d) 4).2) (n:=2) (by decide) (by decide)
   have e1:W64 (30*k)=30*(v.length:Int):=by rw [Az (by omega) (by omega)];omega
   have e2:W64 (10*(AB d 2).1)=10*(AB d 2).1:=Az (by omega) (by omega)
   refine ⟨hk6,by rw [<- hl],?_,10*(AB d 2).1,by omega,by omega,by show AE.mk _ _=_;rw [e1,e2],?_⟩
   ·show 0<=W64 (W64 (2*(AB (Z4E d) 4).1)*(AB (AB (Z4E d) 4).2 2).1)/\W64 (W64 (2*(AB (Z4E d) 4).1)*(AB (AB (Z4E d) 4).2 2).1)<=6
    rw [Az (x:=2*(AB (Z4E d) 4).1) (by omega) (by omega)]
    have h01:(AB (AB (Z4E d) 4).2 2).1=0\/(AB (AB (Z4E d) 4).2 2).1=1:=by omega
    rcases h01 with h01 | h01 <;> rw [h01] <;> rw [Az (by omega) (by omega)] <;> omega
   show (An.mk _ (Z4F d k) _=_)\/_
   unfold Z4F Z4A Z4D
   rw [e1,e2]
   cases decide ((AB (AB d 2).2 3).1=0) with
   | true =>
    simp only [cond_true]
    left
    rw [Az (x:=30*(v.length:Int)-6) (by omega) (by omega),Az (x:=10*(AB d 2).1-6) (by omega) (by omega),Az (x:=30*(v.length:Int)+6) (by omega) (by omega),Az (x:=10*(AB d 2).1+6) (by omega) (by omega)]
   | false =>
    simp only [cond_false]
    right
    cases decide ((AB (AB d 2).2 3).1=1) with
    | true =>
     simp only [cond_true]
     left
     exact ⟨W64 (4+(AB (AB (AB d 2).2 3).2 3).1),by rw [Az (by omega) (by omega)];omega,by rw [Az (by omega) (by omega)];omega,rfl⟩
    | false =>
     simp only [cond_false]
     right
     rw [Az (x:=30*(v.length:Int)-2) (by omega) (by omega),Az (x:=30*(v.length:Int)+2) (by omega) (by omega)]
  rw [decide_eq_false hc,cond_false]
  exact hv
theorem Ug (l:List Int) (name:ByteArray):Ix qS (BG l name).Pads:=by
 have hn:=Cg (d:=AD.mk l 0) (n:=5) (by decide) (by decide)
 have hw:W64 (2+(AB (AD.mk l 0) 5).1)=2+(AB (AD.mk l 0) 5).1:=Az (by omega) (by omega)
 unfold BG
 exact Qh l name _ [] _ 0 Su rfl (by omega) (by omega)
abbrev nR:ByteArray:={ data := #[82] }
abbrev nQ:ByteArray:={ data := #[81] }
abbrev refs3:List ByteArray:=[({ data := #[82,49] }:ByteArray),({ data := #[82,50] }:ByteArray),({ data := #[120,47,82,49] }:ByteArray)]
structure RF (k:Nat) (p:AF):Prop where
 id:p.Id=1+(k:Int)
 ref:p.Ref=refs3.getD k ⟨#[]⟩
 typ:p.Type'=nR\/p.Type'=nQ
 turn:0<=p.Turn/\p.Turn<4
 x:80<=p.At.X/\p.At.X<=300
 y:100<=p.At.Y/\p.At.Y<=270
abbrev Kt (l:List (List Int)):List AV:=[Z5E l,Z5F l]
theorem Yj (l:List (List Int)) {i:Int} (hi:0<=i/\i<2):((Kt l).getD i.toNat default).Name=nR\/((Kt l).getD i.toNat default).Name=nQ:=by
 have h01:i=0\/i=1:=by omega
 rcases h01 with rfl | rfl
 ·exact .inl (GB _ _).1
 exact .inr (GB _ _).1
theorem Tr (l:List (List Int)) {x:ByteArray} (h:x=nR\/x=nQ):∃ a,Bs (Kt l) x=(BG a x,true)/\BG a x∈Kt l:=by
 have h0:=(GB (Aa l 0) nR).1
 have h1:=(GB (Aa l 1) nQ).1
 rcases h with rfl | rfl
 ·refine ⟨Aa l 0,?_,List.mem_cons_self ..⟩
  have:=Qt (a:=Z5E l) (c:=Z5F l)
  rw [show (Z5E l).Name=nR from h0] at this
  exact this
 refine ⟨Aa l 1,?_,List.mem_cons_of_mem _ (List.mem_cons_self ..)⟩
 have:=Qr (a:=Z5E l) (c:=Z5F l) (by rw [show (Z5E l).Name=nR from h0,show (Z5F l).Name=nQ from h1];decide +kernel)
 rw [show (Z5F l).Name=nQ from h1] at this
 exact this
theorem fV (l:List (List Int)) {x:ByteArray} (h:x=nR\/x=nQ):((Bs (Kt l) x).1.Pads.length:Int)<=6:=by
 obtain ⟨a,e,_⟩:=Tr l h
 rw [e]
 exact (GB a x).2.2
theorem PB (v5'':AD) (v:List AX) (v6_4:List AF) (v10:Int) (l:List (List Int)) (v13:Int):(Z6m v5'' v v6_4 v10 l v13).length<=v.length+1/\(Z6n v5'' v v6_4 v10 l v13).length<=v.length+1/\(Z6o v5'' v v6_4 v10 l v13).length<=v.length+1:=by
 unfold Z6m Z6n Z6o
 cases decide ((AB v5'' 5).1<3) <;> cases decide ((AB v5'' 5).1=0) <;> cases decide ((AB v5'' 5).1=1) <;> simp
theorem YH (l:List (List Int)) (v6_4:List AF) (v5:AD) (v8:Int) (a1 a3 a5:List AX) (d1:AD) (v10:Int) (K0:List AF->AD->Int->(AC×(List AV))) (K1:List AX->List AX->List AX->AD->Int->(AC×(List AV))) (Q:AC×List AV->Prop) (M:Nat) (hK:∀ a b c d,a.length<=M->b.length<=M->c.length<=M->Q (K1 a b c d (v10+1))) :
  ∀ (n:Nat) (x y z:List AX) (d:AD) (k:Int),0<=k->(x.length:Int)+((Z6d l v6_4 v10).Pads.length-k)<=M->(y.length:Int)+((Z6d l v6_4 v10).Pads.length-k)<=M->(z.length:Int)+((Z6d l v6_4 v10).Pads.length-k)<=M->k<=(Z6d l v6_4 v10).Pads.length->(((Z6d l v6_4 v10).Pads.length:Int)-k).toNat<n->Q (Dn l v6_4 v5 v8 a1 a3 a5 d1 v10 K0 K1 n x y z d k)
 | 0,x,y,z,d,k,_,_,_,_,_,h=>absurd h (Nat.not_lt_zero _)
 | n+1,x,y,z,d,k,k0,hx,hy,hz,hk,h=>by
  unfold Dn
  by_cases hc:(k:Int)<((Z6d l v6_4 v10).Pads.length:Int)
  ·rw [decide_eq_true hc,cond_true]
   have p1:=(PB d x v6_4 v10 l k).1
   have p2:=(PB d y v6_4 v10 l k).2.1
   have p3:=(PB d z v6_4 v10 l k).2.2
   exact YH l v6_4 v5 v8 a1 a3 a5 d1 v10 K0 K1 Q M hK n _ _ _ _ _ (by omega) (by omega) (by omega) (by omega) (by omega) (by omega)
  rw [decide_eq_false hc,cond_false]
  exact hK _ _ _ _ (by omega) (by omega) (by omega)
theorem YI (l:List (List Int)) (v6_4:List AF) (v5:AD) (v8:Int) (K0:List AF->AD->Int->(AC×(List AV))) (Q:AC×List AV->Prop) (hp:Ix RF v6_4) (hm:(v6_4.length:Int)=W64 (1+(AB (AB (AD.mk (Aa l 2) 0) 3).2 3).1)) (h3:v6_4.length<=3) (hQ:∀ x y z:List AX,x.length<=18->y.length<=18->z.length<=18->Q ((Z6u l v6_4 x y z).1,Kt l)) :
  ∀ (n:Nat) (x y z:List AX) (d:AD) (k:Int),0<=k->(x.length:Int)<=6*k->(y.length:Int)<=6*k->(z.length:Int)<=6*k->k<=(v6_4.length:Int)->((v6_4.length:Int)-k).toNat<n->Q (DV l v6_4 v5 v8 K0 n x y z d k)
 | 0,x,y,z,d,k,_,_,_,_,_,h=>absurd h (Nat.not_lt_zero _)
 | n+1,x,y,z,d,k,k0,hx,hy,hz,hk,h=>by
  unfold DV
  rw [<- hm]
  by_cases hc:k<(v6_4.length:Int)
  ·rw [decide_eq_true hc,cond_true]
   have hg:=fV l (hp k.toNat (by omega)).typ
   have hg:((Z6d l v6_4 k).Pads.length:Int)<=6:=hg
   exact YH l v6_4 v5 v8 x y z d k K0 _ Q (6*(k+1)).toNat (fun a b c e ha hb hc'=>YI l v6_4 v5 v8 K0 Q hp hm h3 hQ n a b c e (k+1) (by omega) (by omega) (by omega) (by omega) (by omega) (by omega)) _ _ _ _ _ 0 (by omega) (by omega) (by omega) (by omega) (by omega) (by omega)
  rw [decide_eq_false hc,cond_false]
  exact hQ _ _ _ (by omega) (by omega) (by omega)
theorem YJ (l:List (List Int)) (Q:AC×List AV->Prop) (hQ:∀ (v:List AF) (x y z:List AX),Ix RF v->1<=v.length->v.length<=3->x.length<=18->y.length<=18->z.length<=18->Q ((Z6u l v x y z).1,Kt l)) :
  ∀ (n:Nat) (v:List AF) (d:AD) (k:Int),Ix RF v->(v.length:Int)=k->k<=W64 (1+(AB (AB (AD.mk (Aa l 2) 0) 3).2 3).1)->(W64 (1+(AB (AB (AD.mk (Aa l 2) 0) 3).2 3).1)-k).toNat<n->Q (Cs l n v d k)
 | 0,v,d,k,_,_,_,h=>absurd h (Nat.not_lt_zero _)
 | n+1,v,d,k,hv,hl,hk,h=>by
  have hn:=Cg (d:=(AB (AD.mk (Aa l 2) 0) 3).2) (n:=3) (by decide) (by decide)
  have hw:W64 (1+(AB (AB (AD.mk (Aa l 2) 0) 3).2 3).1)=1+(AB (AB (AD.mk (Aa l 2) 0) 3).2 3).1:=Az (by omega) (by omega)
  unfold Cs
  by_cases hc:k<W64 (1+(AB (AB (AD.mk (Aa l 2) 0) 3).2 3).1)
  ·rw [decide_eq_true hc,cond_true]
   refine YJ l Q hQ n _ _ _ (Sv hv ?_) (by simp only [List.length_append,List.length_cons,List.length_nil];omega) (by omega) (by omega)
   have h2:=Cg (d:=d) (n:=2) (by decide) (by decide)
   have h4:=Cg (d:=(AB d 2).2) (n:=4) (by decide) (by decide)
   have h5:=Cg (d:=Z5Z d) (n:=5) (by decide) (by decide)
   have h6:=Cg (d:=(AB (Z5Z d) 5).2) (n:=3) (by decide) (by decide)
   have h7:=Cg (d:=Z62 d) (n:=3) (by decide) (by decide)
   refine ⟨?_,by rw [<- hl];rfl,Yj l h2,h4,?_,?_⟩
   ·show W64 (1+k)=_
    rw [Az (by omega) (by omega)];omega
   ·show 80<=W64 (W64 (80+W64 (100*k))+W64 (5*(AB (Z5Z d) 5).1))/\W64 (W64 (80+W64 (100*k))+W64 (5*(AB (Z5Z d) 5).1))<=300
    rw [Az (x:=100*k) (by omega) (by omega),Az (x:=80+100*k) (by omega) (by omega),Az (x:=5*(AB (Z5Z d) 5).1) (by omega) (by omega),Az (by omega) (by omega)]
    omega
   show 100<=W64 (W64 (100+W64 (80*(AB (AB (Z5Z d) 5).2 3).1))+W64 (5*(AB (Z62 d) 3).1))/\W64 (W64 (100+W64 (80*(AB (AB (Z5Z d) 5).2 3).1))+W64 (5*(AB (Z62 d) 3).1))<=270
   rw [Az (x:=80*(AB (AB (Z5Z d) 5).2 3).1) (by omega) (by omega),Az (x:=100+80*(AB (AB (Z5Z d) 5).2 3).1) (by omega) (by omega),Az (x:=5*(AB (Z62 d) 3).1) (by omega) (by omega),Az (by omega) (by omega)]
   omega
  rw [decide_eq_false hc,cond_false]
  exact YI l v d k _ Q hv (by omega) (by omega) (fun x y z hx hy hz=>hQ v x y z hv (by omega) (by omega) hx hy hz) _ [] [] [] _ 0 (by omega) (by simp) (by simp) (by simp) (by omega) (by omega)
theorem PR (l:List (List Int)) (Q:AC×List AV->Prop) (hQ:∀ (v:List AF) (x y z:List AX),Ix RF v->1<=v.length->v.length<=3->x.length<=18->y.length<=18->z.length<=18->Q ((Z6u l v x y z).1,Kt l)):Q (DI l):=by
 have hn:=Cg (d:=(AB (AD.mk (Aa l 2) 0) 3).2) (n:=3) (by decide) (by decide)
 have hw:W64 (1+(AB (AB (AD.mk (Aa l 2) 0) 3).2 3).1)=1+(AB (AB (AD.mk (Aa l 2) 0) 3).2 3).1:=Az (by omega) (by omega)
 unfold DI
 exact YJ l Q hQ _ [] _ 0 Su rfl (by omega) (by omega)
def PtB (p:AE):Prop:=(-900<=p.X/\p.X<=900) /\ -900<=p.Y/\p.Y<=900
theorem PN {x:Int} (h : -500<=x/\x<=500) : -500<=W64 (0-x)/\W64 (0-x)<=500:=by rw [Az (by omega) (by omega)];omega
theorem iM {x y:Int} (h : -500<=x/\x<=500) (k : -400<=y/\y<=400) : -900<=W64 (x+y)/\W64 (x+y)<=900:=by rw [Az (by omega) (by omega)];omega
theorem iH {m:Ac} {p:AE} (hp:(-500<=p.X/\p.X<=500) /\ -500<=p.Y/\p.Y<=500) (ha:(-400<=m.At.X/\m.At.X<=400) /\ -400<=m.At.Y/\m.At.Y<=400):PtB (Ae m p):=by
 have h1:(-500<=(CL p m.Mirror).X/\(CL p m.Mirror).X<=500) /\ -500<=(CL p m.Mirror).Y/\(CL p m.Mirror).Y<=500:=by
  unfold CL
  cases m.Mirror with
  | true=>exact ⟨PN hp.1,hp.2⟩
  | false=>exact hp
 have h2:∀ q:AE,((-500<=q.X/\q.X<=500) /\ -500<=q.Y/\q.Y<=500)->(-500<=(Cc q m.Turn).X/\(Cc q m.Turn).X<=500) /\ -500<=(Cc q m.Turn).Y/\(Cc q m.Turn).Y<=500:=fun q hq=>by
  unfold Cc
  cases decide (CP m.Turn=1) with
  | true=>exact ⟨PN hq.2,hq.1⟩
  | false =>
   cases decide (CP m.Turn=2) with
   | true=>exact ⟨PN hq.1,PN hq.2⟩
   | false =>
    cases decide (CP m.Turn=3) with
    | true=>exact ⟨hq.2,PN hq.1⟩
    | false=>exact hq
 have h3:=h2 _ h1
 exact ⟨iM h3.1 ha.1,iM h3.2 ha.2⟩
theorem iY (b:AC) (l:List (List Int)) (d:AD) (hP:Ix RF b.Parts):PtB (B8 b (Kt l) d).1:=by
 have h12:=Cg (d:=d) (n:=12) (by decide) (by decide)
 have h6:=Cg (d:=(AB d 12).2) (n:=6) (by decide) (by decide)
 unfold B8
 cases hq:(bif decide ((AB d 12).1<8) then decide ((0:Int)<(b.Parts.length:Int)) else false) with
 | true =>
  have hi:=Tt hq
  rw [cond_true]
  show PtB (Z1y b d (Kt l))
  have hp:=hP (Int.tmod (AB d 12).1 (b.Parts.length:Int)).toNat (by omega)
  obtain ⟨a,e,_⟩:=Tr l hp.typ
  have hx:=hp.x
  have hy:=hp.y
  unfold Z1y
  refine iH ?_ (by show (-400<=(Z1w b d).At.X/\(Z1w b d).At.X<=400) /\ -400<=(Z1w b d).At.Y/\(Z1w b d).At.Y<=400;unfold Z1w;omega)
  unfold Z1x Z1w
  rw [e]
  generalize (Int.tmod (AB (AB d 12).2 6).1 _).toNat=k
  by_cases hk:k<(BG a (b.Parts.getD (Int.tmod (AB d 12).1 (b.Parts.length:Int)).toNat default).Type').Pads.length
  ·obtain ⟨h1,_,_,y,hy0,hy1,hat,_⟩:=Ug a _ k hk
   show (-500<=((BG a (b.Parts.getD (Int.tmod (AB d 12).1 (b.Parts.length:Int)).toNat default).Type').Pads.getD k default).At.X/\_)/\_
   rw [hat]
   simp only
   omega
  rw [List.getD_eq_getElem?_getD,List.getElem?_eq_none (by show (BG a (b.Parts.getD (Int.tmod (AB d 12).1 (b.Parts.length:Int)).toNat default).Type').Pads.length<=k;omega)]
  exact (by decide:(-500<=(0:Int)/\(0:Int)<=500) /\ -500<=(0:Int)/\(0:Int)<=500)
 | false =>
  rw [cond_false]
  show (-900<=W64 (30+Int.tmod (W64 (40*(AB d 12).1)) 360)/\W64 (30+Int.tmod (W64 (40*(AB d 12).1)) 360)<=900) /\ -900<=W64 (30+W64 (60*(AB (AB d 12).2 6).1))/\W64 (30+W64 (60*(AB (AB d 12).2 6).1))<=900
  rw [Az (x:=40*(AB d 12).1) (by omega) (by omega),Int.tmod_eq_emod_of_nonneg (by omega),Az (x:=60*(AB (AB d 12).2 6).1) (by omega) (by omega),Az (by omega) (by omega),Az (by omega) (by omega)]
  omega
structure Pw (k:Nat) (t:Aq):Prop where
 id:t.Id=11+(k:Int)
 lay:1<=t.Layer/\t.Layer<=2
 kind:t.Shape.Kind=1
 r:3<=t.Shape.R/\t.Shape.R<=6
 edg:∃ a c d,PtB a/\PtB c/\t.Shape.Edges=(DC a c d).1
structure lU (k:Nat) (v:Bx):Prop where
 id:v.Id=21+(k:Int)
 lay:v.From=1/\v.To=2
 r:6<=v.R/\v.R<=10
 at_:PtB v.At
 drill:4<=v.Drill/\v.Drill<=8
def nE (s:Bq):Prop:=∃ r p,3<=r/\r<=6/\PtB p/\s.Shape=An.mk 1 [EJ p (AE.mk (W64 (p.X+25)) (W64 (p.Y+10)))] r
def Ye (p:A8):Prop:=p.Rects.length<=2
def Yf (p:BR):Prop:=p.Shape.Edges.length=4
abbrev Yb (b:AC) (types:List AV):Prop:=∀ d,PtB (B8 (AC.mk b.Layers b.Outline b.Parts [] [] [] [] [] [] [] [] [] []) types d).1
abbrev lW (b:AC) (Q:AC->Prop):Prop:=∀ (v1:List Aq) (v2:List Bx) (v3:List A8) (v4:List BR) (v5:List Bq),Ix Pw v1->v1.length<=5->Ix lU v2->v2.length<=2->v3.length<=2->v4.length<=1->v5.length<=1->(∀ s∈v5,nE s)->(∀ p∈v3,Ye p)->(∀ p∈v4,Yf p)->Q (AC.mk b.Layers b.Outline b.Parts b.Nets v1 v2 v3 v4 v5 [] [] [] [])
theorem eA (b:AC) (types:List AV) (l:List (List Int)) (v1:List Aq) (v6:AD) (v7:ByteArray) (v9:Int) (v2:List Bx) (v6':AD) (v11:Int) (K0:List Aq->AD->ByteArray->Int->AC) (K1:List Bx->AD->Int->AC) (Q:AC->Prop) (hs:Yb b types) (hQ:lW b Q) (h1:Ix Pw v1) (h1l:v1.length<=5) (h2:Ix lU v2) (h2l:v2.length<=2) :
  ∀ (n:Nat) (v:List A8) (d:AD) (k:Int),(∀ p∈v,Ye p)->0<=k->(v.length:Int)<=k->k<=(AB v6' 3).1->((AB v6' 3).1-k).toNat<n->Q (CX b types l v1 v6 v7 v9 v2 v6' v11 K0 K1 n v d k)
 | 0,v,d,k,_,_,_,_,h=>absurd h (Nat.not_lt_zero _)
 | n+1,v,d,k,hv,k0,kv,kk,h=>by
  have hb:=Cg (d:=v6') (n:=3) (by decide) (by decide)
  unfold CX
  by_cases hc:k<(AB v6' 3).1
  ·rw [decide_eq_true hc,cond_true]
   exact eA b types l v1 v6 v7 v9 v2 v6' v11 K0 K1 Q hs hQ h1 h1l h2 h2l n _ _ _ (fun p hp=>by
    rcases List.mem_append.1 hp with hp | hp
    ·exact hv p hp
    rw [List.mem_singleton.1 hp]
    show (Z31 b d).length<=2
    unfold Z31
    cases decide ((AB (AB (Z2T b d) 6).2 3).1=0) <;> simp) (by omega) (by simp only [List.length_append,List.length_cons,List.length_nil];omega) (by omega) (by omega)
  rw [decide_eq_false hc,cond_false]
  have h4:(Z1Y l b types).length<=1:=by
   unfold Z1Y
   cases decide ((AB (AD.mk (Aa l 6) 0) 3).1=0) <;> simp
  have h4k:∀ p∈Z1Y l b types,Yf p:=by
   unfold Z1Y
   cases decide ((AB (AD.mk (Aa l 6) 0) 3).1=0) with
   | true=>intro p hp;rw [cond_true] at hp;rw [List.mem_singleton.1 hp];rfl
   | false=>intro p hp;cases hp
  cases decide ((AB (Z1X l b types) 3).1=0) with
  | true =>
   rw [cond_true]
   refine hQ _ _ _ _ _ h1 h1l h2 h2l (by omega) h4 (by simp) (fun s hm => ?_) hv h4k
   rw [List.mem_singleton.1 hm]
   have hr:=Cg (d:=Z23 b types l) (n:=4) (by decide) (by decide)
   exact ⟨W64 (3+(AB (Z23 b types l) 4).1),Z24 b types l,by rw [Az (by omega) (by omega)];omega,by rw [Az (by omega) (by omega)];omega,hs _,rfl⟩
  | false =>
   rw [cond_false]
   exact hQ _ _ _ _ _ h1 h1l h2 h2l (by omega) h4 (by simp) (fun s hm=>by cases hm) hv h4k
theorem eB (b:AC) (types:List AV) (l:List (List Int)) (v1:List Aq) (v6:AD) (v7:ByteArray) (v9:Int) (K0:List Aq->AD->ByteArray->Int->AC) (Q:AC->Prop) (hs:Yb b types) (hQ:lW b Q) (h1:Ix Pw v1) (h1l:v1.length<=5) :
  ∀ (n:Nat) (v:List Bx) (d:AD) (k:Int),Ix lU v->(v.length:Int)=k->k<=(AB (AD.mk (Aa l 5) 0) 3).1->((AB (AD.mk (Aa l 5) 0) 3).1-k).toNat<n->Q (Cp b types l v1 v6 v7 v9 K0 n v d k)
 | 0,v,d,k,_,_,_,h=>absurd h (Nat.not_lt_zero _)
 | n+1,v,d,k,hv,kv,kk,h=>by
  have hb:=Cg (d:=AD.mk (Aa l 5) 0) (n:=3) (by decide) (by decide)
  unfold Cp
  by_cases hc:k<(AB (AD.mk (Aa l 5) 0) 3).1
  ·rw [decide_eq_true hc,cond_true]
   refine eB b types l v1 v6 v7 v9 K0 Q hs hQ h1 h1l n _ _ _ (Sv hv ?_) (by simp only [List.length_append,List.length_cons,List.length_nil];omega) (by omega) (by omega)
   have h5:=Cg (d:=Z2y b types d) (n:=5) (by decide) (by decide)
   have h3:=Cg (d:=(AB (Z2y b types d) 5).2) (n:=3) (by decide) (by decide)
   refine ⟨?_,⟨rfl,rfl⟩,?_,hs _,?_⟩
   ·show W64 (21+k)=_
    rw [Az (by omega) (by omega)];omega
   ·show 6<=W64 (6+_)/\W64 (6+_)<=10
    rw [Az (by omega) (by omega)];omega
   show 4<=W64 (4+W64 (2*_))/\W64 (4+W64 (2*_))<=8
   rw [Az (x:=2*_) (by omega) (by omega),Az (by omega) (by omega)];omega
  rw [decide_eq_false hc,cond_false]
  have hd:=Cg (d:=d) (n:=3) (by decide) (by decide)
  exact eA b types l v1 v6 v7 v9 v d k K0 _ Q hs hQ h1 h1l hv (by omega) _ [] _ 0 (fun p hp=>by cases hp) (by omega) (by simp) (by omega) (by omega)
theorem eC (b:AC) (types:List AV) (l:List (List Int)) (Q:AC->Prop) (hs:Yb b types) (hQ:lW b Q) :
  ∀ (n:Nat) (v:List Aq) (d:AD) (s:ByteArray) (k:Int),Ix Pw v->(v.length:Int)=k->k<=(AB (Z1J b l) 6).1->((AB (Z1J b l) 6).1-k).toNat<n->Q (CO b types l n v d s k)
 | 0,v,d,s,k,_,_,_,h=>absurd h (Nat.not_lt_zero _)
 | n+1,v,d,s,k,hv,kv,kk,h=>by
  have hb:=Cg (d:=Z1J b l) (n:=6) (by decide) (by decide)
  unfold CO
  by_cases hc:k<(AB (Z1J b l) 6).1
  ·rw [decide_eq_true hc,cond_true]
   refine eC b types l Q hs hQ n _ _ _ _ (Sv hv ?_) (by simp only [List.length_append,List.length_cons,List.length_nil];omega) (by omega) (by omega)
   have h2:=Cg (d:=d) (n:=2) (by decide) (by decide)
   have h4:=Cg (d:=(AB d 2).2) (n:=4) (by decide) (by decide)
   refine ⟨?_,?_,rfl,?_,_,_,_,?_,?_,rfl⟩
   ·show W64 (11+k)=_
    rw [Az (by omega) (by omega)];omega
   ·show 1<=W64 (1+_)/\W64 (1+_)<=2
    rw [Az (by omega) (by omega)];omega
   ·show 3<=W64 (3+_)/\W64 (3+_)<=6
    rw [Az (by omega) (by omega)];omega
   ·exact hs _
   exact hs _
  rw [decide_eq_false hc,cond_false]
  exact eB b types l v d s k _ Q hs hQ hv (by omega) _ [] _ 0 Su rfl (by have:=Cg (d:=AD.mk (Aa l 5) 0) (n:=3) (by decide) (by decide);omega) (by omega)
theorem kQ (b:AC) (types:List AV) (l:List (List Int)) (Q:AC->Prop) (hs:Yb b types) (hQ:lW b Q):Q (Ba b types l):=by
 have hb:=Cg (d:=Z1J b l) (n:=6) (by decide) (by decide)
 unfold Ba
 exact eC b types l Q hs hQ _ [] _ _ 0 Su rfl (by omega) (by omega)
structure L0 (B:AC) (T:List AV) (l:List (List Int)):Prop where
 lay:B.Layers=2
 types:T=Kt l
 par:Ix RF B.Parts
 parl:1<=B.Parts.length/\B.Parts.length<=3
 net:∃ p q r,B.Nets=[BA.mk nN1 p,BA.mk nN2 q,BA.mk kX r]/\p.length<=18/\q.length<=18/\r.length<=18
 trk:Ix Pw B.Tracks
 trkl:B.Tracks.length<=5
 via:Ix lU B.Vias
 vial:B.Vias.length<=2
 slot:∀ s∈B.Slots,nE s
 slotl:B.Slots.length<=1
 poul:B.Pours.length<=2
 keel:B.Keeps.length<=1
 pour:∀ p∈B.Pours,Ye p
 keep:∀ p∈B.Keeps,Yf p
theorem pH {α:Type} {c:Bool} {a b:AC×α} {T:List AV} {l:List (List Int)} (h:L0 a.1 T l) (k:L0 b.1 T l):L0 (bif c then a else b).1 T l:=by cases c <;> assumption
theorem eX (l:List (List Int)):L0 (DI l).1 (DI l).2 l:=by
 refine PR l (fun x=>L0 x.1 x.2 l) fun v x y z hv h1 h3 hx hy hz => ?_
 show L0 (Z6u l v x y z).1 (Kt l) l
 unfold Z6u
 have ho:=kQ (AC.mk 2 (Z5M l) v [BA.mk nN1 x,BA.mk nN2 y,BA.mk kX z] [] [] [] [] [] [] [] [] []) (Kt l) l
  (fun B=>L0 B (Kt l) l) (fun d=>iY _ l d hv) (fun v1 v2 v3 v4 v5 a b c e f g h i j k=>⟨rfl,rfl,hv,⟨h1,h3⟩,⟨x,y,z,rfl,hx,hy,hz⟩,a,b,c,e,i,h,f,g,j,k⟩)
 have ho:L0 (Z6s l v x y z) (Kt l) l:=ho
 obtain ⟨a1,a2,a3,a4,a5,a6,a7,a8,a9,a10,a11,a12,a13,a14,a15⟩:=ho
 unfold DB
 exact pH ⟨a1,a2,a3,a4,a5,a6,a7,a8,a9,a10,a11,a12,a13,a14,a15⟩ ⟨a1,a2,a3,a4,a5,a6,a7,a8,a9,a10,a11,a12,a13,a14,a15⟩
def ZbL (l:(List (List Int))):AC:=(DI (l.take (min (l.length:Int) 8:Int).toNat)).1
def AL (l:(List (List Int))):(AC×(List AV)):=(ZbL l,(DI (l.take (min (l.length:Int) 8:Int).toNat)).2)
abbrev Od (l:List (List Int)):List Av:=[.agg (AC.c (AL l).1),.one (lst 3 AV.c (AL l).2)]
def TM (l:(List (List Int))):CT:=(6,[.one (lst 1 (fun x=>[lst 1 eIn x]) l)],.val [] (.tup (Od l)))
theorem jU (l:(List (List Int))) (hl:(l.length:Int)<=9223372036854775807) (hll:∀ x∈l,(x.length:Int)<=9223372036854775807):PuP 6 (TM l).2.1 (.tup [.agg (AC.c (AL l).1),.one (lst 3 AV.c (AL l).2)]):=by
 refine pwf Tryz.func6 fun W0 M0 => ?_
 refine AA<|on<|AA ?_
 refine oc [(9,ceI [.one (.list false 1 ((min (l.length:Int) 8:Int).toNat-(0:Int).toNat) (fun i_ j_=>(AU (fun x=>[lst 1 eIn x]) l) (i_+(0:Int).toNat) j_))] (N0 (l.take (min (l.length:Int) 8:Int).toNat)))] [0<=(0:Int)/\(0:Int)<=(min (l.length:Int) 8:Int)/\(min (l.length:Int) 8:Int)<=((l.length:Nat):Int),Ay (ceI [.one (.list false 1 ((min (l.length:Int) 8:Int).toNat-(0:Int).toNat) (fun i_ j_=>(AU (fun x=>[lst 1 eIn x]) l) (i_+(0:Int).toNat) j_))] (N0 (l.take (min (l.length:Int) 8:Int).toNat))).2.1] (.cons (Ck (dY (l.take (min (l.length:Int) 8:Int).toNat) (by first | (exact fun x hx=>hll x (List.mem_of_mem_take hx)) | (simp only [List.length_take];omega) | with_reducible assumption | omega | decide | (simp only [List.length_cons,List.length_nil,List.length_append];omega) | assumption) (by first | (exact fun x hx=>hll x (List.mem_of_mem_take hx)) | (simp only [List.length_take];omega) | with_reducible assumption | omega | decide | (simp only [List.length_cons,List.length_nil,List.length_append];omega) | assumption)) (.cons (.one (Bk false (Hu (b:=min (l.length:Int) 8) (Am 1 (fun x=>[lst 1 eIn x]) l) (by have hc:=(show 0<=(0:Int)/\(0:Int)<=(min (l.length:Int) 8:Int)/\(min (l.length:Int) 8:Int)<=((l.length:Nat):Int) from au0);exact hc.2.1) (by have hc:=(show 0<=(0:Int)/\(0:Int)<=(min (l.length:Int) 8:Int)/\(min (l.length:Int) 8:Int)<=((l.length:Nat):Int) from au0);exact hc.2.2)))) .nil)) .nil) (.cons au0 (.cons rfl .nil))<|AG<|AY ?_
 exact zl
theorem dU (l:(List (List Int))) (hl:(l.length:Int)<=9223372036854775807) (hll:∀ x∈l,(x.length:Int)<=9223372036854775807):OKc (TM l):=cPu<|jU l hl hll
theorem Lg (l:List (List Int)):CM (AL l).2:=Wo _
theorem Lh (l:List (List Int)):IC (AL l).1:=pL _
theorem eY (l:List (List Int)):∃ k,L0 (AL l).1 (AL l).2 k:=⟨_,eX _⟩
theorem XI {α:Type} {c:Bool} {a b:Bt×α} (h:CG a.1) (k:CG b.1):CG (bif c then a else b).1:=by cases c <;> assumption
theorem Jn:CG AJ:=.inl ⟨_,rfl⟩
theorem YT (d:AD):CG (BX d).1:=by
 unfold BX
 repeat (first | exact .inl ⟨_,rfl⟩ | exact .inr (.inl ⟨_,_,_,⟨_,_,_,_⟩,rfl⟩) | exact .inr (.inr ⟨_,_,_,⟨_,_,_,_⟩,_,_,_,⟨_,_,_,_⟩,rfl⟩) | refine XI ?_ ?_)
theorem QW {l m:List A1} (h:∀ r∈l,CG r.A/\CG r.B) (k:∀ r∈m,CG r.A/\CG r.B):∀ r∈l++m,CG r.A/\CG r.B:=fun r hr=>(List.mem_append.1 hr).elim (h r) (k r)
theorem QS {a b:A1} (h:CG a.A/\CG a.B) (k:CG b.A/\CG b.B):∀ r∈[a,b],CG r.A/\CG r.B:=fun r hr=>by
 simp only [List.mem_cons,List.not_mem_nil,or_false] at hr
 rcases hr with rfl | rfl <;> assumption
theorem Ym {a:A1} (h:CG a.A/\CG a.B):∀ r∈[a],CG r.A/\CG r.B:=fun r hr=>by
 rw [List.mem_singleton.1 hr];exact h
theorem QV {c:Bool} {l m:List A1} (h:∀ r∈l,CG r.A/\CG r.B) (k:∀ r∈m,CG r.A/\CG r.B):∀ r∈(bif c then l else m),CG r.A/\CG r.B:=by cases c <;> assumption
theorem T6 (d:AD):∀ r∈Z3K d,CG r.A/\CG r.B:=by
 unfold Z3K
 have h2:=fun x y=>QS (a:=A1.mk ({ data := #[99,49] }:ByteArray) 1 1 AJ AJ x) (b:=A1.mk ({ data := #[101,49] }:ByteArray) 1 3 AJ AJ y) ⟨Jn,Jn⟩ ⟨Jn,Jn⟩
 exact QV (QW (h2 _ _) (QS ⟨Jn,Jn⟩ ⟨Jn,Jn⟩)) (h2 _ _)
theorem QT (d:AD):∀ r∈Z3Z d,CG r.A/\CG r.B:=by
 unfold Z3Z
 exact QV (QW (T6 d) (Ym ⟨YT _,YT _⟩)) (T6 d)
theorem QU (d:AD):(Z3Z d).length<=5:=by
 unfold Z3Z Z3K
 cases decide ((AB (Z3J d) 2).1=1) <;> cases decide ((AB (AB (AB d 10).2 8).2 2).1=1) <;> simp
structure Zl (b:AC):Prop where
 rul:TV b
 rull:b.Rules.length<=5
 cla:b.Classes.length<=1
 clan:∀ c∈b.Classes,c.Nets.length<=1
 wai:b.Waivers.length<=1
 mat:b.Matches.length<=1
 matn:∀ c∈b.Matches,c.Nets.length<=2
theorem qH (d:AD):(Z44 d).length<=1/\∀ c∈Z44 d,c.Nets.length<=1:=by
 unfold Z44
 cases decide ((AB (Z3Y d) 3).1=0) with
 | true=>exact ⟨by simp,fun c hc=>by rw [cond_true] at hc;rw [List.mem_singleton.1 hc];exact Nat.le_refl 1⟩
 | false=>exact ⟨by simp,fun c hc=>by cases hc⟩
theorem cB (d:AD) (b:AC):(Z4e d b).length<=1:=by
 unfold Z4e
 cases decide ((AB (AB (Z3Y d) 3).2 4).1=0) <;> simp
theorem cQ {α:Type} {c:Bool} {a b:AC×α} (h:Zl a.1) (k:Zl b.1):Zl (bif c then a else b).1:=by cases c <;> assumption
theorem jE (b:AC) (d:AD):Zl (DB b d).1:=by
 unfold DB
 have hc:=qH d
 refine cQ ⟨QT d,QU d,hc.1,hc.2,cB d b,?_,fun c h => ?_⟩ ⟨QT d,QU d,hc.1,hc.2,cB d b,?_,fun c h => ?_⟩
 ·exact Nat.le_refl 1
 ·rw [List.mem_singleton.1 h];exact Nat.le_refl 2
 ·exact Nat.zero_le 1
 cases h
theorem eW (l:List (List Int)):Zl (DI l).1:=PR l (fun x=>Zl x.1) fun v x y z _ _ _ _ _ _=>jE _ _
theorem Im {α:Type} [Inhabited α] {l:List α} {f:α->Nat} (hd:f default<=1000000) (h:∀ x∈l,f x<=1000000) (k:Nat):((f (l.getD k default):Nat):Int)<=1000000:=by
 have:=GN (p:=fun x=>f x<=1000000) hd h k
 omega
theorem jF (b:AC) (d:AD):(DB b d).1.Outline=b.Outline:=by
 unfold DB
 cases decide ((AB (Z4d d b) 4).1=0) <;> rfl
theorem kJ (l:List (List Int)):((DI l).1.Outline.Edges.length:Int)<=1000000:=by
 refine PR l (fun x=>(x.1.Outline.Edges.length:Int)<=1000000) fun v x y z _ _ _ _ _ _ => ?_
 show ((Z6u l v x y z).1.Outline.Edges.length:Int)<=1000000
 unfold Z6u
 rw [jF]
 show ((Z6s l v x y z).Outline.Edges.length:Int)<=1000000
 unfold Z6s
 rw [(Gv _ _ _).out]
 show ((Z5M l).Edges.length:Int)<=1000000
 unfold Z5M
 cases decide ((AB (AD.mk (Aa l 2) 0) 3).1=0) with
 | true=>exact (by decide:((8:Nat):Int)<=1000000)
 | false=>exact (by decide:((4:Nat):Int)<=1000000)
theorem ZM (l:List (List Int)):CW (DI l).1:=by
 have h:=eX l
 have hr:=eW l
 have h1:=h.parl
 have h2:=h.trkl
 have h3:=h.vial
 have h4:=h.slotl
 have h5:=h.poul
 have h6:=h.keel
 have r1:=hr.rull
 have r2:=hr.cla
 have r3:=hr.wai
 have r4:=hr.mat
 obtain ⟨p,q,r,e,n1,n2,n3⟩:=h.net
 refine ⟨by omega,by rw [e];show ((3:Nat):Int)<=1000000;decide,by omega,by omega,by omega,by omega,by omega,by omega,by omega,by omega,by omega,kJ l,?_,?_,?_,?_,?_,?_,?_,hr.rul⟩
 ·refine Im (f:=fun n:BA=>n.Pins.length) (by decide) fun n hn => ?_
  rw [e] at hn
  simp only [List.mem_cons,List.not_mem_nil,or_false] at hn
  rcases hn with rfl | rfl | rfl <;> (simp only;omega)
 ·refine Im (f:=fun t:Aq=>t.Shape.Edges.length) (by decide) fun t ht => ?_
  obtain ⟨k,hk,_,hm⟩:=pP h.trk ht
  obtain ⟨a,c,d,_,_,e2⟩:=hm.edg
  rw [e2]
  have:=Q8 a c d
  omega
 ·refine Im (f:=fun t:A8=>t.Rects.length) (by decide) fun t ht => ?_
  have:=h.pour t ht
  unfold Ye at this
  omega
 ·refine Im (f:=fun t:BR=>t.Shape.Edges.length) (by decide) fun t ht => ?_
  have:=h.keep t ht
  unfold Yf at this
  omega
 ·refine Im (f:=fun t:Bq=>t.Shape.Edges.length) (by decide) fun t ht => ?_
  obtain ⟨r,p,_,_,_,e2⟩:=h.slot t ht
  rw [e2]
  show 1<=1000000;decide
 ·refine Im (f:=fun t:BS=>t.Nets.length) (by decide) fun t ht => ?_
  have:=hr.clan t ht
  omega
 refine Im (f:=fun t:Bb=>t.Nets.length) (by decide) fun t ht => ?_
 have:=hr.matn t ht
 omega
theorem Nu {P:AC->Prop} {c:Bool} {x y:AC} (h:P x) (k:P y):P (bif c then x else y):=by cases c <;> assumption
theorem oO {α:Type} (xs:List α) {K:Int} (hK:0<=K) (hl:(xs.length:Int)<=2000000):(PH xs ((Int.tmod K ((xs.length:Nat):Int)).toNat-(0:Int).toNat) (W64 (Int.tmod K ((xs.length:Nat):Int)+1)).toNat (((xs.length:Nat):Int).toNat-(W64 (Int.tmod K ((xs.length:Nat):Int)+1)).toNat)).length<=xs.length:=by
 rw [dQ]
 rcases Nat.eq_zero_or_pos xs.length with h | h
 ·rw [h];omega
 rw [ow hK (by omega) hl]
 have:=tmb hK (n:=((xs.length:Nat):Int)) (by omega)
 omega
theorem nP {α:Type} (xs:List α) (k:Nat) (x:α):(xs.set k x).length<=xs.length:=by rw [List.length_set];exact Nat.le_refl _
theorem dL (b:AC) (q:DM):∀ (n:Nat) (v:List BR) (k:Int),(ET b q n v k).Parts.length<=b.Parts.length
 | 0,_,_=>Nat.zero_le _
 | n+1,v,k=>by
  unfold ET
  exact Nu (P:=fun B=>B.Parts.length<=b.Parts.length) (dL b q n _ _) (Nat.le_refl _)
theorem US (b:AC) (q:DM) (hl:(b.Parts.length:Int)<=2000000):(Cf b q).Parts.length<=b.Parts.length:=by
 have hK:=(I9 q.e2 64 (by decide) (by decide)).1
 unfold Cf L6 Jv LN LO B6
 repeat (first | refine Nu (P:=fun B=>B.Parts.length<=b.Parts.length) ?_ ?_ | exact Nat.le_refl _ | exact nP _ _ _ | exact oO _ hK hl | exact dL _ _ _ _ _)
theorem Ue (l:List (List Int)):CW (AL l).1:=ZM _
theorem Sp (l:List (List Int)):((AL l).1.Nets.length:Int)=3:=by
 obtain ⟨p,q,r,h⟩:=(Lh l).net
 rw [h];rfl
theorem Qd (l:List (List Int)):((AL l).1.Parts.length:Int)<=1000000:=by
 have:=(Lh l).par
 omega
theorem Wp (l:List (List Int)):((AL l).1.Pours.length:Int)<=2:=(Lh l).pou
theorem Wj (l:List (List Int)) (q:DM):((Cf (AL l).1 q).Parts.length:Int)<=1000000:=by
 have:=Qd l
 have:=US (AL l).1 q (by omega)
 omega
theorem eV {α:Type} [Inhabited α] (l:List α):([]:List α)++(List.range' 0 (l.length-0)).map (fun (k:Nat)=>l.getD (k:Int).toNat default)=l:=by
 rw [List.nil_append,Nat.sub_zero]
 apply List.ext_getElem
 ·simp
 intro i h1 h2
 simp [List.getD_eq_getElem?_getD,List.getElem?_eq_getElem h2]
theorem M5 (b:AC):Af b=b.Nets:=by
 have h:=Hm b.Nets.length (FU b) _ (fun _ _ _=>rfl) (((b.Nets.length:Int)-0).toNat+1) [] 0 (by omega)
 have h2:Af b=_:=h
 rw [h2]
 exact eV b.Nets
structure IB (v:List BA):Prop where
 len:(v.length:Int)<=1000000
 pin:∀ n∈v,(n.Pins.length:Int)<=1000000
structure Jr (v:List BA):Prop where
 len:(v.length:Int)<=999999
 pin:∀ n∈v,(n.Pins.length:Int)<=999999
theorem pD {v:List BA} (h:Jr v):IB v:=⟨by have:=h.1;omega,fun n hn=>by have:=h.2 n hn;omega⟩
theorem eD {v:List BA} (h:Jr v) (k:Nat):((v.getD k default).Pins.length:Int)<=999999:=GN (p:=fun n:BA=>(n.Pins.length:Int)<=999999) (by decide) h.2 k
theorem pC {v:List BA} (h:Jr v) (k j:Nat) (x:ByteArray):IB (v.set k (BA.mk x (v.getD j default).Pins)):=by
 refine ⟨by rw [List.length_set];have:=h.1;omega,fun n hn => ?_⟩
 rcases List.mem_or_eq_of_mem_set hn with hn | rfl
 ·have:=h.2 n hn;omega
 have:=eD h j
 show ((v.getD j default).Pins.length:Int)<=1000000
 omega
theorem pE {v:List BA} (h:Jr v) (x:ByteArray) (p:AX):IB (v++[BA.mk x [p]]):=by
 refine ⟨by rw [List.length_append];have:=h.1;simp only [List.length_cons,List.length_nil];omega,fun n hn => ?_⟩
 rcases List.mem_append.1 hn with hn | hn
 ·have:=h.2 n hn;omega
 rw [List.mem_singleton.1 hn];show ((1:Nat):Int)<=1000000;decide
theorem kS {v:List BA} (h:Jr v) (k:Nat):IB (v.take k):=by
 refine ⟨by rw [List.length_take];have:=h.1;omega,fun n hn => ?_⟩
 have:=h.2 n (List.mem_of_mem_take hn);omega
theorem eE {a c e:BA} (ha:(a.Pins.length:Int)<=1000000) (hc:(c.Pins.length:Int)<=1000000) (he:(e.Pins.length:Int)<=1000000):IB [a,c,e]:=by
 refine ⟨by show ((3:Nat):Int)<=1000000;decide,fun n hn => ?_⟩
 simp only [List.mem_cons,List.not_mem_nil,or_false] at hn
 rcases hn with rfl | rfl | rfl <;> assumption
theorem nV {v:List BA} (h:Jr v) (k:Nat):((v.getD k default).Pins.length:Int)<=1000000:=by have:=eD h k;omega
theorem dG {v:List BA} (h:Jr v) (k:Nat) (x:ByteArray) (p:AX):((BA.mk x ((v.getD k default).Pins++[p])).Pins.length:Int)<=1000000:=by
 have:=eD h k
 show (((v.getD k default).Pins++[p]).length:Int)<=1000000
 rw [List.length_append]
 simp only [List.length_cons,List.length_nil]
 omega
theorem eO (b:AC) (q:DM) (h:Jr b.Nets):∀ (n:Nat) (v:List BR) (k:Int),IB (ET b q n v k).Nets
 | 0,_,_=>⟨by show ((0:Nat):Int)<=1000000;decide,fun n hn=>by cases hn⟩
 | n+1,v,k=>by
  unfold ET
  exact Nu (P:=fun B=>IB B.Nets) (eO b q h n _ _) (by show IB (Af b);rw [M5];exact pD h)
theorem dZ (b:AC) (q:DM) (h:Jr b.Nets):IB (Cf b q).Nets:=by
 have hC:IB (Af b):=by rw [M5];exact pD h
 have hR:Jr (Af b):=by rw [M5];exact h
 have hl:=eO b q h
 unfold Cf L6 Jv LN LO B6
 generalize ET b q=F0 at hl ⊢
 generalize Af b=v0 at hC hR ⊢
 repeat' (refine Nu (P:=fun B=>IB B.Nets) ?_ ?_)
 all_goals try dsimp only
 all_goals first | with_reducible exact hC | with_reducible exact pC hR _ _ _ | with_reducible exact pE hR _ _ | with_reducible exact kS hR _ | with_reducible exact hl _ _ _ | (refine eE ?_ ?_ ?_ <;> first | with_reducible exact nV h _ | with_reducible exact dG h _ _ _)
theorem mD (t:Int):A64 t 3=t % 4:=by
 unfold A64
 have h3:(BitVec.ofInt 64 3).toNat=2 ^ 2-1:=by decide
 rw [BitVec.toNat_and,h3,Nat.and_two_pow_sub_one_eq_mod,BitVec.toNat_ofInt,IntKind.wrap_i64]
 omega
theorem V7 (t:Int):CP t=t % 4:=by
 unfold CP
 rcases Int.lt_or_le t 0 with h | h
 ·have b1:=Int.emod_nonneg (-t) (show (4:Int)≠0 by omega)
  rw [show t.tmod 4 = -((-t) % 4) by rw [<- Int.tmod_eq_emod_of_nonneg (by omega),Int.neg_tmod,Int.neg_neg]]
  rw [Az (by omega) (by omega),Int.tmod_eq_emod_of_nonneg (by omega)]
  omega
 rw [Int.tmod_eq_emod_of_nonneg h,Az (by omega) (by omega),Int.tmod_eq_emod_of_nonneg (by omega)]
 omega
theorem XE {α:Type} [Inhabited α] {l:List α} {k:Nat} (h:k<l.length):l.drop k=l.getD k default::l.drop (k+1):=by
 rw [List.drop_eq_getElem_cons h,List.getD_eq_getElem?_getD,List.getElem?_eq_getElem h]
 rfl
theorem UY (s:An) (m:Ac):∀ (n k:Nat) (l:List AN),k<=s.Edges.length->s.Edges.length-k<n->l=(s.Edges.take k).map (fun e=>EQ e m)++s.Edges.drop k->GI s m n l (k:Int)=⟨s.Kind,s.Edges.map (fun e=>EQ e m),s.R⟩
 | 0,k,l,hk,hn,_=>by omega
 | n+1,k,l,hk,hn,hl=>by
  unfold GI
  by_cases hlt:k<s.Edges.length
  ·rw [decide_eq_true (show (k:Int)<((s.Edges.length:Nat):Int) by omega)]
   simp only [cond_true,Int.toNat_natCast]
   rw [show ((k:Int)+1)=((k+1:Nat):Int) by omega]
   refine UY s m n (k+1) _ (by omega) (by omega) ?_
   subst hl
   have hlen:((s.Edges.take k).map (fun e=>EQ e m)).length=k:=by simp;omega
   have hd:s.Edges.drop k=s.Edges[k]::s.Edges.drop (k+1):=List.drop_eq_getElem_cons hlt
   rw [hd]
   have h1:((s.Edges.take k).map (fun e=>EQ e m)++s.Edges[k]::s.Edges.drop (k+1)).getD k default=s.Edges[k]:=by
    rw [List.getD_eq_getElem?_getD,List.getElem?_append_right (by omega),hlen,Nat.sub_self];rfl
   rw [h1,List.set_append_right _ _ (by omega),hlen,Nat.sub_self,List.set_cons_zero,List.take_succ_eq_append_getElem hlt,List.map_append,List.append_assoc]
   rfl
  rw [decide_eq_false (show ¬ (k:Int)<((s.Edges.length:Nat):Int) by omega)]
  subst hl
  rw [List.drop_of_length_le (by omega),List.take_of_length_le (by omega),List.append_nil]
  rfl
theorem UZ (s:An) (m:Ac):FB s m=⟨s.Kind,s.Edges.map (fun e=>EQ e m),s.R⟩:=by
 unfold FB
 have:=UY s m ((((s.Edges.length:Nat):Int)-0).toNat+1) 0 s.Edges (by omega) (by omega) (by simp)
 exact this
theorem ZK (s:An) (m:Ac):(FB s m).Edges.length=s.Edges.length:=by rw [UZ];simp
theorem EA (m:Ac) (p:AE):Aj m p=Ae m p:=by
 have ht:Cm m=m.Turn % 4:=mD m.Turn
 unfold Ae Z09 CL Cc Aj
 rw [V7]
 generalize (bif m.Mirror then (W64 (0-p.X)) else p.X)=x at *
 have h4:m.Turn % 4=0\/m.Turn % 4=1\/m.Turn % 4=2\/m.Turn % 4=3:=by omega
 rcases h4 with h | h | h | h <;> rw [h] at ht ⊢ <;> rw [ht]
 ·show Cb m p 1 ⟨x,p.Y⟩ 0=_
  simp only [Cb,ht,Int.reduceLT,decide_false,cond_false,Gz,Cd,Int.reduceEq,if_true]
 ·show Cb m p 2 ⟨x,p.Y⟩ 0=_
  simp only [Cb,ht,Int.reduceLT,Int.reduceAdd,decide_true,cond_true,decide_false,cond_false,Gz,Cd,Int.reduceEq,if_true,if_false]
 ·show Cb m p 3 ⟨x,p.Y⟩ 0=_
  simp only [Cb,ht,Int.reduceLT,Int.reduceAdd,decide_true,cond_true,decide_false,cond_false,Gz,Cd,Int.reduceEq,if_true,if_false]
 show Cb m p 4 ⟨x,p.Y⟩ 0=_
 have e:∀ u v:Int,W64 (W64 (0-W64 (0-u))+v)=W64 (u+v):=fun u v=>by simp only [Do];omega
 simp only [Cb,ht,Int.reduceLT,Int.reduceAdd,decide_true,cond_true,decide_false,cond_false,Gz,Cd,Int.reduceEq,if_false,e]
theorem eP (e:AN) (m:Ac):EQ e m=HP e m:=by
 obtain ⟨k,a,b,c⟩:=e
 unfold EQ HP
 simp only
 by_cases h1:k=1
 ·subst h1
  rw [if_pos rfl]
  unfold P8 C6
  rw [EA,EA]
  cases m.Mirror <;> rfl
 rw [if_neg h1]
 by_cases h2:k=2
 ·subst h2
  rw [if_pos rfl]
  unfold P7 C6
  rw [EA,EA,EA]
  cases m.Mirror <;> rfl
 rw [if_neg h2]
 by_cases h3:k=3
 ·subst h3
  rw [if_pos rfl]
  unfold P6 C6
  rw [EA,EA,EA]
  cases m.Mirror <;> rfl
 rw [if_neg h3]
 unfold P5 C6
 simp only
 rw [EA,EA,EA,decide_eq_false h2,decide_eq_false h3]
 cases m.Mirror <;> rfl
theorem Ua (s:An) (m:Ac):∀ (n k:Nat) (l:List AN),k<=s.Edges.length->s.Edges.length-k<n->FT s m n l (k:Int)=⟨s.Kind,l++(s.Edges.drop k).map (fun e=>EQ e m),s.R⟩
 | 0,k,l,hk,hn=>by omega
 | n+1,k,l,hk,hn=>by
  unfold FT
  by_cases hlt:k<s.Edges.length
  ·rw [decide_eq_true (show (k:Int)<((s.Edges.length:Nat):Int) by omega)]
   simp only [cond_true]
   rw [show ((k:Int)+1)=((k+1:Nat):Int) by omega,Ua s m n (k+1) _ (by omega) (by omega),XE hlt]
   unfold Z0z
   rw [Int.toNat_natCast,<- eP]
   simp
  rw [decide_eq_false (show ¬ (k:Int)<((s.Edges.length:Nat):Int) by omega)]
  rw [List.drop_of_length_le (by omega)]
  simp
theorem eQ (s:An) (m:Ac):I3 s m=FB s m:=by
 rw [UZ]
 unfold I3
 have:=Ua s m ((((s.Edges.length:Nat):Int)-0).toNat+1) 0 [] (by omega) (by omega)
 exact this
theorem Qa (p:AF):Bj p=Be p:=rfl
theorem Ns (a c:AX):BD a c=true↔a=c:=by
 constructor
 ·intro h
  unfold BD at h
  obtain ⟨a1,a2⟩:=a
  obtain ⟨c1,c2⟩:=c
  simp only [Bool.and_eq_true] at h
  rw [iE h.1,iE h.2]
 rintro rfl
 unfold BD eqS
 simp
def PU (v:List (AX×ByteArray)) (q:AX):ByteArray:=match v.find? (fun e=>BD e.1 q) with
 | some e=>e.2
 | none=>⟨#[]⟩
theorem kZ (v:List (AX×ByteArray)) (q:AX):(bif Ek BD v q then (v.getD (Dj BD v q) default).2 else ⟨#[]⟩)=PU v q:=by
 unfold Ek Dj PU
 induction v with
 | nil=>rfl
 | cons e v ih =>
  rw [List.any_cons,List.findIdx_cons,List.find?_cons]
  cases h:BD e.1 q with
  | true=>rfl
  | false=>exact ih
theorem eZ (v:List (AX×ByteArray)) (k q:AX) (x:ByteArray):PU (Gi BD v k x) q=bif BD k q then x else PU v q:=by
 have hn:Gi BD [] k x=[(k,x)]:=rfl
 have hc:∀ e (w:List (AX×ByteArray)),Gi BD (e::w) k x=bif BD e.1 k then (k,x)::w else e::Gi BD w k x:=fun e w=>by
  unfold Gi Ek Dj
  rw [List.any_cons,List.findIdx_cons]
  cases h:BD e.1 k with
  | true=>rfl
  | false =>
   simp only [Bool.false_or,cond_false]
   cases w.any (fun e=>BD e.1 k) <;> rfl
 induction v with
 | nil =>
  rw [hn]
  unfold PU
  rw [List.find?_cons]
  cases BD k q <;> rfl
 | cons e v ih =>
  rw [hc]
  cases h1:BD e.1 k with
  | true =>
   have e1:=(Ns e.1 k).1 h1
   rw [cond_true]
   unfold PU
   rw [List.find?_cons,List.find?_cons,e1]
   cases BD k q <;> rfl
  | false =>
   rw [cond_false]
   unfold PU at ih ⊢
   rw [List.find?_cons,List.find?_cons]
   cases h2:BD e.1 q with
   | true =>
    have e2:=(Ns e.1 q).1 h2
    cases h3:BD k q with
    | true =>
     rw [(Ns k q).1 h3,<- e2,(Ns e.1 e.1).2 rfl] at h1
     cases h1
    | false=>rfl
   | false=>exact ih
theorem Uh (n:BA) (q:AX):∀ (ps:List AX) (v:List (AX×ByteArray)),PU (ps.foldl (fun v p=>Gi BD v p n.Name) v) q=bif ps.any (fun p=>BD p q) then n.Name else PU v q
 | [],v=>rfl
 | p::ps,v=>by
  rw [List.foldl_cons,Uh n q ps,eZ,List.any_cons]
  cases h1:BD p q with
  | true =>
   cases ps.any (fun p=>BD p q) <;> rfl
  | false=>rw [cond_false,Bool.false_or]
theorem ZQ (b:AC) (q:AX):PU (KP b) q=match b.Nets.find? (fun n=>n.Pins.any fun p=>BD p q) with | some n=>n.Name | none=>⟨#[]⟩:=by
 unfold KP
 rw [List.foldl_reverse]
 generalize b.Nets=l
 induction l with
 | nil=>rfl
 | cons n l ih =>
  rw [List.foldr_cons,List.find?_cons]
  unfold eN
  rw [Uh]
  cases n.Pins.any (fun p=>BD p q) with
  | true=>rfl
  | false=>exact ih
theorem pF (b:AC) (q:AX) (k:Nat) (K0:Int->ByteArray) (m:Nat) (hm:(b.Nets.getD k default).Pins.length<m):E0 b q k K0 m 0=bif (b.Nets.getD k default).Pins.any (fun p=>BD p q) then (b.Nets.getD k default).Name else K0 ((k:Int)+1):=by
 have h:=TD (fun p=>BD p q) (fun _=>(b.Nets.getD k default).Name) (K0 ((k:Int)+1)) (b.Nets.getD k default).Pins (E0 b q k K0) (fun m v=>by
  rw [E0]
  unfold Z0v Z0u BD eqS
  rw [Int.toNat_natCast,Int.toNat_natCast,Bool.and_true]) (b.Nets.getD k default).Pins.length 0 m rfl (Nat.zero_le _) hm
 rw [List.drop_zero] at h
 refine h.trans ?_
 cases hf:(b.Nets.getD k default).Pins.find? (fun p=>BD p q) with
 | some x =>
  have:(b.Nets.getD k default).Pins.any (fun p=>BD p q)=true:=List.any_eq_true.2 ⟨x,List.mem_of_find?_eq_some hf,List.find?_some (p:=fun p=>BD p q) hf⟩
  rw [this];rfl
 | none =>
  have:(b.Nets.getD k default).Pins.any (fun p=>BD p q)=false:=List.any_eq_false.2 fun x hx=>List.find?_eq_none.1 hf x hx
  rw [this];rfl
theorem pG (b:AC) (q:AX):HQ b q=PU (KP b) q:=by
 rw [ZQ]
 have h:=TD (fun n:BA=>n.Pins.any fun p=>BD p q) (fun n=>n.Name) (⟨#[]⟩:ByteArray) b.Nets (E1 b q) (fun m v=>by
  rw [E1]
  have:=pF b q v (E1 b q m) ((((b.Nets.getD ((v:Nat):Int).toNat default).Pins.length:Int)-0).toNat+1) (by rw [Int.toNat_natCast];omega)
  rw [this]) b.Nets.length 0 (((((b.Nets.length:Int)))-0).toNat+1) rfl (Nat.zero_le _) (by omega)
 rw [List.drop_zero] at h
 unfold HQ
 refine h.trans ?_
 cases b.Nets.find? (fun n=>n.Pins.any fun p=>BD p q) <;> rfl
theorem lF (b:AC) (x:AF×BL):L4 b x.1 x.2=HF b (KP b) x:=by
 unfold L4 HF
 rw [pG,<- kZ,eQ]
 rfl
theorem pY {types:List AV} {name:ByteArray} (h:(Ct types name).2=false):(Ct types name).1.Pads=[]:=by
 rw [Hb] at *
 unfold S8 at *
 cases hf:types.find? (fun t=>Gc t name) with
 | none=>rfl
 | some t=>rw [hf] at h;cases h
theorem Pe {α γ:Type} (f:α->List γ):∀ (xs:List α) (acc:List γ),xs.foldl (fun acc x=>acc++f x) acc=acc++xs.flatMap f
 | [],acc=>by simp
 | x::xs,acc=>by rw [List.foldl_cons,Pe f xs,List.flatMap_cons,List.append_assoc]
theorem GH (b:AC) (types:List AV):Dq b types=CQ b types:=by
 rw [P4]
 have h:=TB (Bo b) (fun acc p=>acc++(F8 types p).map (HF b (KP b))) (DU b types) (fun acc _=>acc) (fun m acc v=>by
  rw [DU]
  generalize hp:(Bo b).getD v default=p
  have hw:Z0I types b v=(Ct types p.Type').1:=by unfold Z0I;rw [Int.toNat_natCast,hp,KE]
  have h1:=TB (Ct types p.Type').1.Pads (fun acc q=>acc++[HF b (KP b) (p,q)]) (Er b types acc v (DU b types m)) (fun acc _=>DU b types m acc ((v:Int)+1)) (fun m2 acc2 i=>by
   rw [Er]
   unfold Z0M Z0L
   rw [hw,Int.toNat_natCast,Int.toNat_natCast,hp,KE,<- lF]
   cases hk:(Ct types p.Type').2 with
   | true=>rfl
   | false =>
    rw [pY hk,decide_eq_false (by simp only [List.length_nil];omega)]
    rfl) (Ct types p.Type').1.Pads.length 0 ((((Z0I types b v).Pads.length:Int)-0).toNat+1) acc rfl (Nat.zero_le _) (by rw [hw];omega)
  rw [List.drop_zero,Mt] at h1
  have e:(F8 types p).map (HF b (KP b))=(Ct types p.Type').1.Pads.map fun q=>HF b (KP b) (p,q):=by unfold F8;rw [List.map_map];rfl
  rw [e]
  have h2:Er b types acc v (DU b types m) ((((Z0I types b v).Pads.length:Int)-0).toNat+1) acc 0=DU b types m (acc++(Ct types p.Type').1.Pads.map fun q=>HF b (KP b) (p,q)) ((v:Int)+1):=h1
  rw [<- h2]) (Bo b).length 0 (((((Bo b).length:Int))-0).toNat+1) [] rfl (Nat.zero_le _) (by omega)
 rw [List.drop_zero,Pe,List.nil_append,PE] at h
 unfold Aw
 rw [List.map_flatMap]
 rw [<- h]
 unfold Dq
 rw [PE]
 rfl
theorem GL {types:List AV} (h:CM types) (b:AC) (k:Nat):(((CQ b types).getD k default).Shape.Edges.length:Int)<=1000000:=by
 refine GN (p:=fun s:BC=>(s.Shape.Edges.length:Int)<=1000000) (by decide) (fun x hx => ?_) k
 rw [P4] at hx
 obtain ⟨r,hr,rfl⟩:=List.mem_map.1 hx
 show ((FB r.2.Shape (Be r.1)).Edges.length:Int)<=1000000
 rw [ZK]
 unfold Aw at hr
 obtain ⟨p,_,hp⟩:=List.mem_flatMap.1 hr
 unfold F8 at hp
 obtain ⟨q,hq,rfl⟩:=List.mem_map.1 hp
 show (q.Shape.Edges.length:Int)<=1000000
 rw [Hb] at hq
 unfold S8 at hq
 cases hf:types.find? (fun t=>Gc t p.Type') with
 | none=>rw [hf] at hq;cases hq
 | some t=>rw [hf] at hq;exact (h.2 t (List.mem_of_find?_eq_some hf)).2.2.1 q hq
theorem F7 {b:AC} {types:List AV} (hb:b.Parts.length<20) (h:CM types):((CQ b types).length:Int)<=1000000000:=by
 have:=Hy hb h
 rw [Zm]
 omega
theorem DF {v:List AV} (h:CM v) (k:Nat):CM (v.take k):=⟨by have:=h.1;rw [List.length_take];omega,fun t ht=>h.2 t (List.mem_of_mem_take ht)⟩
theorem PS (l:List (List Int)):(AL l).1.Parts.length<20:=by
 have:=(Lh l).par
 omega
theorem ZC (l:List (List Int)) (q:DM):(Cf (AL l).1 q).Parts.length<20:=by
 have h:=PS l
 have:=US (AL l).1 q (by omega)
 omega
theorem Qe (l:List (List Int)):Jr (AL l).1.Nets:=by
 obtain ⟨k,h⟩:=eY l
 obtain ⟨p,q,r,e,h1,h2,h3⟩:=h.net
 rw [e]
 refine ⟨by show ((3:Nat):Int)<=999999;decide,fun n hn => ?_⟩
 simp only [List.mem_cons,List.not_mem_nil,or_false] at hn
 rcases hn with rfl | rfl | rfl
 ·show (p.length:Int)<=999999;omega
 ·show (q.length:Int)<=999999;omega
 show (r.length:Int)<=999999;omega
theorem ZN (l:List (List Int)):IB (AL l).1.Nets:=pD (Qe l)
theorem kP (l:List (List Int)) (q:DM):IB (Cf (AL l).1 q).Nets:=dZ _ q (Qe l)
section
open Go.RowKit
variable (l:List (List Int)) (q:DM) (types v35 v35':Int)
def ZbM:Tv:=.av (.one (lst 3 AV.c (AL l).2))
abbrev DD:=Cf (AL l).1 q
def ZbN:Tv:=.av (.one (.list true 15 2 (BB 15 2 [.i (AL l).1.Layers,.i (AL l).1.Outline.Kind,lst 7 AN.c (AL l).1.Outline.Edges,.i (AL l).1.Outline.R,lst 7 AF.c (AL l).1.Parts,lst 2 BA.c (AL l).1.Nets,lst 6 Aq.c (AL l).1.Tracks,lst 8 Bx.c (AL l).1.Vias,lst 8 A8.c (AL l).1.Pours,lst 5 BR.c (AL l).1.Keeps,lst 4 Bq.c (AL l).1.Slots,lst 2 BS.c (AL l).1.Classes,lst 20 A1.c (AL l).1.Rules,lst 3 BM.c (AL l).1.Waivers,lst 3 Bb.c (AL l).1.Matches,.i (DD l q).Layers,.i (DD l q).Outline.Kind,lst 7 AN.c (DD l q).Outline.Edges,.i (DD l q).Outline.R,lst 7 AF.c (DD l q).Parts,lst 2 BA.c (DD l q).Nets,lst 6 Aq.c (DD l q).Tracks,lst 8 Bx.c (DD l q).Vias,lst 8 A8.c (DD l q).Pours,lst 5 BR.c (DD l q).Keeps,lst 4 Bq.c (DD l q).Slots,lst 2 BS.c (DD l q).Classes,lst 20 A1.c (DD l q).Rules,lst 3 BM.c (DD l q).Waivers,lst 3 Bb.c (DD l q).Matches])))
def ZbO:Tv:=.av (.one (lst 7 AF.c (AL l).1.Parts))
def ZbP:Tv:=tI ((AL l).1.Parts.length:Int)
def ZbQ:AF:=(AL l).1.Parts.getD v35.toNat default
abbrev IY:=Int.tmod (W64 types) 3
def ZbR:Tv:=.av (.one (.list true 1 2 (BB 1 2 [lst 3 AV.c (AL l).2,.list false 3 ((min ((AL l).2.length:Int) (IY types):Int).toNat-(0:Int).toNat) (fun i_ j_=>(AU AV.c (AL l).2) (i_+(0:Int).toNat) j_)])))
def ZbS:Bool:=FO (CQ (AL l).1 (AL l).2) (Dq (AL l).1 (AL l).2)
def ZbT:Tv:=.av (.one (.list false 3 ((min ((AL l).2.length:Int) (IY types):Int).toNat-(0:Int).toNat) (fun i_ j_=>(AU AV.c (AL l).2) (i_+(0:Int).toNat) j_)))
abbrev Te:=(lst 3 AV.c ((AL l).2.take (min ((AL l).2.length:Int) (IY types):Int).toNat))
def ZbU:Tv:=.av (.one (Te l types))
def ZbV:(List BC):=CQ (AL l).1 ((AL l).2.take (min ((AL l).2.length:Int) (Int.tmod (W64 types) 3):Int).toNat)
def ZbW:(List BC):=Dq (AL l).1 ((AL l).2.take (min ((AL l).2.length:Int) (Int.tmod (W64 types) 3):Int).toNat)
def ZbX:Bool:=FO (ZbV l types) (ZbW l types)
def ZbY:Blk:=.cells (AC.c (DD l q)) 40
def ZbZ:Tv:=.av (.one (lst 7 AF.c (DD l q).Parts))
def Zc0:Tv:=tI ((DD l q).Parts.length:Int)
def Zc1:(List BC):=CQ (Cf (AL l).1 q) (AL l).2
def Zc2:(List BC):=Dq (Cf (AL l).1 q) (AL l).2
def Zc3:Bool:=FO (Zc1 l q) (Zc2 l q)
def Zc4:(List BC):=CQ (Cf (AL l).1 q) ((AL l).2.take (min ((AL l).2.length:Int) (Int.tmod (W64 types) 3):Int).toNat)
def Zc5:(List BC):=Dq (Cf (AL l).1 q) ((AL l).2.take (min ((AL l).2.length:Int) (Int.tmod (W64 types) 3):Int).toNat)
def Zc6:Bool:=FO (Zc4 l q types) (Zc5 l q types)
def Zc7:AF:=(Cf (AL l).1 q).Parts.getD v35'.toNat default
def C1 (l:(List (List Int))) (q:DM) (types:Int) (v35:Int) (K0:Int->Bool):Nat->Int->Bool
 | 0,_=>default
 | n3+1,v35'=>bif decide ((v35':Int)<((Cf (AL l).1 q).Parts.length:Int)) then (bif !(decide ((Be (Zc7 l q v35')).At.X=(Bj (Zc7 l q v35')).At.X)&&(decide ((Be (Zc7 l q v35')).At.Y=(Bj (Zc7 l q v35')).At.Y)&&(decide ((Be (Zc7 l q v35')).Turn=(Bj (Zc7 l q v35')).Turn)&&(((Be (Zc7 l q v35')).Mirror==(Bj (Zc7 l q v35')).Mirror)&&true)))) then false else ((C1 l q types v35 K0 n3) (v35'+1))) else (bif !(Zc3 l q) then false else (bif !(Zc6 l q types) then false else DR))
def CY (l:(List (List Int))) (q:DM) (types:Int):Nat->Int->Bool
 | 0,_=>default
 | n1+1,v35=>bif decide ((v35:Int)<((AL l).1.Parts.length:Int)) then (bif !(decide ((Be (ZbQ l v35)).At.X=(Bj (ZbQ l v35)).At.X)&&(decide ((Be (ZbQ l v35)).At.Y=(Bj (ZbQ l v35)).At.Y)&&(decide ((Be (ZbQ l v35)).Turn=(Bj (ZbQ l v35)).Turn)&&(((Be (ZbQ l v35)).Mirror==(Bj (ZbQ l v35)).Mirror)&&true)))) then false else ((CY l q types n1) (v35+1))) else (bif !(ZbS l) then false else (bif !(ZbX l types) then false else (C1 l q types v35 (CY l q types n1) ((((Cf (AL l).1 q).Parts.length:Int)-0).toNat+1) 0)))
def GG (l:(List (List Int))) (q:DM) (types:Int):Bool:=CY l q types ((((AL l).1.Parts.length:Int)-0).toNat+1) 0
def XL:CT:=(3,[.one (lst 1 (fun x=>[lst 1 eIn x]) l),.agg (DM.c q),.one (.val (.int .u8 types))],.val [] (.av (.one (.b (GG l q types)))))
abbrev NI:Nat×Tv:=(2,.av (.one (.val (.int .u8 types))))
abbrev mH:List Av:=[.agg (AC.c (DD l q)),.one (lst 3 AV.c ((AL l).2.take (min ((AL l).2.length:Int) (IY types):Int).toNat))]
abbrev mF:List Av:=[.agg (AC.c (AL l).1),.one (lst 3 AV.c ((AL l).2.take (min ((AL l).2.length:Int) (IY types):Int).toNat))]
abbrev I6:List (Nat×Blk):=[(11,.cells (AC.c (AL l).1) 40)]
abbrev D5 (types:Int) (l:List (List Int)) (q:DM) (t_:List (Nat×Tv)):List (Nat×Tv):=(NI types)::(7,tB DR)::(9,ZbM l)::(11,tP 11 0)::(26,ZbN l q)::(27,tI 2)::t_
theorem au4 {p:Prop} (h:p:=by first | (with_reducible exact he4 _) | (with_reducible exact he5 _) | (with_reducible exact he9 _) | (with_reducible exact he10 _) | (with_reducible exact he12 _) | (with_reducible exact he13 _) | (with_reducible exact DF (Lg l) _) | (with_reducible exact Hy hP1 hT1) | (with_reducible exact Hy hP1 (DF hT1 _)) | (with_reducible exact Hy hP2 hT1) | (with_reducible exact Hy hP2 (DF hT1 _)) | (with_reducible exact Ue l) | (with_reducible exact Sp l) | (with_reducible exact Wp l) | (with_reducible exact F7 hP1 hT1) | (with_reducible exact F7 hP1 (DF hT1 _)) | (with_reducible exact F7 hP2 hT1) | (with_reducible exact F7 hP2 (DF hT1 _)) | (with_reducible exact GL hT1 _) | (with_reducible exact GL (DF hT1 _) _) | ((rw [GH];with_reducible exact GL hT1 _)) | ((rw [GH];with_reducible exact GL (DF hT1 _) _)) | (with_reducible exact hQ1.1) | (with_reducible exact hQ1.2) | (with_reducible exact hQ2.1) | (with_reducible exact hQ2.2) | with_reducible assumption | omega | decide | (simp only [List.length_cons,List.length_nil,List.length_append];omega) | assumption):p:=h
theorem au20 {p:Prop} (h:p:=by first | omega | decide | (simp only [Do];omega)):p:=h
set_option maxHeartbeats 4000000 in
theorem Wa (l:(List (List Int))) (q:DM) (types:Int) (hl:(l.length:Int)<=9223372036854775807) (hll:∀ x∈l,(x.length:Int)<=9223372036854775807) (hw:0<=types/\types<=255):PuP 3 (XL l q types).2.1 (tO (.b (GG l q types))):=by
 refine pwf Tryz.func3 fun W0 M0 => ?_
 have hT1:=Lg l
 have hP1:=PS l
 have hP2:=ZC l q
 have hQ1:=ZN l
 have hQ2:=kP l q
 have hw8:W64 types=types:=Az oM oM
 have htm:0<=Int.tmod (W64 types) 3/\Int.tmod (W64 types) 3<3:=by rw [hw8];exact tmb hw.1 (by decide)
 have hL2:=Wj l q
 have hL1:=Qd l
 have hp4:((ZbV l types).length:Int)<=1000000000:=F7 hP1 (DF hT1 _)
 have hp9:((Zc1 l q).length:Int)<=1000000000:=F7 hP2 hT1
 have hp12:((Zc4 l q types).length:Int)<=1000000000:=F7 hP2 (DF hT1 _)
 have he4:∀ k,(((ZbV l types).getD k default).Shape.Edges.length:Int)<=1000000:=fun k=>GL (DF hT1 _) _ k
 have he5:∀ k,(((ZbW l types).getD k default).Shape.Edges.length:Int)<=1000000:=fun k=>by show (((Dq _ _).getD k default).Shape.Edges.length:Int)<=1000000;rw [GH];exact GL (DF hT1 _) _ k
 have he9:∀ k,(((Zc1 l q).getD k default).Shape.Edges.length:Int)<=1000000:=fun k=>GL hT1 _ k
 have he10:∀ k,(((Zc2 l q).getD k default).Shape.Edges.length:Int)<=1000000:=fun k=>by show (((Dq _ _).getD k default).Shape.Edges.length:Int)<=1000000;rw [GH];exact GL hT1 _ k
 have he12:∀ k,(((Zc4 l q types).getD k default).Shape.Edges.length:Int)<=1000000:=fun k=>GL (DF hT1 _) _ k
 have he13:∀ k,(((Zc5 l q types).getD k default).Shape.Edges.length:Int)<=1000000:=fun k=>by show (((Dq _ _).getD k default).Shape.Edges.length:Int)<=1000000;rw [GH];exact GL (DF hT1 _) _ k
 have hTl:(((AL l).2.length:Nat):Int)<=1000000:=hT1.1
 refine AA<|on<|AA ?_
 refine oq 16 Mz Wf<|AG<|AA ?_
 refine oq 19 (TM l) (dU l au4 au4)<|AG ?_
 refine AA<|AA ?_
 refine dw [] [(25,YX (AL l).1 q)] [Ay (YX (AL l).1 q).2.1] ⟨[(NI types),(7,tB DR),(9,ZbM l),(26,ZbN l q),(27,tI 2),(28,tI 0)],[]⟩ (.cons (oX (AL l).1 q au4 au4 au4) .nil) (.cons rfl .nil)<|AG<|AQ ?_
 refine Di 3 ?_
 refine Bu<|AA ?_
 refine on<|AA ?_
 refine CN kr<|AZ ?_
 refine AG<|AA ?_
 refine AQ<|AA ?_
 refine oc [] [0<=(0:Int)/\(0:Int)<((2:Nat):Int)] .nil (.cons au20 .nil)<|AG ?_
 refine AA<|AA ?_
 refine rn ⟨(D5 types l q [(28,tI 0),(33,ZbO l),(34,ZbP l),(35,tI 0)]),(I6 l)⟩<|AQ ?_
 refine BP (ι:=Nat×Int) (fun x=>⟨(D5 types l q [(28,tI 0),(33,ZbO l),(34,ZbP l),(35,tI x.2)]),(I6 l)⟩) (fun x=>(((AL l).1.Parts.length:Int)-x.2).toNat<x.1/\(0<=x.2/\(x.2<=((AL l).1.Parts.length:Int)\/x.2=0))/\CY l q types x.1 x.2=GG l q types) (fun x=>x.1) ?_ ((((AL l).1.Parts.length:Int)-0).toNat+1,0) ⟨Nat.lt_succ_self _,⟨ax0,ax0⟩,(by simp only [GG,cond_true,cond_false])⟩
 rintro ⟨n1,v35⟩ ⟨hm1,hinv1,hF1⟩
 try dsimp only at hm1 hinv1 hF1
 cases n1 with | zero=>exact nz hm1 | succ n1 => ?_
 refine AA<|rn ⟨(D5 types l q [(28,tI 0),(33,ZbO l),(34,ZbP l),(35,tI v35),(36,tB (decide ((v35:Int)<((AL l).1.Parts.length:Int))))]),(I6 l)⟩<|AA ?_
 refine AO _ rfl (fun h1 => ?_) (fun h1 => ?_)
 ·have g1:=oT h1
  refine AZ<|AG ?_
  refine AA<|AQ<|AA ?_
  refine oc [] [0<=(v35:Int)/\(v35:Int)<(((AL l).1.Parts.length:Nat):Int)] .nil (.cons au20 .nil)<|AG<|AA ?_
  refine dw [] [(40,FN (ZbQ l v35)),(42,Fc (ZbQ l v35))] [Ay (FN (ZbQ l v35)).2.1,Ay (Fc (ZbQ l v35)).2.1] ⟨(D5 types l q [(28,tI 0),(33,ZbO l),(34,ZbP l),(35,tI v35),(43,tB (!(decide ((Be (ZbQ l v35)).At.X=(Bj (ZbQ l v35)).At.X)&&(decide ((Be (ZbQ l v35)).At.Y=(Bj (ZbQ l v35)).At.Y)&&(decide ((Be (ZbQ l v35)).Turn=(Bj (ZbQ l v35)).Turn)&&(((Be (ZbQ l v35)).Mirror==(Bj (ZbQ l v35)).Mirror)&&true))))))]),(I6 l)⟩ (.cons (JZ (ZbQ l v35)) (.cons (Kz (ZbQ l v35)) .nil)) (.cons rfl (.cons rfl .nil))<|AG ?_
  refine AO (!(decide ((Be (ZbQ l v35)).At.X=(Bj (ZbQ l v35)).At.X)&&(decide ((Be (ZbQ l v35)).At.Y=(Bj (ZbQ l v35)).At.Y)&&(decide ((Be (ZbQ l v35)).Turn=(Bj (ZbQ l v35)).Turn)&&(((Be (ZbQ l v35)).Mirror==(Bj (ZbQ l v35)).Mirror)&&true))))) kr (fun h2 => ?_) (fun h2 => ?_)
  ·refine AA<|on ?_
   refine AY<|Bw ?_
   refine BJ<|BJ ?_
   refine Bw<|BJ ?_
   refine Bw<|BJ ?_
   refine BJ<|Bw<|BJ ?_
   exact zl (by rw [<- hF1];simp only [CY,h1,h2,cond_true,cond_false] <;> kernel_rfl)
  refine AZ<|A3<|AG ?_
  refine rg ⟨(D5 types l q [(28,tI 0),(33,ZbO l),(34,ZbP l),(35,tI (W64 (v35+1)))]),(I6 l)⟩ ?_
  (try rw [(show W64 (v35+1)=v35+1 from Az oM au6)])
  refine AG ?_
  refine ⟨(n1,v35+1),⟨?_,?_,(by rw [<- hF1];simp only [CY,h1,h2,cond_true,cond_false])⟩,Nat.lt_succ_self _,BE kr⟩
  ·show (((AL l).1.Parts.length:Int)-(v35+1)).toNat<n1;omega
  exact ⟨ax0,ax0⟩
 have g1:=oF h1
 refine BH<|A5 ?_
 refine A5<|BI ?_
 refine AG<|AA ?_
 refine rc [] [(3:Int)≠0,0<=(0:Int)/\(0:Int)<=(min ((AL l).2.length:Int) (Int.tmod (W64 types) 3):Int)/\(min ((AL l).2.length:Int) (Int.tmod (W64 types) 3):Int)<=(((AL l).2.length:Nat):Int)] ⟨(D5 types l q [(28,tI 0),(54,ZbR l types),(55,tI 2),(56,tI 0)]),(I6 l)⟩ .nil (.cons au14 (.cons au20 .nil))<|AG<|AQ ?_
 refine Di 3 ?_
 refine Bu<|AA ?_
 refine on<|AA ?_
 refine CN kr<|AZ ?_
 refine AG<|AA ?_
 refine AQ<|AA ?_
 refine oc [] [0<=(0:Int)/\(0:Int)<((2:Nat):Int)] .nil (.cons au20 .nil)<|AG<|AA ?_
 refine dw [] [(62,ceI (Od l) (Ho (AL l).1 (AL l).2)),(65,ceI (Od l) (GS (AL l).1 (AL l).2)),(66,GR (CQ (AL l).1 (AL l).2) (Dq (AL l).1 (AL l).2))] [Ay (ceI (Od l) (Ho (AL l).1 (AL l).2)).2.1,Ay (ceI (Od l) (GS (AL l).1 (AL l).2)).2.1,Ay (GR (CQ (AL l).1 (AL l).2) (Dq (AL l).1 (AL l).2)).2.1] ⟨(D5 types l q [(28,tI 0),(54,ZbR l types),(55,tI 2),(56,tI 0),(67,tB (!(ZbS l)))]),(I6 l)⟩ (.cons (Ck (Lb (AL l).1 (AL l).2 au4 au4 au4 au4 au4) (.cons (.agg (rr9 (rr3 (.cons (.any _) (rr (rr .nil)))))) (.cons (AvE.refl _) .nil))) (.cons (Ck (Lc (AL l).1 (AL l).2 au4 au4 au4 au4) (.cons (.agg (rr9 (rr3 (.cons (.any _) (rr (rr .nil)))))) (.cons (AvE.refl _) .nil))) (.cons (LZ (CQ (AL l).1 (AL l).2) (Dq (AL l).1 (AL l).2) au4 au4 au4) .nil))) (.cons rfl (.cons rfl (.cons rfl .nil)))<|AG ?_
 refine AO _ rfl (fun h2 => ?_) (fun h2 => ?_)
 ·refine AA<|on ?_
  refine AY<|Bw ?_
  refine BJ<|BJ ?_
  refine Bw<|Bw ?_
  refine BJ<|BJ ?_
  refine Bw<|BJ ?_
  exact zl (by rw [<- hF1];simp only [CY,h1,h2,cond_true,cond_false] <;> kernel_rfl)
 refine AZ<|A3<|AG ?_
 refine rn ⟨(D5 types l q [(28,tI 0),(54,ZbR l types),(55,tI 2),(56,tI 1)]),(I6 l)⟩ ?_
 refine Bu<|AA ?_
 refine on<|AA ?_
 refine CN kr<|AZ ?_
 refine AG<|AA ?_
 refine AQ<|AA ?_
 refine rc [] [0<=(1:Int)/\(1:Int)<((2:Nat):Int)] ⟨[(NI types),(7,tB DR),(9,ZbM l),(11,tP 11 0),(15,ZbT l types),(26,ZbN l q),(27,tI 2),(28,tI 0),(54,ZbR l types),(55,tI 2),(56,tI 1)],(I6 l)⟩ .nil (.cons au20 .nil)<|AG ?_
 refine Ap (Cv.trans (DH (⟨[(NI types),(7,tB DR),(9,ZbM l),(11,tP 11 0),(15,ZbU l types),(26,ZbN l q),(27,tI 2),(28,tI 0),(54,ZbR l types),(55,tI 2),(56,tI 1)],(I6 l)⟩) (.cons ⟨rfl,.refl _⟩ (.cons ⟨rfl,.refl _⟩ (.cons ⟨rfl,.refl _⟩ (.cons ⟨rfl,.refl _⟩ (.cons ⟨rfl,.av (.one (Bk false (Hu (b:=min ((AL l).2.length:Int) (Int.tmod (W64 types) 3)) (Am 3 AV.c (AL l).2) (by have hc:=(show 0<=(0:Int)/\(0:Int)<=(min ((AL l).2.length:Int) (Int.tmod (W64 types) 3):Int)/\(min ((AL l).2.length:Int) (Int.tmod (W64 types) 3):Int)<=(((AL l).2.length:Nat):Int) from au20);exact hc.2.1) (by have hc:=(show 0<=(0:Int)/\(0:Int)<=(min ((AL l).2.length:Int) (Int.tmod (W64 types) 3):Int)/\(min ((AL l).2.length:Int) (Int.tmod (W64 types) 3):Int)<=(((AL l).2.length:Nat):Int) from au20);exact hc.2.2))))⟩ lr))))) lr) (Cv.refl _))<|AA ?_
 refine dw [] [(62,ceI [.agg (AC.c (AL l).1),.one (Te l types)] (Ho (AL l).1 ((AL l).2.take (min ((AL l).2.length:Int) (IY types):Int).toNat))),(65,ceI [.agg (AC.c (AL l).1),.one (Te l types)] (GS (AL l).1 ((AL l).2.take (min ((AL l).2.length:Int) (IY types):Int).toNat))),(66,GR (ZbV l types) (ZbW l types))] [Ay (ceI (mF l types) (Ho (AL l).1 ((AL l).2.take (min ((AL l).2.length:Int) (Int.tmod (W64 types) 3):Int).toNat))).2.1,Ay (ceI (mF l types) (GS (AL l).1 ((AL l).2.take (min ((AL l).2.length:Int) (Int.tmod (W64 types) 3):Int).toNat))).2.1,Ay (GR (ZbV l types) (ZbW l types)).2.1] ⟨(D5 types l q [(28,tI 0),(54,ZbR l types),(55,tI 2),(56,tI 1),(67,tB (!(ZbX l types)))]),(I6 l)⟩ (.cons (Ck (Lb (AL l).1 ((AL l).2.take (min ((AL l).2.length:Int) (Int.tmod (W64 types) 3):Int).toNat) au4 au4 au4 au4 au4) (.cons (.agg (rr9 (rr3 (.cons (.any _) (rr (rr .nil)))))) (.cons (AvE.refl _) .nil))) (.cons (Ck (Lc (AL l).1 ((AL l).2.take (min ((AL l).2.length:Int) (Int.tmod (W64 types) 3):Int).toNat) au4 au4 au4 au4) (.cons (.agg (rr9 (rr3 (.cons (.any _) (rr (rr .nil)))))) (.cons (AvE.refl _) .nil))) (.cons (LZ (ZbV l types) (ZbW l types) au4 au4 au4) .nil))) (.cons rfl (.cons rfl (.cons rfl .nil)))<|AG ?_
 refine AO _ rfl (fun h3 => ?_) (fun h3 => ?_)
 ·refine AA<|on ?_
  refine AY<|Bw ?_
  refine BJ<|BJ ?_
  refine Bw<|Bw ?_
  refine BJ<|BJ ?_
  refine Bw<|BJ ?_
  exact zl (by rw [<- hF1];simp only [CY,h1,h2,h3,cond_true,cond_false] <;> kernel_rfl)
 refine AZ<|A3<|AG ?_
 refine rn ⟨(D5 types l q [(28,tI 0),(54,ZbR l types),(55,tI 2),(56,tI 2)]),(I6 l)⟩ ?_
 refine Bu<|AA ?_
 refine on<|AA ?_
 refine Ar kr<|BH ?_
 refine A5<|A5 ?_
 refine BI<|A3<|AG ?_
 refine rn ⟨[(NI types),(7,tB DR),(9,ZbM l),(26,ZbN l q),(27,tI 2),(28,tI 1)],[]⟩ ?_
 refine Bu<|AA ?_
 refine on<|AA ?_
 refine CN kr<|AZ ?_
 refine AG<|AA ?_
 refine AQ<|AA ?_
 refine oc [] [0<=(1:Int)/\(1:Int)<((2:Nat):Int)] .nil (.cons au20 .nil)<|AG ?_
 refine AA<|AA ?_
 refine rn ⟨(D5 types l q [(28,tI 1),(33,ZbZ l q),(34,Zc0 l q),(35,tI 0)]),[(11,ZbY l q)]⟩<|AQ ?_
 refine BP (ι:=Nat×Int) (fun x=>⟨(D5 types l q [(28,tI 1),(33,ZbZ l q),(34,Zc0 l q),(35,tI x.2)]),[(11,ZbY l q)]⟩) (fun x=>(((Cf (AL l).1 q).Parts.length:Int)-x.2).toNat<x.1/\(0<=x.2/\(x.2<=((Cf (AL l).1 q).Parts.length:Int)\/x.2=0))/\C1 l q types v35 (CY l q types n1) x.1 x.2=GG l q types) (fun x=>x.1) ?_ ((((Cf (AL l).1 q).Parts.length:Int)-0).toNat+1,0) ⟨Nat.lt_succ_self _,⟨ax0,ax0⟩,(by rw [<- hF1];simp only [CY,h1,h2,h3,cond_true,cond_false])⟩
 rintro ⟨n3,v35'⟩ ⟨hm3,hinv3,hF3⟩
 try dsimp only at hm3 hinv3 hF3
 cases n3 with | zero=>exact nz hm3 | succ n3 => ?_
 refine AA<|rn ⟨(D5 types l q [(28,tI 1),(33,ZbZ l q),(34,Zc0 l q),(35,tI v35'),(36,tB (decide ((v35':Int)<((Cf (AL l).1 q).Parts.length:Int))))]),[(11,ZbY l q)]⟩<|AA ?_
 refine AO _ rfl (fun h4 => ?_) (fun h4 => ?_)
 ·have g4:=oT h4
  refine AZ<|AG ?_
  refine AA<|AQ<|AA ?_
  refine oc [] [0<=(v35':Int)/\(v35':Int)<(((Cf (AL l).1 q).Parts.length:Nat):Int)] .nil (.cons au20 .nil)<|AG<|AA ?_
  refine dw [] [(40,FN (Zc7 l q v35')),(42,Fc (Zc7 l q v35'))] [Ay (FN (Zc7 l q v35')).2.1,Ay (Fc (Zc7 l q v35')).2.1] ⟨(D5 types l q [(28,tI 1),(33,ZbZ l q),(34,Zc0 l q),(35,tI v35'),(43,tB (!(decide ((Be (Zc7 l q v35')).At.X=(Bj (Zc7 l q v35')).At.X)&&(decide ((Be (Zc7 l q v35')).At.Y=(Bj (Zc7 l q v35')).At.Y)&&(decide ((Be (Zc7 l q v35')).Turn=(Bj (Zc7 l q v35')).Turn)&&(((Be (Zc7 l q v35')).Mirror==(Bj (Zc7 l q v35')).Mirror)&&true))))))]),[(11,ZbY l q)]⟩ (.cons (JZ (Zc7 l q v35')) (.cons (Kz (Zc7 l q v35')) .nil)) (.cons rfl (.cons rfl .nil))<|AG ?_
  refine AO (!(decide ((Be (Zc7 l q v35')).At.X=(Bj (Zc7 l q v35')).At.X)&&(decide ((Be (Zc7 l q v35')).At.Y=(Bj (Zc7 l q v35')).At.Y)&&(decide ((Be (Zc7 l q v35')).Turn=(Bj (Zc7 l q v35')).Turn)&&(((Be (Zc7 l q v35')).Mirror==(Bj (Zc7 l q v35')).Mirror)&&true))))) kr (fun h5 => ?_) (fun h5 => ?_)
  ·refine AA<|on ?_
   refine AY<|Bw ?_
   refine BJ<|BJ ?_
   refine Bw<|BJ ?_
   refine Bw<|BJ ?_
   refine BJ<|Bw<|BJ ?_
   exact zl (by rw [<- hF3];simp only [C1,h4,h5,cond_true,cond_false] <;> kernel_rfl)
  refine AZ<|A3<|AG ?_
  refine rg ⟨(D5 types l q [(28,tI 1),(33,ZbZ l q),(34,Zc0 l q),(35,tI (W64 (v35'+1)))]),[(11,ZbY l q)]⟩ ?_
  (try rw [(show W64 (v35'+1)=v35'+1 from Az oM au6)])
  refine AG ?_
  refine ⟨(n3,v35'+1),⟨?_,?_,(by rw [<- hF3];simp only [C1,h4,h5,cond_true,cond_false])⟩,Nat.lt_succ_self _,BE kr⟩
  ·show (((Cf (AL l).1 q).Parts.length:Int)-(v35'+1)).toNat<n3;omega
  exact ⟨ax0,ax0⟩
 have g4:=oF h4
 refine BH<|A5 ?_
 refine A5<|BI ?_
 refine AG<|AA ?_
 refine rc [] [(3:Int)≠0,0<=(0:Int)/\(0:Int)<=(min ((AL l).2.length:Int) (Int.tmod (W64 types) 3):Int)/\(min ((AL l).2.length:Int) (Int.tmod (W64 types) 3):Int)<=(((AL l).2.length:Nat):Int)] ⟨(D5 types l q [(28,tI 1),(54,ZbR l types),(55,tI 2),(56,tI 0)]),[(11,ZbY l q)]⟩ .nil (.cons au14 (.cons au20 .nil))<|AG<|AQ ?_
 refine Di 3 ?_
 refine Bu<|AA ?_
 refine on<|AA ?_
 refine CN kr<|AZ ?_
 refine AG<|AA ?_
 refine AQ<|AA ?_
 refine oc [] [0<=(0:Int)/\(0:Int)<((2:Nat):Int)] .nil (.cons au20 .nil)<|AG<|AA ?_
 refine dw [] [(62,ceI [.agg (AC.c (DD l q)),.one (lst 3 AV.c (AL l).2)] (Ho (DD l q) (AL l).2)),(65,ceI [.agg (AC.c (DD l q)),.one (lst 3 AV.c (AL l).2)] (GS (DD l q) (AL l).2)),(66,GR (Zc1 l q) (Zc2 l q))] [Ay (ceI [.agg (AC.c (Cf (AL l).1 q)),.one (lst 3 AV.c (AL l).2)] (Ho (Cf (AL l).1 q) (AL l).2)).2.1,Ay (ceI [.agg (AC.c (Cf (AL l).1 q)),.one (lst 3 AV.c (AL l).2)] (GS (Cf (AL l).1 q) (AL l).2)).2.1,Ay (GR (Zc1 l q) (Zc2 l q)).2.1] ⟨(D5 types l q [(28,tI 1),(54,ZbR l types),(55,tI 2),(56,tI 0),(67,tB (!(Zc3 l q)))]),[(11,ZbY l q)]⟩ (.cons (Ck (Lb (Cf (AL l).1 q) (AL l).2 au4 au4 au4 au4 au4) (.cons (.agg (rr9 (rr3 (.cons (.any _) (rr (rr .nil)))))) (.cons (AvE.refl _) .nil))) (.cons (Ck (Lc (Cf (AL l).1 q) (AL l).2 au4 au4 au4 au4) (.cons (.agg (rr9 (rr3 (.cons (.any _) (rr (rr .nil)))))) (.cons (AvE.refl _) .nil))) (.cons (LZ (Zc1 l q) (Zc2 l q) au4 au4 au4) .nil))) (.cons rfl (.cons rfl (.cons rfl .nil)))<|AG ?_
 refine AO _ rfl (fun h5 => ?_) (fun h5 => ?_)
 ·refine AA<|on ?_
  refine AY<|Bw ?_
  refine BJ<|BJ ?_
  refine Bw<|Bw ?_
  refine BJ<|BJ ?_
  refine Bw<|BJ ?_
  exact zl (by rw [<- hF3];simp only [C1,h4,h5,cond_true,cond_false] <;> kernel_rfl)
 refine AZ<|A3<|AG ?_
 refine rn ⟨(D5 types l q [(28,tI 1),(54,ZbR l types),(55,tI 2),(56,tI 1)]),[(11,ZbY l q)]⟩ ?_
 refine Bu<|AA ?_
 refine on<|AA ?_
 refine CN kr<|AZ ?_
 refine AG<|AA ?_
 refine AQ<|AA ?_
 refine rc [] [0<=(1:Int)/\(1:Int)<((2:Nat):Int)] ⟨[(NI types),(7,tB DR),(9,ZbM l),(11,tP 11 0),(15,ZbT l types),(26,ZbN l q),(27,tI 2),(28,tI 1),(54,ZbR l types),(55,tI 2),(56,tI 1)],[(11,ZbY l q)]⟩ .nil (.cons au20 .nil)<|AG ?_
 refine Ap (Cv.trans (DH (⟨[(NI types),(7,tB DR),(9,ZbM l),(11,tP 11 0),(15,ZbU l types),(26,ZbN l q),(27,tI 2),(28,tI 1),(54,ZbR l types),(55,tI 2),(56,tI 1)],[(11,ZbY l q)]⟩) (.cons ⟨rfl,.refl _⟩ (.cons ⟨rfl,.refl _⟩ (.cons ⟨rfl,.refl _⟩ (.cons ⟨rfl,.refl _⟩ (.cons ⟨rfl,.av (.one (Bk false (Hu (b:=min ((AL l).2.length:Int) (Int.tmod (W64 types) 3)) (Am 3 AV.c (AL l).2) (by have hc:=(show 0<=(0:Int)/\(0:Int)<=(min ((AL l).2.length:Int) (Int.tmod (W64 types) 3):Int)/\(min ((AL l).2.length:Int) (Int.tmod (W64 types) 3):Int)<=(((AL l).2.length:Nat):Int) from au20);exact hc.2.1) (by have hc:=(show 0<=(0:Int)/\(0:Int)<=(min ((AL l).2.length:Int) (Int.tmod (W64 types) 3):Int)/\(min ((AL l).2.length:Int) (Int.tmod (W64 types) 3):Int)<=(((AL l).2.length:Nat):Int) from au20);exact hc.2.2))))⟩ lr))))) lr) (Cv.refl _))<|AA ?_
 refine dw [] [(62,ceI [.agg (AC.c (DD l q)),.one (Te l types)] (Ho (DD l q) ((AL l).2.take (min ((AL l).2.length:Int) (IY types):Int).toNat))),(65,ceI [.agg (AC.c (DD l q)),.one (Te l types)] (GS (DD l q) ((AL l).2.take (min ((AL l).2.length:Int) (IY types):Int).toNat))),(66,GR (Zc4 l q types) (Zc5 l q types))] [Ay (ceI (mH l q types) (Ho (Cf (AL l).1 q) ((AL l).2.take (min ((AL l).2.length:Int) (Int.tmod (W64 types) 3):Int).toNat))).2.1,Ay (ceI (mH l q types) (GS (Cf (AL l).1 q) ((AL l).2.take (min ((AL l).2.length:Int) (Int.tmod (W64 types) 3):Int).toNat))).2.1,Ay (GR (Zc4 l q types) (Zc5 l q types)).2.1] ⟨(D5 types l q [(28,tI 1),(54,ZbR l types),(55,tI 2),(56,tI 1),(67,tB (!(Zc6 l q types)))]),[(11,ZbY l q)]⟩ (.cons (Ck (Lb (Cf (AL l).1 q) ((AL l).2.take (min ((AL l).2.length:Int) (Int.tmod (W64 types) 3):Int).toNat) au4 au4 au4 au4 au4) (.cons (.agg (rr9 (rr3 (.cons (.any _) (rr (rr .nil)))))) (.cons (AvE.refl _) .nil))) (.cons (Ck (Lc (Cf (AL l).1 q) ((AL l).2.take (min ((AL l).2.length:Int) (Int.tmod (W64 types) 3):Int).toNat) au4 au4 au4 au4) (.cons (.agg (rr9 (rr3 (.cons (.any _) (rr (rr .nil)))))) (.cons (AvE.refl _) .nil))) (.cons (LZ (Zc4 l q types) (Zc5 l q types) au4 au4 au4) .nil))) (.cons rfl (.cons rfl (.cons rfl .nil)))<|AG ?_
 refine AO _ rfl (fun h6 => ?_) (fun h6 => ?_)
 ·refine AA<|on ?_
  refine AY<|Bw ?_
  refine BJ<|BJ ?_
  refine Bw<|Bw ?_
  refine BJ<|BJ ?_
  refine Bw<|BJ ?_
  exact zl (by rw [<- hF3];simp only [C1,h4,h5,h6,cond_true,cond_false] <;> kernel_rfl)
 refine AZ<|A3<|AG ?_
 refine rn ⟨(D5 types l q [(28,tI 1),(54,ZbR l types),(55,tI 2),(56,tI 2)]),[(11,ZbY l q)]⟩ ?_
 refine Bu<|AA ?_
 refine on<|AA ?_
 refine Ar kr<|BH ?_
 refine A5<|A5 ?_
 refine BI<|A3<|AG ?_
 refine rn ⟨[(NI types),(7,tB DR),(9,ZbM l),(26,ZbN l q),(27,tI 2),(28,tI 2)],[]⟩ ?_
 refine Bu<|AA ?_
 refine on<|AA ?_
 refine Ar kr<|BH ?_
 refine A5<|A5 ?_
 refine BI<|AG<|AA ?_
 refine on<|AY ?_
 exact zl (by rw [<- hF3];simp only [C1,h4,h5,h6,cond_true,cond_false] <;> kernel_rfl)
end
theorem WG (a:An):Ju a a=true:=by
 have key:∀ n k:Nat,a.Edges.length-k<n->Fe a a n (k:Int)=true:=by
  intro n
  induction n with
  | zero=>intro k h;omega
  | succ n ih =>
   intro k h
   rw [Fe]
   by_cases hc:(k:Int)<(a.Edges.length:Int)
   ·rw [decide_eq_true hc,cond_true]
    have:=ih (k+1) (by omega)
    rw [show ((k+1:Nat):Int)=(k:Int)+1 by omega] at this
    simp only [decide_true,Bool.and_true,Bool.not_true,cond_false]
    exact this
   rw [decide_eq_false hc,cond_false]
 unfold Ju
 simp only [decide_true,Bool.not_true,cond_false]
 exact key _ 0 (by omega)
theorem Tz (a:List BC):FO a a=true:=by
 have key:∀ n k:Nat,a.length-k<n->Ep a a n (k:Int)=true:=by
  intro n
  induction n with
  | zero=>intro k h;omega
  | succ n ih =>
   intro k h
   rw [Ep]
   by_cases hc:(k:Int)<(a.length:Int)
   ·rw [decide_eq_true hc,cond_true]
    have:=ih (k+1) (by omega)
    rw [show ((k+1:Nat):Int)=(k:Int)+1 by omega] at this
    unfold Z0P
    simp only [WG,decide_true,Bool.not_true,cond_false,beq_self_eq_true]
    exact this
   rw [decide_eq_false hc,cond_false]
 unfold FO
 simp only [decide_true,Bool.not_true,cond_false]
 exact key _ 0 (by omega)
theorem Jy (b:AC) (t:List AV):FO (CQ b t) (Dq b t)=true:=by rw [GH];exact Tz _
theorem mR (l:List (List Int)) (q:DM) (types v35:Int) (K0:Int->Bool):∀ (n i:Nat),(Cf (AL l).1 q).Parts.length-i<n->C1 l q types v35 K0 n (i:Int)=true
 | 0,i,h=>absurd h (Nat.not_lt_zero _)
 | n+1,i,h=>by
  rw [C1]
  by_cases hc:(i:Int)<((Cf (AL l).1 q).Parts.length:Int)
  ·rw [decide_eq_true hc,cond_true]
   have:=mR l q types v35 K0 n (i+1) (by omega)
   rw [show ((i+1:Nat):Int)=(i:Int)+1 by omega] at this
   simp only [Qa,decide_true,Bool.and_true,Bool.not_true,cond_false,beq_self_eq_true]
   exact this
  rw [decide_eq_false hc,cond_false]
  have h1:Zc3 l q=true:=Jy _ _
  have h2:Zc6 l q types=true:=Jy _ _
  rw [h1,h2]
  exact nS
theorem mS (l:List (List Int)) (q:DM) (types:Int):∀ (n i:Nat),(AL l).1.Parts.length-i<n->CY l q types n (i:Int)=true
 | 0,i,h=>absurd h (Nat.not_lt_zero _)
 | n+1,i,h=>by
  rw [CY]
  by_cases hc:(i:Int)<((AL l).1.Parts.length:Int)
  ·rw [decide_eq_true hc,cond_true]
   have:=mS l q types n (i+1) (by omega)
   rw [show ((i+1:Nat):Int)=(i:Int)+1 by omega] at this
   simp only [Qa,decide_true,Bool.and_true,Bool.not_true,cond_false,beq_self_eq_true]
   exact this
  rw [decide_eq_false hc,cond_false]
  have h1:ZbS l=true:=Jy _ _
  have h2:ZbX l types=true:=Jy _ _
  rw [h1,h2]
  exact mR l q types _ _ _ 0 (by omega)
theorem PA (l:List (List Int)) (q:DM) (types:Int):GG l q types=true:=mS l q types _ 0 (by omega)
section
open Go.ChangeShapes Go.WideShapes Go.ChangeAt Go.RowKit
theorem Md (os:Os) (started:os.Started) (H:Type) (enc:TypeId×Value->H) :
  ReturnsInHanded {} Tryz.checked os 3 .any (Rows.placePadsSpec.pre6 enc Tryz.prog Tryz.f3 Rows.placePadsRow.domain false) (Rows.placePadsSpec.post enc Tryz.prog Tryz.f3 false true false false):=by
 refine returnsInHanded_of_change (C:=Tryz.checked) own started kr Tryz.func3
  (ChangeSpec.witness6 (enc:=enc) (C:=Tryz.checked) false ⟨#[],#[.slice none 0 0,.agg #[.int .i64 0,.int .i64 0,.int .i64 0],.int .u8 0],[]⟩ 8 kr kr kr kr) ?_
 intro W base args ds gs before hval0 hW hcnd _
 have hval:∀ (j:Nat) t v,Tryz.f3.params[j]? = some t->args[j]? = some v->Value.okWide Tryz.prog W .any base t v:=hval0
 have hW':=hW
 obtain ⟨p,q,hA0,hV,rfl,hfz,hnd⟩:=hW
 have hA:DataW.TrodAll enc Tryz.prog W 0 (fun _=>true) true Tryz.f3.params.toList args.toList ds p:=hA0
 rw [Tryz.params3] at hA hval
 obtain ⟨v0,vs0,d0,ds0,p0,q0,hargs,rfl,rfl,h0,r0⟩:=trodAll_cons hA
 obtain ⟨v1,vs1,d1,ds1,p1,q1,rfl,rfl,rfl,h1,r1⟩:=trodAll_cons r0
 obtain ⟨v2,vs2,d2,ds2,p2,q2,rfl,rfl,rfl,h2,r2⟩:=trodAll_cons r1
 obtain ⟨rfl,rfl,rfl⟩:=trodAll_nil r2
 obtain rfl:args = #[v0,v1,v2]:=by cases args;simp_all
 obtain ⟨l,kl,x0⟩:=UH opT22 (.inl ⟨_,Tryz.underlying22⟩) (hval 0 22 v0 rfl rfl) h0
 obtain ⟨q,kq,x1⟩:=dR opT23 (.inr ⟨_,_,Tryz.underlying23⟩) (hval 1 23 v1 rfl rfl) h1
 obtain ⟨types,ktypes,x2⟩:=UH (Me Tryz.underlying5) (.inr (.inl ⟨_,Tryz.underlying5⟩)) (hval 2 5 v2 rfl rfl) h2
 clear hA0 hval0
 refine (Uo (Wa l q types (Uc kl.1) (fun x hx=>Uc (kl.2 x hx).1) (bounds_u8 ktypes)) (PA l q types) (.cons x0 (.cons x1 (.cons x2 .nil)))).mono fun e W' ⟨he,hb⟩ => ?_
 subst he
 exact ⟨_,rfl,fF hW' rfl rfl lC (by rw [Tryz.params3];exact List.forall_mem_cons.2 ⟨⟨by kernel_rfl,oT (by kernel_rfl)⟩,List.forall_mem_cons.2 ⟨⟨by kernel_rfl,oT (by kernel_rfl)⟩,List.forall_mem_cons.2 ⟨⟨by kernel_rfl,oT (by kernel_rfl)⟩,List.forall_mem_nil _⟩⟩⟩) rfl Tryz.underlying4 hb⟩
theorem placePads_holds:Rows.PlacePadsSaid :=
 OpenClaim.holds_of_wide 3 Tryz.f3 rfl rfl rfl rfl rfl rfl rfl ⟨rfl,rfl,rfl,rfl,rfl⟩ rfl rfl rfl rfl rfl kr Tryz.func3 kr
  (oT (by kernel_rfl)) (by unfold Func.isWrapper;first | (rw [if_pos (by decide +kernel)];kernel_rfl) | (rw [if_neg (by decide +kernel)];exact ⟨rfl,rfl⟩))
  (fun os started H enc _=>Md os started H enc)
#print axioms placePads_holds
end
end Go.Proofs.YtdbampcfmjbgmaaGreat
