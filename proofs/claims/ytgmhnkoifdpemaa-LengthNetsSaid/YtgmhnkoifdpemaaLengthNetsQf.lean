/-
  No statement is proved in this text. It holds a part of what the proof of LengthNets needs.
-/
import Derived.Test.YtgmhnkoifdpemaaLengthNetsQe
namespace Go.Proofs.Ytgmhnkoifdpemaa
set_option maxRecDepth 100000
set_option linter.unusedVariables false
set_option linter.unusedSimpArgs false
open Go.RowKit
theorem Hn {α:Type} (len:Nat) (g:Nat->List α->Int->List α) (e:Int->α) (h:∀ m acc (v:Int),g (m+1) acc v=bif decide (v<(len:Int)) then g m (acc++[e v]) (v+1) else acc) :
  ∀ (n:Nat) (acc:List α) (v:Nat),len-v<n->g n acc (v:Int)=acc++(List.range' v (len-v)).map fun (k:Nat)=>e (k:Int)
 | 0,acc,v,hn=>absurd hn (Nat.not_lt_zero _)
 | n+1,acc,v,hn=>by
  rw [h]
  by_cases hc:v<len
  ·rw [decide_eq_true (by omega),cond_true,show ((v:Int)+1)=((v+1:Nat):Int) by omega,Hn len g e h n _ (v+1) (by omega),show len-v=(len-(v+1))+1 by omega,List.range'_succ,List.map_cons,List.append_assoc,List.singleton_append]
  rw [decide_eq_false (by omega),cond_false,show len-v=0 by omega];simp
theorem bV (b:AC):(Aq b).length=b.Nets.length:=by
 have h:=Hn b.Nets.length (GH b) _ (fun _ _ _=>rfl) (((b.Nets.length:Int)-0).toNat+1) [] 0 (by omega)
 have h2:Aq b=_:=h
 rw [h2];simp
theorem VY (b:AC):(AK b).length=b.Tracks.length:=by
 have h:=Hn b.Tracks.length (EV b) _ (fun _ _ _=>rfl) (((b.Tracks.length:Int)-0).toNat+1) [] 0 (by omega)
 have h2:AK b=_:=h
 rw [h2];simp
theorem P2 (b:AC):(Aw b).length=b.Pours.length:=by
 have h:=Hn b.Pours.length (Fk b) _ (fun _ _ _=>rfl) (((b.Pours.length:Int)-0).toNat+1) [] 0 (by omega)
 have h2:Aw b=_:=h
 rw [h2];simp
theorem P3 (b:AC):(Ay b).length=b.Keeps.length:=by
 have h:=Hn b.Keeps.length (Fl b) _ (fun _ _ _=>rfl) (((b.Keeps.length:Int)-0).toNat+1) [] 0 (by omega)
 have h2:Ay b=_:=h
 rw [h2];simp
theorem Xu (b:AC):(A2 b).length=b.Slots.length:=by
 have h:=Hn b.Slots.length (Fi b) _ (fun _ _ _=>rfl) (((b.Slots.length:Int)-0).toNat+1) [] 0 (by omega)
 have h2:A2 b=_:=h
 rw [h2];simp
theorem TS (b:AC):(Ae b).length=b.Classes.length:=by
 have h:=Hn b.Classes.length (Ei b) _ (fun _ _ _=>rfl) (((b.Classes.length:Int)-0).toNat+1) [] 0 (by omega)
 have h2:Ae b=_:=h
 rw [h2];simp
theorem TR (b:AC):(AZ b).length=b.Matches.length:=by
 have h:=Hn b.Matches.length (Eh b) _ (fun _ _ _=>rfl) (((b.Matches.length:Int)-0).toNat+1) [] 0 (by omega)
 have h2:AZ b=_:=h
 rw [h2];simp
theorem Xv (b:AC):(Ab b).length=b.Rules.length:=by
 have h:=Hn b.Rules.length (Fj b) _ (fun _ _ _=>rfl) (((b.Rules.length:Int)-0).toNat+1) [] 0 (by omega)
 have h2:Ab b=_:=h
 rw [h2];simp
theorem tmb {x n:Int} (hx:0<=x):0<n->0<=Int.tmod x n/\Int.tmod x n<n:=fun hn=>⟨Int.tmod_nonneg _ hx,Int.tmod_lt_of_pos _ hn⟩
theorem oz {n:Nat} (h:(0:Int)<(n:Int)):(n:Int)≠0:=by omega
theorem oi2 {K:Int} {n:Nat} (hK:0<=K) (h:(0:Int)<(n:Int)):(Int.tmod K (n:Int)).toNat<n:=by have:=tmb hK h;omega
theorem oi3 {K:Int} {n:Nat} (hK:0<=K) (h:(0:Int)<(n:Int)):(Int.tmod K (n:Int)).toNat-(0:Int).toNat<=n:=by have:=tmb hK h;omega
theorem oi4 {K:Int} {n:Nat} (hK:0<=K) (h:(0:Int)<(n:Int)):0<=(0:Int)/\(0:Int)<=Int.tmod K (n:Int)/\Int.tmod K (n:Int)<=(n:Int):=by have:=tmb hK h;omega
theorem oi5 {N:Int} {n:Nat} (hN:0<=N):0<=(0:Int)/\(0:Int)<=min (n:Int) (Int.tmod N 4)/\min (n:Int) (Int.tmod N 4)<=(n:Int):=by have:=tmb hN (n:=4) (by decide);omega
theorem ow {K:Int} {n:Nat} (hK:0<=K) (h:(0:Int)<(n:Int)) (hl:(n:Int)<=2000000):W64 (Int.tmod K (n:Int)+1)=Int.tmod K (n:Int)+1:=by have:=tmb hK h;exact Ap (by omega) (by omega)
theorem oi6 {K:Int} {n:Nat} (hK:0<=K) (h:(0:Int)<(n:Int)) (hl:(n:Int)<=2000000):(W64 (Int.tmod K (n:Int)+1)).toNat+(((n:Nat):Int).toNat-(W64 (Int.tmod K (n:Int)+1)).toNat)<=n:=by rw [ow hK h hl];have:=tmb hK h;omega
theorem oi7 {K:Int} {n:Nat} (hK:0<=K) (h:(0:Int)<(n:Int)) (hl:(n:Int)<=2000000):0<=W64 (Int.tmod K (n:Int)+1)/\W64 (Int.tmod K (n:Int)+1)<=(n:Int)/\(n:Int)<=(n:Int):=by rw [ow hK h hl];have:=tmb hK h;omega
theorem oi8 {N:Int} (hN:0<=N):0<=Int.tmod N 4/\Int.tmod N 4<((4:Nat):Int):=tmb hN (by decide)
theorem oi9 {N:Int} (hN:0<=N):0<=Int.tmod N 6/\Int.tmod N 6<((6:Nat):Int):=tmb hN (by decide)
theorem ol1 {n c:Nat} (hl:(n:Int)<=2000000) (hc:c<=100):(n+1)*c<=140737488355328:=Nat.le_trans (Nat.mul_le_mul (show n+1<=2000001 by omega) hc) (by decide)
theorem ol2 {n:Nat} (hl:(n:Int)<=2000000):n+1<=maxLen:=by unfold maxLen;omega
theorem ol0 {K:Int} {n:Nat} (hK:0<=K) (h:(0:Int)<(n:Int)) (hl:(n:Int)<=2000000):((Int.tmod K (n:Int)).toNat-(0:Int).toNat)+(((n:Nat):Int).toNat-(W64 (Int.tmod K (n:Int)+1)).toNat)<=2000000:=by rw [ow hK h hl];have:=tmb hK h;omega
theorem ol3 {K:Int} {n:Nat} (hK:0<=K) (h:(0:Int)<(n:Int)) (hl:(n:Int)<=2000000):((Int.tmod K (n:Int)).toNat-(0:Int).toNat)+(((n:Nat):Int).toNat-(W64 (Int.tmod K (n:Int)+1)).toNat)<=maxLen:=Nat.le_trans (ol0 hK h hl) (by unfold maxLen;decide)
theorem ol4 {K:Int} {n:Nat} (hK:0<=K) (h:(0:Int)<(n:Int)) (hl:(n:Int)<=2000000):(((Int.tmod K (n:Int)).toNat-(0:Int).toNat)+(((n:Nat):Int).toNat-(W64 (Int.tmod K (n:Int)+1)).toNat))*72<=140737488355328:=Nat.le_trans (Nat.mul_le_mul (ol0 hK h hl) (Nat.le_refl _)) (by decide)
theorem w79 {N:Int} (hN:0<=N):0<=W64 (79+Int.tmod N 4)/\W64 (79+Int.tmod N 4)<=82:=by have:=tmb hN (n:=4) (by decide);rw [Ap (by omega) (by omega)];omega
theorem bX {b:AC} (hc:Ce b):((Aq b).length:Int)<=2000000:=by rw [bV];have:=hc.lNets;omega
theorem VZ {b:AC} (hc:Ce b):((AK b).length:Int)<=2000000:=by rw [VY];have:=hc.lTracks;omega
theorem Xy {b:AC} (hc:Ce b):((Aw b).length:Int)<=2000000:=by rw [P2];have:=hc.lPours;omega
theorem X3 {b:AC} (hc:Ce b):((Ay b).length:Int)<=2000000:=by rw [P3];have:=hc.lKeeps;omega
theorem Xw {b:AC} (hc:Ce b):((A2 b).length:Int)<=2000000:=by rw [Xu];have:=hc.lSlots;omega
theorem TV {b:AC} (hc:Ce b):((Ae b).length:Int)<=2000000:=by rw [TS];have:=hc.lClasses;omega
theorem TU {b:AC} (hc:Ce b):((AZ b).length:Int)<=2000000:=by rw [TR];have:=hc.lMatches;omega
theorem Xx {b:AC} (hc:Ce b):((Ab b).length:Int)<=2000000:=by rw [Xv];have:=hc.lRules;omega
theorem Xz {b:AC} (hc:Ce b):(b.Parts.length:Int)<=2000000:=by have:=hc.lParts;omega
theorem bW {b:AC} (hc:Ce b):(b.Vias.length:Int)<=2000000:=by have:=hc.lVias;omega
theorem TT {b:AC} (hc:Ce b):(b.Waivers.length:Int)<=2000000:=by have:=hc.lWaivers;omega
abbrev Cp (b:AC):AC:=AC.mk b.Layers (Bx b.Outline) b.Parts (Aq b) (AK b) b.Vias (Aw b) (Ay b) (A2 b) (Ae b) (Ab b) b.Waivers (AZ b)
section
open Go.RowKit
def Z7a:Blk:=.cells GX 62
variable (b:AC) (v5_9:List A5) (q:EO) (v10:Int)
def Z7b:Blk:=.row 7 b.Parts.length (Hf b) 115
def Z7c:Blk:=.row 2 (Aq b).length (IL b) 69
def Z7d:Blk:=.row 6 (AK b).length (II b) 81
def Z7e:Blk:=.row 8 b.Vias.length (Hc b) 129
def Z7f:Blk:=.row 8 (Aw b).length (AV A4.c (Aw b)) 132
def Z7g:Blk:=.row 5 (Ay b).length (IM b) 135
def Z7h:Blk:=.row 4 (A2 b).length (IJ b) 137
def Z7i:Blk:=.row 2 (Ae b).length (He b) 139
def Z7j:Blk:=.row 20 (Ab b).length (IK b) 146
def Z7k:Blk:=.row 3 b.Waivers.length (Hg b) 141
def Z7l:Blk:=.row 3 (AZ b).length (Hd b) 78
def Z7m:Blk:=.cells (T9 b) 62
abbrev N4:=Int.tmod (AH q.e1 48) 6
def Z7n (q:EO) (b:AC):Blk:=.cells [.i (N4 q),.i (G7 b).Kind,lst 7 AG.c (G7 b).Edges,.i (G7 b).R,.own 26 7 b.Parts.length,.own 3100 2 (Aq b).length,.own 3102 6 (AK b).length,.own 30 8 b.Vias.length,.own 3104 8 (Aw b).length,.own 3106 5 (Ay b).length,.own 3108 4 (A2 b).length,.own 3110 2 (Ae b).length,.own 3114 20 (Ab b).length,.own 34 3 b.Waivers.length,.own 3112 3 (AZ b).length] 62
abbrev N7:=Cz (AH q.e1 48)
def Z7o:Blk:=.cells [.i b.Layers,.i (N7 q).Kind,lst 7 AG.c (N7 q).Edges,.i (N7 q).R,.own 26 7 b.Parts.length,.own 3100 2 (Aq b).length,.own 3102 6 (AK b).length,.own 30 8 b.Vias.length,.own 3104 8 (Aw b).length,.own 3106 5 (Ay b).length,.own 3108 4 (A2 b).length,.own 3110 2 (Ae b).length,.own 3114 20 (Ab b).length,.own 34 3 b.Waivers.length,.own 3112 3 (AZ b).length] 62
def Z7p:Tv:=tB (decide ((0:Int)<((b.Parts.length:Nat):Int)))
abbrev XM (q:EO) (b:AC):=(Int.tmod (AH q.e2 64) ((b.Parts.length:Nat):Int))
abbrev Hj:=(b.Parts.getD (XM q b).toNat default)
abbrev Ue:=b.Parts.set (XM q b).toNat (AU.mk (W64 ((AH q.e1 48)-1)) (Hj b q).Ref (Hj b q).Type' (Hj b q).At (Hj b q).Turn (Hj b q).Under)
abbrev Nr (t_:List Cl):List Cl:=(.i b.Layers)::(.i (G7 b).Kind)::(lst 7 AG.c (G7 b).Edges)::(.i (G7 b).R)::t_
def Z7q:Blk:=.cells (Nr b [.own 26 7 (Ue b q).length,.own 3100 2 (Aq b).length,.own 3102 6 (AK b).length,.own 30 8 b.Vias.length,.own 3104 8 (Aw b).length,.own 3106 5 (Ay b).length,.own 3108 4 (A2 b).length,.own 3110 2 (Ae b).length,.own 3114 20 (Ab b).length,.own 34 3 b.Waivers.length,.own 3112 3 (AZ b).length]) 62
def Z7r:Blk:=.row 7 (Ue b q).length (AV AU.c (Ue b q)) 115
abbrev DX:=BJ (AH q.e1 48)
abbrev Uc:=b.Parts.set (XM q b).toNat (AU.mk (Hj b q).Id (DX q) (Hj b q).Type' (Hj b q).At (Hj b q).Turn (Hj b q).Under)
def Z7s:Blk:=.cells (Nr b [.own 26 7 (Uc b q).length,.own 3100 2 (Aq b).length,.own 3102 6 (AK b).length,.own 30 8 b.Vias.length,.own 3104 8 (Aw b).length,.own 3106 5 (Ay b).length,.own 3108 4 (A2 b).length,.own 3110 2 (Ae b).length,.own 3114 20 (Ab b).length,.own 34 3 b.Waivers.length,.own 3112 3 (AZ b).length]) 62
def Z7t:Blk:=.row 7 (Uc b q).length (AV AU.c (Uc b q)) 115
abbrev Ud:=b.Parts.set (XM q b).toNat (AU.mk (Hj b q).Id (Hj b q).Ref (Hj b q).Type' (Hj b q).At (W64 ((AH q.e1 48)-1)) (Hj b q).Under)
def Z7u:Blk:=.cells (Nr b [.own 26 7 (Ud b q).length,.own 3100 2 (Aq b).length,.own 3102 6 (AK b).length,.own 30 8 b.Vias.length,.own 3104 8 (Aw b).length,.own 3106 5 (Ay b).length,.own 3108 4 (A2 b).length,.own 3110 2 (Ae b).length,.own 3114 20 (Ab b).length,.own 34 3 b.Waivers.length,.own 3112 3 (AZ b).length]) 62
def Z7v:Blk:=.row 7 (Ud b q).length (AV AU.c (Ud b q)) 115
abbrev Up:=(b.Parts.set (XM q b).toNat (AU.mk (Hj b q).Id (Hj b q).Ref (Hj b q).Type' (AD.mk (([AH q.e1 48,67108864,67108664,(-67108865)]:List Int).getD (Int.tmod (AH q.e1 48) 4).toNat 0) (Hj b q).At.Y) (Hj b q).Turn (Hj b q).Under))
def Z7w:Blk:=.cells (Nr b [.own 26 7 (Up b q).length,.own 3100 2 (Aq b).length,.own 3102 6 (AK b).length,.own 30 8 b.Vias.length,.own 3104 8 (Aw b).length,.own 3106 5 (Ay b).length,.own 3108 4 (A2 b).length,.own 3110 2 (Ae b).length,.own 3114 20 (Ab b).length,.own 34 3 b.Waivers.length,.own 3112 3 (AZ b).length]) 62
def Z7x:Blk:=.row 7 (Up b q).length (AV AU.c (Up b q)) 115
abbrev RQ (q:EO) (b:AC):=(Int.tmod (AH q.e2 64) (((Aq b).length:Nat):Int))
abbrev UQ (q:EO) (b:AC):=A9.mk (DX q) ((Aq b).getD (RQ q b).toNat default).Pins
def Z7y:Blk:=.cells (FU b [.own 3100 2 ((Aq b).set (RQ q b).toNat (UQ q b)).length,.own 3102 6 (AK b).length,.own 30 8 b.Vias.length,.own 3104 8 (Aw b).length,.own 3106 5 (Ay b).length,.own 3108 4 (A2 b).length,.own 3110 2 (Ae b).length,.own 3114 20 (Ab b).length,.own 34 3 b.Waivers.length,.own 3112 3 (AZ b).length]) 62
def Z7z:Blk:=.row 2 ((Aq b).set (RQ q b).toNat (UQ q b)).length (AV A9.c ((Aq b).set (RQ q b).toNat (UQ q b))) 69
def Z7A:Blk:=.cells (FU b [.own 176 2 ((Aq b)++[A9.mk (DX q) [Ag.mk ({ data := #[82,49] }:ByteArray) ({ data := #[80,50] }:ByteArray)]]).length,.own 3102 6 (AK b).length,.own 30 8 b.Vias.length,.own 3104 8 (Aw b).length,.own 3106 5 (Ay b).length,.own 3108 4 (A2 b).length,.own 3110 2 (Ae b).length,.own 3114 20 (Ab b).length,.own 34 3 b.Waivers.length,.own 3112 3 (AZ b).length]) 62
def Z7B:Blk:=.row 2 ((Aq b)++[A9.mk (DX q) [Ag.mk ({ data := #[82,49] }:ByteArray) ({ data := #[80,50] }:ByteArray)]]).length (AV A9.c ((Aq b)++[A9.mk (DX q) [Ag.mk ({ data := #[82,49] }:ByteArray) ({ data := #[80,50] }:ByteArray)]])) 69
def Z7C:Blk:=.cells (FU b [lst 2 A9.c ((Aq b).take (min ((Aq b).length:Int) (Int.tmod (AH q.e1 48) 4):Int).toNat),.own 3102 6 (AK b).length,.own 30 8 b.Vias.length,.own 3104 8 (Aw b).length,.own 3106 5 (Ay b).length,.own 3108 4 (A2 b).length,.own 3110 2 (Ae b).length,.own 3114 20 (Ab b).length,.own 34 3 b.Waivers.length,.own 3112 3 (AZ b).length]) 62
abbrev N3:=Int.tmod (AH q.e2 64) 3
abbrev Uq:=[AO.mk (W64 (10+(AH q.e1 48))) (BJ (AH q.e2 64)) (W64 (1+(N3 q))) (N7 q)]
def Z7D:Blk:=.cells (FU b [.own 3100 2 (Aq b).length,.own 205 6 ((AK b)++(Uq q)).length,.own 30 8 b.Vias.length,.own 3104 8 (Aw b).length,.own 3106 5 (Ay b).length,.own 3108 4 (A2 b).length,.own 3110 2 (Ae b).length,.own 3114 20 (Ab b).length,.own 34 3 b.Waivers.length,.own 3112 3 (AZ b).length]) 62
def Z7E:Blk:=.row 6 ((AK b)++(Uq q)).length (AV AO.c ((AK b)++(Uq q))) 81
def Z7F:Tv:=tB (decide ((0:Int)<(((AK b).length:Nat):Int)))
abbrev HW (q:EO) (b:AC):=(Int.tmod (AH q.e2 64) (((AK b).length:Nat):Int))
abbrev Uj:=AO.mk ((AK b).getD (HW q b).toNat default).Id ((AK b).getD (HW q b).toNat default).Net (W64 ((Int.tmod (AH q.e1 48) 4)+1)) ((AK b).getD (HW q b).toNat default).Shape
def Z7G:Blk:=.cells (FU b [.own 3100 2 (Aq b).length,.own 3102 6 ((AK b).set (HW q b).toNat (Uj b q)).length,.own 30 8 b.Vias.length,.own 3104 8 (Aw b).length,.own 3106 5 (Ay b).length,.own 3108 4 (A2 b).length,.own 3110 2 (Ae b).length,.own 3114 20 (Ab b).length,.own 34 3 b.Waivers.length,.own 3112 3 (AZ b).length]) 62
def Z7H:Blk:=.row 6 ((AK b).set (HW q b).toNat (Uj b q)).length (AV AO.c ((AK b).set (HW q b).toNat (Uj b q))) 81
abbrev Um:=(NR (AK b) ((Int.tmod (AH q.e2 64) (((AK b).length:Nat):Int):Int).toNat-(0:Int).toNat) (W64 ((HW q b)+1):Int).toNat (((((AK b).length:Nat):Int):Int).toNat-(W64 ((HW q b)+1):Int).toNat))
def Z7I:Blk:=.cells (FU b [.own 3100 2 (Aq b).length,.own 248 6 (Um b q).length,.own 30 8 b.Vias.length,.own 3104 8 (Aw b).length,.own 3106 5 (Ay b).length,.own 3108 4 (A2 b).length,.own 3110 2 (Ae b).length,.own 3114 20 (Ab b).length,.own 34 3 b.Waivers.length,.own 3112 3 (AZ b).length]) 62
def Z7J:Blk:=.row 6 (Um b q).length (AV AO.c (Um b q)) 81
abbrev SV:=Int.tmod (AH q.e1 48) 9
abbrev SU:=Int.tmod (AH q.e2 64) 9
abbrev UT:=AD.mk (W64 (10*(AH q.e1 48))) (W64 (5*(AH q.e2 64)))
abbrev UG:=Int.tdiv (Int.tmod (AH q.e1 48) 3) 2
def Z7K:Blk:=.cells (FU b (Qf b [.own 275 8 (b.Vias++[BW.mk (W64 (60+(AH q.e1 48))) ({ data := #[71,78,68] }:ByteArray) (UT q) (W64 (8-(SV q))) (SU q) (W64 (1+(Int.tmod (AH q.e2 64) 2))) (W64 (2+(W64 (UG q))))]).length,.own 3104 8 (Aw b).length,.own 3106 5 (Ay b).length,.own 3108 4 (A2 b).length,.own 3110 2 (Ae b).length,.own 3114 20 (Ab b).length,.own 34 3 b.Waivers.length,.own 3112 3 (AZ b).length])) 62
def Z7L:Blk:=.row 8 (b.Vias++[BW.mk (W64 (60+(AH q.e1 48))) ({ data := #[71,78,68] }:ByteArray) (UT q) (W64 (8-(SV q))) (SU q) (W64 (1+(Int.tmod (AH q.e2 64) 2))) (W64 (2+(W64 (UG q))))]).length (AV BW.c (b.Vias++[BW.mk (W64 (60+(AH q.e1 48))) ({ data := #[71,78,68] }:ByteArray) (UT q) (W64 (8-(SV q))) (SU q) (W64 (1+(Int.tmod (AH q.e2 64) 2))) (W64 (2+(W64 (UG q))))])) 129
abbrev nM (q:EO) (b:AC):=(Int.tmod (AH q.e2 64) ((b.Vias.length:Nat):Int))
abbrev Mz:=(b.Vias.getD (nM q b).toNat default)
abbrev Uk:=b.Vias.set (nM q b).toNat (BW.mk (Mz b q).Id (Mz b q).Net (AD.mk (W64 ((Mz b q).At.X+(W64 (3*(AH q.e1 48))))) (Mz b q).At.Y) (Mz b q).R (Mz b q).Drill (Mz b q).From (Mz b q).To)
def Z7M:Blk:=.cells (FU b (Qf b [.own 30 8 (Uk b q).length,.own 3104 8 (Aw b).length,.own 3106 5 (Ay b).length,.own 3108 4 (A2 b).length,.own 3110 2 (Ae b).length,.own 3114 20 (Ab b).length,.own 34 3 b.Waivers.length,.own 3112 3 (AZ b).length])) 62
def Z7N:Blk:=.row 8 (Uk b q).length (AV BW.c (Uk b q)) 129
abbrev UW:=[Ah.mk (Int.tmod (AH q.e2 64) 7) 1 (W64 (2+(Int.tmod (AH q.e1 48) 8))) 3]
abbrev N1:=Int.tmod (AH q.e2 64) 5
def Z7O:Blk:=.cells (Co b [.own 333 8 ((Aw b)++[A4.mk (W64 (70+(AH q.e1 48))) ({ data := #[78,49] }:ByteArray) (W64 (1+(N3 q))) (([20,0,1,33554432,10,134217728]:List Int).getD (N4 q).toNat 0) 0 (W64 ((N1 q)-1)) 3 (UW q)]).length,.own 3106 5 (Ay b).length,.own 3108 4 (A2 b).length,.own 3110 2 (Ae b).length,.own 3114 20 (Ab b).length,.own 34 3 b.Waivers.length,.own 3112 3 (AZ b).length]) 62
def Z7P:Blk:=.row 8 ((Aw b)++[A4.mk (W64 (70+(AH q.e1 48))) ({ data := #[78,49] }:ByteArray) (W64 (1+(N3 q))) (([20,0,1,33554432,10,134217728]:List Int).getD (N4 q).toNat 0) 0 (W64 ((N1 q)-1)) 3 (UW q)]).length (AV A4.c ((Aw b)++[A4.mk (W64 (70+(AH q.e1 48))) ({ data := #[78,49] }:ByteArray) (W64 (1+(N3 q))) (([20,0,1,33554432,10,134217728]:List Int).getD (N4 q).toNat 0) 0 (W64 ((N1 q)-1)) 3 (UW q)])) 132
abbrev Ua:=[A5.mk (W64 (80+(AH q.e1 48))) (W64 ((N1 q)-1)) (N7 q)]
def Z7Q:Blk:=.cells (Co b [.own 3104 8 (Aw b).length,.own 386 5 ((Ay b)++(Ua q)).length,.own 3108 4 (A2 b).length,.own 3110 2 (Ae b).length,.own 3114 20 (Ab b).length,.own 34 3 b.Waivers.length,.own 3112 3 (AZ b).length]) 62
def Z7R:Blk:=.row 5 ((Ay b)++(Ua q)).length (AV A5.c ((Ay b)++(Ua q))) 135
abbrev UI:=[BC.mk (W64 (90+(AH q.e1 48))) (N7 q)]
def Z7S:Blk:=.cells (Co b [.own 3104 8 (Aw b).length,.own 3106 5 (Ay b).length,.own 398 4 ((A2 b)++(UI q)).length,.own 3110 2 (Ae b).length,.own 3114 20 (Ab b).length,.own 34 3 b.Waivers.length,.own 3112 3 (AZ b).length]) 62
def Z7T:Blk:=.row 4 ((A2 b)++(UI q)).length (AV BC.c ((A2 b)++(UI q))) 137
def Z7U:Blk:=.cells (Co b (Fp b [.own 411 2 ((Ae b)++[BE.mk (DX q) [BJ (AH q.e2 64)]]).length,.own 3114 20 (Ab b).length,.own 34 3 b.Waivers.length,.own 3112 3 (AZ b).length])) 62
def Z7V:Blk:=.row 2 ((Ae b)++[BE.mk (DX q) [BJ (AH q.e2 64)]]).length (AV BE.c ((Ae b)++[BE.mk (DX q) [BJ (AH q.e2 64)]])) 139
def Z7W:Blk:=.cells (Co b (Fp b (Qh b [.own 426 3 ((AZ b)++[AN.mk (DX q) [({ data := #[78,49] }:ByteArray),BJ (AH q.e2 64)] (W64 ((AH q.e2 64)-1))]).length]))) 62
def Z7X:Blk:=.row 3 ((AZ b)++[AN.mk (DX q) [({ data := #[78,49] }:ByteArray),BJ (AH q.e2 64)] (W64 ((AH q.e2 64)-1))]).length (AV AN.c ((AZ b)++[AN.mk (DX q) [({ data := #[78,49] }:ByteArray),BJ (AH q.e2 64)] (W64 ((AH q.e2 64)-1))])) 78
def Z7Y:Blk:=.cells (Co b (Fp b [.own 3110 2 (Ae b).length,.own 3114 20 (Ab b).length,.own 438 3 (b.Waivers++[An.mk (W64 (1+(AH q.e1 48))) (Int.tmod (AH q.e2 64) 13) ({ data := #[99,50] }:ByteArray)]).length,.own 3112 3 (AZ b).length])) 62
def Z7Z:Blk:=.row 3 (b.Waivers++[An.mk (W64 (1+(AH q.e1 48))) (Int.tmod (AH q.e2 64) 13) ({ data := #[99,50] }:ByteArray)]).length (AV An.c (b.Waivers++[An.mk (W64 (1+(AH q.e1 48))) (Int.tmod (AH q.e2 64) 13) ({ data := #[99,50] }:ByteArray)])) 141
abbrev MO (q:EO) (b:AC):=(Int.tmod (AH q.e2 64) (((Ab b).length:Nat):Int))
abbrev YV (q:EO) (b:AC):=(MO q b)
abbrev Yi:=(Az.mk ((Ab b).getD (YV q b).toNat default).Name ((Ab b).getD (YV q b).toNat default).Priority ((Ab b).getD (YV q b).toNat default).What ((Ab b).getD (YV q b).toNat default).A ((Ab b).getD (YV q b).toNat default).B (W64 ((AH q.e1 48)-1)))
def Z80:Blk:=.cells (Co b (Fp b [.own 3110 2 (Ae b).length,.own 3114 20 ((Ab b).set (YV q b).toNat (Yi b q)).length,.own 34 3 b.Waivers.length,.own 3112 3 (AZ b).length])) 62
def Z81:Blk:=.row 20 ((Ab b).set (YV q b).toNat (Yi b q)).length (AV Az.c ((Ab b).set (YV q b).toNat (Yi b q))) 146
abbrev Un:=(NR b.Parts ((Int.tmod (AH q.e2 64) ((b.Parts.length:Nat):Int):Int).toNat-(0:Int).toNat) (W64 ((XM q b)+1):Int).toNat ((((b.Parts.length:Nat):Int):Int).toNat-(W64 ((XM q b)+1):Int).toNat))
def Z82:Blk:=.cells (Nr b [.own 480 7 (Un b q).length,.own 3100 2 (Aq b).length,.own 3102 6 (AK b).length,.own 30 8 b.Vias.length,.own 3104 8 (Aw b).length,.own 3106 5 (Ay b).length,.own 3108 4 (A2 b).length,.own 3110 2 (Ae b).length,.own 3114 20 (Ab b).length,.own 34 3 b.Waivers.length,.own 3112 3 (AZ b).length]) 62
def Z83:Blk:=.row 7 (Un b q).length (AV AU.c (Un b q)) 115
abbrev Uf:=AO.mk ((AK b).getD (HW q b).toNat default).Id (DX q) ((AK b).getD (HW q b).toNat default).Layer ((AK b).getD (HW q b).toNat default).Shape
def Z84:Blk:=.cells (FU b [.own 3100 2 (Aq b).length,.own 3102 6 ((AK b).set (HW q b).toNat (Uf b q)).length,.own 30 8 b.Vias.length,.own 3104 8 (Aw b).length,.own 3106 5 (Ay b).length,.own 3108 4 (A2 b).length,.own 3110 2 (Ae b).length,.own 3114 20 (Ab b).length,.own 34 3 b.Waivers.length,.own 3112 3 (AZ b).length]) 62
def Z85:Blk:=.row 6 ((AK b).set (HW q b).toNat (Uf b q)).length (AV AO.c ((AK b).set (HW q b).toNat (Uf b q))) 81
def Z86:Blk:=.cells (Co b [.own 3104 8 (Aw b).length,.own 3106 5 v5_9.length,.own 3108 4 (A2 b).length,.own 3110 2 (Ae b).length,.own 3114 20 (Ab b).length,.own 34 3 b.Waivers.length,.own 3112 3 (AZ b).length]) 62
abbrev Qu:=[A5.mk (W64 (100+v10)) 0 (Iz (AD.mk v10 0) 1)]
def Z87:Blk:=.cells (Co b [.own 3104 8 (Aw b).length,.own 38 5 (v5_9++(Qu v10)).length,.own 3108 4 (A2 b).length,.own 3110 2 (Ae b).length,.own 3114 20 (Ab b).length,.own 34 3 b.Waivers.length,.own 3112 3 (AZ b).length]) 62
def Z88:Blk:=.row 5 (v5_9++(Qu v10)).length (AV A5.c (v5_9++(Qu v10))) 135
def Z89:Blk:=.cells (Co b [.own 3104 8 (Aw b).length,.own 3106 5 (v5_9++(Qu v10)).length,.own 3108 4 (A2 b).length,.own 3110 2 (Ae b).length,.own 3114 20 (Ab b).length,.own 34 3 b.Waivers.length,.own 3112 3 (AZ b).length]) 62
def Fh (b:AC) (q:EO):Nat->List A5->Int->AC
 | 0,_,_=>default
 | n0+1,v5_9,v10=>bif decide ((v10:Int)<(W64 (79+(Int.tmod (AH q.e1 48) 4)))) then ((Fh b q n0) (v5_9++[A5.mk (W64 (100+v10)) 0 (Iz (AD.mk v10 0) 1)]) (v10+1)) else ({ Cp b with Keeps:=v5_9 })
def B9 (b:AC) (q:EO):AC:=bif decide (((AH q.e0 26):Int)=0) then ({ Cp b with Layers:=Int.tmod (AH q.e1 48) 6 }) else (bif decide (((AH q.e0 26):Int)=1) then ({ Cp b with Outline:=Cz (AH q.e1 48) }) else (bif decide (((AH q.e0 26):Int)=2) then (bif decide ((0:Int)<((b.Parts.length:Nat):Int)) then ({ Cp b with Parts:=b.Parts.set (Int.tmod (AH q.e2 64) ((b.Parts.length:Nat):Int)).toNat (AU.mk (W64 ((AH q.e1 48)-1)) (b.Parts.getD (Int.tmod (AH q.e2 64) ((b.Parts.length:Nat):Int)).toNat default).Ref (b.Parts.getD (Int.tmod (AH q.e2 64) ((b.Parts.length:Nat):Int)).toNat default).Type' (b.Parts.getD (Int.tmod (AH q.e2 64) ((b.Parts.length:Nat):Int)).toNat default).At (b.Parts.getD (Int.tmod (AH q.e2 64) ((b.Parts.length:Nat):Int)).toNat default).Turn (b.Parts.getD (Int.tmod (AH q.e2 64) ((b.Parts.length:Nat):Int)).toNat default).Under) }) else (Cp b)) else (bif decide (((AH q.e0 26):Int)=3) then (bif decide ((0:Int)<((b.Parts.length:Nat):Int)) then ({ Cp b with Parts:=b.Parts.set (Int.tmod (AH q.e2 64) ((b.Parts.length:Nat):Int)).toNat (AU.mk (b.Parts.getD (Int.tmod (AH q.e2 64) ((b.Parts.length:Nat):Int)).toNat default).Id (BJ (AH q.e1 48)) (b.Parts.getD (Int.tmod (AH q.e2 64) ((b.Parts.length:Nat):Int)).toNat default).Type' (b.Parts.getD (Int.tmod (AH q.e2 64) ((b.Parts.length:Nat):Int)).toNat default).At (b.Parts.getD (Int.tmod (AH q.e2 64) ((b.Parts.length:Nat):Int)).toNat default).Turn (b.Parts.getD (Int.tmod (AH q.e2 64) ((b.Parts.length:Nat):Int)).toNat default).Under) }) else (Cp b)) else (bif decide (((AH q.e0 26):Int)=4) then (bif decide ((0:Int)<((b.Parts.length:Nat):Int)) then ({ Cp b with Parts:=b.Parts.set (Int.tmod (AH q.e2 64) ((b.Parts.length:Nat):Int)).toNat (AU.mk (b.Parts.getD (Int.tmod (AH q.e2 64) ((b.Parts.length:Nat):Int)).toNat default).Id (b.Parts.getD (Int.tmod (AH q.e2 64) ((b.Parts.length:Nat):Int)).toNat default).Ref (b.Parts.getD (Int.tmod (AH q.e2 64) ((b.Parts.length:Nat):Int)).toNat default).Type' (b.Parts.getD (Int.tmod (AH q.e2 64) ((b.Parts.length:Nat):Int)).toNat default).At (W64 ((AH q.e1 48)-1)) (b.Parts.getD (Int.tmod (AH q.e2 64) ((b.Parts.length:Nat):Int)).toNat default).Under) }) else (Cp b)) else (bif decide (((AH q.e0 26):Int)=5) then (bif decide ((0:Int)<((b.Parts.length:Nat):Int)) then ({ Cp b with Parts:=b.Parts.set (Int.tmod (AH q.e2 64) ((b.Parts.length:Nat):Int)).toNat (AU.mk (b.Parts.getD (Int.tmod (AH q.e2 64) ((b.Parts.length:Nat):Int)).toNat default).Id (b.Parts.getD (Int.tmod (AH q.e2 64) ((b.Parts.length:Nat):Int)).toNat default).Ref (b.Parts.getD (Int.tmod (AH q.e2 64) ((b.Parts.length:Nat):Int)).toNat default).Type' (AD.mk (([AH q.e1 48,67108864,67108664,(-67108865)]:List Int).getD (Int.tmod (AH q.e1 48) 4).toNat 0) (b.Parts.getD (Int.tmod (AH q.e2 64) ((b.Parts.length:Nat):Int)).toNat default).At.Y) (b.Parts.getD (Int.tmod (AH q.e2 64) ((b.Parts.length:Nat):Int)).toNat default).Turn (b.Parts.getD (Int.tmod (AH q.e2 64) ((b.Parts.length:Nat):Int)).toNat default).Under) }) else (Cp b)) else (bif decide (((AH q.e0 26):Int)=6) then (bif decide ((0:Int)<(((Aq b).length:Nat):Int)) then ({ Cp b with Nets:=(Aq b).set (Int.tmod (AH q.e2 64) (((Aq b).length:Nat):Int)).toNat (A9.mk (BJ (AH q.e1 48)) ((Aq b).getD (Int.tmod (AH q.e2 64) (((Aq b).length:Nat):Int)).toNat default).Pins) }) else (Cp b)) else (bif decide (((AH q.e0 26):Int)=8) then ({ Cp b with Nets:=(Aq b)++[A9.mk (BJ (AH q.e1 48)) [Ag.mk ({ data := #[82,49] }:ByteArray) ({ data := #[80,50] }:ByteArray)]] }) else (bif decide (((AH q.e0 26):Int)=9) then ({ Cp b with Nets:=(Aq b).take (min ((Aq b).length:Int) (Int.tmod (AH q.e1 48) 4):Int).toNat }) else (bif decide (((AH q.e0 26):Int)=10) then ({ Cp b with Tracks:=(AK b)++[AO.mk (W64 (10+(AH q.e1 48))) (BJ (AH q.e2 64)) (W64 (1+(Int.tmod (AH q.e2 64) 3))) (Cz (AH q.e1 48))] }) else (bif decide (((AH q.e0 26):Int)=11) then (bif decide ((0:Int)<(((AK b).length:Nat):Int)) then ({ Cp b with Tracks:=(AK b).set (Int.tmod (AH q.e2 64) (((AK b).length:Nat):Int)).toNat (AO.mk ((AK b).getD (Int.tmod (AH q.e2 64) (((AK b).length:Nat):Int)).toNat default).Id ((AK b).getD (Int.tmod (AH q.e2 64) (((AK b).length:Nat):Int)).toNat default).Net (W64 ((Int.tmod (AH q.e1 48) 4)+1)) ((AK b).getD (Int.tmod (AH q.e2 64) (((AK b).length:Nat):Int)).toNat default).Shape) }) else (Cp b)) else (bif decide (((AH q.e0 26):Int)=12) then (bif decide ((0:Int)<(((AK b).length:Nat):Int)) then ({ Cp b with Tracks:=NR (AK b) ((Int.tmod (AH q.e2 64) (((AK b).length:Nat):Int):Int).toNat-(0:Int).toNat) (W64 ((Int.tmod (AH q.e2 64) (((AK b).length:Nat):Int))+1):Int).toNat (((((AK b).length:Nat):Int):Int).toNat-(W64 ((Int.tmod (AH q.e2 64) (((AK b).length:Nat):Int))+1):Int).toNat) }) else (Cp b)) else (bif decide (((AH q.e0 26):Int)=13) then ({ Cp b with Vias:=b.Vias++[BW.mk (W64 (60+(AH q.e1 48))) ({ data := #[71,78,68] }:ByteArray) (AD.mk (W64 (10*(AH q.e1 48))) (W64 (5*(AH q.e2 64)))) (W64 (8-(Int.tmod (AH q.e1 48) 9))) (Int.tmod (AH q.e2 64) 9) (W64 (1+(Int.tmod (AH q.e2 64) 2))) (W64 (2+(W64 (Int.tdiv (Int.tmod (AH q.e1 48) 3) 2))))] }) else (bif decide (((AH q.e0 26):Int)=14) then (bif decide ((0:Int)<((b.Vias.length:Nat):Int)) then ({ Cp b with Vias:=b.Vias.set (Int.tmod (AH q.e2 64) ((b.Vias.length:Nat):Int)).toNat (BW.mk (b.Vias.getD (Int.tmod (AH q.e2 64) ((b.Vias.length:Nat):Int)).toNat default).Id (b.Vias.getD (Int.tmod (AH q.e2 64) ((b.Vias.length:Nat):Int)).toNat default).Net (AD.mk (W64 ((b.Vias.getD (Int.tmod (AH q.e2 64) ((b.Vias.length:Nat):Int)).toNat default).At.X+(W64 (3*(AH q.e1 48))))) (b.Vias.getD (Int.tmod (AH q.e2 64) ((b.Vias.length:Nat):Int)).toNat default).At.Y) (b.Vias.getD (Int.tmod (AH q.e2 64) ((b.Vias.length:Nat):Int)).toNat default).R (b.Vias.getD (Int.tmod (AH q.e2 64) ((b.Vias.length:Nat):Int)).toNat default).Drill (b.Vias.getD (Int.tmod (AH q.e2 64) ((b.Vias.length:Nat):Int)).toNat default).From (b.Vias.getD (Int.tmod (AH q.e2 64) ((b.Vias.length:Nat):Int)).toNat default).To) }) else (Cp b)) else (bif decide (((AH q.e0 26):Int)=15) then ({ Cp b with Pours:=(Aw b)++[A4.mk (W64 (70+(AH q.e1 48))) ({ data := #[78,49] }:ByteArray) (W64 (1+(Int.tmod (AH q.e2 64) 3))) (([20,0,1,33554432,10,134217728]:List Int).getD (Int.tmod (AH q.e1 48) 6).toNat 0) 0 (W64 ((Int.tmod (AH q.e2 64) 5)-1)) 3 [Ah.mk (Int.tmod (AH q.e2 64) 7) 1 (W64 (2+(Int.tmod (AH q.e1 48) 8))) 3]] }) else (bif decide (((AH q.e0 26):Int)=17) then ({ Cp b with Keeps:=(Ay b)++[A5.mk (W64 (80+(AH q.e1 48))) (W64 ((Int.tmod (AH q.e2 64) 5)-1)) (Cz (AH q.e1 48))] }) else (bif decide (((AH q.e0 26):Int)=18) then ({ Cp b with Slots:=(A2 b)++[BC.mk (W64 (90+(AH q.e1 48))) (Cz (AH q.e1 48))] }) else (bif decide (((AH q.e0 26):Int)=19) then ({ Cp b with Classes:=(Ae b)++[BE.mk (BJ (AH q.e1 48)) [BJ (AH q.e2 64)]] }) else (bif decide (((AH q.e0 26):Int)=20) then ({ Cp b with Matches:=(AZ b)++[AN.mk (BJ (AH q.e1 48)) [({ data := #[78,49] }:ByteArray),BJ (AH q.e2 64)] (W64 ((AH q.e2 64)-1))] }) else (bif decide (((AH q.e0 26):Int)=21) then ({ Cp b with Waivers:=b.Waivers++[An.mk (W64 (1+(AH q.e1 48))) (Int.tmod (AH q.e2 64) 13) ({ data := #[99,50] }:ByteArray)] }) else (bif decide (((AH q.e0 26):Int)=22) then (bif decide ((0:Int)<(((Ab b).length:Nat):Int)) then ({ Cp b with Rules:=(Ab b).set (Int.tmod (AH q.e2 64) (((Ab b).length:Nat):Int)).toNat (Az.mk ((Ab b).getD (Int.tmod (AH q.e2 64) (((Ab b).length:Nat):Int)).toNat default).Name ((Ab b).getD (Int.tmod (AH q.e2 64) (((Ab b).length:Nat):Int)).toNat default).Priority ((Ab b).getD (Int.tmod (AH q.e2 64) (((Ab b).length:Nat):Int)).toNat default).What ((Ab b).getD (Int.tmod (AH q.e2 64) (((Ab b).length:Nat):Int)).toNat default).A ((Ab b).getD (Int.tmod (AH q.e2 64) (((Ab b).length:Nat):Int)).toNat default).B (W64 ((AH q.e1 48)-1))) }) else (Cp b)) else (bif decide (((AH q.e0 26):Int)=23) then (bif decide ((0:Int)<((b.Parts.length:Nat):Int)) then ({ Cp b with Parts:=NR b.Parts ((Int.tmod (AH q.e2 64) ((b.Parts.length:Nat):Int):Int).toNat-(0:Int).toNat) (W64 ((Int.tmod (AH q.e2 64) ((b.Parts.length:Nat):Int))+1):Int).toNat ((((b.Parts.length:Nat):Int):Int).toNat-(W64 ((Int.tmod (AH q.e2 64) ((b.Parts.length:Nat):Int))+1):Int).toNat) }) else (Cp b)) else (bif decide (((AH q.e0 26):Int)=24) then (bif decide ((0:Int)<(((AK b).length:Nat):Int)) then ({ Cp b with Tracks:=(AK b).set (Int.tmod (AH q.e2 64) (((AK b).length:Nat):Int)).toNat (AO.mk ((AK b).getD (Int.tmod (AH q.e2 64) (((AK b).length:Nat):Int)).toNat default).Id (BJ (AH q.e1 48)) ((AK b).getD (Int.tmod (AH q.e2 64) (((AK b).length:Nat):Int)).toNat default).Layer ((AK b).getD (Int.tmod (AH q.e2 64) (((AK b).length:Nat):Int)).toNat default).Shape) }) else (Cp b)) else (Fh b q (((W64 (79+(Int.tmod (AH q.e1 48) 4)))-0).toNat+1) (Ay b) 0)))))))))))))))))))))))
abbrev Nz:List Av:=[.agg (AC.c b),.agg (EO.c q)]
def Vp:CT:=(23,(Nz b q),.val [] (.av (.agg (AC.c (B9 b q)))))
abbrev Ej:List (Nat×Blk):=[(4,Z7a),(5,Z7m b),(26,Z7b b),(30,Z7e b),(34,Z7k b),(3100,Z7c b),(3102,Z7d b),(3104,Z7f b),(3106,Z7g b),(3108,Z7h b),(3110,Z7i b),(3112,Z7l b),(3114,Z7j b)]
abbrev Pe:Nat×Tv:=(6,tI (AH q.e1 48))
abbrev YU:Nat×Tv:=(7,tI (AH q.e2 64))
abbrev FC:List (Nat×Tv):=[(4,tP 4 0),(5,tP 5 0)]
abbrev En:Nat×Tv:=(21,tI (AH q.e0 26))
abbrev FY:Nat×Blk:=(3,.cells (EO.c q) 27)
abbrev OG:Nat×Tv:=(11,.av (.agg (AC.c b)))
abbrev OJ:List (Nat×Tv):=[(3,tP 3 0),(4,tP 4 0),(OG b)]
abbrev OD:List (Nat×Tv):=[(2,tP 2 0),(3,tP 3 0),(4,tP 4 0)]
abbrev OC:List (Nat×Tv):=[(3,tP 3 0),(4,tP 4 0),(5,tP 5 0)]
abbrev B1 (t_:List (Nat×Tv)):List (Nat×Tv):=(4,tP 4 0)::(5,tP 5 0)::(Pe q)::(YU q)::t_
abbrev Yv:List (Nat×Tv):=(B1 q [(En q),(178,tB (decide (((AH q.e0 26):Int)=9)))])
abbrev Ys:List Cl:=[.i (Int.tmod (AH q.e2 64) 7),.i 1,.i (W64 (2+(Int.tmod (AH q.e1 48) 8))),.i 3]
theorem au20 {p:Prop} (h:p:=by first | (with_reducible exact hc) | (with_reducible exact hN) | (with_reducible exact hK) | (with_reducible exact hN.1) | (with_reducible exact hK.1) | with_reducible assumption | omega | decide | (simp only [List.length_cons,List.length_nil,List.length_append];omega) | assumption):p:=h
theorem au12 {p:Prop} (h:p:=by first | decide | with_reducible exact oz (by with_reducible assumption)):p:=h
theorem au5 {p:Prop} (h:p:=by first | with_reducible exact tmb hK.1 (by with_reducible assumption) | with_reducible exact oi2 hK.1 (by with_reducible assumption) | with_reducible exact oi4 hK.1 (by with_reducible assumption) | with_reducible exact oi3 hK.1 (by with_reducible assumption) | with_reducible exact oi5 hN.1 | with_reducible exact oi8 hN.1 | with_reducible exact oi9 hN.1 | with_reducible exact oi7 hK.1 (by with_reducible assumption) (by with_reducible assumption) | with_reducible exact oi6 hK.1 (by with_reducible assumption) (by with_reducible assumption) | omega):p:=h
theorem au15 {p:Prop} (h:p:=by first | with_reducible exact ol1 (by with_reducible assumption) (by decide) | with_reducible exact ol2 (by with_reducible assumption) | with_reducible exact ol4 hK.1 (by with_reducible assumption) (by with_reducible assumption) | with_reducible exact ol3 hK.1 (by with_reducible assumption) (by with_reducible assumption) | omega):p:=h
set_option maxHeartbeats 40000000 in
theorem lH (b:AC) (q:EO) (hc:Ce b) (hq7:¬ (AH q.e0 26:Int)=7) (hq16:¬ (AH q.e0 26:Int)=16):PuP 23 (Vp b q).2.1 (.av (.agg (AC.c (B9 b q)))):=by
 refine pwf Try.func23 fun W0 M0 => ?_
 have hN:0<=AH q.e1 48/\AH q.e1 48<48:=I6 _ _ (by decide) (by decide)
 have hK0:=I6 q.e2 64 (by decide) (by decide)
 have hK:0<=AH q.e2 64/\AH q.e2 64<64:=hK0
 have hlNets:=bX hc
 have hlTracks:=VZ hc
 have hlPours:=Xy hc
 have hlKeeps:=X3 hc
 have hlSlots:=Xw hc
 have hlClasses:=TV hc
 have hlMatches:=TU hc
 have hlRules:=Xx hc
 have hlParts:=Xz hc
 have hlVias:=bW hc
 have hlWaivers:=TT hc
 refine AA<|rn ⟨OD,[(DQ b),(FY q),(4,Z7a)]⟩<|AA<|Dp<|F2 DU 1 [] [] [] [3,4,11] [3,4] [] ⟨(OJ b),[(FY q),(4,Z7a)]⟩ .nil kr .nil<|H4 (ι:=Unit) (I:=fun _=>True) (fun _=>⟨[(3,tP 3 0),(4,tP 4 0),(OG b),(12,.av (.agg (T9 b)))],[(26,Z7b b),(3100,Z7c b),(3102,Z7d b),(30,Z7e b),(3104,Z7f b),(3106,Z7g b),(3108,Z7h b),(3110,Z7i b),(3114,Z7j b),(34,Z7k b),(3112,Z7l b),(FY q),(4,Z7a)]⟩) hk0 ⟨⟨_,_,rfl,rfl,⟨fun _=>default,by kernel_rfl⟩,by kernel_rfl⟩,fun _ _=>by kernel_rfl,rfl,rfl⟩ (qCpA b au20) (fun _=>by kernel_rfl) (fun _=>by kernel_rfl) (fun _ _ => ?_)
 refine Ew DU [] [] [] [3,4,5] [3,4,5,26,30,34,3100,3102,3104,3106,3108,3110,3112,3114] [] ⟨OC,[(FY q),(4,Z7a),(5,Z7m b),(26,Z7b b),(30,Z7e b),(34,Z7k b),(3100,Z7c b),(3102,Z7d b),(3104,Z7f b),(3106,Z7g b),(3108,Z7h b),(3110,Z7i b),(3112,Z7l b),(3114,Z7j b)]⟩ .nil kr .nil<|AF<|AA<|oc [(15,E5 q.e1 48)] [0<=(1:Int)/\(1:Int)<(3:Int),As (E5 q.e1 48).2.1] (.cons (Gh q.e1 48 au20) .nil) (.cons (by decide) (.cons rfl .nil))<|AF<|AA<|oc [(18,E5 q.e2 64)] [0<=(2:Int)/\(2:Int)<(3:Int),As (E5 q.e2 64).2.1] (.cons (Gh q.e2 64 au20) .nil) (.cons (by decide) (.cons rfl .nil))<|AF<|AA<|AA<|oc [(21,E5 q.e0 26)] [0<=(0:Int)/\(0:Int)<(3:Int),As (E5 q.e0 26).2.1] (.cons (Gh q.e0 26 au20) .nil) (.cons (by decide) (.cons rfl .nil))<|AF<|AM<|AA<|rn ⟨(B1 q [(En q),(40,tB (decide (((AH q.e0 26):Int)=0)))]),(Ej b)⟩<|AL _ rfl (fun h1 => ?_) (fun h1 => ?_)
 ·have g1:=oT h1
  exact oc [] [(6:Int)≠0] .nil (.cons au12 .nil)<|A0<|AF<|AA<|on<|AR<|zy (B2 [26,3100,3102,30,3104,3106,3108,3110,3114,34,3112] hk0) (by simp only [B9,h1,cond_true,cond_false] <;> kernel_rfl)
 have g1:=oF h1
 refine AA<|rn ⟨(B1 q [(En q),(45,tB (decide (((AH q.e0 26):Int)=1)))]),(Ej b)⟩<|AL _ rfl (fun h2 => ?_) (fun h2 => ?_)
 ·exact oq 48 (Fy (AH q.e1 48)) (Ju (AH q.e1 48))<|A0<|AF<|AA<|on<|AR<|zy (B2 [26,3100,3102,30,3104,3106,3108,3110,3114,34,3112] hk0) (by simp only [B9,h1,h2,cond_true,cond_false] <;> kernel_rfl)
 have g2:=oF h2
 refine AA<|rn ⟨(B1 q [(En q),(50,tB (decide (((AH q.e0 26):Int)=2)))]),(Ej b)⟩<|AL _ rfl (fun h3 => ?_) (fun h3 => ?_)
 ·have g3:=oT h3
  refine AA<|rn ⟨(B1 q [(55,Z7p b)]),(Ej b)⟩<|AL _ rfl (fun h4 => ?_) (fun h4 => ?_)
  ·have g4:=oT h4
   exact od [] [] [(((b.Parts.length:Nat):Int):Int)≠0,0<=(Int.tmod (AH q.e2 64) ((b.Parts.length:Nat):Int):Int)/\(Int.tmod (AH q.e2 64) ((b.Parts.length:Nat):Int):Int)<((b.Parts.length:Nat):Int),(Int.tmod (AH q.e2 64) ((b.Parts.length:Nat):Int)).toNat<b.Parts.length] .nil (.cons au12 (.cons au5 (.cons au5 .nil)))<|A0<|AF<|Al (A6 26 (Ft (l:=[.i (W64 ((AH q.e1 48)-1))]) (off:=0) (q:=1) (k:=(Int.tmod (AH q.e2 64) ((b.Parts.length:Nat):Int)).toNat) (Af 7 AU.c b.Parts) au5 (AU.mk (W64 ((AH q.e1 48)-1)) (b.Parts.getD (Int.tmod (AH q.e2 64) ((b.Parts.length:Nat):Int)).toNat default).Ref (b.Parts.getD (Int.tmod (AH q.e2 64) ((b.Parts.length:Nat):Int)).toNat default).Type' (b.Parts.getD (Int.tmod (AH q.e2 64) ((b.Parts.length:Nat):Int)).toNat default).At (b.Parts.getD (Int.tmod (AH q.e2 64) ((b.Parts.length:Nat):Int)).toNat default).Turn (b.Parts.getD (Int.tmod (AH q.e2 64) ((b.Parts.length:Nat):Int)).toNat default).Under) (Fu kr)))<|AA<|on<|AR<|zy (B2 [26,3100,3102,30,3104,3106,3108,3110,3114,34,3112] hk0) (by simp only [B9,h1,h2,h3,h4,cond_true,cond_false] <;> kernel_rfl)
  exact AQ<|A0<|AF<|AA<|on<|AR<|zy (B2 [26,3100,3102,30,3104,3106,3108,3110,3114,34,3112] hk0) (by simp only [B9,h1,h2,h3,h4,cond_true,cond_false] <;> kernel_rfl)
 have g3:=oF h3
 refine AA<|rn ⟨(B1 q [(En q),(67,tB (decide (((AH q.e0 26):Int)=3)))]),(Ej b)⟩<|AL _ rfl (fun h4 => ?_) (fun h4 => ?_)
 ·have g4:=oT h4
  refine AA<|rn ⟨(B1 q [(72,Z7p b)]),(Ej b)⟩<|AL _ rfl (fun h5 => ?_) (fun h5 => ?_)
  ·have g5:=oT h5
   exact od [] [(81,Cg (AH q.e1 48))] [(((b.Parts.length:Nat):Int):Int)≠0,As (Cg (AH q.e1 48)).2.1,0<=(Int.tmod (AH q.e2 64) ((b.Parts.length:Nat):Int):Int)/\(Int.tmod (AH q.e2 64) ((b.Parts.length:Nat):Int):Int)<((b.Parts.length:Nat):Int),(Int.tmod (AH q.e2 64) ((b.Parts.length:Nat):Int)).toNat<b.Parts.length] (.cons (EZ (AH q.e1 48) au20) .nil) (.cons au12 (.cons rfl (.cons au5 (.cons au5 .nil))))<|A0<|AF<|Al (A6 26 (Ft (l:=[.s (BJ (AH q.e1 48))]) (off:=1) (q:=1) (k:=(Int.tmod (AH q.e2 64) ((b.Parts.length:Nat):Int)).toNat) (Af 7 AU.c b.Parts) au5 (AU.mk (b.Parts.getD (Int.tmod (AH q.e2 64) ((b.Parts.length:Nat):Int)).toNat default).Id (BJ (AH q.e1 48)) (b.Parts.getD (Int.tmod (AH q.e2 64) ((b.Parts.length:Nat):Int)).toNat default).Type' (b.Parts.getD (Int.tmod (AH q.e2 64) ((b.Parts.length:Nat):Int)).toNat default).At (b.Parts.getD (Int.tmod (AH q.e2 64) ((b.Parts.length:Nat):Int)).toNat default).Turn (b.Parts.getD (Int.tmod (AH q.e2 64) ((b.Parts.length:Nat):Int)).toNat default).Under) (Fu kr)))<|AA<|on<|AR<|zy (B2 [26,3100,3102,30,3104,3106,3108,3110,3114,34,3112] hk0) (by simp only [B9,h1,h2,h3,h4,h5,cond_true,cond_false] <;> kernel_rfl)
  exact AQ<|A0<|AF<|AA<|on<|AR<|zy (B2 [26,3100,3102,30,3104,3106,3108,3110,3114,34,3112] hk0) (by simp only [B9,h1,h2,h3,h4,h5,cond_true,cond_false] <;> kernel_rfl)
 have g4:=oF h4
 refine AA<|rn ⟨(B1 q [(En q),(84,tB (decide (((AH q.e0 26):Int)=4)))]),(Ej b)⟩<|AL _ rfl (fun h5 => ?_) (fun h5 => ?_)
 ·have g5:=oT h5
  refine AA<|rn ⟨(B1 q [(89,Z7p b)]),(Ej b)⟩<|AL _ rfl (fun h6 => ?_) (fun h6 => ?_)
  ·have g6:=oT h6
   exact od [] [] [(((b.Parts.length:Nat):Int):Int)≠0,0<=(Int.tmod (AH q.e2 64) ((b.Parts.length:Nat):Int):Int)/\(Int.tmod (AH q.e2 64) ((b.Parts.length:Nat):Int):Int)<((b.Parts.length:Nat):Int),(Int.tmod (AH q.e2 64) ((b.Parts.length:Nat):Int)).toNat<b.Parts.length] .nil (.cons au12 (.cons au5 (.cons au5 .nil)))<|A0<|AF<|Al (A6 26 (Ft (l:=[.i (W64 ((AH q.e1 48)-1))]) (off:=5) (q:=1) (k:=(Int.tmod (AH q.e2 64) ((b.Parts.length:Nat):Int)).toNat) (Af 7 AU.c b.Parts) au5 (AU.mk (b.Parts.getD (Int.tmod (AH q.e2 64) ((b.Parts.length:Nat):Int)).toNat default).Id (b.Parts.getD (Int.tmod (AH q.e2 64) ((b.Parts.length:Nat):Int)).toNat default).Ref (b.Parts.getD (Int.tmod (AH q.e2 64) ((b.Parts.length:Nat):Int)).toNat default).Type' (b.Parts.getD (Int.tmod (AH q.e2 64) ((b.Parts.length:Nat):Int)).toNat default).At (W64 ((AH q.e1 48)-1)) (b.Parts.getD (Int.tmod (AH q.e2 64) ((b.Parts.length:Nat):Int)).toNat default).Under) (Fu kr)))<|AA<|on<|AR<|zy (B2 [26,3100,3102,30,3104,3106,3108,3110,3114,34,3112] hk0) (by simp only [B9,h1,h2,h3,h4,h5,h6,cond_true,cond_false] <;> kernel_rfl)
  exact AQ<|A0<|AF<|AA<|on<|AR<|zy (B2 [26,3100,3102,30,3104,3106,3108,3110,3114,34,3112] hk0) (by simp only [B9,h1,h2,h3,h4,h5,h6,cond_true,cond_false] <;> kernel_rfl)
 have g5:=oF h5
 refine AA<|rn ⟨(B1 q [(En q),(101,tB (decide (((AH q.e0 26):Int)=5)))]),(Ej b)⟩<|AL _ rfl (fun h6 => ?_) (fun h6 => ?_)
 ·have g6:=oT h6
  refine AA<|rn ⟨(B1 q [(106,Z7p b)]),(Ej b)⟩<|AL _ rfl (fun h7 => ?_) (fun h7 => ?_)
  ·have g7:=oT h7
   refine od [] [] [(((b.Parts.length:Nat):Int):Int)≠0,(4:Int)≠0,0<=(Int.tmod (AH q.e1 48) 4:Int)/\(Int.tmod (AH q.e1 48) 4:Int)<((4:Nat):Int),0<=(Int.tmod (AH q.e2 64) ((b.Parts.length:Nat):Int):Int)/\(Int.tmod (AH q.e2 64) ((b.Parts.length:Nat):Int):Int)<((b.Parts.length:Nat):Int),(Int.tmod (AH q.e2 64) ((b.Parts.length:Nat):Int)).toNat<b.Parts.length] .nil (.cons au12 (.cons au12 (.cons au5 (.cons au5 (.cons au5 .nil)))))<|A0<|AF ?_
   exact Al (A6 26 (Ft (l:=[.i (([AH q.e1 48,67108864,67108664,(-67108865)]:List Int).getD (Int.tmod (AH q.e1 48) 4).toNat 0)]) (off:=3) (q:=1) (k:=(Int.tmod (AH q.e2 64) ((b.Parts.length:Nat):Int)).toNat) (Af 7 AU.c b.Parts) au5 (AU.mk (b.Parts.getD (Int.tmod (AH q.e2 64) ((b.Parts.length:Nat):Int)).toNat default).Id (b.Parts.getD (Int.tmod (AH q.e2 64) ((b.Parts.length:Nat):Int)).toNat default).Ref (b.Parts.getD (Int.tmod (AH q.e2 64) ((b.Parts.length:Nat):Int)).toNat default).Type' (AD.mk (([AH q.e1 48,67108864,67108664,(-67108865)]:List Int).getD (Int.tmod (AH q.e1 48) 4).toNat 0) (b.Parts.getD (Int.tmod (AH q.e2 64) ((b.Parts.length:Nat):Int)).toNat default).At.Y) (b.Parts.getD (Int.tmod (AH q.e2 64) ((b.Parts.length:Nat):Int)).toNat default).Turn (b.Parts.getD (Int.tmod (AH q.e2 64) ((b.Parts.length:Nat):Int)).toNat default).Under) (Fu kr)))<|AA<|on<|AR<|zy (B2 [26,3100,3102,30,3104,3106,3108,3110,3114,34,3112] hk0) (by simp only [B9,h1,h2,h3,h4,h5,h6,h7,cond_true,cond_false] <;> kernel_rfl)
  exact AQ<|A0<|AF<|AA<|on<|AR<|zy (B2 [26,3100,3102,30,3104,3106,3108,3110,3114,34,3112] hk0) (by simp only [B9,h1,h2,h3,h4,h5,h6,h7,cond_true,cond_false] <;> kernel_rfl)
 have g6:=oF h6
 refine AA<|rn ⟨(B1 q [(En q),(123,tB (decide (((AH q.e0 26):Int)=6)))]),(Ej b)⟩<|AL _ rfl (fun h7 => ?_) (fun h7 => ?_)
 ·have g7:=oT h7
  refine AA<|rn ⟨(B1 q [(128,tB (decide ((0:Int)<(((Aq b).length:Nat):Int))))]),(Ej b)⟩<|AL _ rfl (fun h8 => ?_) (fun h8 => ?_)
  ·have g8:=oT h8
   exact od [] [(137,Cg (AH q.e1 48))] [((((Aq b).length:Nat):Int):Int)≠0,As (Cg (AH q.e1 48)).2.1,0<=(Int.tmod (AH q.e2 64) (((Aq b).length:Nat):Int):Int)/\(Int.tmod (AH q.e2 64) (((Aq b).length:Nat):Int):Int)<(((Aq b).length:Nat):Int),(Int.tmod (AH q.e2 64) (((Aq b).length:Nat):Int)).toNat<(Aq b).length] (.cons (EZ (AH q.e1 48) au20) .nil) (.cons au12 (.cons rfl (.cons au5 (.cons au5 .nil))))<|A0<|AF<|Al (A6 3100 (Ft (l:=[.s (BJ (AH q.e1 48))]) (off:=0) (q:=1) (k:=(Int.tmod (AH q.e2 64) (((Aq b).length:Nat):Int)).toNat) (Af 2 A9.c (Aq b)) au5 (A9.mk (BJ (AH q.e1 48)) ((Aq b).getD (Int.tmod (AH q.e2 64) (((Aq b).length:Nat):Int)).toNat default).Pins) (Fu kr)))<|AA<|on<|AR<|zy (B2 [26,3100,3102,30,3104,3106,3108,3110,3114,34,3112] hk0) (by simp only [B9,h1,h2,h3,h4,h5,h6,h7,h8,cond_true,cond_false] <;> kernel_rfl)
  exact AQ<|A0<|AF<|AA<|on<|AR<|zy (B2 [26,3100,3102,30,3104,3106,3108,3110,3114,34,3112] hk0) (by simp only [B9,h1,h2,h3,h4,h5,h6,h7,h8,cond_true,cond_false] <;> kernel_rfl)
 have g7:=oF h7
 refine AA<|rn ⟨(B1 q [(En q),(140,tB (decide (((AH q.e0 26):Int)=7)))]),(Ej b)⟩ ?_
 have h8:(decide (((AH q.e0 26):Int)=7))=false:=(decide_eq_false hq7)
 have g8:=oF h8
 refine AL _ rfl (fun h=>absurd (h8.symm.trans h) (by decide)) (fun _ => ?_)
 refine AA<|rn ⟨(B1 q [(En q),(166,tB (decide (((AH q.e0 26):Int)=8)))]),(Ej b)⟩<|AL _ rfl (fun h9 => ?_) (fun h9 => ?_)
 ·have g9:=oT h9
  refine dw [] [(171,Cg (AH q.e1 48))] [As (Cg (AH q.e1 48)).2.1,(Aq b).length=(Aq b).length,(Aq b).length+1<=maxLen,((Aq b).length+1)*40<=140737488355328] ⟨FC,[(4,Z7a),(5,.cells (FU b [.own 176 2 ((Aq b).length+1),.own 3102 6 (AK b).length,.own 30 8 b.Vias.length,.own 3104 8 (Aw b).length,.own 3106 5 (Ay b).length,.own 3108 4 (A2 b).length,.own 3110 2 (Ae b).length,.own 3114 20 (Ab b).length,.own 34 3 b.Waivers.length,.own 3112 3 (AZ b).length]) 62),(26,Z7b b),(30,Z7e b),(34,Z7k b),(176,.row 2 ((Aq b).length+1) (fun i_ j_=>if i_<(Aq b).length then (IL b) i_ j_ else (BF 2 1 [.s (DX q),.list true 2 1 (BF 2 1 [.s ({ data := #[82,49] }:ByteArray),.s ({ data := #[80,50] }:ByteArray)])]) (i_-(Aq b).length) j_) 69),(3102,Z7d b),(3104,Z7f b),(3106,Z7g b),(3108,Z7h b),(3110,Z7i b),(3112,Z7l b),(3114,Z7j b)]⟩ (.cons (EZ (AH q.e1 48) au20) .nil) (.cons rfl (.cons rfl (.cons au15 (.cons au15 .nil))))<|A0<|AF ?_
  exact Al (C1 (⟨FC,[(4,Z7a),(5,Z7A b q),(26,Z7b b),(30,Z7e b),(34,Z7k b),(176,Z7B b q),(3102,Z7d b),(3104,Z7f b),(3106,Z7g b),(3108,Z7h b),(3110,Z7i b),(3112,Z7l b),(3114,Z7j b)]⟩) lr (.cons ⟨rfl,.refl _⟩ (.cons ⟨rfl,.cells _ (rr5 (.cons (.own _ _ au16) (rr (rr (rr (rr (rr (rr (rr (rr (rr .nil)))))))))))⟩ (.cons ⟨rfl,.refl _⟩ (.cons ⟨rfl,.refl _⟩ (.cons ⟨rfl,.refl _⟩ (.cons ⟨rfl,CX 69 (Ar (Af 2 A9.c (Aq b)) (Dh (c:=A9.c) (xs:=([A9.mk (BJ (AH q.e1 48)) [Ag.mk ({ data := #[82,49] }:ByteArray) ({ data := #[80,50] }:ByteArray)]]:List A9)) (y:=[[.s (BJ (AH q.e1 48)),.list true 2 1 (BF 2 1 [.s ({ data := #[82,49] }:ByteArray),.s ({ data := #[80,50] }:ByteArray)])]]) (z:=[[.s (BJ (AH q.e1 48)),lst 2 Ag.c [Ag.mk ({ data := #[82,49] }:ByteArray) ({ data := #[80,50] }:ByteArray)]]]) rfl kr kr (.cons (rr (.cons (BM true (BR (c:=Ag.c) (xs:=([Ag.mk ({ data := #[82,49] }:ByteArray) ({ data := #[80,50] }:ByteArray)]:List Ag)) rfl kr)) .nil)) .nil)))⟩ lr)))))))<|AA<|on<|AR<|zy (B2 [26,176,3102,30,3104,3106,3108,3110,3114,34,3112] hk0) (by simp only [B9,h1,h2,h3,h4,h5,h6,h7,h8,h9,cond_true,cond_false] <;> kernel_rfl)
 have g9:=oF h9
 refine AA<|rn ⟨(Yv q),(Ej b)⟩<|AL _ rfl (fun h10 => ?_) (fun h10 => ?_)
 ·have g10:=oT h10
  refine Al (I8 (⟨(Yv q),[(4,Z7a),(5,.cells (FU b [lst 2 A9.c (Aq b),.own 3102 6 (AK b).length,.own 30 8 b.Vias.length,.own 3104 8 (Aw b).length,.own 3106 5 (Ay b).length,.own 3108 4 (A2 b).length,.own 3110 2 (Ae b).length,.own 3114 20 (Ab b).length,.own 34 3 b.Waivers.length,.own 3112 3 (AZ b).length]) 62),(26,Z7b b),(30,Z7e b),(34,Z7k b),(3102,Z7d b),(3104,Z7f b),(3106,Z7g b),(3108,Z7h b),(3110,Z7i b),(3112,Z7l b),(3114,Z7j b)]⟩) 3100 hk0) ?_
  refine rc [] [(4:Int)≠0,0<=(0:Int)/\(0:Int)<=(min ((Aq b).length:Int) (Int.tmod (AH q.e1 48) 4):Int)/\(min ((Aq b).length:Int) (Int.tmod (AH q.e1 48) 4):Int)<=(((Aq b).length:Nat):Int)] ⟨FC,[(4,Z7a),(5,.cells (FU b [.list false 2 ((min ((Aq b).length:Int) (Int.tmod (AH q.e1 48) 4):Int).toNat-(0:Int).toNat) (fun i_ j_=>(IL b) (i_+(0:Int).toNat) j_),.own 3102 6 (AK b).length,.own 30 8 b.Vias.length,.own 3104 8 (Aw b).length,.own 3106 5 (Ay b).length,.own 3108 4 (A2 b).length,.own 3110 2 (Ae b).length,.own 3114 20 (Ab b).length,.own 34 3 b.Waivers.length,.own 3112 3 (AZ b).length]) 62),(26,Z7b b),(30,Z7e b),(34,Z7k b),(3102,Z7d b),(3104,Z7f b),(3106,Z7g b),(3108,Z7h b),(3110,Z7i b),(3112,Z7l b),(3114,Z7j b)]⟩ .nil (.cons au12 (.cons au5 .nil))<|A0<|AF ?_
  exact Al (C1 (⟨FC,[(4,Z7a),(5,Z7C b q),(26,Z7b b),(30,Z7e b),(34,Z7k b),(3102,Z7d b),(3104,Z7f b),(3106,Z7g b),(3108,Z7h b),(3110,Z7i b),(3112,Z7l b),(3114,Z7j b)]⟩) lr (.cons ⟨rfl,.refl _⟩ (.cons ⟨rfl,.cells _ (rr5 (.cons (BM false (Ed (b:=min ((Aq b).length:Int) (Int.tmod (AH q.e1 48) 4)) (Af 2 A9.c (Aq b)) (by have hc:=(show 0<=(0:Int)/\(0:Int)<=(min ((Aq b).length:Int) (Int.tmod (AH q.e1 48) 4):Int)/\(min ((Aq b).length:Int) (Int.tmod (AH q.e1 48) 4):Int)<=(((Aq b).length:Nat):Int) from au5);exact hc.2.1) (by have hc:=(show 0<=(0:Int)/\(0:Int)<=(min ((Aq b).length:Int) (Int.tmod (AH q.e1 48) 4):Int)/\(min ((Aq b).length:Int) (Int.tmod (AH q.e1 48) 4):Int)<=(((Aq b).length:Nat):Int) from au5);exact hc.2.2))) (rr (rr (rr (rr (rr (rr (rr (rr (rr .nil)))))))))))⟩ lr)))<|AA<|on<|AR<|zy (B2 [26,3102,30,3104,3106,3108,3110,3114,34,3112] hk0) (by simp only [B9,h1,h2,h3,h4,h5,h6,h7,h8,h9,h10,cond_true,cond_false] <;> kernel_rfl)
 have g10:=oF h10
 refine AA<|rn ⟨(B1 q [(En q),(190,tB (decide (((AH q.e0 26):Int)=10)))]),(Ej b)⟩<|AL _ rfl (fun h11 => ?_) (fun h11 => ?_)
 ·have g11:=oT h11
  exact od [] [(197,Cg (AH q.e2 64)),(202,Fy (AH q.e1 48))] [As (Cg (AH q.e2 64)).2.1,(3:Int)≠0,As (Fy (AH q.e1 48)).2.1,(AK b).length=(AK b).length,(AK b).length+1<=maxLen,((AK b).length+1)*72<=140737488355328] (.cons (EZ (AH q.e2 64) au20) (.cons (Ju (AH q.e1 48)) .nil)) (.cons rfl (.cons au12 (.cons rfl (.cons rfl (.cons au15 (.cons au15 .nil))))))<|A0<|AF<|Al (A6 205 (Ar (Af 6 AO.c (AK b)) (A1 6 AO.c ([AO.mk (W64 (10+(AH q.e1 48))) (BJ (AH q.e2 64)) (W64 (1+(Int.tmod (AH q.e2 64) 3))) (Cz (AH q.e1 48))]:List AO))))<|AA<|on<|AR<|zy (B2 [26,3100,205,30,3104,3106,3108,3110,3114,34,3112] hk0) (by simp only [B9,h1,h2,h3,h4,h5,h6,h7,h8,h9,h10,h11,cond_true,cond_false] <;> kernel_rfl)
 have g11:=oF h11
 refine AA<|rn ⟨(B1 q [(En q),(207,tB (decide (((AH q.e0 26):Int)=11)))]),(Ej b)⟩<|AL _ rfl (fun h12 => ?_) (fun h12 => ?_)
 ·have g12:=oT h12
  refine AA<|rn ⟨(B1 q [(212,Z7F b)]),(Ej b)⟩<|AL _ rfl (fun h13 => ?_) (fun h13 => ?_)
  ·have g13:=oT h13
   exact od [] [] [((((AK b).length:Nat):Int):Int)≠0,(4:Int)≠0,0<=(Int.tmod (AH q.e2 64) (((AK b).length:Nat):Int):Int)/\(Int.tmod (AH q.e2 64) (((AK b).length:Nat):Int):Int)<(((AK b).length:Nat):Int),(Int.tmod (AH q.e2 64) (((AK b).length:Nat):Int)).toNat<(AK b).length] .nil (.cons au12 (.cons au12 (.cons au5 (.cons au5 .nil))))<|A0<|AF<|Al (A6 3102 (Ft (l:=[.i (W64 ((Int.tmod (AH q.e1 48) 4)+1))]) (off:=2) (q:=1) (k:=(Int.tmod (AH q.e2 64) (((AK b).length:Nat):Int)).toNat) (Af 6 AO.c (AK b)) au5 (AO.mk ((AK b).getD (Int.tmod (AH q.e2 64) (((AK b).length:Nat):Int)).toNat default).Id ((AK b).getD (Int.tmod (AH q.e2 64) (((AK b).length:Nat):Int)).toNat default).Net (W64 ((Int.tmod (AH q.e1 48) 4)+1)) ((AK b).getD (Int.tmod (AH q.e2 64) (((AK b).length:Nat):Int)).toNat default).Shape) (Fu kr)))<|AA<|on<|AR<|zy (B2 [26,3100,3102,30,3104,3106,3108,3110,3114,34,3112] hk0) (by simp only [B9,h1,h2,h3,h4,h5,h6,h7,h8,h9,h10,h11,h12,h13,cond_true,cond_false] <;> kernel_rfl)
  exact AQ<|A0<|AF<|AA<|on<|AR<|zy (B2 [26,3100,3102,30,3104,3106,3108,3110,3114,34,3112] hk0) (by simp only [B9,h1,h2,h3,h4,h5,h6,h7,h8,h9,h10,h11,h12,h13,cond_true,cond_false] <;> kernel_rfl)
 have g12:=oF h12
 refine AA<|rn ⟨(B1 q [(En q),(225,tB (decide (((AH q.e0 26):Int)=12)))]),(Ej b)⟩<|AL _ rfl (fun h13 => ?_) (fun h13 => ?_)
 ·have g13:=oT h13
  refine AA<|rn ⟨[(4,tP 4 0),(5,tP 5 0),(YU q),(230,Z7F b)],(Ej b)⟩<|AL _ rfl (fun h14 => ?_) (fun h14 => ?_)
  ·have g14:=oT h14
   refine od [] [] [((((AK b).length:Nat):Int):Int)≠0,(AK b).length=(AK b).length,0<=(0:Int)/\(0:Int)<=(Int.tmod (AH q.e2 64) (((AK b).length:Nat):Int):Int)/\(Int.tmod (AH q.e2 64) (((AK b).length:Nat):Int):Int)<=(((AK b).length:Nat):Int),((((AK b).length:Nat):Int):Int)≠0,(AK b).length=(AK b).length,0<=(W64 ((Int.tmod (AH q.e2 64) (((AK b).length:Nat):Int))+1):Int)/\(W64 ((Int.tmod (AH q.e2 64) (((AK b).length:Nat):Int))+1):Int)<=((((AK b).length:Nat):Int):Int)/\((((AK b).length:Nat):Int):Int)<=(((AK b).length:Nat):Int),(0:Int).toNat=0,(Int.tmod (AH q.e2 64) (((AK b).length:Nat):Int):Int).toNat-(0:Int).toNat<=(AK b).length,(W64 ((Int.tmod (AH q.e2 64) (((AK b).length:Nat):Int))+1):Int).toNat+(((((AK b).length:Nat):Int):Int).toNat-(W64 ((Int.tmod (AH q.e2 64) (((AK b).length:Nat):Int))+1):Int).toNat)<=(AK b).length,((Int.tmod (AH q.e2 64) (((AK b).length:Nat):Int):Int).toNat-(0:Int).toNat)+(((((AK b).length:Nat):Int):Int).toNat-(W64 ((Int.tmod (AH q.e2 64) (((AK b).length:Nat):Int))+1):Int).toNat)<=maxLen,(((Int.tmod (AH q.e2 64) (((AK b).length:Nat):Int):Int).toNat-(0:Int).toNat)+(((((AK b).length:Nat):Int):Int).toNat-(W64 ((Int.tmod (AH q.e2 64) (((AK b).length:Nat):Int))+1):Int).toNat))*72<=140737488355328] .nil (.cons au12 (.cons rfl (.cons au5 (.cons au12 (.cons rfl (.cons au5 (.cons rfl (.cons au5 (.cons au5 (.cons au15 (.cons au15 .nil)))))))))))<|A0<|AF ?_
   exact Al (A6 248 (Pg (n1:=(Int.tmod (AH q.e2 64) (((AK b).length:Nat):Int):Int).toNat-(0:Int).toNat) (lo2:=(W64 ((Int.tmod (AH q.e2 64) (((AK b).length:Nat):Int))+1):Int).toNat) (n2:=((((AK b).length:Nat):Int):Int).toNat-(W64 ((Int.tmod (AH q.e2 64) (((AK b).length:Nat):Int))+1):Int).toNat) (Af 6 AO.c (AK b)) au5 au5))<|AA<|on<|AR<|zy (B2 [26,3100,248,30,3104,3106,3108,3110,3114,34,3112] hk0) (by simp only [B9,h1,h2,h3,h4,h5,h6,h7,h8,h9,h10,h11,h12,h13,h14,cond_true,cond_false] <;> kernel_rfl)
  exact AQ<|A0<|AF<|AA<|on<|AR<|zy (B2 [26,3100,3102,30,3104,3106,3108,3110,3114,34,3112] hk0) (by simp only [B9,h1,h2,h3,h4,h5,h6,h7,h8,h9,h10,h11,h12,h13,h14,cond_true,cond_false] <;> kernel_rfl)
 have g13:=oF h13
 refine AA<|rn ⟨(B1 q [(En q),(250,tB (decide (((AH q.e0 26):Int)=13)))]),(Ej b)⟩<|AL _ rfl (fun h14 => ?_) (fun h14 => ?_)
 ·have g14:=oT h14
  exact oc [] [(9:Int)≠0,(9:Int)≠0,(2:Int)≠0,(3:Int)≠0,(2:Int)≠0,b.Vias.length=b.Vias.length,b.Vias.length+1<=maxLen,(b.Vias.length+1)*72<=140737488355328] .nil (.cons au12 (.cons au12 (.cons au12 (.cons au12 (.cons au12 (.cons rfl (.cons au15 (.cons au15 .nil))))))))<|A0<|AF<|Al (A6 275 (Ar (Af 8 BW.c b.Vias) (A1 8 BW.c ([BW.mk (W64 (60+(AH q.e1 48))) ({ data := #[71,78,68] }:ByteArray) (AD.mk (W64 (10*(AH q.e1 48))) (W64 (5*(AH q.e2 64)))) (W64 (8-(Int.tmod (AH q.e1 48) 9))) (Int.tmod (AH q.e2 64) 9) (W64 (1+(Int.tmod (AH q.e2 64) 2))) (W64 (2+(W64 (Int.tdiv (Int.tmod (AH q.e1 48) 3) 2))))]:List BW))))<|AA<|on<|AR<|zy (B2 [26,3100,3102,275,3104,3106,3108,3110,3114,34,3112] hk0) (by simp only [B9,h1,h2,h3,h4,h5,h6,h7,h8,h9,h10,h11,h12,h13,h14,cond_true,cond_false] <;> kernel_rfl)
 have g14:=oF h14
 refine AA<|rn ⟨(B1 q [(En q),(277,tB (decide (((AH q.e0 26):Int)=14)))]),(Ej b)⟩<|AL _ rfl (fun h15 => ?_) (fun h15 => ?_)
 ·have g15:=oT h15
  refine AA<|rn ⟨(B1 q [(282,tB (decide ((0:Int)<((b.Vias.length:Nat):Int))))]),(Ej b)⟩<|AL _ rfl (fun h16 => ?_) (fun h16 => ?_)
  ·have g16:=oT h16
   refine od [] [] [(((b.Vias.length:Nat):Int):Int)≠0,(((b.Vias.length:Nat):Int):Int)≠0,0<=(Int.tmod (AH q.e2 64) ((b.Vias.length:Nat):Int):Int)/\(Int.tmod (AH q.e2 64) ((b.Vias.length:Nat):Int):Int)<((b.Vias.length:Nat):Int),(Int.tmod (AH q.e2 64) ((b.Vias.length:Nat):Int)).toNat<b.Vias.length,0<=(Int.tmod (AH q.e2 64) ((b.Vias.length:Nat):Int):Int)/\(Int.tmod (AH q.e2 64) ((b.Vias.length:Nat):Int):Int)<((b.Vias.length:Nat):Int),(Int.tmod (AH q.e2 64) ((b.Vias.length:Nat):Int)).toNat<b.Vias.length] .nil (.cons au12 (.cons au12 (.cons au5 (.cons au5 (.cons au5 (.cons au5 .nil))))))<|A0<|AF ?_
   exact Al (A6 30 (Ft (l:=[.i (W64 ((b.Vias.getD (Int.tmod (AH q.e2 64) ((b.Vias.length:Nat):Int)).toNat default).At.X+(W64 (3*(AH q.e1 48)))))]) (off:=2) (q:=1) (k:=(Int.tmod (AH q.e2 64) ((b.Vias.length:Nat):Int)).toNat) (Af 8 BW.c b.Vias) au5 (BW.mk (b.Vias.getD (Int.tmod (AH q.e2 64) ((b.Vias.length:Nat):Int)).toNat default).Id (b.Vias.getD (Int.tmod (AH q.e2 64) ((b.Vias.length:Nat):Int)).toNat default).Net (AD.mk (W64 ((b.Vias.getD (Int.tmod (AH q.e2 64) ((b.Vias.length:Nat):Int)).toNat default).At.X+(W64 (3*(AH q.e1 48))))) (b.Vias.getD (Int.tmod (AH q.e2 64) ((b.Vias.length:Nat):Int)).toNat default).At.Y) (b.Vias.getD (Int.tmod (AH q.e2 64) ((b.Vias.length:Nat):Int)).toNat default).R (b.Vias.getD (Int.tmod (AH q.e2 64) ((b.Vias.length:Nat):Int)).toNat default).Drill (b.Vias.getD (Int.tmod (AH q.e2 64) ((b.Vias.length:Nat):Int)).toNat default).From (b.Vias.getD (Int.tmod (AH q.e2 64) ((b.Vias.length:Nat):Int)).toNat default).To) (Fu kr)))<|AA<|on<|AR<|zy (B2 [26,3100,3102,30,3104,3106,3108,3110,3114,34,3112] hk0) (by simp only [B9,h1,h2,h3,h4,h5,h6,h7,h8,h9,h10,h11,h12,h13,h14,h15,h16,cond_true,cond_false] <;> kernel_rfl)
  exact AQ<|A0<|AF<|AA<|on<|AR<|zy (B2 [26,3100,3102,30,3104,3106,3108,3110,3114,34,3112] hk0) (by simp only [B9,h1,h2,h3,h4,h5,h6,h7,h8,h9,h10,h11,h12,h13,h14,h15,h16,cond_true,cond_false] <;> kernel_rfl)
 have g15:=oF h15
 refine AA<|rn ⟨(B1 q [(En q),(307,tB (decide (((AH q.e0 26):Int)=15)))]),(Ej b)⟩<|AL _ rfl (fun h16 => ?_) (fun h16 => ?_)
 ·have g16:=oT h16
  refine dw [] [] [(3:Int)≠0,(6:Int)≠0,0<=(Int.tmod (AH q.e1 48) 6:Int)/\(Int.tmod (AH q.e1 48) 6:Int)<((6:Nat):Int),(5:Int)≠0,(7:Int)≠0,(8:Int)≠0,(Aw b).length=(Aw b).length,(Aw b).length+1<=maxLen,((Aw b).length+1)*88<=140737488355328] ⟨FC,[(4,Z7a),(5,.cells (Co b [.own 333 8 ((Aw b).length+1),.own 3106 5 (Ay b).length,.own 3108 4 (A2 b).length,.own 3110 2 (Ae b).length,.own 3114 20 (Ab b).length,.own 34 3 b.Waivers.length,.own 3112 3 (AZ b).length]) 62),(26,Z7b b),(30,Z7e b),(34,Z7k b),(333,.row 8 ((Aw b).length+1) (fun i_ j_=>if i_<(Aw b).length then (AV A4.c (Aw b)) i_ j_ else (BF 8 1 [.i (W64 (70+(AH q.e1 48))),.s ({ data := #[78,49] }:ByteArray),.i (W64 (1+(N3 q))),.i (([20,0,1,33554432,10,134217728]:List Int).getD (N4 q).toNat 0),.i 0,.i (W64 ((N1 q)-1)),.i 3,.list true 4 1 (BF 4 1 (Ys q))]) (i_-(Aw b).length) j_) 132),(3100,Z7c b),(3102,Z7d b),(3106,Z7g b),(3108,Z7h b),(3110,Z7i b),(3112,Z7l b),(3114,Z7j b)]⟩ .nil (.cons au12 (.cons au12 (.cons au5 (.cons au12 (.cons au12 (.cons au12 (.cons rfl (.cons au15 (.cons au15 .nil)))))))))<|A0<|AF ?_
  refine Al (C1 (⟨FC,[(4,Z7a),(5,Z7O b q),(26,Z7b b),(30,Z7e b),(34,Z7k b),(333,Z7P b q),(3100,Z7c b),(3102,Z7d b),(3106,Z7g b),(3108,Z7h b),(3110,Z7i b),(3112,Z7l b),(3114,Z7j b)]⟩) lr (.cons ⟨rfl,.refl _⟩ (.cons ⟨rfl,.cells _ (rr5 (rr3 (.cons (.own _ _ au16) (rr (rr (rr (rr (rr (rr .nil)))))))))⟩ (.cons ⟨rfl,.refl _⟩ (.cons ⟨rfl,.refl _⟩ (.cons ⟨rfl,.refl _⟩ (.cons ⟨rfl,CX 132 (Ar (Af 8 A4.c (Aw b)) (Dh (c:=A4.c) (xs:=([A4.mk (W64 (70+(AH q.e1 48))) ({ data := #[78,49] }:ByteArray) (W64 (1+(Int.tmod (AH q.e2 64) 3))) (([20,0,1,33554432,10,134217728]:List Int).getD (Int.tmod (AH q.e1 48) 6).toNat 0) 0 (W64 ((Int.tmod (AH q.e2 64) 5)-1)) 3 [Ah.mk (Int.tmod (AH q.e2 64) 7) 1 (W64 (2+(Int.tmod (AH q.e1 48) 8))) 3]]:List A4)) (y:=[[.i (W64 (70+(AH q.e1 48))),.s ({ data := #[78,49] }:ByteArray),.i (W64 (1+(Int.tmod (AH q.e2 64) 3))),.i (([20,0,1,33554432,10,134217728]:List Int).getD (Int.tmod (AH q.e1 48) 6).toNat 0),.i 0,.i (W64 ((Int.tmod (AH q.e2 64) 5)-1)),.i 3,.list true 4 1 (BF 4 1 (Ys q))]]) (z:=[[.i (W64 (70+(AH q.e1 48))),.s ({ data := #[78,49] }:ByteArray),.i (W64 (1+(Int.tmod (AH q.e2 64) 3))),.i (([20,0,1,33554432,10,134217728]:List Int).getD (Int.tmod (AH q.e1 48) 6).toNat 0),.i 0,.i (W64 ((Int.tmod (AH q.e2 64) 5)-1)),.i 3,lst 4 Ah.c [Ah.mk (Int.tmod (AH q.e2 64) 7) 1 (W64 (2+(Int.tmod (AH q.e1 48) 8))) 3]]]) rfl kr kr (.cons (rr5 (rr2 (.cons (BM true (BR (c:=Ah.c) (xs:=([Ah.mk (Int.tmod (AH q.e2 64) 7) 1 (W64 (2+(Int.tmod (AH q.e1 48) 8))) 3]:List Ah)) rfl kr)) .nil))) .nil)))⟩ lr)))))))<|AA ?_
  exact on<|AR<|zy (B2 [26,3100,3102,30,333,3106,3108,3110,3114,34,3112] hk0) (by simp only [B9,h1,h2,h3,h4,h5,h6,h7,h8,h9,h10,h11,h12,h13,h14,h15,h16,cond_true,cond_false] <;> kernel_rfl)
 have g16:=oF h16
 refine AA<|rn ⟨(B1 q [(En q),(335,tB (decide (((AH q.e0 26):Int)=16)))]),(Ej b)⟩ ?_
 have h17:(decide (((AH q.e0 26):Int)=16))=false:=(decide_eq_false hq16)
 have g17:=oF h17
 refine AL _ rfl (fun h=>absurd (h17.symm.trans h) (by decide)) (fun _ => ?_)
 refine AA<|rn ⟨(B1 q [(En q),(373,tB (decide (((AH q.e0 26):Int)=17)))]),(Ej b)⟩<|AL _ rfl (fun h18 => ?_) (fun h18 => ?_)
 ·have g18:=oT h18
  exact od [] [(383,Fy (AH q.e1 48))] [(5:Int)≠0,As (Fy (AH q.e1 48)).2.1,(Ay b).length=(Ay b).length,(Ay b).length+1<=maxLen,((Ay b).length+1)*56<=140737488355328] (.cons (Ju (AH q.e1 48)) .nil) (.cons au12 (.cons rfl (.cons rfl (.cons au15 (.cons au15 .nil)))))<|A0<|AF<|Al (A6 386 (Ar (Af 5 A5.c (Ay b)) (A1 5 A5.c ([A5.mk (W64 (80+(AH q.e1 48))) (W64 ((Int.tmod (AH q.e2 64) 5)-1)) (Cz (AH q.e1 48))]:List A5))))<|AA<|on<|AR<|zy (B2 [26,3100,3102,30,3104,386,3108,3110,3114,34,3112] hk0) (by simp only [B9,h1,h2,h3,h4,h5,h6,h7,h8,h9,h10,h11,h12,h13,h14,h15,h16,h17,h18,cond_true,cond_false] <;> kernel_rfl)
 have g18:=oF h18
 refine AA<|rn ⟨(B1 q [(En q),(388,tB (decide (((AH q.e0 26):Int)=18)))]),(Ej b)⟩<|AL _ rfl (fun h19 => ?_) (fun h19 => ?_)
 ·have g19:=oT h19
  exact od [] [(395,Fy (AH q.e1 48))] [As (Fy (AH q.e1 48)).2.1,(A2 b).length=(A2 b).length,(A2 b).length+1<=maxLen,((A2 b).length+1)*48<=140737488355328] (.cons (Ju (AH q.e1 48)) .nil) (.cons rfl (.cons rfl (.cons au15 (.cons au15 .nil))))<|A0<|AF<|Al (A6 398 (Ar (Af 4 BC.c (A2 b)) (A1 4 BC.c ([BC.mk (W64 (90+(AH q.e1 48))) (Cz (AH q.e1 48))]:List BC))))<|AA<|on<|AR<|zy (B2 [26,3100,3102,30,3104,3106,398,3110,3114,34,3112] hk0) (by simp only [B9,h1,h2,h3,h4,h5,h6,h7,h8,h9,h10,h11,h12,h13,h14,h15,h16,h17,h18,h19,cond_true,cond_false] <;> kernel_rfl)
 have g19:=oF h19
 refine AA<|rn ⟨(B1 q [(En q),(400,tB (decide (((AH q.e0 26):Int)=19)))]),(Ej b)⟩<|AL _ rfl (fun h20 => ?_) (fun h20 => ?_)
 ·have g20:=oT h20
  refine dw [] [(405,Cg (AH q.e1 48)),(407,Cg (AH q.e2 64))] [As (Cg (AH q.e1 48)).2.1,As (Cg (AH q.e2 64)).2.1,(Ae b).length=(Ae b).length,(Ae b).length+1<=maxLen,((Ae b).length+1)*40<=140737488355328] ⟨FC,[(4,Z7a),(5,.cells (Co b (Fp b [.own 411 2 ((Ae b).length+1),.own 3114 20 (Ab b).length,.own 34 3 b.Waivers.length,.own 3112 3 (AZ b).length])) 62),(26,Z7b b),(30,Z7e b),(34,Z7k b),(411,.row 2 ((Ae b).length+1) (fun i_ j_=>if i_<(Ae b).length then (He b) i_ j_ else (BF 2 1 [.s (DX q),.list true 1 1 (BF 1 1 [.s (BJ (AH q.e2 64))])]) (i_-(Ae b).length) j_) 139),(3100,Z7c b),(3102,Z7d b),(3104,Z7f b),(3106,Z7g b),(3108,Z7h b),(3112,Z7l b),(3114,Z7j b)]⟩ (.cons (EZ (AH q.e1 48) au20) (.cons (EZ (AH q.e2 64) au20) .nil)) (.cons rfl (.cons rfl (.cons rfl (.cons au15 (.cons au15 .nil)))))<|A0<|AF ?_
  exact Al (C1 (⟨FC,[(4,Z7a),(5,Z7U b q),(26,Z7b b),(30,Z7e b),(34,Z7k b),(411,Z7V b q),(3100,Z7c b),(3102,Z7d b),(3104,Z7f b),(3106,Z7g b),(3108,Z7h b),(3112,Z7l b),(3114,Z7j b)]⟩) lr (.cons ⟨rfl,.refl _⟩ (.cons ⟨rfl,.cells _ (rr9 (rr2 (.cons (.own _ _ au16) (rr (rr (rr .nil))))))⟩ (.cons ⟨rfl,.refl _⟩ (.cons ⟨rfl,.refl _⟩ (.cons ⟨rfl,.refl _⟩ (.cons ⟨rfl,CX 139 (Ar (Af 2 BE.c (Ae b)) (Dh (c:=BE.c) (xs:=([BE.mk (BJ (AH q.e1 48)) [BJ (AH q.e2 64)]]:List BE)) (y:=[[.s (BJ (AH q.e1 48)),.list true 1 1 (BF 1 1 [.s (BJ (AH q.e2 64))])]]) (z:=[[.s (BJ (AH q.e1 48)),lst 1 (fun x=>[.s x]) [BJ (AH q.e2 64)]]]) rfl kr kr (.cons (rr (.cons (BM true (BR (c:=(fun x=>[.s x])) (xs:=([BJ (AH q.e2 64)]:List ByteArray)) rfl kr)) .nil)) .nil)))⟩ lr)))))))<|AA<|on<|AR<|zy (B2 [26,3100,3102,30,3104,3106,3108,411,3114,34,3112] hk0) (by simp only [B9,h1,h2,h3,h4,h5,h6,h7,h8,h9,h10,h11,h12,h13,h14,h15,h16,h17,h18,h19,h20,cond_true,cond_false] <;> kernel_rfl)
 have g20:=oF h20
 refine AA<|rn ⟨(B1 q [(En q),(413,tB (decide (((AH q.e0 26):Int)=20)))]),(Ej b)⟩<|AL _ rfl (fun h21 => ?_) (fun h21 => ?_)
 ·have g21:=oT h21
  refine dw [] [(418,Cg (AH q.e1 48)),(420,Cg (AH q.e2 64))] [As (Cg (AH q.e1 48)).2.1,As (Cg (AH q.e2 64)).2.1,(AZ b).length=(AZ b).length,(AZ b).length+1<=maxLen,((AZ b).length+1)*48<=140737488355328] ⟨FC,[(4,Z7a),(5,.cells (Co b (Fp b (Qh b [.own 426 3 ((AZ b).length+1)]))) 62),(26,Z7b b),(30,Z7e b),(34,Z7k b),(426,.row 3 ((AZ b).length+1) (fun i_ j_=>if i_<(AZ b).length then (Hd b) i_ j_ else (BF 3 1 [.s (DX q),.list true 1 2 (BF 1 2 [.s ({ data := #[78,49] }:ByteArray),.s (BJ (AH q.e2 64))]),.i (W64 ((AH q.e2 64)-1))]) (i_-(AZ b).length) j_) 78),(3100,Z7c b),(3102,Z7d b),(3104,Z7f b),(3106,Z7g b),(3108,Z7h b),(3110,Z7i b),(3114,Z7j b)]⟩ (.cons (EZ (AH q.e1 48) au20) (.cons (EZ (AH q.e2 64) au20) .nil)) (.cons rfl (.cons rfl (.cons rfl (.cons au15 (.cons au15 .nil)))))<|A0<|AF ?_
  refine Al (C1 (⟨FC,[(4,Z7a),(5,Z7W b q),(26,Z7b b),(30,Z7e b),(34,Z7k b),(426,Z7X b q),(3100,Z7c b),(3102,Z7d b),(3104,Z7f b),(3106,Z7g b),(3108,Z7h b),(3110,Z7i b),(3114,Z7j b)]⟩) lr (.cons ⟨rfl,.refl _⟩ (.cons ⟨rfl,.cells _ (rr9 (rr5 (.cons (.own _ _ au16) .nil)))⟩ (.cons ⟨rfl,.refl _⟩ (.cons ⟨rfl,.refl _⟩ (.cons ⟨rfl,.refl _⟩ (.cons ⟨rfl,CX 78 (Ar (Af 3 AN.c (AZ b)) (Dh (c:=AN.c) (xs:=([AN.mk (BJ (AH q.e1 48)) [({ data := #[78,49] }:ByteArray),BJ (AH q.e2 64)] (W64 ((AH q.e2 64)-1))]:List AN)) (y:=[[.s (BJ (AH q.e1 48)),.list true 1 2 (BF 1 2 [.s ({ data := #[78,49] }:ByteArray),.s (BJ (AH q.e2 64))]),.i (W64 ((AH q.e2 64)-1))]]) (z:=[[.s (BJ (AH q.e1 48)),lst 1 (fun x=>[.s x]) [({ data := #[78,49] }:ByteArray),BJ (AH q.e2 64)],.i (W64 ((AH q.e2 64)-1))]]) rfl kr kr (.cons (rr (.cons (BM true (BR (c:=(fun x=>[.s x])) (xs:=([({ data := #[78,49] }:ByteArray),BJ (AH q.e2 64)]:List ByteArray)) rfl kr)) (rr .nil))) .nil)))⟩ lr)))))))<|AA<|on<|AR ?_
  exact zy (B2 [26,3100,3102,30,3104,3106,3108,3110,3114,34,426] hk0) (by simp only [B9,h1,h2,h3,h4,h5,h6,h7,h8,h9,h10,h11,h12,h13,h14,h15,h16,h17,h18,h19,h20,h21,cond_true,cond_false] <;> kernel_rfl)
 have g21:=oF h21
 refine AA<|rn ⟨(B1 q [(En q),(428,tB (decide (((AH q.e0 26):Int)=21)))]),(Ej b)⟩<|AL _ rfl (fun h22 => ?_) (fun h22 => ?_)
 ·have g22:=oT h22
  exact oc [] [(13:Int)≠0,b.Waivers.length=b.Waivers.length,b.Waivers.length+1<=maxLen,(b.Waivers.length+1)*32<=140737488355328] .nil (.cons au12 (.cons rfl (.cons au15 (.cons au15 .nil))))<|A0<|AF<|Al (A6 438 (Ar (Af 3 An.c b.Waivers) (A1 3 An.c ([An.mk (W64 (1+(AH q.e1 48))) (Int.tmod (AH q.e2 64) 13) ({ data := #[99,50] }:ByteArray)]:List An))))<|AA<|on<|AR<|zy (B2 [26,3100,3102,30,3104,3106,3108,3110,3114,438,3112] hk0) (by simp only [B9,h1,h2,h3,h4,h5,h6,h7,h8,h9,h10,h11,h12,h13,h14,h15,h16,h17,h18,h19,h20,h21,h22,cond_true,cond_false] <;> kernel_rfl)
 have g22:=oF h22
 refine AA<|rn ⟨(B1 q [(En q),(440,tB (decide (((AH q.e0 26):Int)=22)))]),(Ej b)⟩<|AL _ rfl (fun h23 => ?_) (fun h23 => ?_)
 ·have g23:=oT h23
  refine AA<|rn ⟨(B1 q [(445,tB (decide ((0:Int)<(((Ab b).length:Nat):Int))))]),(Ej b)⟩<|AL _ rfl (fun h24 => ?_) (fun h24 => ?_)
  ·have g24:=oT h24
   refine od [] [] [((((Ab b).length:Nat):Int):Int)≠0,0<=(Int.tmod (AH q.e2 64) (((Ab b).length:Nat):Int):Int)/\(Int.tmod (AH q.e2 64) (((Ab b).length:Nat):Int):Int)<(((Ab b).length:Nat):Int),(Int.tmod (AH q.e2 64) (((Ab b).length:Nat):Int)).toNat<(Ab b).length] .nil (.cons au12 (.cons au5 (.cons au5 .nil)))<|A0<|AF<|Al (A6 3114 (Ft (l:=[.i (W64 ((AH q.e1 48)-1))]) (off:=19) (q:=1) (k:=(Int.tmod (AH q.e2 64) (((Ab b).length:Nat):Int)).toNat) (Af 20 Az.c (Ab b)) au5 (Az.mk ((Ab b).getD (Int.tmod (AH q.e2 64) (((Ab b).length:Nat):Int)).toNat default).Name ((Ab b).getD (Int.tmod (AH q.e2 64) (((Ab b).length:Nat):Int)).toNat default).Priority ((Ab b).getD (Int.tmod (AH q.e2 64) (((Ab b).length:Nat):Int)).toNat default).What ((Ab b).getD (Int.tmod (AH q.e2 64) (((Ab b).length:Nat):Int)).toNat default).A ((Ab b).getD (Int.tmod (AH q.e2 64) (((Ab b).length:Nat):Int)).toNat default).B (W64 ((AH q.e1 48)-1))) (Fu kr)))<|AA<|on<|AR ?_
   exact zy (B2 [26,3100,3102,30,3104,3106,3108,3110,3114,34,3112] hk0) (by simp only [B9,h1,h2,h3,h4,h5,h6,h7,h8,h9,h10,h11,h12,h13,h14,h15,h16,h17,h18,h19,h20,h21,h22,h23,h24,cond_true,cond_false] <;> kernel_rfl)
  exact AQ<|A0<|AF<|AA<|on<|AR<|zy (B2 [26,3100,3102,30,3104,3106,3108,3110,3114,34,3112] hk0) (by simp only [B9,h1,h2,h3,h4,h5,h6,h7,h8,h9,h10,h11,h12,h13,h14,h15,h16,h17,h18,h19,h20,h21,h22,h23,h24,cond_true,cond_false] <;> kernel_rfl)
 have g23:=oF h23
 refine AA<|rn ⟨(B1 q [(En q),(457,tB (decide (((AH q.e0 26):Int)=23)))]),(Ej b)⟩<|AL _ rfl (fun h24 => ?_) (fun h24 => ?_)
 ·have g24:=oT h24
  refine AA<|rn ⟨[(4,tP 4 0),(5,tP 5 0),(YU q),(462,Z7p b)],(Ej b)⟩<|AL _ rfl (fun h25 => ?_) (fun h25 => ?_)
  ·have g25:=oT h25
   refine od [] [] [(((b.Parts.length:Nat):Int):Int)≠0,b.Parts.length=b.Parts.length,0<=(0:Int)/\(0:Int)<=(Int.tmod (AH q.e2 64) ((b.Parts.length:Nat):Int):Int)/\(Int.tmod (AH q.e2 64) ((b.Parts.length:Nat):Int):Int)<=((b.Parts.length:Nat):Int),(((b.Parts.length:Nat):Int):Int)≠0,b.Parts.length=b.Parts.length,0<=(W64 ((Int.tmod (AH q.e2 64) ((b.Parts.length:Nat):Int))+1):Int)/\(W64 ((Int.tmod (AH q.e2 64) ((b.Parts.length:Nat):Int))+1):Int)<=(((b.Parts.length:Nat):Int):Int)/\(((b.Parts.length:Nat):Int):Int)<=((b.Parts.length:Nat):Int),(0:Int).toNat=0,(Int.tmod (AH q.e2 64) ((b.Parts.length:Nat):Int):Int).toNat-(0:Int).toNat<=b.Parts.length,(W64 ((Int.tmod (AH q.e2 64) ((b.Parts.length:Nat):Int))+1):Int).toNat+((((b.Parts.length:Nat):Int):Int).toNat-(W64 ((Int.tmod (AH q.e2 64) ((b.Parts.length:Nat):Int))+1):Int).toNat)<=b.Parts.length,((Int.tmod (AH q.e2 64) ((b.Parts.length:Nat):Int):Int).toNat-(0:Int).toNat)+((((b.Parts.length:Nat):Int):Int).toNat-(W64 ((Int.tmod (AH q.e2 64) ((b.Parts.length:Nat):Int))+1):Int).toNat)<=maxLen,(((Int.tmod (AH q.e2 64) ((b.Parts.length:Nat):Int):Int).toNat-(0:Int).toNat)+((((b.Parts.length:Nat):Int):Int).toNat-(W64 ((Int.tmod (AH q.e2 64) ((b.Parts.length:Nat):Int))+1):Int).toNat))*72<=140737488355328] .nil (.cons au12 (.cons rfl (.cons au5 (.cons au12 (.cons rfl (.cons au5 (.cons rfl (.cons au5 (.cons au5 (.cons au15 (.cons au15 .nil)))))))))))<|A0<|AF ?_
   exact Al (A6 480 (Pg (n1:=(Int.tmod (AH q.e2 64) ((b.Parts.length:Nat):Int):Int).toNat-(0:Int).toNat) (lo2:=(W64 ((Int.tmod (AH q.e2 64) ((b.Parts.length:Nat):Int))+1):Int).toNat) (n2:=(((b.Parts.length:Nat):Int):Int).toNat-(W64 ((Int.tmod (AH q.e2 64) ((b.Parts.length:Nat):Int))+1):Int).toNat) (Af 7 AU.c b.Parts) au5 au5))<|AA<|on<|AR<|zy (B2 [480,3100,3102,30,3104,3106,3108,3110,3114,34,3112] hk0) (by simp only [B9,h1,h2,h3,h4,h5,h6,h7,h8,h9,h10,h11,h12,h13,h14,h15,h16,h17,h18,h19,h20,h21,h22,h23,h24,h25,cond_true,cond_false] <;> kernel_rfl)
  exact AQ<|A0<|AF<|AA<|on<|AR<|zy (B2 [26,3100,3102,30,3104,3106,3108,3110,3114,34,3112] hk0) (by simp only [B9,h1,h2,h3,h4,h5,h6,h7,h8,h9,h10,h11,h12,h13,h14,h15,h16,h17,h18,h19,h20,h21,h22,h23,h24,h25,cond_true,cond_false] <;> kernel_rfl)
 have g24:=oF h24
 refine AA<|rn ⟨(B1 q [(482,tB (decide (((AH q.e0 26):Int)=24)))]),(Ej b)⟩<|AL _ rfl (fun h25 => ?_) (fun h25 => ?_)
 ·have g25:=oT h25
  refine AA<|rn ⟨(B1 q [(487,Z7F b)]),(Ej b)⟩<|AL _ rfl (fun h26 => ?_) (fun h26 => ?_)
  ·have g26:=oT h26
   exact od [] [(496,Cg (AH q.e1 48))] [((((AK b).length:Nat):Int):Int)≠0,As (Cg (AH q.e1 48)).2.1,0<=(Int.tmod (AH q.e2 64) (((AK b).length:Nat):Int):Int)/\(Int.tmod (AH q.e2 64) (((AK b).length:Nat):Int):Int)<(((AK b).length:Nat):Int),(Int.tmod (AH q.e2 64) (((AK b).length:Nat):Int)).toNat<(AK b).length] (.cons (EZ (AH q.e1 48) au20) .nil) (.cons au12 (.cons rfl (.cons au5 (.cons au5 .nil))))<|A0<|AF<|Al (A6 3102 (Ft (l:=[.s (BJ (AH q.e1 48))]) (off:=1) (q:=1) (k:=(Int.tmod (AH q.e2 64) (((AK b).length:Nat):Int)).toNat) (Af 6 AO.c (AK b)) au5 (AO.mk ((AK b).getD (Int.tmod (AH q.e2 64) (((AK b).length:Nat):Int)).toNat default).Id (BJ (AH q.e1 48)) ((AK b).getD (Int.tmod (AH q.e2 64) (((AK b).length:Nat):Int)).toNat default).Layer ((AK b).getD (Int.tmod (AH q.e2 64) (((AK b).length:Nat):Int)).toNat default).Shape) (Fu kr)))<|AA<|on<|AR<|zy (B2 [26,3100,3102,30,3104,3106,3108,3110,3114,34,3112] hk0) (by simp only [B9,h1,h2,h3,h4,h5,h6,h7,h8,h9,h10,h11,h12,h13,h14,h15,h16,h17,h18,h19,h20,h21,h22,h23,h24,h25,h26,cond_true,cond_false] <;> kernel_rfl)
  exact AQ<|A0<|AF<|AA<|on<|AR<|zy (B2 [26,3100,3102,30,3104,3106,3108,3110,3114,34,3112] hk0) (by simp only [B9,h1,h2,h3,h4,h5,h6,h7,h8,h9,h10,h11,h12,h13,h14,h15,h16,h17,h18,h19,h20,h21,h22,h23,h24,h25,h26,cond_true,cond_false] <;> kernel_rfl)
 have g25:=oF h25
 refine AA<|rn ⟨[(4,tP 4 0),(5,tP 5 0),(Pe q),(10,tI 0)],(Ej b)⟩<|AM<|BK (ι:=Nat×List A5×Int) (fun x=>⟨[(4,tP 4 0),(5,tP 5 0),(Pe q),(10,tI x.2.2)],[(4,Z7a),(5,.cells (Co b [.own 3104 8 (Aw b).length,.own 3106 5 x.2.1.length,.own 3108 4 (A2 b).length,.own 3110 2 (Ae b).length,.own 3114 20 (Ab b).length,.own 34 3 b.Waivers.length,.own 3112 3 (AZ b).length]) 62),(26,Z7b b),(30,Z7e b),(34,Z7k b),(3100,Z7c b),(3102,Z7d b),(3104,Z7f b),(3106,.row 5 x.2.1.length (AV A5.c x.2.1) 135),(3108,Z7h b),(3110,Z7i b),(3112,Z7l b),(3114,Z7j b)]⟩) (fun x=>((W64 (79+(Int.tmod (AH q.e1 48) 4)))-x.2.2).toNat<x.1/\(0<=x.2.2/\(x.2.2<=(W64 (79+(Int.tmod (AH q.e1 48) 4)))\/x.2.2=0)/\(x.2.1.length:Int)<=((Ay b).length:Int)+1*(x.2.2-0))/\Fh b q x.1 x.2.1 x.2.2=B9 b q) (fun x=>x.1) ?_ (((W64 (79+(Int.tmod (AH q.e1 48) 4)))-0).toNat+1,Ay b,0) ⟨Nat.lt_succ_self _,⟨ax0,ax0,ax0⟩,(by simp only [B9,h1,h2,h3,h4,h5,h6,h7,h8,h9,h10,h11,h12,h13,h14,h15,h16,h17,h18,h19,h20,h21,h22,h23,h24,h25,cond_true,cond_false])⟩
 rintro ⟨n0,v5_9,v10⟩ ⟨hm0,hinv0,hF0⟩
 try dsimp only at hm0 hinv0 hF0
 cases n0 with | zero=>exact nz hm0 | succ n0 => ?_
 have hw7:=w79 hN.1
 have hk9:((Ay b).length:Int)<=1000000:=by rw [P3];exact hc.lKeeps
 have hv9:(v5_9.length:Int)<=2000000:=by omega
 refine AA<|AA<|rc [] [(4:Int)≠0] ⟨[(4,tP 4 0),(5,tP 5 0),(Pe q),(10,tI v10),(26,tB (decide ((v10:Int)<(W64 (79+(Int.tmod (AH q.e1 48) 4))))))],[(4,Z7a),(5,Z86 b v5_9),(26,Z7b b),(30,Z7e b),(34,Z7k b),(3100,Z7c b),(3102,Z7d b),(3104,Z7f b),(3106,.row 5 v5_9.length (AV A5.c v5_9) 135),(3108,Z7h b),(3110,Z7i b),(3112,Z7l b),(3114,Z7j b)]⟩ .nil (.cons au12 .nil)<|AF<|AL _ rfl (fun h26 => ?_) (fun h26 => ?_)
 ·have g26:=oT h26
  refine AQ<|AF<|AA<|AM<|od [] [(35,LI (AD.mk v10 0) 1)] [As (LI (AD.mk v10 0) 1).2.1,v5_9.length=v5_9.length,v5_9.length+1<=maxLen,(v5_9.length+1)*56<=140737488355328] (.cons (Rn (AD.mk v10 0) 1) .nil) (.cons rfl (.cons rfl (.cons au15 (.cons au15 .nil))))<|A0<|AF<|Al (A6 38 (Ar (Af 5 A5.c v5_9) (A1 5 A5.c ([A5.mk (W64 (100+v10)) 0 (Iz (AD.mk v10 0) 1)]:List A5))))<|rg ⟨[(4,tP 4 0),(5,tP 5 0),(Pe q),(10,tI (W64 (v10+1)))],[(4,Z7a),(5,Z87 b v5_9 v10),(26,Z7b b),(30,Z7e b),(34,Z7k b),(38,Z88 v5_9 v10),(3100,Z7c b),(3102,Z7d b),(3104,Z7f b),(3108,Z7h b),(3110,Z7i b),(3112,Z7l b),(3114,Z7j b)]⟩ ?_
  (try rw [(show W64 (v10+1)=v10+1 from Ap oM au8)])
  refine AF ?_
  refine ⟨(n0,v5_9++[A5.mk (W64 (100+v10)) 0 (Iz (AD.mk v10 0) 1)],v10+1),⟨?_,?_,(by rw [<- hF0];simp only [Fh,h26,cond_true,cond_false])⟩,Nat.lt_succ_self _,Cv.trans (vr 38 3106 hk0) (Cv.trans (vk [4,5,6,10] [4,5,26,30,34,3100,3102,3104,3106,3108,3110,3112,3114]) (BG kr))⟩
  ·show ((W64 (79+(Int.tmod (AH q.e1 48) 4)))-(v10+1)).toNat<n0;omega
  exact ⟨ax0,ax0,ax0⟩
 exact BH<|A7<|A7<|BI<|A0<|AF<|AA<|on<|AR<|zy (B2 [26,3100,3102,30,3104,3106,3108,3110,3114,34,3112] hk0) (by rw [<- hF0];simp only [Fh,h26,cond_true,cond_false] <;> kernel_rfl)
end
section
open Go.RowKit
def Z8a:Blk:=.cells GX 62
variable (b:AC) (v:Nat->Value)
def Z8b:Blk:=.cells (FT v [.own 61 2 1,.val (v 6),.val (v 7),.val (v 8),.val (v 9),.val (v 10),.val (v 11),.val (v 12),.val (v 13),.val (v 14)]) 62
abbrev Dd:=b.Nets.getD 0 default
def Z8c:Blk:=.row 2 (Dd b).Pins.length (AV Ag.c (Dd b).Pins) 121
def Z8d:Blk:=.rowx 2 1 (fun _ _=>default) 69 [(0,[.s (Dd b).Name,.own 58 2 (Dd b).Pins.length])]
abbrev OH:List Cl:=[.s (Dd b).Name,.own 2000 2 (Dd b).Pins.length]
def Z8e:Blk:=.rowx 2 1 (fun _ _=>default) 69 [(0,(OH b))]
def Z8f:Blk:=.cells (FT v [.own 2001 2 1,.val (v 6),.val (v 7),.val (v 8),.val (v 9),.val (v 10),.val (v 11),.val (v 12),.val (v 13),.val (v 14)]) 62
def Z8g:Blk:=.cells (FT v [.own 61 2 2,.val (v 6),.val (v 7),.val (v 8),.val (v 9),.val (v 10),.val (v 11),.val (v 12),.val (v 13),.val (v 14)]) 62
abbrev Dc:=b.Nets.getD 1 default
def Z8h:Blk:=.row 2 (Dc b).Pins.length (AV Ag.c (Dc b).Pins) 121
def Z8i:Blk:=.rowx 2 2 (fun i_ j_=>if i_<1 then (fun _ _=>default) i_ j_ else (fun _ _=>default) (i_-1) j_) 69 [(0,(OH b)),(1,[.s (Dc b).Name,.own 58 2 (Dc b).Pins.length])]
abbrev UL:List Cl:=[.s (Dc b).Name,.own 2002 2 (Dc b).Pins.length]
def Z8j:Blk:=.rowx 2 2 (fun i_ j_=>if i_<1 then (fun _ _=>default) i_ j_ else (fun _ _=>default) (i_-1) j_) 69 [(0,(OH b)),(1,(UL b))]
def Z8k:Blk:=.cells (FT v [.own 2003 2 2,.val (v 6),.val (v 7),.val (v 8),.val (v 9),.val (v 10),.val (v 11),.val (v 12),.val (v 13),.val (v 14)]) 62
def Z8l:Blk:=.cells (FT v [.own 61 2 3,.val (v 6),.val (v 7),.val (v 8),.val (v 9),.val (v 10),.val (v 11),.val (v 12),.val (v 13),.val (v 14)]) 62
abbrev Db:=b.Nets.getD 2 default
def Z8m:Blk:=.row 2 (Db b).Pins.length (AV Ag.c (Db b).Pins) 121
def Z8n:Blk:=.rowx 2 3 (fun i_ j_=>if i_<2 then (fun i_ j_=>if i_<1 then (fun _ _=>default) i_ j_ else (fun _ _=>default) (i_-1) j_) i_ j_ else (fun _ _=>default) (i_-2) j_) 69 [(0,(OH b)),(1,(UL b)),(2,[.s (Db b).Name,.own 58 2 (Db b).Pins.length])]
def Z8o:Blk:=.rowx 2 3 (fun i_ j_=>if i_<2 then (fun i_ j_=>if i_<1 then (fun _ _=>default) i_ j_ else (fun _ _=>default) (i_-1) j_) i_ j_ else (fun _ _=>default) (i_-2) j_) 69 [(0,(OH b)),(1,(UL b)),(2,[.s (Db b).Name,.own 2004 2 (Db b).Pins.length])]
def Z8p:Blk:=.cells (FT v [.own 2005 2 3,.val (v 6),.val (v 7),.val (v 8),.val (v 9),.val (v 10),.val (v 11),.val (v 12),.val (v 13),.val (v 14)]) 62
def Z8q:Blk:=.cells (FT v [.own 3260 2 3,.val (v 6),.val (v 7),.val (v 8),.val (v 9),.val (v 10),.val (v 11),.val (v 12),.val (v 13),.val (v 14)]) 62
abbrev Ku:List Cl:=[.s (Dd b).Name,.own 3261 2 (Dd b).Pins.length]
abbrev Kt:List Cl:=[.s (Dc b).Name,.own 3262 2 (Dc b).Pins.length]
abbrev Ks:List Cl:=[.s (Db b).Name,.own 3263 2 (Db b).Pins.length]
def Z8r:Blk:=.rowx 2 3 (fun i_ j_=>if i_<2 then (fun i_ j_=>if i_<1 then (fun _ _=>default) i_ j_ else (fun _ _=>default) (i_-1) j_) i_ j_ else (fun _ _=>default) (i_-2) j_) 69 [(0,(Ku b)),(1,(Kt b)),(2,(Ks b))]
abbrev sCxN3 (b:AC) (v:Nat->Value):AS:=⟨Bf,[(3003,Z8q v),(B7 b),(3002,Z8a),(3260,Z8r b),(3261,Z8c b),(3262,Z8h b),(3263,Z8m b)]⟩
theorem au24 {p:Prop} (h:p:=by first | decide | omega | (rw [hlen];decide) | (rw [show (b.Nets.length:Int)=3 from hlen];decide)):p:=h
theorem au9 {p:Prop} (h:p:=by first | decide | omega | (unfold maxLen;omega)):p:=h
set_option maxHeartbeats 4000000 in
theorem gCxN3 (b:AC) (hc:Ce b) (hlen:(b.Nets.length:Int)=3) {c:Code} (hpc:Try.f59.body.bind (F9 [true,true,false,true])=some c):NZ Try.prog 229 [3003,3001,3002] c (fun _:Unit=>True) (fun v=>⟨[(1,tP 3001 0),(2,tP 3002 0),(3,tP 3003 0),(4,tI 0)],[(3003,.cells [.val (v 0),.val (v 1),.val (v 2),.val (v 3),.val (v 4),vN,.val (v 6),.val (v 7),.val (v 8),.val (v 9),.val (v 10),.val (v 11),.val (v 12),.val (v 13),.val (v 14)] 62),(3001,.cells (AC.c b) 62),(3002,.cells [.i 0,.i 0,vN,.i 0,vN,vN,vN,vN,vN,vN,vN,vN,vN,vN,vN] 62)]⟩) (fun v _=>sCxN3 b v):=by
 cases hpc
 intro W0 M0 X v hP hFl
 show AWp _ _ _ _ _ _ _ _ ⟨[(1,tP 3001 0),(2,tP 3002 0),(3,tP 3003 0),(4,tI 0)],[(3003,.cells [.val (v 0),.val (v 1),.val (v 2),.val (v 3),.val (v 4),vN,.val (v 6),.val (v 7),.val (v 8),.val (v 9),.val (v 10),.val (v 11),.val (v 12),.val (v 13),.val (v 14)] 62),(3001,.cells (AC.c b) 62),(3002,.cells [.i 0,.i 0,vN,.i 0,vN,vN,vN,vN,vN,vN,vN,vN,vN,vN,vN] 62)]⟩
 have h0:=hc.lParts
 have h1:=hc.lNets
 have h2:=hc.lTracks
 have h3:=hc.lVias
 have h4:=hc.lPours
 have h5:=hc.lKeeps
 have h6:=hc.lSlots
 have h7:=hc.lClasses
 have h8:=hc.lWaivers
 have h9:=hc.lMatches
 have h10:=hc.lRules
 have hr:=hc.rok
 have hb0:=hc.pin 0
 have hb1:=hc.pin 1
 have hb2:=hc.pin 2
 refine AM<|Dr 4<|Ba<|AA<|AA<|rn ⟨[(1,tP 3001 0),(2,tP 3002 0),(3,tP 3003 0),(4,tI 0),(40,tB (decide ((0:Int)<(b.Nets.length:Int))))],[(3001,.cells (AC.c b) 62),(3002,Z8a),(3003,.cells [.val (v 0),.val (v 1),.val (v 2),.val (v 3),.val (v 4),vN,.val (v 6),.val (v 7),.val (v 8),.val (v 9),.val (v 10),.val (v 11),.val (v 12),.val (v 13),.val (v 14)] 62)]⟩ ?_
 have h1:(decide ((0:Int)<(b.Nets.length:Int)))=true:=(by rw [hlen];decide)
 have g1:=oT h1
 refine AL _ rfl (fun _ => ?_) (fun h=>absurd (h1.symm.trans h) (by decide))
 refine AQ<|AF<|AA<|AM<|dw [51] [] [0<=(0:Int)/\(0:Int)<((b.Nets.length:Nat):Int),0<=(0:Int)/\(0:Int)<((b.Nets.length:Nat):Int),0=0,0+(b.Nets.getD 0 default).Pins.length<=maxLen,(0+(b.Nets.getD 0 default).Pins.length)*32<=140737488355328,1=1,0<1,1<=maxLen,1*40<=140737488355328] ⟨[(1,tP 3001 0),(2,tP 3002 0),(3,tP 3003 0),(4,tI 0)],[(58,.row 2 (0+(b.Nets.getD 0 default).Pins.length) (fun i_ j_=>if i_<0 then (BF 2 0 []) i_ j_ else (AV Ag.c (b.Nets.getD 0 default).Pins) (i_-0) j_) 121),(61,.rowx 2 1 (fun _ _=>default) 69 [(0,[.s (b.Nets.getD 0 default).Name,.own 58 2 (0+(b.Nets.getD 0 default).Pins.length)])]),(3001,.cells (AC.c b) 62),(3002,Z8a),(3003,Z8b v)]⟩ .nil (.cons au24 (.cons au24 (.cons rfl (.cons au9 (.cons au9 (.cons rfl (.cons (by decide) (.cons au9 (.cons au9 .nil)))))))))<|A0<|AF<|Al (C1 (⟨[(1,tP 3001 0),(2,tP 3002 0),(3,tP 3003 0),(4,tI 0)],[(58,Z8c b),(61,Z8d b),(3001,.cells (AC.c b) 62),(3002,Z8a),(3003,Z8b v)]⟩) lr (.cons ⟨rfl,CX 121 (Ar (BR (c:=Ag.c) (xs:=(([]:List Ag):List Ag)) rfl kr) (Af 2 Ag.c (b.Nets.getD 0 default).Pins))⟩ (.cons ⟨rfl,.rowx _ _ _ _ (.cons ⟨rfl,(rr (.cons (.own _ _ au16) .nil))⟩ .nil)⟩ lr))) ?_
 refine rn ⟨[(1,tP 3001 0),(2,tP 3002 0),(3,tP 3003 0),(4,tI 1)],[(58,Z8c b),(61,Z8d b),(3001,.cells (AC.c b) 62),(3002,Z8a),(3003,Z8b v)]⟩<|Ba<|Al (Cv.trans (CM (⟨[(1,tP 3001 0),(2,tP 3002 0),(3,tP 3003 0),(4,tI 1)],[(2000,Z8c b),(61,Z8e b),(3001,.cells (AC.c b) 62),(3002,Z8a),(3003,Z8b v)]⟩) 58 2000 (K:=[3003,3001,3002]) hP rfl rfl kr kr) (CM (⟨[(1,tP 3001 0),(2,tP 3002 0),(3,tP 3003 0),(4,tI 1)],[(2000,Z8c b),(2001,Z8e b),(3001,.cells (AC.c b) 62),(3002,Z8a),(3003,Z8f v)]⟩) 61 2001 (K:=[3003,3001,3002]) hP rfl rfl kr kr))<|AA<|AA<|rn ⟨[(1,tP 3001 0),(2,tP 3002 0),(3,tP 3003 0),(4,tI 1),(40,tB (decide ((1:Int)<(b.Nets.length:Int))))],[(2000,Z8c b),(2001,Z8e b),(3001,.cells (AC.c b) 62),(3002,Z8a),(3003,Z8f v)]⟩ ?_
 have h2:(decide ((1:Int)<(b.Nets.length:Int)))=true:=(by rw [hlen];decide)
 have g2:=oT h2
 refine AL _ rfl (fun _ => ?_) (fun h=>absurd (h2.symm.trans h) (by decide))
 refine AQ<|AF<|AA<|AM<|dw [51] [] [0<=(1:Int)/\(1:Int)<((b.Nets.length:Nat):Int),0<=(1:Int)/\(1:Int)<((b.Nets.length:Nat):Int),0=0,0+(b.Nets.getD 1 default).Pins.length<=maxLen,(0+(b.Nets.getD 1 default).Pins.length)*32<=140737488355328,1=1,1=1,0<1,1+1<=maxLen,(1+1)*40<=140737488355328] ⟨[(1,tP 3001 0),(2,tP 3002 0),(3,tP 3003 0),(4,tI 1)],[(58,.row 2 (0+(b.Nets.getD 1 default).Pins.length) (fun i_ j_=>if i_<0 then (BF 2 0 []) i_ j_ else (AV Ag.c (b.Nets.getD 1 default).Pins) (i_-0) j_) 121),(61,.rowx 2 2 (fun i_ j_=>if i_<1 then (fun _ _=>default) i_ j_ else (fun _ _=>default) (i_-1) j_) 69 [(0,[.s (b.Nets.getD 0 default).Name,.own 2000 2 (b.Nets.getD 0 default).Pins.length]),(1,[.s (b.Nets.getD 1 default).Name,.own 58 2 (0+(b.Nets.getD 1 default).Pins.length)])]),(2000,Z8c b),(3001,.cells (AC.c b) 62),(3002,Z8a),(3003,Z8g v)]⟩ .nil (.cons au24 (.cons au24 (.cons rfl (.cons au9 (.cons au9 (.cons rfl (.cons rfl (.cons (by decide) (.cons au9 (.cons au9 .nil))))))))))<|A0<|AF ?_
 refine Al (C1 (⟨[(1,tP 3001 0),(2,tP 3002 0),(3,tP 3003 0),(4,tI 1)],[(58,Z8h b),(61,Z8i b),(2000,Z8c b),(3001,.cells (AC.c b) 62),(3002,Z8a),(3003,Z8g v)]⟩) lr (.cons ⟨rfl,CX 121 (Ar (BR (c:=Ag.c) (xs:=(([]:List Ag):List Ag)) rfl kr) (Af 2 Ag.c (b.Nets.getD 1 default).Pins))⟩ (.cons ⟨rfl,.rowx _ _ _ _ (.cons ⟨rfl,(rr (rr .nil))⟩ (.cons ⟨rfl,(rr (.cons (.own _ _ au16) .nil))⟩ .nil))⟩ lr)))<|rn ⟨[(1,tP 3001 0),(2,tP 3002 0),(3,tP 3003 0),(4,tI 2)],[(58,Z8h b),(61,Z8i b),(2000,Z8c b),(3001,.cells (AC.c b) 62),(3002,Z8a),(3003,Z8g v)]⟩<|Ba<|Al (Cv.trans (CM (⟨[(1,tP 3001 0),(2,tP 3002 0),(3,tP 3003 0),(4,tI 2)],[(2002,Z8h b),(61,Z8j b),(2000,Z8c b),(3001,.cells (AC.c b) 62),(3002,Z8a),(3003,Z8g v)]⟩) 58 2002 (K:=[3003,3001,3002]) hP rfl rfl kr kr) (CM (⟨[(1,tP 3001 0),(2,tP 3002 0),(3,tP 3003 0),(4,tI 2)],[(2002,Z8h b),(2003,Z8j b),(2000,Z8c b),(3001,.cells (AC.c b) 62),(3002,Z8a),(3003,Z8k v)]⟩) 61 2003 (K:=[3003,3001,3002]) hP rfl rfl kr kr))<|AA<|AA<|rn ⟨[(1,tP 3001 0),(2,tP 3002 0),(3,tP 3003 0),(4,tI 2),(40,tB (decide ((2:Int)<(b.Nets.length:Int))))],[(2000,Z8c b),(2002,Z8h b),(2003,Z8j b),(3001,.cells (AC.c b) 62),(3002,Z8a),(3003,Z8k v)]⟩ ?_
 have h3:(decide ((2:Int)<(b.Nets.length:Int)))=true:=(by rw [hlen];decide)
 have g3:=oT h3
 refine AL _ rfl (fun _ => ?_) (fun h=>absurd (h3.symm.trans h) (by decide))
 refine AQ<|AF<|AA<|AM<|dw [51] [] [0<=(2:Int)/\(2:Int)<((b.Nets.length:Nat):Int),0<=(2:Int)/\(2:Int)<((b.Nets.length:Nat):Int),0=0,0+(b.Nets.getD 2 default).Pins.length<=maxLen,(0+(b.Nets.getD 2 default).Pins.length)*32<=140737488355328,2=2,1=1,0<1,2+1<=maxLen,(2+1)*40<=140737488355328] ⟨[(1,tP 3001 0),(2,tP 3002 0),(3,tP 3003 0),(4,tI 2)],[(58,.row 2 (0+(b.Nets.getD 2 default).Pins.length) (fun i_ j_=>if i_<0 then (BF 2 0 []) i_ j_ else (AV Ag.c (b.Nets.getD 2 default).Pins) (i_-0) j_) 121),(61,.rowx 2 3 (fun i_ j_=>if i_<2 then (fun i_ j_=>if i_<1 then (fun _ _=>default) i_ j_ else (fun _ _=>default) (i_-1) j_) i_ j_ else (fun _ _=>default) (i_-2) j_) 69 [(0,[.s (b.Nets.getD 0 default).Name,.own 2000 2 (b.Nets.getD 0 default).Pins.length]),(1,[.s (b.Nets.getD 1 default).Name,.own 2002 2 (b.Nets.getD 1 default).Pins.length]),(2,[.s (b.Nets.getD 2 default).Name,.own 58 2 (0+(b.Nets.getD 2 default).Pins.length)])]),(2000,Z8c b),(2002,Z8h b),(3001,.cells (AC.c b) 62),(3002,Z8a),(3003,Z8l v)]⟩ .nil (.cons au24 (.cons au24 (.cons rfl (.cons au9 (.cons au9 (.cons rfl (.cons rfl (.cons (by decide) (.cons au9 (.cons au9 .nil))))))))))<|A0<|AF ?_
 refine Al (C1 (⟨[(1,tP 3001 0),(2,tP 3002 0),(3,tP 3003 0),(4,tI 2)],[(58,Z8m b),(61,Z8n b),(2000,Z8c b),(2002,Z8h b),(3001,.cells (AC.c b) 62),(3002,Z8a),(3003,Z8l v)]⟩) lr (.cons ⟨rfl,CX 121 (Ar (BR (c:=Ag.c) (xs:=(([]:List Ag):List Ag)) rfl kr) (Af 2 Ag.c (b.Nets.getD 2 default).Pins))⟩ (.cons ⟨rfl,.rowx _ _ _ _ (.cons ⟨rfl,(rr (rr .nil))⟩ (.cons ⟨rfl,(rr (rr .nil))⟩ (.cons ⟨rfl,(rr (.cons (.own _ _ au16) .nil))⟩ .nil)))⟩ lr)))<|rn ⟨[(1,tP 3001 0),(2,tP 3002 0),(3,tP 3003 0),(4,tI 3)],[(58,Z8m b),(61,Z8n b),(2000,Z8c b),(2002,Z8h b),(3001,.cells (AC.c b) 62),(3002,Z8a),(3003,Z8l v)]⟩<|Ba<|Al (Cv.trans (CM (⟨[(1,tP 3001 0),(2,tP 3002 0),(3,tP 3003 0),(4,tI 3)],[(2004,Z8m b),(61,Z8o b),(2000,Z8c b),(2002,Z8h b),(3001,.cells (AC.c b) 62),(3002,Z8a),(3003,Z8l v)]⟩) 58 2004 (K:=[3003,3001,3002]) hP rfl rfl kr kr) (CM (⟨[(1,tP 3001 0),(2,tP 3002 0),(3,tP 3003 0),(4,tI 3)],[(2004,Z8m b),(2005,Z8o b),(2000,Z8c b),(2002,Z8h b),(3001,.cells (AC.c b) 62),(3002,Z8a),(3003,Z8p v)]⟩) 61 2005 (K:=[3003,3001,3002]) hP rfl rfl kr kr))<|AA<|AA ?_
 refine rn ⟨[(1,tP 3001 0),(2,tP 3002 0),(3,tP 3003 0),(4,tI 3),(40,tB (decide ((3:Int)<(b.Nets.length:Int))))],[(2000,Z8c b),(2002,Z8h b),(2004,Z8m b),(2005,Z8o b),(3001,.cells (AC.c b) 62),(3002,Z8a),(3003,Z8p v)]⟩ ?_
 have h4:(decide ((3:Int)<(b.Nets.length:Int)))=false:=(by rw [hlen];decide)
 have g4:=oF h4
 refine AL _ rfl (fun h=>absurd (h4.symm.trans h) (by decide)) (fun _ => ?_)
 refine BH<|A7<|A7<|BI ?_
 exact ⟨_,Cv.trans (CG [1,2,3] [2000,2002,2004,2005,3001,3002,3003] (⟨[(1,tP 3001 0),(2,tP 3002 0),(3,tP 3003 0)],[(2000,Z8c b),(2002,Z8h b),(2004,Z8m b),(2005,Z8o b),(3001,.cells (AC.c b) 62),(3002,Z8a),(3003,Z8p v)]⟩) kr) (Cv.trans (CM (⟨[(1,tP 3001 0),(2,tP 3002 0),(3,tP 3003 0)],[(2000,Z8c b),(2002,Z8h b),(2004,Z8m b),(3260,Z8o b),(3001,.cells (AC.c b) 62),(3002,Z8a),(3003,Z8q v)]⟩) 2005 3260 (K:=[3003,3001,3002]) hP rfl rfl kr kr) (Cv.trans (CM (⟨[(1,tP 3001 0),(2,tP 3002 0),(3,tP 3003 0)],[(3261,Z8c b),(2002,Z8h b),(2004,Z8m b),(3260,.rowx 2 3 (fun i_ j_=>if i_<2 then (fun i_ j_=>if i_<1 then (fun _ _=>default) i_ j_ else (fun _ _=>default) (i_-1) j_) i_ j_ else (fun _ _=>default) (i_-2) j_) 69 [(0,[.s (b.Nets.getD 0 default).Name,.own 3261 2 (b.Nets.getD 0 default).Pins.length]),(1,[.s (b.Nets.getD 1 default).Name,.own 2002 2 (b.Nets.getD 1 default).Pins.length]),(2,[.s (b.Nets.getD 2 default).Name,.own 2004 2 (b.Nets.getD 2 default).Pins.length])]),(3001,.cells (AC.c b) 62),(3002,Z8a),(3003,Z8q v)]⟩) 2000 3261 (K:=[3003,3001,3002]) hP rfl rfl kr kr) (Cv.trans (CM (⟨[(1,tP 3001 0),(2,tP 3002 0),(3,tP 3003 0)],[(3261,Z8c b),(3262,Z8h b),(2004,Z8m b),(3260,.rowx 2 3 (fun i_ j_=>if i_<2 then (fun i_ j_=>if i_<1 then (fun _ _=>default) i_ j_ else (fun _ _=>default) (i_-1) j_) i_ j_ else (fun _ _=>default) (i_-2) j_) 69 [(0,[.s (b.Nets.getD 0 default).Name,.own 3261 2 (b.Nets.getD 0 default).Pins.length]),(1,[.s (b.Nets.getD 1 default).Name,.own 3262 2 (b.Nets.getD 1 default).Pins.length]),(2,[.s (b.Nets.getD 2 default).Name,.own 2004 2 (b.Nets.getD 2 default).Pins.length])]),(3001,.cells (AC.c b) 62),(3002,Z8a),(3003,Z8q v)]⟩) 2002 3262 (K:=[3003,3001,3002]) hP rfl rfl kr kr) (Cv.trans (CM (⟨[(1,tP 3001 0),(2,tP 3002 0),(3,tP 3003 0)],[(3261,Z8c b),(3262,Z8h b),(3263,Z8m b),(3260,Z8r b),(3001,.cells (AC.c b) 62),(3002,Z8a),(3003,Z8q v)]⟩) 2004 3263 (K:=[3003,3001,3002]) hP rfl rfl kr kr) (CG [1,2,3] [3003,3001,3002,3260,3261,3262,3263] (⟨[(1,tP 3001 0),(2,tP 3002 0),(3,tP 3003 0)],[(3003,Z8q v),(3001,.cells (AC.c b) 62),(3002,Z8a),(3260,Z8r b),(3261,Z8c b),(3262,Z8h b),(3263,Z8m b)]⟩) kr))))),rfl,(),trivial,rfl⟩
end
section
open Go.RowKit
def Z8s:Blk:=.cells GX 62
variable (b:AC)
def Z8t:Blk:=.cells (RJ b) 62
def Z8u:Blk:=.row 7 b.Parts.length (Hf b) 115
def Z8v:Blk:=.row 8 b.Vias.length (Hc b) 129
def Z8w:Blk:=.row 3 b.Waivers.length (Hg b) 141
def Z8x:Blk:=.cells (FU b [.own 3260 2 3,vN,.own 30 8 b.Vias.length,vN,vN,vN,vN,vN,.own 34 3 b.Waivers.length,vN]) 62
def Z8y:Blk:=.rowx 2 3 (fun i_ j_=>if i_<2 then (fun i_ j_=>if i_<1 then (fun _ _=>default) i_ j_ else (fun _ _=>default) (i_-1) j_) i_ j_ else (fun _ _=>default) (i_-2) j_) 69 [(0,(Ku b)),(1,(Kt b)),(2,(Ks b))]
def Z8z:Blk:=.row 2 (Dd b).Pins.length (AV Ag.c (Dd b).Pins) 121
def Z8A:Blk:=.row 2 (Dc b).Pins.length (AV Ag.c (Dc b).Pins) 121
def Z8B:Blk:=.row 2 (Db b).Pins.length (AV Ag.c (Db b).Pins) 121
abbrev Ke (t_:List Cl):List Cl:=(.i b.Layers)::(.i (G7 b).Kind)::(lst 7 AG.c (G7 b).Edges)::(.i (G7 b).R)::(L8 b)::(.own 3260 2 3)::(IC b)::(.own 30 8 b.Vias.length)::t_
def Z8C:Blk:=.cells (Ke b (UA b)) 62
def Z8D:Blk:=.row 6 (AK b).length (II b) 81
def Z8E:Blk:=.cells (Ke b (Qj b [vN])) 62
def Z8F:Blk:=.row 8 (Aw b).length (AV A4.c (Aw b)) 132
def Z8G:Blk:=.cells (Ke b (Qk b [vN])) 62
def Z8H:Blk:=.row 5 (Ay b).length (IM b) 135
def Z8I:Blk:=.cells (Ke b (Qb b)) 62
def Z8J:Blk:=.row 4 (A2 b).length (IJ b) 137
def Z8K:Blk:=.cells (Ke b (Fp b (Ns b [vN]))) 62
def Z8L:Blk:=.row 2 (Ae b).length (He b) 139
def Z8M:Blk:=.cells (Ke b (Qa b)) 62
def Z8N:Blk:=.row 3 (AZ b).length (Hd b) 78
abbrev RM:List Cl:=(Ke b (Fp b (Qh b [.own 3112 3 (AZ b).length])))
def Z8O:Blk:=.cells (RM b) 62
def Z8P:Blk:=.row 20 (Ab b).length (IK b) 146
def jU (b:AC):Tv:=.av (.agg (RM b))
def hCyN3 (b:AC):List (Nat×Blk):=[(26,.row 7 b.Parts.length (AV AU.c b.Parts) 115),(3260,.rowx 2 3 (fun i_ j_=>if i_<2 then (fun i_ j_=>if i_<1 then (fun _ _=>default) i_ j_ else (fun _ _=>default) (i_-1) j_) i_ j_ else (fun _ _=>default) (i_-2) j_) 69 [(0,[.s (b.Nets.getD 0 default).Name,.own 3261 2 (b.Nets.getD 0 default).Pins.length]),(1,[.s (b.Nets.getD 1 default).Name,.own 3262 2 (b.Nets.getD 1 default).Pins.length]),(2,[.s (b.Nets.getD 2 default).Name,.own 3263 2 (b.Nets.getD 2 default).Pins.length])]),(3102,.row 6 (AK b).length (AV AO.c (AK b)) 81),(30,.row 8 b.Vias.length (AV BW.c b.Vias) 129),(3104,.row 8 (Aw b).length (AV A4.c (Aw b)) 132),(3106,.row 5 (Ay b).length (AV A5.c (Ay b)) 135),(3108,.row 4 (A2 b).length (AV BC.c (A2 b)) 137),(3110,.row 2 (Ae b).length (AV BE.c (Ae b)) 139),(3114,.row 20 (Ab b).length (AV Az.c (Ab b)) 146),(34,.row 3 b.Waivers.length (AV An.c b.Waivers) 141),(3112,.row 3 (AZ b).length (AV AN.c (AZ b)) 78),(3261,.row 2 (b.Nets.getD 0 default).Pins.length (AV Ag.c (b.Nets.getD 0 default).Pins) 121),(3262,.row 2 (b.Nets.getD 1 default).Pins.length (AV Ag.c (b.Nets.getD 1 default).Pins) 121),(3263,.row 2 (b.Nets.getD 2 default).Pins.length (AV Ag.c (b.Nets.getD 2 default).Pins) 121)]
abbrev JG (t_:List (Nat×Blk)):List (Nat×Blk):=(26,Z8u b)::(30,Z8v b)::(34,Z8w b)::(B7 b)::(3002,Z8s)::t_
abbrev Zc:List (Nat×Blk):=(JG b [(3003,Z8M b),(3102,Z8D b),(3104,Z8F b),(3106,Z8H b),(3108,Z8J b),(3110,Z8L b),(3112,Z8N b),(3260,Z8y b),(3261,Z8z b),(3262,Z8A b),(3263,Z8B b)])
abbrev Zb:List (Nat×Blk):=(JG b [(3003,Z8K b),(3102,Z8D b),(3104,Z8F b),(3106,Z8H b),(3108,Z8J b),(3110,Z8L b),(3260,Z8y b),(3261,Z8z b),(3262,Z8A b),(3263,Z8B b)])
abbrev ZY:List (Nat×Blk):=(JG b [(3003,Z8I b),(3102,Z8D b),(3104,Z8F b),(3106,Z8H b),(3108,Z8J b),(3260,Z8y b),(3261,Z8z b),(3262,Z8A b),(3263,Z8B b)])
abbrev ZR:List (Nat×Blk):=(JG b [(3003,Z8G b),(3102,Z8D b),(3104,Z8F b),(3106,Z8H b),(3260,Z8y b),(3261,Z8z b),(3262,Z8A b),(3263,Z8B b)])
abbrev ZM:List (Nat×Blk):=(JG b [(3003,Z8E b),(3102,Z8D b),(3104,Z8F b),(3260,Z8y b),(3261,Z8z b),(3262,Z8A b),(3263,Z8B b)])
abbrev ZD:List (Nat×Blk):=(JG b [(3003,Z8C b),(3102,Z8D b),(3260,Z8y b),(3261,Z8z b),(3262,Z8A b),(3263,Z8B b)])
abbrev Y8:List (Nat×Blk):=(JG b [(3003,Z8x b),(3260,Z8y b),(3261,Z8z b),(3262,Z8A b),(3263,Z8B b)])
abbrev Kf (t_:List Cl):List Cl:=(.i b.Layers)::(.i (Bx b.Outline).Kind)::(lst 7 AG.c (Bx b.Outline).Edges)::(.i (Bx b.Outline).R)::(L8 b)::(.own 3260 2 3)::(IC b)::(.own 30 8 b.Vias.length)::t_
set_option maxHeartbeats 4000000 in
theorem qCyN3 (b:AC) (hc:Ce b) (hlen:(b.Nets.length:Int)=3):Frs Try.prog 59 [.agg (AC.c b)] (fun _:Unit=>True) (fun _=>jU b) (fun _=>hCyN3 b):=by
 refine J5 Try.func59 rfl kr kr kr fun W0 M0 X hP hFl => ?_
 have h0:=hc.lParts
 have h1:=hc.lNets
 have h2:=hc.lTracks
 have h3:=hc.lVias
 have h4:=hc.lPours
 have h5:=hc.lKeeps
 have h6:=hc.lSlots
 have h7:=hc.lClasses
 have h8:=hc.lWaivers
 have h9:=hc.lMatches
 have h10:=hc.lRules
 have hr:=hc.rok
 refine AA<|on<|AA<|od [23,27,31] [(22,B5 b.Outline)] [As (B5 b.Outline).2.1,0=0,0+b.Parts.length<=maxLen,(0+b.Parts.length)*72<=140737488355328,0=0,0+b.Vias.length<=maxLen,(0+b.Vias.length)*72<=140737488355328,0=0,0+b.Waivers.length<=maxLen,(0+b.Waivers.length)*32<=140737488355328] (.cons (D2 b.Outline au28) .nil) (.cons rfl (.cons rfl (.cons au4 (.cons au4 (.cons rfl (.cons au4 (.cons au4 (.cons rfl (.cons au4 (.cons au4 .nil))))))))))<|AF<|Al (Cv.trans (A6 26 (Ar (A1 7 AU.c (([]:List AU):List AU)) (Af 7 AU.c b.Parts))) (Cv.trans (A6 30 (Ar (A1 8 BW.c (([]:List BW):List BW)) (Af 8 BW.c b.Vias))) (A6 34 (Ar (A1 3 An.c (([]:List An):List An)) (Af 3 An.c b.Waivers)))))<|AA<|AA<|rn ⟨MR,[(1,.cells (AC.c b) 62),(2,Z8s),(3,Z8t b),(26,Z8u b),(30,Z8v b),(34,Z8w b)]⟩<|Al (Cv.trans (vr 3 3003 (K:=[]) hP) (Cv.trans (vr 1 3001 (K:=[]) hP) (wr (⟨Q7,[(B7 b),(3002,Z8s),(3003,Z8t b),(26,Z8u b),(30,Z8v b),(34,Z8w b)]⟩) 2 3002 (K:=[]) hP))) ?_
 refine CH (ι:=Unit) (I:=fun _=>True) 3003 (V8 b) 62 (mkB 15 5) [1,2,3,4] [3001,3002] (fun _=>Bf) (fun _=>lEB 15 5 (.own 3260 2 3)) (fun _=>[(B7 b),CI,(3260,.rowx 2 3 (fun i_ j_=>if i_<2 then (fun i_ j_=>if i_<1 then (fun _ _=>default) i_ j_ else (fun _ _=>default) (i_-1) j_) i_ j_ else (fun _ _=>default) (i_-2) j_) 69 [(0,[.s (b.Nets.getD 0 default).Name,.own 3261 2 (b.Nets.getD 0 default).Pins.length]),(1,[.s (b.Nets.getD 1 default).Name,.own 3262 2 (b.Nets.getD 1 default).Pins.length]),(2,[.s (b.Nets.getD 2 default).Name,.own 3263 2 (b.Nets.getD 2 default).Pins.length])]),(3261,.row 2 (b.Nets.getD 0 default).Pins.length (AV Ag.c (b.Nets.getD 0 default).Pins) 121),(3262,.row 2 (b.Nets.getD 1 default).Pins.length (AV Ag.c (b.Nets.getD 1 default).Pins) 121),(3263,.row 2 (b.Nets.getD 2 default).Pins.length (AV Ag.c (b.Nets.getD 2 default).Pins) 121)]) (fun _=>⟨Bf,[(3003,Z8x b),(B7 b),(3002,Z8s),(3260,Z8y b),(3261,Z8z b),(3262,Z8A b),(3263,Z8B b),(26,Z8u b),(30,Z8v b),(34,Z8w b)]⟩) hP hFl (gCxN3 b hc hlen kr) (fun _ _ => ?_)
 refine AF<|Al (ck (⟨Bf,(Y8 b)⟩))<|AA<|AA<|rn ⟨Q6,(Y8 b)⟩<|CH (ι:=Unit) (I:=fun _=>True) 3003 [.i b.Layers,.i (Bx b.Outline).Kind,lst 7 AG.c (Bx b.Outline).Edges,.i (Bx b.Outline).R,.own 26 7 b.Parts.length,.own 3260 2 3,vN,.own 30 8 b.Vias.length,vN,vN,vN,vN,vN,.own 34 3 b.Waivers.length,vN] 62 (mkB 15 6) [1,2,3,5] [3001,3002] (fun _=>Bf) (fun _=>lEB 15 6 (IC b)) (fun _=>[(B7 b),CI,(Qt b)]) (fun _=>⟨Bf,[(3003,Z8C b),(B7 b),(3002,Z8s),(3102,Z8D b),(26,Z8u b),(30,Z8v b),(34,Z8w b),(3260,Z8y b),(3261,Z8z b),(3262,Z8A b),(3263,Z8B b)]⟩) hP hFl (J4 b hc kr) (fun _ _ => ?_)
 refine AF<|Al (ck (⟨Bf,(ZD b)⟩))<|AA<|AA<|rn ⟨Q5,(ZD b)⟩<|CH (ι:=Unit) (I:=fun _=>True) 3003 (Kf b (UA b)) 62 (mkB 15 8) [1,2,3,7] [3001,3002] (fun _=>Bf) (fun _=>lEB 15 8 (Nq b)) (fun _=>[(B7 b),CI,(3104,.row 8 (Aw b).length (AV A4.c (Aw b)) 132)]) (fun _=>⟨Bf,[(3003,Z8E b),(B7 b),(3002,Z8s),(3104,Z8F b),(26,Z8u b),(30,Z8v b),(34,Z8w b),(3102,Z8D b),(3260,Z8y b),(3261,Z8z b),(3262,Z8A b),(3263,Z8B b)]⟩) hP hFl (Tk b hc kr) (fun _ _ => ?_)
 refine AF<|Al (ck (⟨Bf,(ZM b)⟩))<|AA<|AA<|rn ⟨Q4,(ZM b)⟩<|CH (ι:=Unit) (I:=fun _=>True) 3003 (Kf b (Qj b [vN])) 62 (mkB 15 9) [1,2,3,9] [3001,3002] (fun _=>Bf) (fun _=>lEB 15 9 (JC b)) (fun _=>[(B7 b),CI,(Qx b)]) (fun _=>⟨Bf,[(3003,Z8G b),(B7 b),(3002,Z8s),(3106,Z8H b),(26,Z8u b),(30,Z8v b),(34,Z8w b),(3102,Z8D b),(3104,Z8F b),(3260,Z8y b),(3261,Z8z b),(3262,Z8A b),(3263,Z8B b)]⟩) hP hFl (Lm b hc kr) (fun _ _ => ?_)
 refine AF<|Al (ck (⟨Bf,(ZR b)⟩))<|AA<|AA<|rn ⟨RD,(ZR b)⟩<|CH (ι:=Unit) (I:=fun _=>True) 3003 (Kf b (Qk b [vN])) 62 (mkB 15 10) [1,2,3,11] [3001,3002] (fun _=>Bf) (fun _=>lEB 15 10 (KZ b)) (fun _=>[(B7 b),CI,(Qw b)]) (fun _=>⟨Bf,[(3003,Z8I b),(B7 b),(3002,Z8s),(3108,Z8J b),(26,Z8u b),(30,Z8v b),(34,Z8w b),(3102,Z8D b),(3104,Z8F b),(3106,Z8H b),(3260,Z8y b),(3261,Z8z b),(3262,Z8A b),(3263,Z8B b)]⟩) hP hFl (Lk b hc kr) (fun _ _ => ?_)
 refine AF<|Al (ck (⟨Bf,(ZY b)⟩))<|AA<|AA<|rn ⟨RB,(ZY b)⟩<|CH (ι:=Unit) (I:=fun _=>True) 3003 (Kf b (Qb b)) 62 (mkB 15 11) [1,2,3,13] [3001,3002] (fun _=>Bf) (fun _=>lEB 15 11 (JB b)) (fun _=>[(B7 b),CI,(Qv b)]) (fun _=>⟨Bf,[(3003,Z8K b),(B7 b),(3002,Z8s),(3110,Z8L b),(26,Z8u b),(30,Z8v b),(34,Z8w b),(3102,Z8D b),(3104,Z8F b),(3106,Z8H b),(3108,Z8J b),(3260,Z8y b),(3261,Z8z b),(3262,Z8A b),(3263,Z8B b)]⟩) hP hFl (Ik b hc kr) (fun _ _ => ?_)
 refine AF<|Al (ck (⟨Bf,(Zb b)⟩))<|AA<|AA<|rn ⟨Q9,(Zb b)⟩<|CH (ι:=Unit) (I:=fun _=>True) 3003 (Kf b (Fp b (Ns b [vN]))) 62 (mkB 15 14) [1,2,3,14] [3001,3002] (fun _=>Bf) (fun _=>lEB 15 14 (.own 3112 3 (AZ b).length)) (fun _=>[(B7 b),CI,(Qs b)]) (fun _=>⟨Bf,[(3003,Z8M b),(B7 b),(3002,Z8s),(3112,Z8N b),(26,Z8u b),(30,Z8v b),(34,Z8w b),(3102,Z8D b),(3104,Z8F b),(3106,Z8H b),(3108,Z8J b),(3110,Z8L b),(3260,Z8y b),(3261,Z8z b),(3262,Z8A b),(3263,Z8B b)]⟩) hP hFl (Ij b hc kr) (fun _ _ => ?_)
 refine AF<|Al (ck (⟨Bf,(Zc b)⟩))<|AA<|AA<|rn ⟨Q8,(Zc b)⟩<|CH (ι:=Unit) (I:=fun _=>True) 3003 (Kf b (Qa b)) 62 (mkB 15 12) [1,2,3,16] [3001,3002] (fun _=>Bf) (fun _=>lEB 15 12 (Qo b)) (fun _=>[(B7 b),CI,(Qy b)]) (fun _=>⟨Bf,[(3003,Z8O b),(B7 b),(3002,Z8s),(3114,Z8P b),(26,Z8u b),(30,Z8v b),(34,Z8w b),(3102,Z8D b),(3104,Z8F b),(3106,Z8H b),(3108,Z8J b),(3110,Z8L b),(3112,Z8N b),(3260,Z8y b),(3261,Z8z b),(3262,Z8A b),(3263,Z8B b)]⟩) hP hFl (Ll b hc kr) (fun _ _ => ?_)
 refine AF<|Al (ck (⟨Bf,(JG b [(3003,Z8O b),(3102,Z8D b),(3104,Z8F b),(3106,Z8H b),(3108,Z8J b),(3110,Z8L b),(3112,Z8N b),(3114,Z8P b),(3260,Z8y b),(3261,Z8z b),(3262,Z8A b),(3263,Z8B b)])⟩))<|AA<|rn ⟨[(2,tP 3002 0)],[(26,Z8u b),(30,Z8v b),(34,Z8w b),(3002,Z8O b),(3102,Z8D b),(3104,Z8F b),(3106,Z8H b),(3108,Z8J b),(3110,Z8L b),(3112,Z8N b),(3114,Z8P b),(3260,Z8y b),(3261,Z8z b),(3262,Z8A b),(3263,Z8B b)]⟩<|AR ?_
 refine ⟨_,Cv.trans (ck (⟨[(2,tP 3002 0)],[(26,Z8u b),(3260,Z8y b),(3102,Z8D b),(30,Z8v b),(3104,Z8F b),(3106,Z8H b),(3108,Z8J b),(3110,Z8L b),(3114,Z8P b),(34,Z8w b),(3112,Z8N b),(3261,Z8z b),(3262,Z8A b),(3263,Z8B b),(3002,Z8O b)]⟩)) (Cv.refl _),.inl rfl,jU b,by kernel_rfl,iI (m:=[(3002,.cells (Kf b (Fp b (Qh b [.own 3112 3 (AZ b).length]))) 62)]) kr⟩
end
section
open Go.RowKit
def Z8Q:Blk:=.cells GX 62
variable (b:AC) (q:EO)
def Z8R:Blk:=.row 7 b.Parts.length (Hf b) 115
def Z8S:Blk:=.rowx 2 3 (fun i_ j_=>if i_<2 then (fun i_ j_=>if i_<1 then (fun _ _=>default) i_ j_ else (fun _ _=>default) (i_-1) j_) i_ j_ else (fun _ _=>default) (i_-2) j_) 69 [(0,(Ku b)),(1,(Kt b)),(2,(Ks b))]
def Z8T:Blk:=.row 6 (AK b).length (II b) 81
def Z8U:Blk:=.row 8 b.Vias.length (Hc b) 129
def Z8V:Blk:=.row 8 (Aw b).length (AV A4.c (Aw b)) 132
def Z8W:Blk:=.row 5 (Ay b).length (IM b) 135
def Z8X:Blk:=.row 4 (A2 b).length (IJ b) 137
def Z8Y:Blk:=.row 2 (Ae b).length (He b) 139
def Z8Z:Blk:=.row 20 (Ab b).length (IK b) 146
def Z90:Blk:=.row 3 b.Waivers.length (Hg b) 141
def Z91:Blk:=.row 3 (AZ b).length (Hd b) 78
def Z92:Blk:=.row 2 (Dd b).Pins.length (AV Ag.c (Dd b).Pins) 121
def Z93:Blk:=.row 2 (Dc b).Pins.length (AV Ag.c (Dc b).Pins) 121
def Z94:Blk:=.row 2 (Db b).Pins.length (AV Ag.c (Db b).Pins) 121
def Z95:Blk:=.cells (RM b) 62
def Z96:Blk:=.row 2 ((Dd b).Pins++[Ag.mk (DX q) ({ data := #[80,49] }:ByteArray)]).length (AV Ag.c ((Dd b).Pins++[Ag.mk (DX q) ({ data := #[80,49] }:ByteArray)])) 121
def Z97:Blk:=.rowx 2 3 (fun i_ j_=>if i_<2 then (fun i_ j_=>if i_<1 then (fun _ _=>default) i_ j_ else (fun _ _=>default) (i_-1) j_) i_ j_ else (fun _ _=>default) (i_-2) j_) 69 [(0,[.s (Dd b).Name,.own 163 2 ((Dd b).Pins++[Ag.mk (DX q) ({ data := #[80,49] }:ByteArray)]).length]),(1,(Kt b)),(2,(Ks b))]
def Z98:Blk:=.row 2 ((Dc b).Pins++[Ag.mk (DX q) ({ data := #[80,49] }:ByteArray)]).length (AV Ag.c ((Dc b).Pins++[Ag.mk (DX q) ({ data := #[80,49] }:ByteArray)])) 121
def Z99:Blk:=.rowx 2 3 (fun i_ j_=>if i_<2 then (fun i_ j_=>if i_<1 then (fun _ _=>default) i_ j_ else (fun _ _=>default) (i_-1) j_) i_ j_ else (fun _ _=>default) (i_-2) j_) 69 [(0,(Ku b)),(1,[.s (Dc b).Name,.own 163 2 ((Dc b).Pins++[Ag.mk (DX q) ({ data := #[80,49] }:ByteArray)]).length]),(2,(Ks b))]
def Z9a:Blk:=.row 2 ((Db b).Pins++[Ag.mk (DX q) ({ data := #[80,49] }:ByteArray)]).length (AV Ag.c ((Db b).Pins++[Ag.mk (DX q) ({ data := #[80,49] }:ByteArray)])) 121
def Z9b:Blk:=.rowx 2 3 (fun i_ j_=>if i_<2 then (fun i_ j_=>if i_<1 then (fun _ _=>default) i_ j_ else (fun _ _=>default) (i_-1) j_) i_ j_ else (fun _ _=>default) (i_-2) j_) 69 [(0,(Ku b)),(1,(Kt b)),(2,[.s (Db b).Name,.own 163 2 ((Db b).Pins++[Ag.mk (DX q) ({ data := #[80,49] }:ByteArray)]).length])]
def NJ (b:AC) (q:EO):AC:=bif decide (((Int.tmod (AH q.e2 64) ((3:Nat):Int)).toNat:Nat)=0) then ({ Cp b with Nets:=[A9.mk (b.Nets.getD 0 default).Name ((b.Nets.getD 0 default).Pins++[Ag.mk (BJ (AH q.e1 48)) ({ data := #[80,49] }:ByteArray)]),b.Nets.getD 1 default,b.Nets.getD 2 default] }) else (bif decide (((Int.tmod (AH q.e2 64) ((3:Nat):Int)).toNat:Nat)=1) then ({ Cp b with Nets:=[b.Nets.getD 0 default,A9.mk (b.Nets.getD 1 default).Name ((b.Nets.getD 1 default).Pins++[Ag.mk (BJ (AH q.e1 48)) ({ data := #[80,49] }:ByteArray)]),b.Nets.getD 2 default] }) else ({ Cp b with Nets:=[b.Nets.getD 0 default,b.Nets.getD 1 default,A9.mk (b.Nets.getD 2 default).Name ((b.Nets.getD 2 default).Pins++[Ag.mk (BJ (AH q.e1 48)) ({ data := #[80,49] }:ByteArray)])] }))
def cOddN:CT:=(23,(Nz b q),.val [] (.av (.agg (AC.c (NJ b q)))))
abbrev Kc (t_:List (Nat×Blk)):List (Nat×Blk):=(4,Z8Q)::(5,Z95 b)::(26,Z8R b)::(30,Z8U b)::(34,Z90 b)::t_
abbrev YS:List (Nat×Blk):=(Kc b [(3102,Z8T b),(3104,Z8V b),(3106,Z8W b),(3108,Z8X b),(3110,Z8Y b),(3112,Z91 b),(3114,Z8Z b),(3260,Z8S b),(3261,Z92 b),(3262,Z93 b),(3263,Z94 b)])
abbrev MF (t_:List (Nat×Blk)):List (Nat×Blk):=(4,Z95 b)::(26,Z8R b)::(30,Z8U b)::(34,Z90 b)::(3102,Z8T b)::(3104,Z8V b)::(3106,Z8W b)::(3108,Z8X b)::(3110,Z8Y b)::(3112,Z91 b)::(3114,Z8Z b)::t_
theorem au17 {p:Prop} (h:p:=by first | (with_reducible exact hc) | (with_reducible exact hlen) | (with_reducible exact hN) | (with_reducible exact hK) | (with_reducible exact hN.1) | (with_reducible exact hK.1) | with_reducible assumption | omega | decide | (simp only [List.length_cons,List.length_nil,List.length_append];omega) | assumption):p:=h
set_option maxHeartbeats 40000000 in
theorem pOddN (b:AC) (q:EO) (hc:Ce b) (hq:AH q.e0 26=7) (hlen:(b.Nets.length:Int)=3):PuP 23 (cOddN b q).2.1 (.av (.agg (AC.c (NJ b q)))):=by
 refine pwf Try.func23 fun W0 M0 => ?_
 have hl0:=hc.lParts
 have hl1:=hc.lNets
 have hl2:=hc.lTracks
 have hl3:=hc.lVias
 have hl4:=hc.lPours
 have hl5:=hc.lKeeps
 have hl6:=hc.lSlots
 have hl7:=hc.lClasses
 have hl8:=hc.lWaivers
 have hl9:=hc.lMatches
 have hl10:=hc.lRules
 have hN:0<=AH q.e1 48/\AH q.e1 48<48:=I6 _ _ (by decide) (by decide)
 have hK0:=I6 q.e2 64 (by decide) (by decide)
 have hK:0<=AH q.e2 64/\AH q.e2 64<64:=hK0
 have hb0:=hc.pin 0
 have hb1:=hc.pin 1
 have hb2:=hc.pin 2
 refine AA<|rn ⟨OD,[(DQ b),(FY q),(4,Z8Q)]⟩<|AA<|Dp<|F2 DU 1 [] [] [] [3,4,11] [3,4] [] ⟨(OJ b),[(FY q),(4,Z8Q)]⟩ .nil kr .nil<|H4 (ι:=Unit) (I:=fun _=>True) (fun _=>⟨[(3,tP 3 0),(4,tP 4 0),(OG b),(12,.av (.agg (RM b)))],[(26,Z8R b),(3260,Z8S b),(3102,Z8T b),(30,Z8U b),(3104,Z8V b),(3106,Z8W b),(3108,Z8X b),(3110,Z8Y b),(3114,Z8Z b),(34,Z90 b),(3112,Z91 b),(3261,Z92 b),(3262,Z93 b),(3263,Z94 b),(FY q),(4,Z8Q)]⟩) hk0 ⟨⟨_,_,rfl,rfl,⟨fun _=>default,by kernel_rfl⟩,by kernel_rfl⟩,fun _ _=>by kernel_rfl,rfl,rfl⟩ (qCyN3 b au17 au17) (fun _=>by kernel_rfl) (fun _=>by kernel_rfl) (fun _ _ => ?_)
 refine Ew DU [] [] [] [3,4,5] [3,4,5,26,30,34,3102,3104,3106,3108,3110,3112,3114,3260,3261,3262,3263] [] ⟨OC,[(FY q),(4,Z8Q),(5,Z95 b),(26,Z8R b),(30,Z8U b),(34,Z90 b),(3102,Z8T b),(3104,Z8V b),(3106,Z8W b),(3108,Z8X b),(3110,Z8Y b),(3112,Z91 b),(3114,Z8Z b),(3260,Z8S b),(3261,Z92 b),(3262,Z93 b),(3263,Z94 b)]⟩ .nil kr .nil<|AF<|AA<|oc [(15,E5 q.e1 48)] [0<=(1:Int)/\(1:Int)<(3:Int),As (E5 q.e1 48).2.1] (.cons (Gh q.e1 48 au17) .nil) (.cons (by decide) (.cons rfl .nil))<|AF<|AA<|oc [(18,E5 q.e2 64)] [0<=(2:Int)/\(2:Int)<(3:Int),As (E5 q.e2 64).2.1] (.cons (Gh q.e2 64 au17) .nil) (.cons (by decide) (.cons rfl .nil))<|AF<|AA<|AA<|rc [(21,E5 q.e0 26)] [0<=(0:Int)/\(0:Int)<(3:Int),As (E5 q.e0 26).2.1] ⟨[(4,tP 4 0),(5,tP 5 0),(6,tI (AH q.e1 48)),(7,tI (AH q.e2 64)),(21,tI (AH q.e0 26))],[(4,Z8Q),(5,Z95 b),(26,Z8R b),(30,Z8U b),(34,Z90 b),(3102,Z8T b),(3104,Z8V b),(3106,Z8W b),(3108,Z8X b),(3110,Z8Y b),(3112,Z91 b),(3114,Z8Z b),(3260,Z8S b),(3261,Z92 b),(3262,Z93 b),(3263,Z94 b)]⟩ (.cons (Gh q.e0 26 au17) .nil) (.cons (by decide) (.cons rfl .nil)) ?_
 (try rw [hq])
 refine AF<|AM<|AA<|on<|Ak kr<|AA<|on<|Ak kr<|AA<|on<|Ak kr<|AA<|on<|Ak kr<|AA<|on<|Ak kr<|AA<|rn ⟨(B1 q [(21,tI 7),(101,tB false)]),(YS b)⟩<|Ak kr<|AA<|on<|Ak kr<|AA<|on<|Bq kr<|AA<|rn ⟨(B1 q [(145,tB (decide ((0:Int)<((3:Nat):Int))))]),(YS b)⟩ ?_
 have h1:(decide ((0:Int)<((3:Nat):Int)))=true:=(by decide)
 have g1:=oT h1
 refine AL _ rfl (fun _ => ?_) (fun h=>absurd (h1.symm.trans h) (by decide))
 refine AA<|dw [] [] [(((3:Nat):Int):Int)≠0,0<=(Int.tmod (AH q.e2 64) ((3:Nat):Int):Int)/\(Int.tmod (AH q.e2 64) ((3:Nat):Int):Int)<((3:Nat):Int)] ⟨[(4,tP 4 0),(5,tP 5 0),(Pe q),(8,.av (.one (.rptr 3260 2 (Int.tmod (AH q.e2 64) ((3:Nat):Int)).toNat 0)))],(YS b)⟩ .nil (.cons au13 (.cons (by first | decide | omega | (have:=tmb hK.1 (n:=((3:Nat):Int)) (by decide);omega)) .nil))<|AF<|NG (decide (((Int.tmod (AH q.e2 64) ((3:Nat):Int)).toNat:Nat)=0)) (fun h2 => ?_) (fun h2 => ?_)
 ·have g2:=oT h2
  (try rw [g2])
  refine dw [] [(160,Cg (AH q.e1 48))] [As (Cg (AH q.e1 48)).2.1,(b.Nets.getD 0 default).Pins.length=(b.Nets.getD 0 default).Pins.length,(b.Nets.getD 0 default).Pins.length+1<=maxLen,((b.Nets.getD 0 default).Pins.length+1)*32<=140737488355328] ⟨FC,(Kc b [(163,.row 2 ((Dd b).Pins.length+1) (fun i_ j_=>if i_<(Dd b).Pins.length then (AV Ag.c (Dd b).Pins) i_ j_ else (BF 2 1 [.s (DX q),.s ({ data := #[80,49] }:ByteArray)]) (i_-(Dd b).Pins.length) j_) 121),(3102,Z8T b),(3104,Z8V b),(3106,Z8W b),(3108,Z8X b),(3110,Z8Y b),(3112,Z91 b),(3114,Z8Z b),(3260,.rowx 2 3 (fun i_ j_=>if i_<2 then (fun i_ j_=>if i_<1 then (fun _ _=>default) i_ j_ else (fun _ _=>default) (i_-1) j_) i_ j_ else (fun _ _=>default) (i_-2) j_) 69 [(0,[.s (Dd b).Name,.own 163 2 ((Dd b).Pins.length+1)]),(1,(Kt b)),(2,(Ks b))]),(3262,Z93 b),(3263,Z94 b)])⟩ (.cons (EZ (AH q.e1 48) au17) .nil) (.cons rfl (.cons rfl (.cons au9 (.cons au9 .nil))))<|A0<|AF ?_
  refine Al (C1 (⟨FC,(Kc b [(163,Z96 b q),(3102,Z8T b),(3104,Z8V b),(3106,Z8W b),(3108,Z8X b),(3110,Z8Y b),(3112,Z91 b),(3114,Z8Z b),(3260,Z97 b q),(3262,Z93 b),(3263,Z94 b)])⟩) lr (.cons ⟨rfl,.refl _⟩ (.cons ⟨rfl,.refl _⟩ (.cons ⟨rfl,.refl _⟩ (.cons ⟨rfl,.refl _⟩ (.cons ⟨rfl,.refl _⟩ (.cons ⟨rfl,CX 121 (Ar (Af 2 Ag.c (b.Nets.getD 0 default).Pins) (BR (c:=Ag.c) (xs:=([Ag.mk (BJ (AH q.e1 48)) ({ data := #[80,49] }:ByteArray)]:List Ag)) rfl kr))⟩ (.cons ⟨rfl,.refl _⟩ (.cons ⟨rfl,.refl _⟩ (.cons ⟨rfl,.refl _⟩ (.cons ⟨rfl,.refl _⟩ (.cons ⟨rfl,.refl _⟩ (.cons ⟨rfl,.refl _⟩ (.cons ⟨rfl,.refl _⟩ (.cons ⟨rfl,.rowx _ _ _ _ (.cons ⟨rfl,(rr (.cons (.own _ _ au16) .nil))⟩ (.cons ⟨rfl,(rr2 .nil)⟩ (.cons ⟨rfl,(rr2 .nil)⟩ .nil)))⟩ lr)))))))))))))))<|AA<|rn ⟨[(4,tP 4 0)],[(4,Z95 b),(26,Z8R b),(30,Z8U b),(34,Z90 b),(163,Z96 b q),(3102,Z8T b),(3104,Z8V b),(3106,Z8W b),(3108,Z8X b),(3110,Z8Y b),(3112,Z91 b),(3114,Z8Z b),(3260,Z97 b q),(3262,Z93 b),(3263,Z94 b)]⟩<|AR ?_
  exact zy (Cv.trans (vf 163 hk0) (Cv.trans (vf 3262 hk0) (Cv.trans (I8 (⟨[(4,tP 4 0)],(MF b [(3260,.rowx 2 3 (fun i_ j_=>if i_<2 then (fun i_ j_=>if i_<1 then (fun _ _=>default) i_ j_ else (fun _ _=>default) (i_-1) j_) i_ j_ else (fun _ _=>default) (i_-2) j_) 69 [(0,[.s (Dd b).Name,lst 2 Ag.c ((Dd b).Pins++[Ag.mk (DX q) ({ data := #[80,49] }:ByteArray)])]),(1,(A9.c (Dc b))),(2,(A9.c (Db b)))])])⟩) 3263 hk0) (Cv.trans (HI (⟨[(4,tP 4 0)],(MF b [(3260,.row 2 3 (BF 2 3 [.s (Dd b).Name,lst 2 Ag.c ((Dd b).Pins++[Ag.mk (DX q) ({ data := #[80,49] }:ByteArray)]),.s (Dc b).Name,lst 2 Ag.c (Dc b).Pins,.s (Db b).Name,lst 2 Ag.c (Db b).Pins]) 69)])⟩) 3260 2 3 (fun i_ j_=>if i_<2 then (fun i_ j_=>if i_<1 then (fun _ _=>default) i_ j_ else (fun _ _=>default) (i_-1) j_) i_ j_ else (fun _ _=>default) (i_-2) j_) 69 [[.s (b.Nets.getD 0 default).Name,lst 2 Ag.c ((b.Nets.getD 0 default).Pins++[Ag.mk (BJ (AH q.e1 48)) ({ data := #[80,49] }:ByteArray)])],(A9.c (b.Nets.getD 1 default)),(A9.c (b.Nets.getD 2 default))] kr kr kr kr) (Cv.trans (A6 3260 (A1 2 A9.c ([A9.mk (b.Nets.getD 0 default).Name ((b.Nets.getD 0 default).Pins++[Ag.mk (BJ (AH q.e1 48)) ({ data := #[80,49] }:ByteArray)]),b.Nets.getD 1 default,b.Nets.getD 2 default]:List A9))) (B2 [26,3260,3102,30,3104,3106,3108,3110,3114,34,3112] hk0)))))) (by simp only [NJ,h1,h2,cond_true,cond_false] <;> kernel_rfl)
 have g2:=oF h2
 refine NG (decide (((Int.tmod (AH q.e2 64) ((3:Nat):Int)).toNat:Nat)=1)) (fun h3 => ?_) (fun h3 => ?_)
 ·have g3:=oT h3
  (try rw [g3])
  refine dw [] [(160,Cg (AH q.e1 48))] [As (Cg (AH q.e1 48)).2.1,(b.Nets.getD 1 default).Pins.length=(b.Nets.getD 1 default).Pins.length,(b.Nets.getD 1 default).Pins.length+1<=maxLen,((b.Nets.getD 1 default).Pins.length+1)*32<=140737488355328] ⟨FC,(Kc b [(163,.row 2 ((Dc b).Pins.length+1) (fun i_ j_=>if i_<(Dc b).Pins.length then (AV Ag.c (Dc b).Pins) i_ j_ else (BF 2 1 [.s (DX q),.s ({ data := #[80,49] }:ByteArray)]) (i_-(Dc b).Pins.length) j_) 121),(3102,Z8T b),(3104,Z8V b),(3106,Z8W b),(3108,Z8X b),(3110,Z8Y b),(3112,Z91 b),(3114,Z8Z b),(3260,.rowx 2 3 (fun i_ j_=>if i_<2 then (fun i_ j_=>if i_<1 then (fun _ _=>default) i_ j_ else (fun _ _=>default) (i_-1) j_) i_ j_ else (fun _ _=>default) (i_-2) j_) 69 [(0,(Ku b)),(1,[.s (Dc b).Name,.own 163 2 ((Dc b).Pins.length+1)]),(2,(Ks b))]),(3261,Z92 b),(3263,Z94 b)])⟩ (.cons (EZ (AH q.e1 48) au17) .nil) (.cons rfl (.cons rfl (.cons au9 (.cons au9 .nil))))<|A0<|AF ?_
  refine Al (C1 (⟨FC,(Kc b [(163,Z98 b q),(3102,Z8T b),(3104,Z8V b),(3106,Z8W b),(3108,Z8X b),(3110,Z8Y b),(3112,Z91 b),(3114,Z8Z b),(3260,Z99 b q),(3261,Z92 b),(3263,Z94 b)])⟩) lr (.cons ⟨rfl,.refl _⟩ (.cons ⟨rfl,.refl _⟩ (.cons ⟨rfl,.refl _⟩ (.cons ⟨rfl,.refl _⟩ (.cons ⟨rfl,.refl _⟩ (.cons ⟨rfl,CX 121 (Ar (Af 2 Ag.c (b.Nets.getD 1 default).Pins) (BR (c:=Ag.c) (xs:=([Ag.mk (BJ (AH q.e1 48)) ({ data := #[80,49] }:ByteArray)]:List Ag)) rfl kr))⟩ (.cons ⟨rfl,.refl _⟩ (.cons ⟨rfl,.refl _⟩ (.cons ⟨rfl,.refl _⟩ (.cons ⟨rfl,.refl _⟩ (.cons ⟨rfl,.refl _⟩ (.cons ⟨rfl,.refl _⟩ (.cons ⟨rfl,.refl _⟩ (.cons ⟨rfl,.rowx _ _ _ _ (.cons ⟨rfl,(rr2 .nil)⟩ (.cons ⟨rfl,(rr (.cons (.own _ _ au16) .nil))⟩ (.cons ⟨rfl,(rr2 .nil)⟩ .nil)))⟩ lr)))))))))))))))<|AA<|rn ⟨[(4,tP 4 0)],[(4,Z95 b),(26,Z8R b),(30,Z8U b),(34,Z90 b),(163,Z98 b q),(3102,Z8T b),(3104,Z8V b),(3106,Z8W b),(3108,Z8X b),(3110,Z8Y b),(3112,Z91 b),(3114,Z8Z b),(3260,Z99 b q),(3261,Z92 b),(3263,Z94 b)]⟩<|AR ?_
  exact zy (Cv.trans (vf 3261 hk0) (Cv.trans (vf 163 hk0) (Cv.trans (I8 (⟨[(4,tP 4 0)],(MF b [(3260,.rowx 2 3 (fun i_ j_=>if i_<2 then (fun i_ j_=>if i_<1 then (fun _ _=>default) i_ j_ else (fun _ _=>default) (i_-1) j_) i_ j_ else (fun _ _=>default) (i_-2) j_) 69 [(0,(A9.c (Dd b))),(1,[.s (Dc b).Name,lst 2 Ag.c ((Dc b).Pins++[Ag.mk (DX q) ({ data := #[80,49] }:ByteArray)])]),(2,(A9.c (Db b)))])])⟩) 3263 hk0) (Cv.trans (HI (⟨[(4,tP 4 0)],(MF b [(3260,.row 2 3 (BF 2 3 [.s (Dd b).Name,lst 2 Ag.c (Dd b).Pins,.s (Dc b).Name,lst 2 Ag.c ((Dc b).Pins++[Ag.mk (DX q) ({ data := #[80,49] }:ByteArray)]),.s (Db b).Name,lst 2 Ag.c (Db b).Pins]) 69)])⟩) 3260 2 3 (fun i_ j_=>if i_<2 then (fun i_ j_=>if i_<1 then (fun _ _=>default) i_ j_ else (fun _ _=>default) (i_-1) j_) i_ j_ else (fun _ _=>default) (i_-2) j_) 69 [(A9.c (b.Nets.getD 0 default)),[.s (b.Nets.getD 1 default).Name,lst 2 Ag.c ((b.Nets.getD 1 default).Pins++[Ag.mk (BJ (AH q.e1 48)) ({ data := #[80,49] }:ByteArray)])],(A9.c (b.Nets.getD 2 default))] kr kr kr kr) (Cv.trans (A6 3260 (A1 2 A9.c ([b.Nets.getD 0 default,A9.mk (b.Nets.getD 1 default).Name ((b.Nets.getD 1 default).Pins++[Ag.mk (BJ (AH q.e1 48)) ({ data := #[80,49] }:ByteArray)]),b.Nets.getD 2 default]:List A9))) (B2 [26,3260,3102,30,3104,3106,3108,3110,3114,34,3112] hk0)))))) (by simp only [NJ,h1,h2,h3,cond_true,cond_false] <;> kernel_rfl)
 have g3:=oF h3
 have g4:((Int.tmod (AH q.e2 64) ((3:Nat):Int)).toNat:Nat)=2:=(by have:=tmb hK.1 (n:=((3:Nat):Int)) (by decide);omega)
 (try rw [g4])
 refine dw [] [(160,Cg (AH q.e1 48))] [As (Cg (AH q.e1 48)).2.1,(b.Nets.getD 2 default).Pins.length=(b.Nets.getD 2 default).Pins.length,(b.Nets.getD 2 default).Pins.length+1<=maxLen,((b.Nets.getD 2 default).Pins.length+1)*32<=140737488355328] ⟨FC,(Kc b [(163,.row 2 ((Db b).Pins.length+1) (fun i_ j_=>if i_<(Db b).Pins.length then (AV Ag.c (Db b).Pins) i_ j_ else (BF 2 1 [.s (DX q),.s ({ data := #[80,49] }:ByteArray)]) (i_-(Db b).Pins.length) j_) 121),(3102,Z8T b),(3104,Z8V b),(3106,Z8W b),(3108,Z8X b),(3110,Z8Y b),(3112,Z91 b),(3114,Z8Z b),(3260,.rowx 2 3 (fun i_ j_=>if i_<2 then (fun i_ j_=>if i_<1 then (fun _ _=>default) i_ j_ else (fun _ _=>default) (i_-1) j_) i_ j_ else (fun _ _=>default) (i_-2) j_) 69 [(0,(Ku b)),(1,(Kt b)),(2,[.s (Db b).Name,.own 163 2 ((Db b).Pins.length+1)])]),(3261,Z92 b),(3262,Z93 b)])⟩ (.cons (EZ (AH q.e1 48) au17) .nil) (.cons rfl (.cons rfl (.cons au9 (.cons au9 .nil))))<|A0<|AF ?_
 refine Al (C1 (⟨FC,(Kc b [(163,Z9a b q),(3102,Z8T b),(3104,Z8V b),(3106,Z8W b),(3108,Z8X b),(3110,Z8Y b),(3112,Z91 b),(3114,Z8Z b),(3260,Z9b b q),(3261,Z92 b),(3262,Z93 b)])⟩) lr (.cons ⟨rfl,.refl _⟩ (.cons ⟨rfl,.refl _⟩ (.cons ⟨rfl,.refl _⟩ (.cons ⟨rfl,.refl _⟩ (.cons ⟨rfl,.refl _⟩ (.cons ⟨rfl,CX 121 (Ar (Af 2 Ag.c (b.Nets.getD 2 default).Pins) (BR (c:=Ag.c) (xs:=([Ag.mk (BJ (AH q.e1 48)) ({ data := #[80,49] }:ByteArray)]:List Ag)) rfl kr))⟩ (.cons ⟨rfl,.refl _⟩ (.cons ⟨rfl,.refl _⟩ (.cons ⟨rfl,.refl _⟩ (.cons ⟨rfl,.refl _⟩ (.cons ⟨rfl,.refl _⟩ (.cons ⟨rfl,.refl _⟩ (.cons ⟨rfl,.refl _⟩ (.cons ⟨rfl,.rowx _ _ _ _ (.cons ⟨rfl,(rr2 .nil)⟩ (.cons ⟨rfl,(rr2 .nil)⟩ (.cons ⟨rfl,(rr (.cons (.own _ _ au16) .nil))⟩ .nil)))⟩ lr)))))))))))))))<|AA<|rn ⟨[(4,tP 4 0)],[(4,Z95 b),(26,Z8R b),(30,Z8U b),(34,Z90 b),(163,Z9a b q),(3102,Z8T b),(3104,Z8V b),(3106,Z8W b),(3108,Z8X b),(3110,Z8Y b),(3112,Z91 b),(3114,Z8Z b),(3260,Z9b b q),(3261,Z92 b),(3262,Z93 b)]⟩<|AR ?_
 exact zy (Cv.trans (vf 3261 hk0) (Cv.trans (vf 3262 hk0) (Cv.trans (I8 (⟨[(4,tP 4 0)],(MF b [(3260,.rowx 2 3 (fun i_ j_=>if i_<2 then (fun i_ j_=>if i_<1 then (fun _ _=>default) i_ j_ else (fun _ _=>default) (i_-1) j_) i_ j_ else (fun _ _=>default) (i_-2) j_) 69 [(0,(A9.c (Dd b))),(1,(A9.c (Dc b))),(2,[.s (Db b).Name,lst 2 Ag.c ((Db b).Pins++[Ag.mk (DX q) ({ data := #[80,49] }:ByteArray)])])])])⟩) 163 hk0) (Cv.trans (HI (⟨[(4,tP 4 0)],(MF b [(3260,.row 2 3 (BF 2 3 [.s (Dd b).Name,lst 2 Ag.c (Dd b).Pins,.s (Dc b).Name,lst 2 Ag.c (Dc b).Pins,.s (Db b).Name,lst 2 Ag.c ((Db b).Pins++[Ag.mk (DX q) ({ data := #[80,49] }:ByteArray)])]) 69)])⟩) 3260 2 3 (fun i_ j_=>if i_<2 then (fun i_ j_=>if i_<1 then (fun _ _=>default) i_ j_ else (fun _ _=>default) (i_-1) j_) i_ j_ else (fun _ _=>default) (i_-2) j_) 69 [(A9.c (b.Nets.getD 0 default)),(A9.c (b.Nets.getD 1 default)),[.s (b.Nets.getD 2 default).Name,lst 2 Ag.c ((b.Nets.getD 2 default).Pins++[Ag.mk (BJ (AH q.e1 48)) ({ data := #[80,49] }:ByteArray)])]] kr kr kr kr) (Cv.trans (A6 3260 (A1 2 A9.c ([b.Nets.getD 0 default,b.Nets.getD 1 default,A9.mk (b.Nets.getD 2 default).Name ((b.Nets.getD 2 default).Pins++[Ag.mk (BJ (AH q.e1 48)) ({ data := #[80,49] }:ByteArray)])]:List A9))) (B2 [26,3260,3102,30,3104,3106,3108,3110,3114,34,3112] hk0)))))) (by simp only [NJ,h1,h2,h3,cond_true,cond_false] <;> kernel_rfl)
end
section
open Go.RowKit
def Z9c:Blk:=.cells GX 62
variable (b:AC) (v:Nat->Value)
abbrev ZO:List Cl:=(Cx v [vN,.val (v 9),.val (v 10),.val (v 11),.val (v 12),.val (v 13),.val (v 14)])
def Z9d:Blk:=.cells (ZO v) 62
abbrev E1:=b.Pours.getD 0 default
abbrev JL:=AV Ah.c (E1 b).Rects
def Z9e:Blk:=.row 4 (E1 b).Rects.length (JL b) 99
abbrev IH (t_:List Cl):List Cl:=(.i (E1 b).Id)::(.s (E1 b).Net)::(.i (E1 b).Layer)::(.i (E1 b).Pitch)::(.i (E1 b).Priority)::(.i (E1 b).Relief)::(.i (E1 b).Spoke)::t_
abbrev ZH:List Cl:=(IH b [.own 100 4 (E1 b).Rects.length])
def Z9f:Blk:=.rowx 8 1 (fun _ _=>default) 132 [(0,(ZH b))]
abbrev ZT:List Cl:=(Cx v [.own 106 8 1,.val (v 9),.val (v 10),.val (v 11),.val (v 12),.val (v 13),.val (v 14)])
def Z9g:Blk:=.cells (ZT v) 62
abbrev RI:List Cl:=(IH b [.own 2000 4 (E1 b).Rects.length])
def Z9h:Blk:=.rowx 8 1 (fun _ _=>default) 132 [(0,(RI b))]
abbrev ZU:List Cl:=(Cx v [.own 2001 8 1,.val (v 9),.val (v 10),.val (v 11),.val (v 12),.val (v 13),.val (v 14)])
def Z9i:Blk:=.cells (ZU v) 62
abbrev Cw:=b.Pours.getD 1 default
def Z9j:Blk:=.row 4 (Cw b).Rects.length (AV Ah.c (Cw b).Rects) 99
abbrev ME (t_:List Cl):List Cl:=(.i (Cw b).Id)::(.s (Cw b).Net)::(.i (Cw b).Layer)::(.i (Cw b).Pitch)::(.i (Cw b).Priority)::(.i (Cw b).Relief)::(.i (Cw b).Spoke)::t_
def Z9k:Blk:=.rowx 8 2 (fun i_ j_=>if i_<1 then (fun _ _=>default) i_ j_ else (fun _ _=>default) (i_-1) j_) 132 [(0,(RI b)),(1,(ME b [.own 100 4 (Cw b).Rects.length]))]
def Z9l:Blk:=.cells (Cx v [.own 106 8 2,.val (v 9),.val (v 10),.val (v 11),.val (v 12),.val (v 13),.val (v 14)]) 62
def Z9m:Blk:=.rowx 8 2 (fun i_ j_=>if i_<1 then (fun _ _=>default) i_ j_ else (fun _ _=>default) (i_-1) j_) 132 [(0,(RI b)),(1,(ME b [.own 2002 4 (Cw b).Rects.length]))]
def Z9n:Blk:=.cells (Cx v [.own 2003 8 2,.val (v 9),.val (v 10),.val (v 11),.val (v 12),.val (v 13),.val (v 14)]) 62
def Z9o:Blk:=.cells (Cx v [.own 3340 8 2,.val (v 9),.val (v 10),.val (v 11),.val (v 12),.val (v 13),.val (v 14)]) 62
abbrev ON:List Cl:=(ME b [.own 3342 4 (Cw b).Rects.length])
abbrev OM:List Cl:=(IH b [.own 3341 4 (E1 b).Rects.length])
def Z9p:Blk:=.rowx 8 2 (fun i_ j_=>if i_<1 then (fun _ _=>default) i_ j_ else (fun _ _=>default) (i_-1) j_) 132 [(0,(OM b)),(1,(ON b))]
abbrev sCxP2 (b:AC) (v:Nat->Value):AS:=⟨Bf,[(3003,Z9o v),(B7 b),(3002,Z9c),(3340,Z9p b),(3341,Z9e b),(3342,Z9j b)]⟩
set_option maxHeartbeats 4000000 in
theorem gCxP2 (b:AC) (hc:Ce b) (hlen:(b.Pours.length:Int)=2) {c:Code} (hpc:Try.f59.body.bind (F9 [true,true,true,true,false,true])=some c):NZ Try.prog 229 [3003,3001,3002] c (fun _:Unit=>True) (fun v=>⟨[(1,tP 3001 0),(2,tP 3002 0),(3,tP 3003 0),(7,tI 0)],[(3003,.cells [.val (v 0),.val (v 1),.val (v 2),.val (v 3),.val (v 4),.val (v 5),.val (v 6),.val (v 7),vN,.val (v 9),.val (v 10),.val (v 11),.val (v 12),.val (v 13),.val (v 14)] 62),(3001,.cells (AC.c b) 62),(3002,.cells [.i 0,.i 0,vN,.i 0,vN,vN,vN,vN,vN,vN,vN,vN,vN,vN,vN] 62)]⟩) (fun v _=>sCxP2 b v):=by
 cases hpc
 intro W0 M0 X v hP hFl
 show AWp _ _ _ _ _ _ _ _ ⟨[(1,tP 3001 0),(2,tP 3002 0),(3,tP 3003 0),(7,tI 0)],[(3003,.cells [.val (v 0),.val (v 1),.val (v 2),.val (v 3),.val (v 4),.val (v 5),.val (v 6),.val (v 7),vN,.val (v 9),.val (v 10),.val (v 11),.val (v 12),.val (v 13),.val (v 14)] 62),(3001,.cells (AC.c b) 62),(3002,.cells [.i 0,.i 0,vN,.i 0,vN,vN,vN,vN,vN,vN,vN,vN,vN,vN,vN] 62)]⟩
 have h0:=hc.lParts
 have h1:=hc.lNets
 have h2:=hc.lTracks
 have h3:=hc.lVias
 have h4:=hc.lPours
 have h5:=hc.lKeeps
 have h6:=hc.lSlots
 have h7:=hc.lClasses
 have h8:=hc.lWaivers
 have h9:=hc.lMatches
 have h10:=hc.lRules
 have hr:=hc.rok
 have hb0:=hc.rec' 0
 have hb1:=hc.rec' 1
 refine AM<|Dr 3<|Ba<|AA<|AA<|rn ⟨[(1,tP 3001 0),(2,tP 3002 0),(3,tP 3003 0),(7,tI 0),(89,tB (decide ((0:Int)<(b.Pours.length:Int))))],[(3001,.cells (AC.c b) 62),(3002,Z9c),(3003,Z9d v)]⟩ ?_
 have h1:(decide ((0:Int)<(b.Pours.length:Int)))=true:=(by rw [hlen];decide)
 have g1:=oT h1
 refine AL _ rfl (fun _ => ?_) (fun h=>absurd (h1.symm.trans h) (by decide))
 refine AQ<|AF<|AA<|AM<|AA<|rc [] [0<=(0:Int)/\(0:Int)<((b.Pours.length:Nat):Int)] ⟨[(1,tP 3001 0),(2,tP 3002 0),(3,tP 3003 0),(7,tI 0),(8,tP 8 0)],[(8,.cells (A4.c (b.Pours.getD 0 default)) 132),(3001,.cells (AC.c b) 62),(3002,Z9c),(3003,Z9d v)]⟩ .nil (.cons (by first | decide | omega | (rw [hlen];decide) | (rw [show (b.Pours.length:Int)=2 from hlen];decide)) .nil)<|AF<|AA<|CN DU [97] [] [] [1,2,3,7,8] [8,100,3001,3002,3003] [0=0,0+(b.Pours.getD 0 default).Rects.length<=maxLen,(0+(b.Pours.getD 0 default).Rects.length)*32<=140737488355328] ⟨[(1,tP 3001 0),(2,tP 3002 0),(3,tP 3003 0),(7,tI 0),(8,tP 8 0)],[(8,.cells [.i (b.Pours.getD 0 default).Id,.s (b.Pours.getD 0 default).Net,.i (b.Pours.getD 0 default).Layer,.i (b.Pours.getD 0 default).Pitch,.i (b.Pours.getD 0 default).Priority,.i (b.Pours.getD 0 default).Relief,.i (b.Pours.getD 0 default).Spoke,.own 100 4 (0+(b.Pours.getD 0 default).Rects.length)] 132),(100,.row 4 (0+(b.Pours.getD 0 default).Rects.length) (fun i_ j_=>if i_<0 then (BF 4 0 []) i_ j_ else (AV Ah.c (b.Pours.getD 0 default).Rects) (i_-0) j_) 99),(3001,.cells (AC.c b) 62),(3002,Z9c),(3003,Z9d v)]⟩ .nil kr (.cons rfl (.cons au9 (.cons au9 .nil)))<|AF ?_
 refine Al (A6 100 (Ar (A1 4 Ah.c (([]:List Ah):List Ah)) (Af 4 Ah.c (b.Pours.getD 0 default).Rects)))<|oc [] [1=1,0<1,1<=maxLen,1*88<=140737488355328] .nil (.cons rfl (.cons (by decide) (.cons au9 (.cons au9 .nil))))<|A0<|AF<|rn ⟨[(1,tP 3001 0),(2,tP 3002 0),(3,tP 3003 0),(7,tI 1)],[(100,Z9e b),(106,Z9f b),(3001,.cells (AC.c b) 62),(3002,Z9c),(3003,Z9g v)]⟩<|Ba<|Al (Cv.trans (CM (⟨[(1,tP 3001 0),(2,tP 3002 0),(3,tP 3003 0),(7,tI 1)],[(2000,Z9e b),(106,Z9h b),(3001,.cells (AC.c b) 62),(3002,Z9c),(3003,Z9g v)]⟩) 100 2000 (K:=[3003,3001,3002]) hP rfl rfl kr kr) (CM (⟨[(1,tP 3001 0),(2,tP 3002 0),(3,tP 3003 0),(7,tI 1)],[(2000,Z9e b),(2001,Z9h b),(3001,.cells (AC.c b) 62),(3002,Z9c),(3003,Z9i v)]⟩) 106 2001 (K:=[3003,3001,3002]) hP rfl rfl kr kr))<|AA<|AA<|rn ⟨[(1,tP 3001 0),(2,tP 3002 0),(3,tP 3003 0),(7,tI 1),(89,tB (decide ((1:Int)<(b.Pours.length:Int))))],[(2000,Z9e b),(2001,Z9h b),(3001,.cells (AC.c b) 62),(3002,Z9c),(3003,Z9i v)]⟩ ?_
 have h2:(decide ((1:Int)<(b.Pours.length:Int)))=true:=(by rw [hlen];decide)
 have g2:=oT h2
 refine AL _ rfl (fun _ => ?_) (fun h=>absurd (h2.symm.trans h) (by decide))
 refine AQ<|AF<|AA<|AM<|AA<|rc [] [0<=(1:Int)/\(1:Int)<((b.Pours.length:Nat):Int)] ⟨[(1,tP 3001 0),(2,tP 3002 0),(3,tP 3003 0),(7,tI 1),(8,tP 8 0)],[(8,.cells (A4.c (b.Pours.getD 1 default)) 132),(2000,Z9e b),(2001,Z9h b),(3001,.cells (AC.c b) 62),(3002,Z9c),(3003,Z9i v)]⟩ .nil (.cons (by first | decide | omega | (rw [hlen];decide) | (rw [show (b.Pours.length:Int)=2 from hlen];decide)) .nil)<|AF<|AA ?_
 refine CN DU [97] [] [] [1,2,3,7,8] [8,100,2000,2001,3001,3002,3003] [0=0,0+(b.Pours.getD 1 default).Rects.length<=maxLen,(0+(b.Pours.getD 1 default).Rects.length)*32<=140737488355328] ⟨[(1,tP 3001 0),(2,tP 3002 0),(3,tP 3003 0),(7,tI 1),(8,tP 8 0)],[(8,.cells [.i (b.Pours.getD 1 default).Id,.s (b.Pours.getD 1 default).Net,.i (b.Pours.getD 1 default).Layer,.i (b.Pours.getD 1 default).Pitch,.i (b.Pours.getD 1 default).Priority,.i (b.Pours.getD 1 default).Relief,.i (b.Pours.getD 1 default).Spoke,.own 100 4 (0+(b.Pours.getD 1 default).Rects.length)] 132),(100,.row 4 (0+(b.Pours.getD 1 default).Rects.length) (fun i_ j_=>if i_<0 then (BF 4 0 []) i_ j_ else (AV Ah.c (b.Pours.getD 1 default).Rects) (i_-0) j_) 99),(2000,Z9e b),(2001,Z9h b),(3001,.cells (AC.c b) 62),(3002,Z9c),(3003,Z9i v)]⟩ .nil kr (.cons rfl (.cons au9 (.cons au9 .nil)))<|AF<|Al (A6 100 (Ar (A1 4 Ah.c (([]:List Ah):List Ah)) (Af 4 Ah.c (b.Pours.getD 1 default).Rects)))<|oc [] [1=1,1=1,0<1,1+1<=maxLen,(1+1)*88<=140737488355328] .nil (.cons rfl (.cons rfl (.cons (by decide) (.cons au9 (.cons au9 .nil)))))<|A0<|AF ?_
 refine rn ⟨[(1,tP 3001 0),(2,tP 3002 0),(3,tP 3003 0),(7,tI 2)],[(100,Z9j b),(106,Z9k b),(2000,Z9e b),(3001,.cells (AC.c b) 62),(3002,Z9c),(3003,Z9l v)]⟩<|Ba<|Al (Cv.trans (CM (⟨[(1,tP 3001 0),(2,tP 3002 0),(3,tP 3003 0),(7,tI 2)],[(2002,Z9j b),(106,Z9m b),(2000,Z9e b),(3001,.cells (AC.c b) 62),(3002,Z9c),(3003,Z9l v)]⟩) 100 2002 (K:=[3003,3001,3002]) hP rfl rfl kr kr) (CM (⟨[(1,tP 3001 0),(2,tP 3002 0),(3,tP 3003 0),(7,tI 2)],[(2002,Z9j b),(2003,Z9m b),(2000,Z9e b),(3001,.cells (AC.c b) 62),(3002,Z9c),(3003,Z9n v)]⟩) 106 2003 (K:=[3003,3001,3002]) hP rfl rfl kr kr))<|AA<|AA<|rn ⟨[(1,tP 3001 0),(2,tP 3002 0),(3,tP 3003 0),(7,tI 2),(89,tB (decide ((2:Int)<(b.Pours.length:Int))))],[(2000,Z9e b),(2002,Z9j b),(2003,Z9m b),(3001,.cells (AC.c b) 62),(3002,Z9c),(3003,Z9n v)]⟩ ?_
 have h3:(decide ((2:Int)<(b.Pours.length:Int)))=false:=(by rw [hlen];decide)
 have g3:=oF h3
 refine AL _ rfl (fun h=>absurd (h3.symm.trans h) (by decide)) (fun _ => ?_)
 refine BH<|A7<|A7<|BI ?_
 exact ⟨_,Cv.trans (CG [1,2,3] [2000,2002,2003,3001,3002,3003] (⟨[(1,tP 3001 0),(2,tP 3002 0),(3,tP 3003 0)],[(2000,Z9e b),(2002,Z9j b),(2003,Z9m b),(3001,.cells (AC.c b) 62),(3002,Z9c),(3003,Z9n v)]⟩) kr) (Cv.trans (CM (⟨[(1,tP 3001 0),(2,tP 3002 0),(3,tP 3003 0)],[(2000,Z9e b),(2002,Z9j b),(3340,Z9m b),(3001,.cells (AC.c b) 62),(3002,Z9c),(3003,Z9o v)]⟩) 2003 3340 (K:=[3003,3001,3002]) hP rfl rfl kr kr) (Cv.trans (CM (⟨[(1,tP 3001 0),(2,tP 3002 0),(3,tP 3003 0)],[(3341,Z9e b),(2002,Z9j b),(3340,.rowx 8 2 (fun i_ j_=>if i_<1 then (fun _ _=>default) i_ j_ else (fun _ _=>default) (i_-1) j_) 132 [(0,[.i (b.Pours.getD 0 default).Id,.s (b.Pours.getD 0 default).Net,.i (b.Pours.getD 0 default).Layer,.i (b.Pours.getD 0 default).Pitch,.i (b.Pours.getD 0 default).Priority,.i (b.Pours.getD 0 default).Relief,.i (b.Pours.getD 0 default).Spoke,.own 3341 4 (b.Pours.getD 0 default).Rects.length]),(1,[.i (b.Pours.getD 1 default).Id,.s (b.Pours.getD 1 default).Net,.i (b.Pours.getD 1 default).Layer,.i (b.Pours.getD 1 default).Pitch,.i (b.Pours.getD 1 default).Priority,.i (b.Pours.getD 1 default).Relief,.i (b.Pours.getD 1 default).Spoke,.own 2002 4 (b.Pours.getD 1 default).Rects.length])]),(3001,.cells (AC.c b) 62),(3002,Z9c),(3003,Z9o v)]⟩) 2000 3341 (K:=[3003,3001,3002]) hP rfl rfl kr kr) (Cv.trans (CM (⟨[(1,tP 3001 0),(2,tP 3002 0),(3,tP 3003 0)],[(3341,Z9e b),(3342,Z9j b),(3340,Z9p b),(3001,.cells (AC.c b) 62),(3002,Z9c),(3003,Z9o v)]⟩) 2002 3342 (K:=[3003,3001,3002]) hP rfl rfl kr kr) (CG [1,2,3] [3003,3001,3002,3340,3341,3342] (⟨[(1,tP 3001 0),(2,tP 3002 0),(3,tP 3003 0)],[(3003,Z9o v),(3001,.cells (AC.c b) 62),(3002,Z9c),(3340,Z9p b),(3341,Z9e b),(3342,Z9j b)]⟩) kr)))),rfl,(),trivial,rfl⟩
end
section
open Go.RowKit
def Z9q:Blk:=.cells GX 62
variable (b:AC)
def Z9r:Blk:=.cells (RJ b) 62
def Z9s:Blk:=.row 7 b.Parts.length (Hf b) 115
def Z9t:Blk:=.row 8 b.Vias.length (Hc b) 129
def Z9u:Blk:=.row 3 b.Waivers.length (Hg b) 141
def Z9v:Blk:=.cells (Ul b) 62
def Z9w:Blk:=.row 2 (Aq b).length (IL b) 69
def Z9x:Blk:=.cells (Uo b) 62
def Z9y:Blk:=.row 6 (AK b).length (II b) 81
def Z9z:Blk:=.cells (Co b [.own 3340 8 2,vN,vN,vN,vN,.own 34 3 b.Waivers.length,vN]) 62
def Z9A:Blk:=.rowx 8 2 (fun i_ j_=>if i_<1 then (fun _ _=>default) i_ j_ else (fun _ _=>default) (i_-1) j_) 132 [(0,(OM b)),(1,(ON b))]
def Z9B:Blk:=.row 4 (E1 b).Rects.length (JL b) 99
def Z9C:Blk:=.row 4 (Cw b).Rects.length (AV Ah.c (Cw b).Rects) 99
abbrev YX:List Cl:=[.own 3340 8 2,.own 3106 5 (Ay b).length,vN,vN,vN,.own 34 3 b.Waivers.length,vN]
def Z9D:Blk:=.cells (Co b (YX b)) 62
def Z9E:Blk:=.row 5 (Ay b).length (IM b) 135
abbrev Ya:List Cl:=[.own 3340 8 2,.own 3106 5 (Ay b).length,.own 3108 4 (A2 b).length,vN,vN,.own 34 3 b.Waivers.length,vN]
def Z9F:Blk:=.cells (Co b (Ya b)) 62
def Z9G:Blk:=.row 4 (A2 b).length (IJ b) 137
abbrev MC (t_:List Cl):List Cl:=(.own 3340 8 2)::(JC b)::(KZ b)::(JB b)::t_
abbrev QZ:List Cl:=[vN,.own 34 3 b.Waivers.length,vN]
def Z9H:Blk:=.cells (Co b (MC b (QZ b))) 62
def Z9I:Blk:=.row 2 (Ae b).length (He b) 139
abbrev Qc:List Cl:=[vN,.own 34 3 b.Waivers.length,.own 3112 3 (AZ b).length]
def Z9J:Blk:=.cells (Co b (MC b (Qc b))) 62
def Z9K:Blk:=.row 3 (AZ b).length (Hd b) 78
abbrev Qd:List Cl:=[.own 3114 20 (Ab b).length,.own 34 3 b.Waivers.length,.own 3112 3 (AZ b).length]
abbrev RN:List Cl:=(Co b (MC b (Qd b)))
def Z9L:Blk:=.cells (RN b) 62
def Z9M:Blk:=.row 20 (Ab b).length (IK b) 146
def jS (b:AC):Tv:=.av (.agg (RN b))
def hCyP2 (b:AC):List (Nat×Blk):=[(26,.row 7 b.Parts.length (AV AU.c b.Parts) 115),(3100,.row 2 (Aq b).length (AV A9.c (Aq b)) 69),(3102,.row 6 (AK b).length (AV AO.c (AK b)) 81),(30,.row 8 b.Vias.length (AV BW.c b.Vias) 129),(3340,.rowx 8 2 (fun i_ j_=>if i_<1 then (fun _ _=>default) i_ j_ else (fun _ _=>default) (i_-1) j_) 132 [(0,[.i (b.Pours.getD 0 default).Id,.s (b.Pours.getD 0 default).Net,.i (b.Pours.getD 0 default).Layer,.i (b.Pours.getD 0 default).Pitch,.i (b.Pours.getD 0 default).Priority,.i (b.Pours.getD 0 default).Relief,.i (b.Pours.getD 0 default).Spoke,.own 3341 4 (b.Pours.getD 0 default).Rects.length]),(1,[.i (b.Pours.getD 1 default).Id,.s (b.Pours.getD 1 default).Net,.i (b.Pours.getD 1 default).Layer,.i (b.Pours.getD 1 default).Pitch,.i (b.Pours.getD 1 default).Priority,.i (b.Pours.getD 1 default).Relief,.i (b.Pours.getD 1 default).Spoke,.own 3342 4 (b.Pours.getD 1 default).Rects.length])]),(3106,.row 5 (Ay b).length (AV A5.c (Ay b)) 135),(3108,.row 4 (A2 b).length (AV BC.c (A2 b)) 137),(3110,.row 2 (Ae b).length (AV BE.c (Ae b)) 139),(3114,.row 20 (Ab b).length (AV Az.c (Ab b)) 146),(34,.row 3 b.Waivers.length (AV An.c b.Waivers) 141),(3112,.row 3 (AZ b).length (AV AN.c (AZ b)) 78),(3341,.row 4 (b.Pours.getD 0 default).Rects.length (AV Ah.c (b.Pours.getD 0 default).Rects) 99),(3342,.row 4 (b.Pours.getD 1 default).Rects.length (AV Ah.c (b.Pours.getD 1 default).Rects) 99)]
abbrev JF (t_:List (Nat×Blk)):List (Nat×Blk):=(26,Z9s b)::(30,Z9t b)::(34,Z9u b)::(B7 b)::(3002,Z9q)::t_
abbrev Za:List (Nat×Blk):=(JF b [(3003,Z9J b),(3100,Z9w b),(3102,Z9y b),(3106,Z9E b),(3108,Z9G b),(3110,Z9I b),(3112,Z9K b),(3340,Z9A b),(3341,Z9B b),(3342,Z9C b)])
abbrev ZX:List (Nat×Blk):=(JF b [(3003,Z9H b),(3100,Z9w b),(3102,Z9y b),(3106,Z9E b),(3108,Z9G b),(3110,Z9I b),(3340,Z9A b),(3341,Z9B b),(3342,Z9C b)])
abbrev ZQ:List (Nat×Blk):=(JF b [(3003,Z9F b),(3100,Z9w b),(3102,Z9y b),(3106,Z9E b),(3108,Z9G b),(3340,Z9A b),(3341,Z9B b),(3342,Z9C b)])
abbrev ZL:List (Nat×Blk):=(JF b [(3003,Z9D b),(3100,Z9w b),(3102,Z9y b),(3106,Z9E b),(3340,Z9A b),(3341,Z9B b),(3342,Z9C b)])
abbrev ZC:List (Nat×Blk):=(JF b [(3003,Z9z b),(3100,Z9w b),(3102,Z9y b),(3340,Z9A b),(3341,Z9B b),(3342,Z9C b)])
abbrev Yy:List (Nat×Blk):=(JF b [(3003,Z9x b),(3100,Z9w b),(3102,Z9y b)])
abbrev Yl:List (Nat×Blk):=(JF b [(3003,Z9v b),(3100,Z9w b)])
abbrev IB:=b.Pours.getD 0 default
abbrev Yf (t_:List Cl):List Cl:=(.i (IB b).Id)::(.s (IB b).Net)::(.i (IB b).Layer)::(.i (IB b).Pitch)::(.i (IB b).Priority)::(.i (IB b).Relief)::(.i (IB b).Spoke)::t_
abbrev JA:=b.Pours.getD 1 default
abbrev Ye (t_:List Cl):List Cl:=(.i (JA b).Id)::(.s (JA b).Net)::(.i (JA b).Layer)::(.i (JA b).Pitch)::(.i (JA b).Priority)::(.i (JA b).Relief)::(.i (JA b).Spoke)::t_
set_option maxHeartbeats 4000000 in
theorem qCyP2 (b:AC) (hc:Ce b) (hlen:(b.Pours.length:Int)=2):Frs Try.prog 59 [.agg (AC.c b)] (fun _:Unit=>True) (fun _=>jS b) (fun _=>hCyP2 b):=by
 refine J5 Try.func59 rfl kr kr kr fun W0 M0 X hP hFl => ?_
 have h0:=hc.lParts
 have h1:=hc.lNets
 have h2:=hc.lTracks
 have h3:=hc.lVias
 have h4:=hc.lPours
 have h5:=hc.lKeeps
 have h6:=hc.lSlots
 have h7:=hc.lClasses
 have h8:=hc.lWaivers
 have h9:=hc.lMatches
 have h10:=hc.lRules
 have hr:=hc.rok
 refine AA<|on<|AA<|od [23,27,31] [(22,B5 b.Outline)] [As (B5 b.Outline).2.1,0=0,0+b.Parts.length<=maxLen,(0+b.Parts.length)*72<=140737488355328,0=0,0+b.Vias.length<=maxLen,(0+b.Vias.length)*72<=140737488355328,0=0,0+b.Waivers.length<=maxLen,(0+b.Waivers.length)*32<=140737488355328] (.cons (D2 b.Outline au28) .nil) (.cons rfl (.cons rfl (.cons au4 (.cons au4 (.cons rfl (.cons au4 (.cons au4 (.cons rfl (.cons au4 (.cons au4 .nil))))))))))<|AF<|Al (Cv.trans (A6 26 (Ar (A1 7 AU.c (([]:List AU):List AU)) (Af 7 AU.c b.Parts))) (Cv.trans (A6 30 (Ar (A1 8 BW.c (([]:List BW):List BW)) (Af 8 BW.c b.Vias))) (A6 34 (Ar (A1 3 An.c (([]:List An):List An)) (Af 3 An.c b.Waivers)))))<|AA<|AA<|rn ⟨MR,[(1,.cells (AC.c b) 62),(2,Z9q),(3,Z9r b),(26,Z9s b),(30,Z9t b),(34,Z9u b)]⟩<|Al (Cv.trans (vr 3 3003 (K:=[]) hP) (Cv.trans (vr 1 3001 (K:=[]) hP) (wr (⟨Q7,[(B7 b),(3002,Z9q),(3003,Z9r b),(26,Z9s b),(30,Z9t b),(34,Z9u b)]⟩) 2 3002 (K:=[]) hP))) ?_
 refine CH (ι:=Unit) (I:=fun _=>True) 3003 (V8 b) 62 (mkB 15 5) [1,2,3,4] [3001,3002] (fun _=>Bf) (fun _=>lEB 15 5 (L9 b)) (fun _=>[(B7 b),CI,(UJ b)]) (fun _=>⟨Bf,[(3003,Z9v b),(B7 b),(3002,Z9q),(3100,Z9w b),(26,Z9s b),(30,Z9t b),(34,Z9u b)]⟩) hP hFl (R3 b hc kr) (fun _ _ => ?_)
 refine AF<|Al (ck (⟨Bf,(Yl b)⟩))<|AA<|AA<|rn ⟨Q6,(Yl b)⟩<|CH (ι:=Unit) (I:=fun _=>True) 3003 (Yw b) 62 (mkB 15 6) [1,2,3,5] [3001,3002] (fun _=>Bf) (fun _=>lEB 15 6 (IC b)) (fun _=>[(B7 b),CI,(Qt b)]) (fun _=>⟨Bf,[(3003,Z9x b),(B7 b),(3002,Z9q),(3102,Z9y b),(26,Z9s b),(30,Z9t b),(34,Z9u b),(3100,Z9w b)]⟩) hP hFl (J4 b hc kr) (fun _ _ => ?_)
 refine AF<|Al (ck (⟨Bf,(Yy b)⟩))<|AA<|AA<|rn ⟨Q5,(Yy b)⟩<|CH (ι:=Unit) (I:=fun _=>True) 3003 (ZA b) 62 (mkB 15 8) [1,2,3,7] [3001,3002] (fun _=>Bf) (fun _=>lEB 15 8 (.own 3340 8 2)) (fun _=>[(B7 b),CI,(3340,.rowx 8 2 (fun i_ j_=>if i_<1 then (fun _ _=>default) i_ j_ else (fun _ _=>default) (i_-1) j_) 132 [(0,(Yf b [.own 3341 4 (IB b).Rects.length])),(1,(Ye b [.own 3342 4 (JA b).Rects.length]))]),(3341,.row 4 (b.Pours.getD 0 default).Rects.length (AV Ah.c (b.Pours.getD 0 default).Rects) 99),(3342,.row 4 (b.Pours.getD 1 default).Rects.length (AV Ah.c (b.Pours.getD 1 default).Rects) 99)]) (fun _=>⟨Bf,[(3003,Z9z b),(B7 b),(3002,Z9q),(3340,Z9A b),(3341,Z9B b),(3342,Z9C b),(26,Z9s b),(30,Z9t b),(34,Z9u b),(3100,Z9w b),(3102,Z9y b)]⟩) hP hFl (gCxP2 b hc hlen kr) (fun _ _ => ?_)
 refine AF<|Al (ck (⟨Bf,(ZC b)⟩))<|AA<|AA<|rn ⟨Q4,(ZC b)⟩<|CH (ι:=Unit) (I:=fun _=>True) 3003 (Ep b [.own 3340 8 2,vN,vN,vN,vN,.own 34 3 b.Waivers.length,vN]) 62 (mkB 15 9) [1,2,3,9] [3001,3002] (fun _=>Bf) (fun _=>lEB 15 9 (JC b)) (fun _=>[(B7 b),CI,(Qx b)]) (fun _=>⟨Bf,[(3003,Z9D b),(B7 b),(3002,Z9q),(3106,Z9E b),(26,Z9s b),(30,Z9t b),(34,Z9u b),(3100,Z9w b),(3102,Z9y b),(3340,Z9A b),(3341,Z9B b),(3342,Z9C b)]⟩) hP hFl (Lm b hc kr) (fun _ _ => ?_)
 refine AF<|Al (ck (⟨Bf,(ZL b)⟩))<|AA<|AA<|rn ⟨RD,(ZL b)⟩<|CH (ι:=Unit) (I:=fun _=>True) 3003 (Ep b (YX b)) 62 (mkB 15 10) [1,2,3,11] [3001,3002] (fun _=>Bf) (fun _=>lEB 15 10 (KZ b)) (fun _=>[(B7 b),CI,(Qw b)]) (fun _=>⟨Bf,[(3003,Z9F b),(B7 b),(3002,Z9q),(3108,Z9G b),(26,Z9s b),(30,Z9t b),(34,Z9u b),(3100,Z9w b),(3102,Z9y b),(3106,Z9E b),(3340,Z9A b),(3341,Z9B b),(3342,Z9C b)]⟩) hP hFl (Lk b hc kr) (fun _ _ => ?_)
 refine AF<|Al (ck (⟨Bf,(ZQ b)⟩))<|AA<|AA<|rn ⟨RB,(ZQ b)⟩<|CH (ι:=Unit) (I:=fun _=>True) 3003 (Ep b (Ya b)) 62 (mkB 15 11) [1,2,3,13] [3001,3002] (fun _=>Bf) (fun _=>lEB 15 11 (JB b)) (fun _=>[(B7 b),CI,(Qv b)]) (fun _=>⟨Bf,[(3003,Z9H b),(B7 b),(3002,Z9q),(3110,Z9I b),(26,Z9s b),(30,Z9t b),(34,Z9u b),(3100,Z9w b),(3102,Z9y b),(3106,Z9E b),(3108,Z9G b),(3340,Z9A b),(3341,Z9B b),(3342,Z9C b)]⟩) hP hFl (Ik b hc kr) (fun _ _ => ?_)
 refine AF<|Al (ck (⟨Bf,(ZX b)⟩))<|AA<|AA<|rn ⟨Q9,(ZX b)⟩<|CH (ι:=Unit) (I:=fun _=>True) 3003 (Ep b (MC b (QZ b))) 62 (mkB 15 14) [1,2,3,14] [3001,3002] (fun _=>Bf) (fun _=>lEB 15 14 (.own 3112 3 (AZ b).length)) (fun _=>[(B7 b),CI,(Qs b)]) (fun _=>⟨Bf,[(3003,Z9J b),(B7 b),(3002,Z9q),(3112,Z9K b),(26,Z9s b),(30,Z9t b),(34,Z9u b),(3100,Z9w b),(3102,Z9y b),(3106,Z9E b),(3108,Z9G b),(3110,Z9I b),(3340,Z9A b),(3341,Z9B b),(3342,Z9C b)]⟩) hP hFl (Ij b hc kr) (fun _ _ => ?_)
 refine AF<|Al (ck (⟨Bf,(Za b)⟩))<|AA<|AA<|rn ⟨Q8,(Za b)⟩<|CH (ι:=Unit) (I:=fun _=>True) 3003 (Ep b (MC b (Qc b))) 62 (mkB 15 12) [1,2,3,16] [3001,3002] (fun _=>Bf) (fun _=>lEB 15 12 (Qo b)) (fun _=>[(B7 b),CI,(Qy b)]) (fun _=>⟨Bf,[(3003,Z9L b),(B7 b),(3002,Z9q),(3114,Z9M b),(26,Z9s b),(30,Z9t b),(34,Z9u b),(3100,Z9w b),(3102,Z9y b),(3106,Z9E b),(3108,Z9G b),(3110,Z9I b),(3112,Z9K b),(3340,Z9A b),(3341,Z9B b),(3342,Z9C b)]⟩) hP hFl (Ll b hc kr) (fun _ _ => ?_)
 refine AF<|Al (ck (⟨Bf,(JF b [(3003,Z9L b),(3100,Z9w b),(3102,Z9y b),(3106,Z9E b),(3108,Z9G b),(3110,Z9I b),(3112,Z9K b),(3114,Z9M b),(3340,Z9A b),(3341,Z9B b),(3342,Z9C b)])⟩))<|AA<|rn ⟨[(2,tP 3002 0)],[(26,Z9s b),(30,Z9t b),(34,Z9u b),(3002,Z9L b),(3100,Z9w b),(3102,Z9y b),(3106,Z9E b),(3108,Z9G b),(3110,Z9I b),(3112,Z9K b),(3114,Z9M b),(3340,Z9A b),(3341,Z9B b),(3342,Z9C b)]⟩<|AR ?_
 refine ⟨_,Cv.trans (ck (⟨[(2,tP 3002 0)],[(26,Z9s b),(3100,Z9w b),(3102,Z9y b),(30,Z9t b),(3340,Z9A b),(3106,Z9E b),(3108,Z9G b),(3110,Z9I b),(3114,Z9M b),(34,Z9u b),(3112,Z9K b),(3341,Z9B b),(3342,Z9C b),(3002,Z9L b)]⟩)) (Cv.refl _),.inl rfl,jS b,by kernel_rfl,iI (m:=[(3002,.cells (Ep b (MC b (Qd b))) 62)]) kr⟩
end
section
open Go.RowKit
def Z9N:Blk:=.cells GX 62
variable (b:AC) (q:EO)
def Z9O:Blk:=.row 7 b.Parts.length (Hf b) 115
def Z9P:Blk:=.row 2 (Aq b).length (IL b) 69
def Z9Q:Blk:=.row 6 (AK b).length (II b) 81
def Z9R:Blk:=.row 8 b.Vias.length (Hc b) 129
def Z9S:Blk:=.rowx 8 2 (fun i_ j_=>if i_<1 then (fun _ _=>default) i_ j_ else (fun _ _=>default) (i_-1) j_) 132 [(0,(OM b)),(1,(ON b))]
def Z9T:Blk:=.row 5 (Ay b).length (IM b) 135
def Z9U:Blk:=.row 4 (A2 b).length (IJ b) 137
def Z9V:Blk:=.row 2 (Ae b).length (He b) 139
def Z9W:Blk:=.row 20 (Ab b).length (IK b) 146
def Z9X:Blk:=.row 3 b.Waivers.length (Hg b) 141
def Z9Y:Blk:=.row 3 (AZ b).length (Hd b) 78
def Z9Z:Blk:=.row 4 (E1 b).Rects.length (JL b) 99
def Za0:Blk:=.row 4 (Cw b).Rects.length (AV Ah.c (Cw b).Rects) 99
def Za1:Blk:=.cells (RN b) 62
abbrev NL:=[Ah.mk (SV q) (SU q) (W64 ((SV q)+2)) (W64 ((W64 ((SU q)+2))+(W64 ((W64 (Int.tdiv (AH q.e1 48) 40))*1000))))]
def Za2:Blk:=.row 4 ((E1 b).Rects++(NL q)).length (AV Ah.c ((E1 b).Rects++(NL q))) 99
abbrev ZG:List Cl:=(IH b [.own 370 4 ((E1 b).Rects++(NL q)).length])
def Za3:Blk:=.rowx 8 2 (fun i_ j_=>if i_<1 then (fun _ _=>default) i_ j_ else (fun _ _=>default) (i_-1) j_) 132 [(0,(ZG b q)),(1,(ON b))]
def Za4:Blk:=.row 4 ((Cw b).Rects++(NL q)).length (AV Ah.c ((Cw b).Rects++(NL q))) 99
def Za5:Blk:=.rowx 8 2 (fun i_ j_=>if i_<1 then (fun _ _=>default) i_ j_ else (fun _ _=>default) (i_-1) j_) 132 [(0,(OM b)),(1,(ME b [.own 370 4 ((Cw b).Rects++(NL q)).length]))]
def LK (b:AC) (q:EO):AC:=bif decide (((Int.tmod (AH q.e2 64) ((2:Nat):Int)).toNat:Nat)=0) then ({ Cp b with Pours:=[A4.mk (b.Pours.getD 0 default).Id (b.Pours.getD 0 default).Net (b.Pours.getD 0 default).Layer (b.Pours.getD 0 default).Pitch (b.Pours.getD 0 default).Priority (b.Pours.getD 0 default).Relief (b.Pours.getD 0 default).Spoke ((b.Pours.getD 0 default).Rects++[Ah.mk (Int.tmod (AH q.e1 48) 9) (Int.tmod (AH q.e2 64) 9) (W64 ((Int.tmod (AH q.e1 48) 9)+2)) (W64 ((W64 ((Int.tmod (AH q.e2 64) 9)+2))+(W64 ((W64 (Int.tdiv (AH q.e1 48) 40))*1000))))]),b.Pours.getD 1 default] }) else ({ Cp b with Pours:=[b.Pours.getD 0 default,A4.mk (b.Pours.getD 1 default).Id (b.Pours.getD 1 default).Net (b.Pours.getD 1 default).Layer (b.Pours.getD 1 default).Pitch (b.Pours.getD 1 default).Priority (b.Pours.getD 1 default).Relief (b.Pours.getD 1 default).Spoke ((b.Pours.getD 1 default).Rects++[Ah.mk (Int.tmod (AH q.e1 48) 9) (Int.tmod (AH q.e2 64) 9) (W64 ((Int.tmod (AH q.e1 48) 9)+2)) (W64 ((W64 ((Int.tmod (AH q.e2 64) 9)+2))+(W64 ((W64 (Int.tdiv (AH q.e1 48) 40))*1000))))])] })
def nA:CT:=(23,(Nz b q),.val [] (.av (.agg (AC.c (LK b q)))))
abbrev JO:=b.Pours.getD 0 default
abbrev jR:List Cl:=[.i (JO b).Id,.s (JO b).Net,.i (JO b).Layer,.i (JO b).Pitch,.i (JO b).Priority,.i (JO b).Relief,.i (JO b).Spoke,lst 4 Ah.c ((JO b).Rects++[Ah.mk (SV q) (SU q) (W64 ((SV q)+2)) (W64 ((W64 ((SU q)+2))+(W64 ((W64 (Int.tdiv (AH q.e1 48) 40))*1000))))])]
abbrev Nw (t_:List (Nat×Blk)):List (Nat×Blk):=(4,Z9N)::(5,Za1 b)::(26,Z9O b)::(30,Z9R b)::(34,Z9X b)::t_
abbrev V5:List (Nat×Blk):=(Nw b [(3100,Z9P b),(3102,Z9Q b),(3106,Z9T b),(3108,Z9U b),(3110,Z9V b),(3112,Z9Y b),(3114,Z9W b),(3340,Z9S b),(3341,Z9Z b),(3342,Za0 b)])
abbrev Uh:List Cl:=(IH b [lst 4 Ah.c ((E1 b).Rects++(NL q))])
abbrev Ug:=BF 4 1 [.i (SV q),.i (SU q),.i (W64 ((SV q)+2)),.i (W64 ((W64 ((SU q)+2))+(W64 ((W64 (Int.tdiv (AH q.e1 48) 40))*1000))))]
abbrev ZJ:List Cl:=(IH b [.own 370 4 ((E1 b).Rects.length+1)])
abbrev UV:List (Nat×Tv):=(B1 q [(21,tI 16),(101,tB false)])
abbrev UU:List (Nat×Tv):=(B1 q [(21,tI 16),(207,tB false)])
abbrev Qm (t_:List (Nat×Blk)):List (Nat×Blk):=(4,Za1 b)::(26,Z9O b)::(30,Z9R b)::(34,Z9X b)::(3100,Z9P b)::(3102,Z9Q b)::(3106,Z9T b)::(3108,Z9U b)::(3110,Z9V b)::(3112,Z9Y b)::(3114,Z9W b)::t_
set_option maxHeartbeats 40000000 in
theorem lD (b:AC) (q:EO) (hc:Ce b) (hq:AH q.e0 26=16) (hlen:(b.Pours.length:Int)=2):PuP 23 (nA b q).2.1 (.av (.agg (AC.c (LK b q)))):=by
 refine pwf Try.func23 fun W0 M0 => ?_
 have hl0:=hc.lParts
 have hl1:=hc.lNets
 have hl2:=hc.lTracks
 have hl3:=hc.lVias
 have hl4:=hc.lPours
 have hl5:=hc.lKeeps
 have hl6:=hc.lSlots
 have hl7:=hc.lClasses
 have hl8:=hc.lWaivers
 have hl9:=hc.lMatches
 have hl10:=hc.lRules
 have hN:0<=AH q.e1 48/\AH q.e1 48<48:=I6 _ _ (by decide) (by decide)
 have hK0:=I6 q.e2 64 (by decide) (by decide)
 have hK:0<=AH q.e2 64/\AH q.e2 64<64:=hK0
 have hb0:=hc.rec' 0
 have hb1:=hc.rec' 1
 refine AA<|rn ⟨OD,[(DQ b),(FY q),(4,Z9N)]⟩<|AA<|Dp<|F2 DU 1 [] [] [] [3,4,11] [3,4] [] ⟨(OJ b),[(FY q),(4,Z9N)]⟩ .nil kr .nil<|H4 (ι:=Unit) (I:=fun _=>True) (fun _=>⟨[(3,tP 3 0),(4,tP 4 0),(OG b),(12,.av (.agg (RN b)))],[(26,Z9O b),(3100,Z9P b),(3102,Z9Q b),(30,Z9R b),(3340,Z9S b),(3106,Z9T b),(3108,Z9U b),(3110,Z9V b),(3114,Z9W b),(34,Z9X b),(3112,Z9Y b),(3341,Z9Z b),(3342,Za0 b),(FY q),(4,Z9N)]⟩) hk0 ⟨⟨_,_,rfl,rfl,⟨fun _=>default,by kernel_rfl⟩,by kernel_rfl⟩,fun _ _=>by kernel_rfl,rfl,rfl⟩ (qCyP2 b au17 au17) (fun _=>by kernel_rfl) (fun _=>by kernel_rfl) (fun _ _ => ?_)
 refine Ew DU [] [] [] [3,4,5] [3,4,5,26,30,34,3100,3102,3106,3108,3110,3112,3114,3340,3341,3342] [] ⟨OC,[(FY q),(4,Z9N),(5,Za1 b),(26,Z9O b),(30,Z9R b),(34,Z9X b),(3100,Z9P b),(3102,Z9Q b),(3106,Z9T b),(3108,Z9U b),(3110,Z9V b),(3112,Z9Y b),(3114,Z9W b),(3340,Z9S b),(3341,Z9Z b),(3342,Za0 b)]⟩ .nil kr .nil<|AF<|AA<|oc [(15,E5 q.e1 48)] [0<=(1:Int)/\(1:Int)<(3:Int),As (E5 q.e1 48).2.1] (.cons (Gh q.e1 48 au17) .nil) (.cons (by decide) (.cons rfl .nil))<|AF<|AA<|oc [(18,E5 q.e2 64)] [0<=(2:Int)/\(2:Int)<(3:Int),As (E5 q.e2 64).2.1] (.cons (Gh q.e2 64 au17) .nil) (.cons (by decide) (.cons rfl .nil))<|AF<|AA<|AA<|rc [(21,E5 q.e0 26)] [0<=(0:Int)/\(0:Int)<(3:Int),As (E5 q.e0 26).2.1] ⟨[(4,tP 4 0),(5,tP 5 0),(6,tI (AH q.e1 48)),(7,tI (AH q.e2 64)),(21,tI (AH q.e0 26))],[(4,Z9N),(5,Za1 b),(26,Z9O b),(30,Z9R b),(34,Z9X b),(3100,Z9P b),(3102,Z9Q b),(3106,Z9T b),(3108,Z9U b),(3110,Z9V b),(3112,Z9Y b),(3114,Z9W b),(3340,Z9S b),(3341,Z9Z b),(3342,Za0 b)]⟩ (.cons (Gh q.e0 26 au17) .nil) (.cons (by decide) (.cons rfl .nil)) ?_
 (try rw [hq])
 refine AF<|AM<|AA<|on<|Ak kr<|AA<|on<|Ak kr<|AA<|on<|Ak kr<|AA<|on<|Ak kr<|AA<|on<|Ak kr<|AA<|rn ⟨(UV q),(V5 b)⟩<|Ak kr<|AA<|on<|Ak kr<|AA<|on<|Ak kr<|AA<|on<|Ak kr<|AA<|on<|Ak kr<|AA<|on<|Ak kr<|AA<|rn ⟨(UU q),(V5 b)⟩<|Ak kr<|AA<|on<|Ak kr<|AA<|on<|Ak kr<|AA<|on<|Ak kr<|AA<|on<|Ak kr<|AA<|on<|Bq kr<|AA<|rn ⟨(B1 q [(340,tB (decide ((0:Int)<((2:Nat):Int))))]),(V5 b)⟩ ?_
 have h1:(decide ((0:Int)<((2:Nat):Int)))=true:=(by decide)
 have g1:=oT h1
 refine AL _ rfl (fun _ => ?_) (fun h=>absurd (h1.symm.trans h) (by decide))
 refine AA<|dw [] [] [(((2:Nat):Int):Int)≠0,0<=(Int.tmod (AH q.e2 64) ((2:Nat):Int):Int)/\(Int.tmod (AH q.e2 64) ((2:Nat):Int):Int)<((2:Nat):Int)] ⟨(B1 q [(9,.av (.one (.rptr 3340 8 (Int.tmod (AH q.e2 64) ((2:Nat):Int)).toNat 0)))]),(V5 b)⟩ .nil (.cons au13 (.cons (by first | decide | omega | (have:=tmb hK.1 (n:=((2:Nat):Int)) (by decide);omega)) .nil))<|AF<|NG (decide (((Int.tmod (AH q.e2 64) ((2:Nat):Int)).toNat:Nat)=0)) (fun h2 => ?_) (fun h2 => ?_)
 ·have g2:=oT h2
  (try rw [g2])
  refine rc [] [(9:Int)≠0,(9:Int)≠0,(9:Int)≠0,(9:Int)≠0,(40:Int)≠0,(b.Pours.getD 0 default).Rects.length=(b.Pours.getD 0 default).Rects.length,(b.Pours.getD 0 default).Rects.length+1<=maxLen,((b.Pours.getD 0 default).Rects.length+1)*32<=140737488355328] ⟨FC,(Nw b [(370,.row 4 ((E1 b).Rects.length+1) (fun i_ j_=>if i_<(E1 b).Rects.length then (JL b) i_ j_ else (Ug q) (i_-(E1 b).Rects.length) j_) 99),(3100,Z9P b),(3102,Z9Q b),(3106,Z9T b),(3108,Z9U b),(3110,Z9V b),(3112,Z9Y b),(3114,Z9W b),(3340,.rowx 8 2 (fun i_ j_=>if i_<1 then (fun _ _=>default) i_ j_ else (fun _ _=>default) (i_-1) j_) 132 [(0,(ZJ b)),(1,(ON b))]),(3342,Za0 b)])⟩ .nil (.cons au13 (.cons au13 (.cons au13 (.cons au13 (.cons au13 (.cons rfl (.cons au9 (.cons au9 .nil))))))))<|A0<|AF ?_
  refine Al (C1 (⟨FC,(Nw b [(370,Za2 b q),(3100,Z9P b),(3102,Z9Q b),(3106,Z9T b),(3108,Z9U b),(3110,Z9V b),(3112,Z9Y b),(3114,Z9W b),(3340,Za3 b q),(3342,Za0 b)])⟩) lr (.cons ⟨rfl,.refl _⟩ (.cons ⟨rfl,.refl _⟩ (.cons ⟨rfl,.refl _⟩ (.cons ⟨rfl,.refl _⟩ (.cons ⟨rfl,.refl _⟩ (.cons ⟨rfl,CX 99 (Ar (Af 4 Ah.c (b.Pours.getD 0 default).Rects) (BR (c:=Ah.c) (xs:=([Ah.mk (Int.tmod (AH q.e1 48) 9) (Int.tmod (AH q.e2 64) 9) (W64 ((Int.tmod (AH q.e1 48) 9)+2)) (W64 ((W64 ((Int.tmod (AH q.e2 64) 9)+2))+(W64 ((W64 (Int.tdiv (AH q.e1 48) 40))*1000))))]:List Ah)) rfl kr))⟩ (.cons ⟨rfl,.refl _⟩ (.cons ⟨rfl,.refl _⟩ (.cons ⟨rfl,.refl _⟩ (.cons ⟨rfl,.refl _⟩ (.cons ⟨rfl,.refl _⟩ (.cons ⟨rfl,.refl _⟩ (.cons ⟨rfl,.refl _⟩ (.cons ⟨rfl,.rowx _ _ _ _ (.cons ⟨rfl,(rr5 (rr2 (.cons (.own _ _ au16) .nil)))⟩ (.cons ⟨rfl,(rr5 (rr3 .nil))⟩ .nil))⟩ lr)))))))))))))))<|AA<|rn ⟨[(4,tP 4 0)],[(4,Za1 b),(26,Z9O b),(30,Z9R b),(34,Z9X b),(370,Za2 b q),(3100,Z9P b),(3102,Z9Q b),(3106,Z9T b),(3108,Z9U b),(3110,Z9V b),(3112,Z9Y b),(3114,Z9W b),(3340,Za3 b q),(3342,Za0 b)]⟩<|AR ?_
  exact zy (Cv.trans (vf 370 hk0) (Cv.trans (I8 (⟨[(4,tP 4 0)],(Qm b [(3340,.rowx 8 2 (fun i_ j_=>if i_<1 then (fun _ _=>default) i_ j_ else (fun _ _=>default) (i_-1) j_) 132 [(0,(Uh b q)),(1,(A4.c (Cw b)))])])⟩) 3342 hk0) (Cv.trans (HI (⟨[(4,tP 4 0)],(Qm b [(3340,.row 8 2 (BF 8 2 (IH b [lst 4 Ah.c ((E1 b).Rects++(NL q)),.i (Cw b).Id,.s (Cw b).Net,.i (Cw b).Layer,.i (Cw b).Pitch,.i (Cw b).Priority,.i (Cw b).Relief,.i (Cw b).Spoke,lst 4 Ah.c (Cw b).Rects])) 132)])⟩) 3340 8 2 (fun i_ j_=>if i_<1 then (fun _ _=>default) i_ j_ else (fun _ _=>default) (i_-1) j_) 132 [(jR b q),(A4.c (b.Pours.getD 1 default))] kr kr kr kr) (Cv.trans (A6 3340 (A1 8 A4.c ([A4.mk (b.Pours.getD 0 default).Id (b.Pours.getD 0 default).Net (b.Pours.getD 0 default).Layer (b.Pours.getD 0 default).Pitch (b.Pours.getD 0 default).Priority (b.Pours.getD 0 default).Relief (b.Pours.getD 0 default).Spoke ((b.Pours.getD 0 default).Rects++[Ah.mk (Int.tmod (AH q.e1 48) 9) (Int.tmod (AH q.e2 64) 9) (W64 ((Int.tmod (AH q.e1 48) 9)+2)) (W64 ((W64 ((Int.tmod (AH q.e2 64) 9)+2))+(W64 ((W64 (Int.tdiv (AH q.e1 48) 40))*1000))))]),b.Pours.getD 1 default]:List A4))) (B2 [26,3100,3102,30,3340,3106,3108,3110,3114,34,3112] hk0))))) (by simp only [LK,h1,h2,cond_true,cond_false] <;> kernel_rfl)
 have g2:=oF h2
 have g3:((Int.tmod (AH q.e2 64) ((2:Nat):Int)).toNat:Nat)=1:=(by have:=tmb hK.1 (n:=((2:Nat):Int)) (by decide);omega)
 (try rw [g3])
 refine rc [] [(9:Int)≠0,(9:Int)≠0,(9:Int)≠0,(9:Int)≠0,(40:Int)≠0,(b.Pours.getD 1 default).Rects.length=(b.Pours.getD 1 default).Rects.length,(b.Pours.getD 1 default).Rects.length+1<=maxLen,((b.Pours.getD 1 default).Rects.length+1)*32<=140737488355328] ⟨FC,(Nw b [(370,.row 4 ((Cw b).Rects.length+1) (fun i_ j_=>if i_<(Cw b).Rects.length then (AV Ah.c (Cw b).Rects) i_ j_ else (Ug q) (i_-(Cw b).Rects.length) j_) 99),(3100,Z9P b),(3102,Z9Q b),(3106,Z9T b),(3108,Z9U b),(3110,Z9V b),(3112,Z9Y b),(3114,Z9W b),(3340,.rowx 8 2 (fun i_ j_=>if i_<1 then (fun _ _=>default) i_ j_ else (fun _ _=>default) (i_-1) j_) 132 [(0,(OM b)),(1,(ME b [.own 370 4 ((Cw b).Rects.length+1)]))]),(3341,Z9Z b)])⟩ .nil (.cons au13 (.cons au13 (.cons au13 (.cons au13 (.cons au13 (.cons rfl (.cons au9 (.cons au9 .nil))))))))<|A0<|AF ?_
 refine Al (C1 (⟨FC,(Nw b [(370,Za4 b q),(3100,Z9P b),(3102,Z9Q b),(3106,Z9T b),(3108,Z9U b),(3110,Z9V b),(3112,Z9Y b),(3114,Z9W b),(3340,Za5 b q),(3341,Z9Z b)])⟩) lr (.cons ⟨rfl,.refl _⟩ (.cons ⟨rfl,.refl _⟩ (.cons ⟨rfl,.refl _⟩ (.cons ⟨rfl,.refl _⟩ (.cons ⟨rfl,.refl _⟩ (.cons ⟨rfl,CX 99 (Ar (Af 4 Ah.c (b.Pours.getD 1 default).Rects) (BR (c:=Ah.c) (xs:=([Ah.mk (Int.tmod (AH q.e1 48) 9) (Int.tmod (AH q.e2 64) 9) (W64 ((Int.tmod (AH q.e1 48) 9)+2)) (W64 ((W64 ((Int.tmod (AH q.e2 64) 9)+2))+(W64 ((W64 (Int.tdiv (AH q.e1 48) 40))*1000))))]:List Ah)) rfl kr))⟩ (.cons ⟨rfl,.refl _⟩ (.cons ⟨rfl,.refl _⟩ (.cons ⟨rfl,.refl _⟩ (.cons ⟨rfl,.refl _⟩ (.cons ⟨rfl,.refl _⟩ (.cons ⟨rfl,.refl _⟩ (.cons ⟨rfl,.refl _⟩ (.cons ⟨rfl,.rowx _ _ _ _ (.cons ⟨rfl,(rr5 (rr3 .nil))⟩ (.cons ⟨rfl,(rr5 (rr2 (.cons (.own _ _ au16) .nil)))⟩ .nil))⟩ lr)))))))))))))))<|AA<|rn ⟨[(4,tP 4 0)],[(4,Za1 b),(26,Z9O b),(30,Z9R b),(34,Z9X b),(370,Za4 b q),(3100,Z9P b),(3102,Z9Q b),(3106,Z9T b),(3108,Z9U b),(3110,Z9V b),(3112,Z9Y b),(3114,Z9W b),(3340,Za5 b q),(3341,Z9Z b)]⟩<|AR ?_
 exact zy (Cv.trans (vf 3341 hk0) (Cv.trans (I8 (⟨[(4,tP 4 0)],(Qm b [(3340,.rowx 8 2 (fun i_ j_=>if i_<1 then (fun _ _=>default) i_ j_ else (fun _ _=>default) (i_-1) j_) 132 [(0,(A4.c (E1 b))),(1,(ME b [lst 4 Ah.c ((Cw b).Rects++(NL q))]))])])⟩) 370 hk0) (Cv.trans (HI (⟨[(4,tP 4 0)],(Qm b [(3340,.row 8 2 (BF 8 2 (IH b [lst 4 Ah.c (E1 b).Rects,.i (Cw b).Id,.s (Cw b).Net,.i (Cw b).Layer,.i (Cw b).Pitch,.i (Cw b).Priority,.i (Cw b).Relief,.i (Cw b).Spoke,lst 4 Ah.c ((Cw b).Rects++(NL q))])) 132)])⟩) 3340 8 2 (fun i_ j_=>if i_<1 then (fun _ _=>default) i_ j_ else (fun _ _=>default) (i_-1) j_) 132 [(A4.c (b.Pours.getD 0 default)),(Ye b [lst 4 Ah.c ((b.Pours.getD 1 default).Rects++[Ah.mk (Int.tmod (AH q.e1 48) 9) (Int.tmod (AH q.e2 64) 9) (W64 ((Int.tmod (AH q.e1 48) 9)+2)) (W64 ((W64 ((Int.tmod (AH q.e2 64) 9)+2))+(W64 ((W64 (Int.tdiv (AH q.e1 48) 40))*1000))))])])] kr kr kr kr) (Cv.trans (A6 3340 (A1 8 A4.c ([b.Pours.getD 0 default,A4.mk (b.Pours.getD 1 default).Id (b.Pours.getD 1 default).Net (b.Pours.getD 1 default).Layer (b.Pours.getD 1 default).Pitch (b.Pours.getD 1 default).Priority (b.Pours.getD 1 default).Relief (b.Pours.getD 1 default).Spoke ((b.Pours.getD 1 default).Rects++[Ah.mk (Int.tmod (AH q.e1 48) 9) (Int.tmod (AH q.e2 64) 9) (W64 ((Int.tmod (AH q.e1 48) 9)+2)) (W64 ((W64 ((Int.tmod (AH q.e2 64) 9)+2))+(W64 ((W64 (Int.tdiv (AH q.e1 48) 40))*1000))))])]:List A4))) (B2 [26,3100,3102,30,3340,3106,3108,3110,3114,34,3112] hk0))))) (by simp only [LK,h1,h2,cond_true,cond_false] <;> kernel_rfl)
end
section
open Go.RowKit
def Za6:Blk:=.cells GX 62
variable (b:AC) (v:Nat->Value)
def Za7:Blk:=.cells (ZO v) 62
def Za8:Blk:=.row 4 (E1 b).Rects.length (JL b) 99
def Za9:Blk:=.rowx 8 1 (fun _ _=>default) 132 [(0,(ZH b))]
def Zaa:Blk:=.cells (ZT v) 62
def Zab:Blk:=.rowx 8 1 (fun _ _=>default) 132 [(0,(RI b))]
def Zac:Blk:=.cells (ZU v) 62
def Zad:Blk:=.cells (Cx v [.own 3320 8 1,.val (v 9),.val (v 10),.val (v 11),.val (v 12),.val (v 13),.val (v 14)]) 62
abbrev Ui:List Cl:=(IH b [.own 3321 4 (E1 b).Rects.length])
def Zae:Blk:=.rowx 8 1 (fun _ _=>default) 132 [(0,(Ui b))]
abbrev sCxP1 (b:AC) (v:Nat->Value):AS:=⟨Bf,[(3003,Zad v),(B7 b),(3002,Za6),(3320,Zae b),(3321,Za8 b)]⟩
set_option maxHeartbeats 4000000 in
theorem gCxP1 (b:AC) (hc:Ce b) (hlen:(b.Pours.length:Int)=1) {c:Code} (hpc:Try.f59.body.bind (F9 [true,true,true,true,false,true])=some c):NZ Try.prog 229 [3003,3001,3002] c (fun _:Unit=>True) (fun v=>⟨[(1,tP 3001 0),(2,tP 3002 0),(3,tP 3003 0),(7,tI 0)],[(3003,.cells [.val (v 0),.val (v 1),.val (v 2),.val (v 3),.val (v 4),.val (v 5),.val (v 6),.val (v 7),vN,.val (v 9),.val (v 10),.val (v 11),.val (v 12),.val (v 13),.val (v 14)] 62),(3001,.cells (AC.c b) 62),(3002,.cells [.i 0,.i 0,vN,.i 0,vN,vN,vN,vN,vN,vN,vN,vN,vN,vN,vN] 62)]⟩) (fun v _=>sCxP1 b v):=by
 cases hpc
 intro W0 M0 X v hP hFl
 show AWp _ _ _ _ _ _ _ _ ⟨[(1,tP 3001 0),(2,tP 3002 0),(3,tP 3003 0),(7,tI 0)],[(3003,.cells [.val (v 0),.val (v 1),.val (v 2),.val (v 3),.val (v 4),.val (v 5),.val (v 6),.val (v 7),vN,.val (v 9),.val (v 10),.val (v 11),.val (v 12),.val (v 13),.val (v 14)] 62),(3001,.cells (AC.c b) 62),(3002,.cells [.i 0,.i 0,vN,.i 0,vN,vN,vN,vN,vN,vN,vN,vN,vN,vN,vN] 62)]⟩
 have h0:=hc.lParts
 have h1:=hc.lNets
 have h2:=hc.lTracks
 have h3:=hc.lVias
 have h4:=hc.lPours
 have h5:=hc.lKeeps
 have h6:=hc.lSlots
 have h7:=hc.lClasses
 have h8:=hc.lWaivers
 have h9:=hc.lMatches
 have h10:=hc.lRules
 have hr:=hc.rok
 have hb0:=hc.rec' 0
 refine AM<|Dr 2<|Ba<|AA<|AA<|rn ⟨[(1,tP 3001 0),(2,tP 3002 0),(3,tP 3003 0),(7,tI 0),(89,tB (decide ((0:Int)<(b.Pours.length:Int))))],[(3001,.cells (AC.c b) 62),(3002,Za6),(3003,Za7 v)]⟩ ?_
 have h1:(decide ((0:Int)<(b.Pours.length:Int)))=true:=(by rw [hlen];decide)
 have g1:=oT h1
 refine AL _ rfl (fun _ => ?_) (fun h=>absurd (h1.symm.trans h) (by decide))
 refine AQ<|AF<|AA<|AM<|AA<|rc [] [0<=(0:Int)/\(0:Int)<((b.Pours.length:Nat):Int)] ⟨[(1,tP 3001 0),(2,tP 3002 0),(3,tP 3003 0),(7,tI 0),(8,tP 8 0)],[(8,.cells (A4.c (b.Pours.getD 0 default)) 132),(3001,.cells (AC.c b) 62),(3002,Za6),(3003,Za7 v)]⟩ .nil (.cons (by first | decide | omega | (rw [hlen];decide) | (rw [show (b.Pours.length:Int)=1 from hlen];decide)) .nil)<|AF<|AA<|CN DU [97] [] [] [1,2,3,7,8] [8,100,3001,3002,3003] [0=0,0+(b.Pours.getD 0 default).Rects.length<=maxLen,(0+(b.Pours.getD 0 default).Rects.length)*32<=140737488355328] ⟨[(1,tP 3001 0),(2,tP 3002 0),(3,tP 3003 0),(7,tI 0),(8,tP 8 0)],[(8,.cells [.i (b.Pours.getD 0 default).Id,.s (b.Pours.getD 0 default).Net,.i (b.Pours.getD 0 default).Layer,.i (b.Pours.getD 0 default).Pitch,.i (b.Pours.getD 0 default).Priority,.i (b.Pours.getD 0 default).Relief,.i (b.Pours.getD 0 default).Spoke,.own 100 4 (0+(b.Pours.getD 0 default).Rects.length)] 132),(100,.row 4 (0+(b.Pours.getD 0 default).Rects.length) (fun i_ j_=>if i_<0 then (BF 4 0 []) i_ j_ else (AV Ah.c (b.Pours.getD 0 default).Rects) (i_-0) j_) 99),(3001,.cells (AC.c b) 62),(3002,Za6),(3003,Za7 v)]⟩ .nil kr (.cons rfl (.cons au9 (.cons au9 .nil)))<|AF ?_
 refine Al (A6 100 (Ar (A1 4 Ah.c (([]:List Ah):List Ah)) (Af 4 Ah.c (b.Pours.getD 0 default).Rects)))<|oc [] [1=1,0<1,1<=maxLen,1*88<=140737488355328] .nil (.cons rfl (.cons (by decide) (.cons au9 (.cons au9 .nil))))<|A0<|AF<|rn ⟨[(1,tP 3001 0),(2,tP 3002 0),(3,tP 3003 0),(7,tI 1)],[(100,Za8 b),(106,Za9 b),(3001,.cells (AC.c b) 62),(3002,Za6),(3003,Zaa v)]⟩<|Ba<|Al (Cv.trans (CM (⟨[(1,tP 3001 0),(2,tP 3002 0),(3,tP 3003 0),(7,tI 1)],[(2000,Za8 b),(106,Zab b),(3001,.cells (AC.c b) 62),(3002,Za6),(3003,Zaa v)]⟩) 100 2000 (K:=[3003,3001,3002]) hP rfl rfl kr kr) (CM (⟨[(1,tP 3001 0),(2,tP 3002 0),(3,tP 3003 0),(7,tI 1)],[(2000,Za8 b),(2001,Zab b),(3001,.cells (AC.c b) 62),(3002,Za6),(3003,Zac v)]⟩) 106 2001 (K:=[3003,3001,3002]) hP rfl rfl kr kr))<|AA<|AA<|rn ⟨[(1,tP 3001 0),(2,tP 3002 0),(3,tP 3003 0),(7,tI 1),(89,tB (decide ((1:Int)<(b.Pours.length:Int))))],[(2000,Za8 b),(2001,Zab b),(3001,.cells (AC.c b) 62),(3002,Za6),(3003,Zac v)]⟩ ?_
 have h2:(decide ((1:Int)<(b.Pours.length:Int)))=false:=(by rw [hlen];decide)
 have g2:=oF h2
 refine AL _ rfl (fun h=>absurd (h2.symm.trans h) (by decide)) (fun _ => ?_)
 refine BH<|A7<|A7<|BI ?_
 exact ⟨_,Cv.trans (CG [1,2,3] [2000,2001,3001,3002,3003] (⟨[(1,tP 3001 0),(2,tP 3002 0),(3,tP 3003 0)],[(2000,Za8 b),(2001,Zab b),(3001,.cells (AC.c b) 62),(3002,Za6),(3003,Zac v)]⟩) kr) (Cv.trans (CM (⟨[(1,tP 3001 0),(2,tP 3002 0),(3,tP 3003 0)],[(2000,Za8 b),(3320,Zab b),(3001,.cells (AC.c b) 62),(3002,Za6),(3003,Zad v)]⟩) 2001 3320 (K:=[3003,3001,3002]) hP rfl rfl kr kr) (Cv.trans (CM (⟨[(1,tP 3001 0),(2,tP 3002 0),(3,tP 3003 0)],[(3321,Za8 b),(3320,Zae b),(3001,.cells (AC.c b) 62),(3002,Za6),(3003,Zad v)]⟩) 2000 3321 (K:=[3003,3001,3002]) hP rfl rfl kr kr) (CG [1,2,3] [3003,3001,3002,3320,3321] (⟨[(1,tP 3001 0),(2,tP 3002 0),(3,tP 3003 0)],[(3003,Zad v),(3001,.cells (AC.c b) 62),(3002,Za6),(3320,Zae b),(3321,Za8 b)]⟩) kr))),rfl,(),trivial,rfl⟩
end
section
open Go.RowKit
def Zaf:Blk:=.cells GX 62
variable (b:AC)
def Zag:Blk:=.cells (RJ b) 62
def Zah:Blk:=.row 7 b.Parts.length (Hf b) 115
def Zai:Blk:=.row 8 b.Vias.length (Hc b) 129
def Zaj:Blk:=.row 3 b.Waivers.length (Hg b) 141
def Zak:Blk:=.cells (Ul b) 62
def Zal:Blk:=.row 2 (Aq b).length (IL b) 69
def Zam:Blk:=.cells (Uo b) 62
def Zan:Blk:=.row 6 (AK b).length (II b) 81
def Zao:Blk:=.cells (Co b [.own 3320 8 1,vN,vN,vN,vN,.own 34 3 b.Waivers.length,vN]) 62
def Zap:Blk:=.rowx 8 1 (fun _ _=>default) 132 [(0,(Ui b))]
def Zaq:Blk:=.row 4 (E1 b).Rects.length (JL b) 99
abbrev YY:List Cl:=[.own 3320 8 1,.own 3106 5 (Ay b).length,vN,vN,vN,.own 34 3 b.Waivers.length,vN]
def Zar:Blk:=.cells (Co b (YY b)) 62
def Zas:Blk:=.row 5 (Ay b).length (IM b) 135
abbrev Yb:List Cl:=[.own 3320 8 1,.own 3106 5 (Ay b).length,.own 3108 4 (A2 b).length,vN,vN,.own 34 3 b.Waivers.length,vN]
def Zat:Blk:=.cells (Co b (Yb b)) 62
def Zau:Blk:=.row 4 (A2 b).length (IJ b) 137
abbrev MD (t_:List Cl):List Cl:=(.own 3320 8 1)::(JC b)::(KZ b)::(JB b)::t_
def Zav:Blk:=.cells (Co b (MD b (QZ b))) 62
def Zaw:Blk:=.row 2 (Ae b).length (He b) 139
def Zax:Blk:=.cells (Co b (MD b (Qc b))) 62
def Zay:Blk:=.row 3 (AZ b).length (Hd b) 78
abbrev RO:List Cl:=(Co b (MD b (Qd b)))
def Zaz:Blk:=.cells (RO b) 62
def ZaA:Blk:=.row 20 (Ab b).length (IK b) 146
def jT (b:AC):Tv:=.av (.agg (RO b))
def hCyP1 (b:AC):List (Nat×Blk):=[(26,.row 7 b.Parts.length (AV AU.c b.Parts) 115),(3100,.row 2 (Aq b).length (AV A9.c (Aq b)) 69),(3102,.row 6 (AK b).length (AV AO.c (AK b)) 81),(30,.row 8 b.Vias.length (AV BW.c b.Vias) 129),(3320,.rowx 8 1 (fun _ _=>default) 132 [(0,[.i (b.Pours.getD 0 default).Id,.s (b.Pours.getD 0 default).Net,.i (b.Pours.getD 0 default).Layer,.i (b.Pours.getD 0 default).Pitch,.i (b.Pours.getD 0 default).Priority,.i (b.Pours.getD 0 default).Relief,.i (b.Pours.getD 0 default).Spoke,.own 3321 4 (b.Pours.getD 0 default).Rects.length])]),(3106,.row 5 (Ay b).length (AV A5.c (Ay b)) 135),(3108,.row 4 (A2 b).length (AV BC.c (A2 b)) 137),(3110,.row 2 (Ae b).length (AV BE.c (Ae b)) 139),(3114,.row 20 (Ab b).length (AV Az.c (Ab b)) 146),(34,.row 3 b.Waivers.length (AV An.c b.Waivers) 141),(3112,.row 3 (AZ b).length (AV AN.c (AZ b)) 78),(3321,.row 4 (b.Pours.getD 0 default).Rects.length (AV Ah.c (b.Pours.getD 0 default).Rects) 99)]
abbrev JE (t_:List (Nat×Blk)):List (Nat×Blk):=(26,Zah b)::(30,Zai b)::(34,Zaj b)::(B7 b)::(3002,Zaf)::t_
abbrev ZW:List (Nat×Blk):=(JE b [(3003,Zax b),(3100,Zal b),(3102,Zan b),(3106,Zas b),(3108,Zau b),(3110,Zaw b),(3112,Zay b),(3320,Zap b),(3321,Zaq b)])
abbrev ZP:List (Nat×Blk):=(JE b [(3003,Zav b),(3100,Zal b),(3102,Zan b),(3106,Zas b),(3108,Zau b),(3110,Zaw b),(3320,Zap b),(3321,Zaq b)])
abbrev ZK:List (Nat×Blk):=(JE b [(3003,Zat b),(3100,Zal b),(3102,Zan b),(3106,Zas b),(3108,Zau b),(3320,Zap b),(3321,Zaq b)])
abbrev ZB:List (Nat×Blk):=(JE b [(3003,Zar b),(3100,Zal b),(3102,Zan b),(3106,Zas b),(3320,Zap b),(3321,Zaq b)])
abbrev Y7:List (Nat×Blk):=(JE b [(3003,Zao b),(3100,Zal b),(3102,Zan b),(3320,Zap b),(3321,Zaq b)])
abbrev Yx:List (Nat×Blk):=(JE b [(3003,Zam b),(3100,Zal b),(3102,Zan b)])
abbrev Yk:List (Nat×Blk):=(JE b [(3003,Zak b),(3100,Zal b)])
set_option maxHeartbeats 4000000 in
theorem qCyP1 (b:AC) (hc:Ce b) (hlen:(b.Pours.length:Int)=1):Frs Try.prog 59 [.agg (AC.c b)] (fun _:Unit=>True) (fun _=>jT b) (fun _=>hCyP1 b):=by
 refine J5 Try.func59 rfl kr kr kr fun W0 M0 X hP hFl => ?_
 have h0:=hc.lParts
 have h1:=hc.lNets
 have h2:=hc.lTracks
 have h3:=hc.lVias
 have h4:=hc.lPours
 have h5:=hc.lKeeps
 have h6:=hc.lSlots
 have h7:=hc.lClasses
 have h8:=hc.lWaivers
 have h9:=hc.lMatches
 have h10:=hc.lRules
 have hr:=hc.rok
 refine AA<|on<|AA<|od [23,27,31] [(22,B5 b.Outline)] [As (B5 b.Outline).2.1,0=0,0+b.Parts.length<=maxLen,(0+b.Parts.length)*72<=140737488355328,0=0,0+b.Vias.length<=maxLen,(0+b.Vias.length)*72<=140737488355328,0=0,0+b.Waivers.length<=maxLen,(0+b.Waivers.length)*32<=140737488355328] (.cons (D2 b.Outline au28) .nil) (.cons rfl (.cons rfl (.cons au4 (.cons au4 (.cons rfl (.cons au4 (.cons au4 (.cons rfl (.cons au4 (.cons au4 .nil))))))))))<|AF<|Al (Cv.trans (A6 26 (Ar (A1 7 AU.c (([]:List AU):List AU)) (Af 7 AU.c b.Parts))) (Cv.trans (A6 30 (Ar (A1 8 BW.c (([]:List BW):List BW)) (Af 8 BW.c b.Vias))) (A6 34 (Ar (A1 3 An.c (([]:List An):List An)) (Af 3 An.c b.Waivers)))))<|AA<|AA<|rn ⟨MR,[(1,.cells (AC.c b) 62),(2,Zaf),(3,Zag b),(26,Zah b),(30,Zai b),(34,Zaj b)]⟩<|Al (Cv.trans (vr 3 3003 (K:=[]) hP) (Cv.trans (vr 1 3001 (K:=[]) hP) (wr (⟨Q7,[(B7 b),(3002,Zaf),(3003,Zag b),(26,Zah b),(30,Zai b),(34,Zaj b)]⟩) 2 3002 (K:=[]) hP))) ?_
 refine CH (ι:=Unit) (I:=fun _=>True) 3003 (V8 b) 62 (mkB 15 5) [1,2,3,4] [3001,3002] (fun _=>Bf) (fun _=>lEB 15 5 (L9 b)) (fun _=>[(B7 b),CI,(UJ b)]) (fun _=>⟨Bf,[(3003,Zak b),(B7 b),(3002,Zaf),(3100,Zal b),(26,Zah b),(30,Zai b),(34,Zaj b)]⟩) hP hFl (R3 b hc kr) (fun _ _ => ?_)
 refine AF<|Al (ck (⟨Bf,(Yk b)⟩))<|AA<|AA<|rn ⟨Q6,(Yk b)⟩<|CH (ι:=Unit) (I:=fun _=>True) 3003 (Yw b) 62 (mkB 15 6) [1,2,3,5] [3001,3002] (fun _=>Bf) (fun _=>lEB 15 6 (IC b)) (fun _=>[(B7 b),CI,(Qt b)]) (fun _=>⟨Bf,[(3003,Zam b),(B7 b),(3002,Zaf),(3102,Zan b),(26,Zah b),(30,Zai b),(34,Zaj b),(3100,Zal b)]⟩) hP hFl (J4 b hc kr) (fun _ _ => ?_)
 refine AF<|Al (ck (⟨Bf,(Yx b)⟩))<|AA<|AA<|rn ⟨Q5,(Yx b)⟩<|CH (ι:=Unit) (I:=fun _=>True) 3003 (ZA b) 62 (mkB 15 8) [1,2,3,7] [3001,3002] (fun _=>Bf) (fun _=>lEB 15 8 (.own 3320 8 1)) (fun _=>[(B7 b),CI,(3320,.rowx 8 1 (fun _ _=>default) 132 [(0,(Yf b [.own 3321 4 (IB b).Rects.length]))]),(3321,.row 4 (b.Pours.getD 0 default).Rects.length (AV Ah.c (b.Pours.getD 0 default).Rects) 99)]) (fun _=>⟨Bf,[(3003,Zao b),(B7 b),(3002,Zaf),(3320,Zap b),(3321,Zaq b),(26,Zah b),(30,Zai b),(34,Zaj b),(3100,Zal b),(3102,Zan b)]⟩) hP hFl (gCxP1 b hc hlen kr) (fun _ _ => ?_)
 refine AF<|Al (ck (⟨Bf,(Y7 b)⟩))<|AA<|AA<|rn ⟨Q4,(Y7 b)⟩<|CH (ι:=Unit) (I:=fun _=>True) 3003 (Ep b [.own 3320 8 1,vN,vN,vN,vN,.own 34 3 b.Waivers.length,vN]) 62 (mkB 15 9) [1,2,3,9] [3001,3002] (fun _=>Bf) (fun _=>lEB 15 9 (JC b)) (fun _=>[(B7 b),CI,(Qx b)]) (fun _=>⟨Bf,[(3003,Zar b),(B7 b),(3002,Zaf),(3106,Zas b),(26,Zah b),(30,Zai b),(34,Zaj b),(3100,Zal b),(3102,Zan b),(3320,Zap b),(3321,Zaq b)]⟩) hP hFl (Lm b hc kr) (fun _ _ => ?_)
 refine AF<|Al (ck (⟨Bf,(ZB b)⟩))<|AA<|AA<|rn ⟨RD,(ZB b)⟩<|CH (ι:=Unit) (I:=fun _=>True) 3003 (Ep b (YY b)) 62 (mkB 15 10) [1,2,3,11] [3001,3002] (fun _=>Bf) (fun _=>lEB 15 10 (KZ b)) (fun _=>[(B7 b),CI,(Qw b)]) (fun _=>⟨Bf,[(3003,Zat b),(B7 b),(3002,Zaf),(3108,Zau b),(26,Zah b),(30,Zai b),(34,Zaj b),(3100,Zal b),(3102,Zan b),(3106,Zas b),(3320,Zap b),(3321,Zaq b)]⟩) hP hFl (Lk b hc kr) (fun _ _ => ?_)
 refine AF<|Al (ck (⟨Bf,(ZK b)⟩))<|AA<|AA<|rn ⟨RB,(ZK b)⟩<|CH (ι:=Unit) (I:=fun _=>True) 3003 (Ep b (Yb b)) 62 (mkB 15 11) [1,2,3,13] [3001,3002] (fun _=>Bf) (fun _=>lEB 15 11 (JB b)) (fun _=>[(B7 b),CI,(Qv b)]) (fun _=>⟨Bf,[(3003,Zav b),(B7 b),(3002,Zaf),(3110,Zaw b),(26,Zah b),(30,Zai b),(34,Zaj b),(3100,Zal b),(3102,Zan b),(3106,Zas b),(3108,Zau b),(3320,Zap b),(3321,Zaq b)]⟩) hP hFl (Ik b hc kr) (fun _ _ => ?_)
 refine AF<|Al (ck (⟨Bf,(ZP b)⟩))<|AA<|AA<|rn ⟨Q9,(ZP b)⟩<|CH (ι:=Unit) (I:=fun _=>True) 3003 (Ep b (MD b (QZ b))) 62 (mkB 15 14) [1,2,3,14] [3001,3002] (fun _=>Bf) (fun _=>lEB 15 14 (.own 3112 3 (AZ b).length)) (fun _=>[(B7 b),CI,(Qs b)]) (fun _=>⟨Bf,[(3003,Zax b),(B7 b),(3002,Zaf),(3112,Zay b),(26,Zah b),(30,Zai b),(34,Zaj b),(3100,Zal b),(3102,Zan b),(3106,Zas b),(3108,Zau b),(3110,Zaw b),(3320,Zap b),(3321,Zaq b)]⟩) hP hFl (Ij b hc kr) (fun _ _ => ?_)
 refine AF<|Al (ck (⟨Bf,(ZW b)⟩))<|AA<|AA<|rn ⟨Q8,(ZW b)⟩<|CH (ι:=Unit) (I:=fun _=>True) 3003 (Ep b (MD b (Qc b))) 62 (mkB 15 12) [1,2,3,16] [3001,3002] (fun _=>Bf) (fun _=>lEB 15 12 (Qo b)) (fun _=>[(B7 b),CI,(Qy b)]) (fun _=>⟨Bf,[(3003,Zaz b),(B7 b),(3002,Zaf),(3114,ZaA b),(26,Zah b),(30,Zai b),(34,Zaj b),(3100,Zal b),(3102,Zan b),(3106,Zas b),(3108,Zau b),(3110,Zaw b),(3112,Zay b),(3320,Zap b),(3321,Zaq b)]⟩) hP hFl (Ll b hc kr) (fun _ _ => ?_)
 refine AF<|Al (ck (⟨Bf,(JE b [(3003,Zaz b),(3100,Zal b),(3102,Zan b),(3106,Zas b),(3108,Zau b),(3110,Zaw b),(3112,Zay b),(3114,ZaA b),(3320,Zap b),(3321,Zaq b)])⟩))<|AA<|rn ⟨[(2,tP 3002 0)],[(26,Zah b),(30,Zai b),(34,Zaj b),(3002,Zaz b),(3100,Zal b),(3102,Zan b),(3106,Zas b),(3108,Zau b),(3110,Zaw b),(3112,Zay b),(3114,ZaA b),(3320,Zap b),(3321,Zaq b)]⟩<|AR ?_
 refine ⟨_,Cv.trans (ck (⟨[(2,tP 3002 0)],[(26,Zah b),(3100,Zal b),(3102,Zan b),(30,Zai b),(3320,Zap b),(3106,Zas b),(3108,Zau b),(3110,Zaw b),(3114,ZaA b),(34,Zaj b),(3112,Zay b),(3321,Zaq b),(3002,Zaz b)]⟩)) (Cv.refl _),.inl rfl,jT b,by kernel_rfl,iI (m:=[(3002,.cells (Ep b (MD b (Qd b))) 62)]) kr⟩
end
section
open Go.RowKit
def ZaB:Blk:=.cells GX 62
variable (b:AC) (q:EO)
def ZaC:Blk:=.row 7 b.Parts.length (Hf b) 115
def ZaD:Blk:=.row 2 (Aq b).length (IL b) 69
def ZaE:Blk:=.row 6 (AK b).length (II b) 81
def ZaF:Blk:=.row 8 b.Vias.length (Hc b) 129
def ZaG:Blk:=.rowx 8 1 (fun _ _=>default) 132 [(0,(Ui b))]
def ZaH:Blk:=.row 5 (Ay b).length (IM b) 135
def ZaI:Blk:=.row 4 (A2 b).length (IJ b) 137
def ZaJ:Blk:=.row 2 (Ae b).length (He b) 139
def ZaK:Blk:=.row 20 (Ab b).length (IK b) 146
def ZaL:Blk:=.row 3 b.Waivers.length (Hg b) 141
def ZaM:Blk:=.row 3 (AZ b).length (Hd b) 78
def ZaN:Blk:=.row 4 (E1 b).Rects.length (JL b) 99
def ZaO:Blk:=.cells (RO b) 62
def ZaP:Blk:=.row 4 ((E1 b).Rects++(NL q)).length (AV Ah.c ((E1 b).Rects++(NL q))) 99
def ZaQ:Blk:=.rowx 8 1 (fun _ _=>default) 132 [(0,(ZG b q))]
def Mw (b:AC) (q:EO):AC:={ Cp b with Pours:=[A4.mk (b.Pours.getD 0 default).Id (b.Pours.getD 0 default).Net (b.Pours.getD 0 default).Layer (b.Pours.getD 0 default).Pitch (b.Pours.getD 0 default).Priority (b.Pours.getD 0 default).Relief (b.Pours.getD 0 default).Spoke ((b.Pours.getD 0 default).Rects++[Ah.mk (Int.tmod (AH q.e1 48) 9) (Int.tmod (AH q.e2 64) 9) (W64 ((Int.tmod (AH q.e1 48) 9)+2)) (W64 ((W64 ((Int.tmod (AH q.e2 64) 9)+2))+(W64 ((W64 (Int.tdiv (AH q.e1 48) 40))*1000))))])] }
def nB:CT:=(23,(Nz b q),.val [] (.av (.agg (AC.c (Mw b q)))))
abbrev V4:List (Nat×Blk):=[(4,ZaB),(5,ZaO b),(26,ZaC b),(30,ZaF b),(34,ZaL b),(3100,ZaD b),(3102,ZaE b),(3106,ZaH b),(3108,ZaI b),(3110,ZaJ b),(3112,ZaM b),(3114,ZaK b),(3320,ZaG b),(3321,ZaN b)]
abbrev Yc (t_:List (Nat×Blk)):List (Nat×Blk):=(4,ZaO b)::(26,ZaC b)::(30,ZaF b)::(34,ZaL b)::(3100,ZaD b)::(3102,ZaE b)::(3106,ZaH b)::(3108,ZaI b)::(3110,ZaJ b)::(3112,ZaM b)::(3114,ZaK b)::t_
set_option maxHeartbeats 40000000 in
theorem lF (b:AC) (q:EO) (hc:Ce b) (hq:AH q.e0 26=16) (hlen:(b.Pours.length:Int)=1):PuP 23 (nB b q).2.1 (.av (.agg (AC.c (Mw b q)))):=by
 refine pwf Try.func23 fun W0 M0 => ?_
 have hl0:=hc.lParts
 have hl1:=hc.lNets
 have hl2:=hc.lTracks
 have hl3:=hc.lVias
 have hl4:=hc.lPours
 have hl5:=hc.lKeeps
 have hl6:=hc.lSlots
 have hl7:=hc.lClasses
 have hl8:=hc.lWaivers
 have hl9:=hc.lMatches
 have hl10:=hc.lRules
 have hN:0<=AH q.e1 48/\AH q.e1 48<48:=I6 _ _ (by decide) (by decide)
 have hK0:=I6 q.e2 64 (by decide) (by decide)
 have hK:0<=AH q.e2 64/\AH q.e2 64<64:=hK0
 have hb0:=hc.rec' 0
 refine AA<|rn ⟨OD,[(DQ b),(FY q),(4,ZaB)]⟩<|AA<|Dp<|F2 DU 1 [] [] [] [3,4,11] [3,4] [] ⟨(OJ b),[(FY q),(4,ZaB)]⟩ .nil kr .nil<|H4 (ι:=Unit) (I:=fun _=>True) (fun _=>⟨[(3,tP 3 0),(4,tP 4 0),(OG b),(12,.av (.agg (RO b)))],[(26,ZaC b),(3100,ZaD b),(3102,ZaE b),(30,ZaF b),(3320,ZaG b),(3106,ZaH b),(3108,ZaI b),(3110,ZaJ b),(3114,ZaK b),(34,ZaL b),(3112,ZaM b),(3321,ZaN b),(FY q),(4,ZaB)]⟩) hk0 ⟨⟨_,_,rfl,rfl,⟨fun _=>default,by kernel_rfl⟩,by kernel_rfl⟩,fun _ _=>by kernel_rfl,rfl,rfl⟩ (qCyP1 b au17 au17) (fun _=>by kernel_rfl) (fun _=>by kernel_rfl) (fun _ _ => ?_)
 refine Ew DU [] [] [] [3,4,5] [3,4,5,26,30,34,3100,3102,3106,3108,3110,3112,3114,3320,3321] [] ⟨OC,[(FY q),(4,ZaB),(5,ZaO b),(26,ZaC b),(30,ZaF b),(34,ZaL b),(3100,ZaD b),(3102,ZaE b),(3106,ZaH b),(3108,ZaI b),(3110,ZaJ b),(3112,ZaM b),(3114,ZaK b),(3320,ZaG b),(3321,ZaN b)]⟩ .nil kr .nil<|AF<|AA<|oc [(15,E5 q.e1 48)] [0<=(1:Int)/\(1:Int)<(3:Int),As (E5 q.e1 48).2.1] (.cons (Gh q.e1 48 au17) .nil) (.cons (by decide) (.cons rfl .nil))<|AF<|AA<|oc [(18,E5 q.e2 64)] [0<=(2:Int)/\(2:Int)<(3:Int),As (E5 q.e2 64).2.1] (.cons (Gh q.e2 64 au17) .nil) (.cons (by decide) (.cons rfl .nil))<|AF<|AA<|AA<|rc [(21,E5 q.e0 26)] [0<=(0:Int)/\(0:Int)<(3:Int),As (E5 q.e0 26).2.1] ⟨[(4,tP 4 0),(5,tP 5 0),(6,tI (AH q.e1 48)),(7,tI (AH q.e2 64)),(21,tI (AH q.e0 26))],[(4,ZaB),(5,ZaO b),(26,ZaC b),(30,ZaF b),(34,ZaL b),(3100,ZaD b),(3102,ZaE b),(3106,ZaH b),(3108,ZaI b),(3110,ZaJ b),(3112,ZaM b),(3114,ZaK b),(3320,ZaG b),(3321,ZaN b)]⟩ (.cons (Gh q.e0 26 au17) .nil) (.cons (by decide) (.cons rfl .nil)) ?_
 (try rw [hq])
 refine AF<|AM<|AA<|on<|Ak kr<|AA<|on<|Ak kr<|AA<|on<|Ak kr<|AA<|on<|Ak kr<|AA<|on<|Ak kr<|AA<|rn ⟨(UV q),(V4 b)⟩<|Ak kr<|AA<|on<|Ak kr<|AA<|on<|Ak kr<|AA<|on<|Ak kr<|AA<|on<|Ak kr<|AA<|on<|Ak kr<|AA<|rn ⟨(UU q),(V4 b)⟩<|Ak kr<|AA<|on<|Ak kr<|AA<|on<|Ak kr<|AA<|on<|Ak kr<|AA<|on<|Ak kr<|AA<|on<|Bq kr<|AA<|rn ⟨(B1 q [(340,tB (decide ((0:Int)<((1:Nat):Int))))]),(V4 b)⟩ ?_
 have h1:(decide ((0:Int)<((1:Nat):Int)))=true:=(by decide)
 have g1:=oT h1
 refine AL _ rfl (fun _ => ?_) (fun h=>absurd (h1.symm.trans h) (by decide))
 refine AA<|dw [] [] [(((1:Nat):Int):Int)≠0,0<=(Int.tmod (AH q.e2 64) ((1:Nat):Int):Int)/\(Int.tmod (AH q.e2 64) ((1:Nat):Int):Int)<((1:Nat):Int)] ⟨(B1 q [(9,.av (.one (.rptr 3320 8 (Int.tmod (AH q.e2 64) ((1:Nat):Int)).toNat 0)))]),(V4 b)⟩ .nil (.cons au13 (.cons (by first | decide | omega | (have:=tmb hK.1 (n:=((1:Nat):Int)) (by decide);omega)) .nil))<|AF ?_
 have g2:((Int.tmod (AH q.e2 64) ((1:Nat):Int)).toNat:Nat)=0:=(by have:=tmb hK.1 (n:=((1:Nat):Int)) (by decide);omega)
 (try rw [g2])
 refine rc [] [(9:Int)≠0,(9:Int)≠0,(9:Int)≠0,(9:Int)≠0,(40:Int)≠0,(b.Pours.getD 0 default).Rects.length=(b.Pours.getD 0 default).Rects.length,(b.Pours.getD 0 default).Rects.length+1<=maxLen,((b.Pours.getD 0 default).Rects.length+1)*32<=140737488355328] ⟨FC,[(4,ZaB),(5,ZaO b),(26,ZaC b),(30,ZaF b),(34,ZaL b),(370,.row 4 ((E1 b).Rects.length+1) (fun i_ j_=>if i_<(E1 b).Rects.length then (JL b) i_ j_ else (Ug q) (i_-(E1 b).Rects.length) j_) 99),(3100,ZaD b),(3102,ZaE b),(3106,ZaH b),(3108,ZaI b),(3110,ZaJ b),(3112,ZaM b),(3114,ZaK b),(3320,.rowx 8 1 (fun _ _=>default) 132 [(0,(ZJ b))])]⟩ .nil (.cons au13 (.cons au13 (.cons au13 (.cons au13 (.cons au13 (.cons rfl (.cons au9 (.cons au9 .nil))))))))<|A0<|AF ?_
 refine Al (C1 (⟨FC,[(4,ZaB),(5,ZaO b),(26,ZaC b),(30,ZaF b),(34,ZaL b),(370,ZaP b q),(3100,ZaD b),(3102,ZaE b),(3106,ZaH b),(3108,ZaI b),(3110,ZaJ b),(3112,ZaM b),(3114,ZaK b),(3320,ZaQ b q)]⟩) lr (.cons ⟨rfl,.refl _⟩ (.cons ⟨rfl,.refl _⟩ (.cons ⟨rfl,.refl _⟩ (.cons ⟨rfl,.refl _⟩ (.cons ⟨rfl,.refl _⟩ (.cons ⟨rfl,CX 99 (Ar (Af 4 Ah.c (b.Pours.getD 0 default).Rects) (BR (c:=Ah.c) (xs:=([Ah.mk (Int.tmod (AH q.e1 48) 9) (Int.tmod (AH q.e2 64) 9) (W64 ((Int.tmod (AH q.e1 48) 9)+2)) (W64 ((W64 ((Int.tmod (AH q.e2 64) 9)+2))+(W64 ((W64 (Int.tdiv (AH q.e1 48) 40))*1000))))]:List Ah)) rfl kr))⟩ (.cons ⟨rfl,.refl _⟩ (.cons ⟨rfl,.refl _⟩ (.cons ⟨rfl,.refl _⟩ (.cons ⟨rfl,.refl _⟩ (.cons ⟨rfl,.refl _⟩ (.cons ⟨rfl,.refl _⟩ (.cons ⟨rfl,.refl _⟩ (.cons ⟨rfl,.rowx _ _ _ _ (.cons ⟨rfl,(rr5 (rr2 (.cons (.own _ _ au16) .nil)))⟩ .nil)⟩ .nil)))))))))))))))<|AA<|rn ⟨[(4,tP 4 0)],[(4,ZaO b),(26,ZaC b),(30,ZaF b),(34,ZaL b),(370,ZaP b q),(3100,ZaD b),(3102,ZaE b),(3106,ZaH b),(3108,ZaI b),(3110,ZaJ b),(3112,ZaM b),(3114,ZaK b),(3320,ZaQ b q)]⟩<|AR ?_
 exact zy (Cv.trans (I8 (⟨[(4,tP 4 0)],(Yc b [(3320,.rowx 8 1 (fun _ _=>default) 132 [(0,(Uh b q))])])⟩) 370 hk0) (Cv.trans (HI (⟨[(4,tP 4 0)],(Yc b [(3320,.row 8 1 (BF 8 1 (Uh b q)) 132)])⟩) 3320 8 1 (fun _ _=>default) 132 [(jR b q)] kr kr kr kr) (Cv.trans (A6 3320 (A1 8 A4.c ([A4.mk (b.Pours.getD 0 default).Id (b.Pours.getD 0 default).Net (b.Pours.getD 0 default).Layer (b.Pours.getD 0 default).Pitch (b.Pours.getD 0 default).Priority (b.Pours.getD 0 default).Relief (b.Pours.getD 0 default).Spoke ((b.Pours.getD 0 default).Rects++[Ah.mk (Int.tmod (AH q.e1 48) 9) (Int.tmod (AH q.e2 64) 9) (W64 ((Int.tmod (AH q.e1 48) 9)+2)) (W64 ((W64 ((Int.tmod (AH q.e2 64) 9)+2))+(W64 ((W64 (Int.tdiv (AH q.e1 48) 40))*1000))))])]:List A4))) (B2 [26,3100,3102,30,3320,3106,3108,3110,3114,34,3112] hk0)))) (by simp only [Mw,h1,cond_true,cond_false] <;> kernel_rfl)
end
section
open Go.RowKit
def ZaR:Blk:=.cells GX 62
variable (b:AC) (q:EO)
def ZaS:Blk:=.row 7 b.Parts.length (Hf b) 115
def ZaT:Blk:=.row 2 (Aq b).length (IL b) 69
def ZaU:Blk:=.row 6 (AK b).length (II b) 81
def ZaV:Blk:=.row 8 b.Vias.length (Hc b) 129
def ZaW:Blk:=.row 8 (Aw b).length (AV A4.c (Aw b)) 132
def ZaX:Blk:=.row 5 (Ay b).length (IM b) 135
def ZaY:Blk:=.row 4 (A2 b).length (IJ b) 137
def ZaZ:Blk:=.row 2 (Ae b).length (He b) 139
def Zb0:Blk:=.row 20 (Ab b).length (IK b) 146
def Zb1:Blk:=.row 3 b.Waivers.length (Hg b) 141
def Zb2:Blk:=.row 3 (AZ b).length (Hd b) 78
def Zb3:Blk:=.cells (T9 b) 62
def Mx (b:AC) (q:EO):AC:=Cp b
def nC:CT:=(23,(Nz b q),.val [] (.av (.agg (AC.c (Mx b q)))))
abbrev YQ:List (Nat×Blk):=[(4,ZaR),(5,Zb3 b),(26,ZaS b),(30,ZaV b),(34,Zb1 b),(3100,ZaT b),(3102,ZaU b),(3104,ZaW b),(3106,ZaX b),(3108,ZaY b),(3110,ZaZ b),(3112,Zb2 b),(3114,Zb0 b)]
set_option maxHeartbeats 40000000 in
theorem lG (b:AC) (q:EO) (hc:Ce b) (hq:AH q.e0 26=16) (hlen:(b.Pours.length:Int)=0):PuP 23 (nC b q).2.1 (.av (.agg (AC.c (Mx b q)))):=by
 refine pwf Try.func23 fun W0 M0 => ?_
 have hl0:=hc.lParts
 have hl1:=hc.lNets
 have hl2:=hc.lTracks
 have hl3:=hc.lVias
 have hl4:=hc.lPours
 have hl5:=hc.lKeeps
 have hl6:=hc.lSlots
 have hl7:=hc.lClasses
 have hl8:=hc.lWaivers
 have hl9:=hc.lMatches
 have hl10:=hc.lRules
 have hN:0<=AH q.e1 48/\AH q.e1 48<48:=I6 _ _ (by decide) (by decide)
 have hK0:=I6 q.e2 64 (by decide) (by decide)
 have hK:0<=AH q.e2 64/\AH q.e2 64<64:=hK0
 have hfP:=P2 b
 refine AA<|rn ⟨OD,[(DQ b),(FY q),(4,ZaR)]⟩<|AA<|Dp<|F2 DU 1 [] [] [] [3,4,11] [3,4] [] ⟨(OJ b),[(FY q),(4,ZaR)]⟩ .nil kr .nil<|H4 (ι:=Unit) (I:=fun _=>True) (fun _=>⟨[(3,tP 3 0),(4,tP 4 0),(OG b),(12,.av (.agg (T9 b)))],[(26,ZaS b),(3100,ZaT b),(3102,ZaU b),(30,ZaV b),(3104,ZaW b),(3106,ZaX b),(3108,ZaY b),(3110,ZaZ b),(3114,Zb0 b),(34,Zb1 b),(3112,Zb2 b),(FY q),(4,ZaR)]⟩) hk0 ⟨⟨_,_,rfl,rfl,⟨fun _=>default,by kernel_rfl⟩,by kernel_rfl⟩,fun _ _=>by kernel_rfl,rfl,rfl⟩ (qCpA b au17) (fun _=>by kernel_rfl) (fun _=>by kernel_rfl) (fun _ _ => ?_)
 refine Ew DU [] [] [] [3,4,5] [3,4,5,26,30,34,3100,3102,3104,3106,3108,3110,3112,3114] [] ⟨OC,[(FY q),(4,ZaR),(5,Zb3 b),(26,ZaS b),(30,ZaV b),(34,Zb1 b),(3100,ZaT b),(3102,ZaU b),(3104,ZaW b),(3106,ZaX b),(3108,ZaY b),(3110,ZaZ b),(3112,Zb2 b),(3114,Zb0 b)]⟩ .nil kr .nil<|AF<|AA<|oc [(15,E5 q.e1 48)] [0<=(1:Int)/\(1:Int)<(3:Int),As (E5 q.e1 48).2.1] (.cons (Gh q.e1 48 au17) .nil) (.cons (by decide) (.cons rfl .nil))<|AF<|AA<|oc [(18,E5 q.e2 64)] [0<=(2:Int)/\(2:Int)<(3:Int),As (E5 q.e2 64).2.1] (.cons (Gh q.e2 64 au17) .nil) (.cons (by decide) (.cons rfl .nil))<|AF<|AA<|AA<|rc [(21,E5 q.e0 26)] [0<=(0:Int)/\(0:Int)<(3:Int),As (E5 q.e0 26).2.1] ⟨[(4,tP 4 0),(5,tP 5 0),(6,tI (AH q.e1 48)),(7,tI (AH q.e2 64)),(21,tI (AH q.e0 26))],[(4,ZaR),(5,Zb3 b),(26,ZaS b),(30,ZaV b),(34,Zb1 b),(3100,ZaT b),(3102,ZaU b),(3104,ZaW b),(3106,ZaX b),(3108,ZaY b),(3110,ZaZ b),(3112,Zb2 b),(3114,Zb0 b)]⟩ (.cons (Gh q.e0 26 au17) .nil) (.cons (by decide) (.cons rfl .nil)) ?_
 (try rw [hq])
 refine AF<|AM<|AA<|on<|Ak kr<|AA<|on<|Ak kr<|AA<|on<|Ak kr<|AA<|on<|Ak kr<|AA<|on<|Ak kr<|AA<|rn ⟨(UV q),(YQ b)⟩<|Ak kr<|AA<|on<|Ak kr<|AA<|on<|Ak kr<|AA<|on<|Ak kr<|AA<|on<|Ak kr<|AA<|on<|Ak kr<|AA<|rn ⟨(UU q),(YQ b)⟩<|Ak kr<|AA<|on<|Ak kr<|AA<|on<|Ak kr<|AA<|on<|Ak kr<|AA<|on<|Ak kr<|AA<|on<|Bq kr<|AA<|rn ⟨(B1 q [(340,tB (decide ((0:Int)<(((Aw b).length:Nat):Int))))]),(YQ b)⟩ ?_
 have h1:(decide ((0:Int)<(((Aw b).length:Nat):Int)))=false:=(by rw [hfP,hlen];decide)
 refine AL _ rfl (fun h=>absurd (h1.symm.trans h) (by decide)) (fun _ => ?_)
 exact AQ<|A0<|AF<|AA<|on<|AR<|zy (B2 [26,3100,3102,30,3104,3106,3108,3110,3114,34,3112] hk0) (by simp only [Mx,h1,cond_true,cond_false] <;> kernel_rfl)
end
abbrev jG:=EO
def Bm (b:AC) (q:EO):AC:=bif decide (AH q.e0 26=7) then NJ b q else bif decide (AH q.e0 26=16) then (bif decide ((b.Pours.length:Int)=2) then LK b q else bif decide ((b.Pours.length:Int)=1) then Mw b q else Mx b q) else B9 b q
def W8 (b:AC) (q:EO):CT:=(23,(Vp b q).2.1,.val [] (.av (.agg (AC.c (Bm b q)))))
theorem pOddA (b:AC) (q:EO) (hc:Ce b) (hn:(b.Nets.length:Int)=3) (hp:(b.Pours.length:Int)<=2):PuP 23 (W8 b q).2.1 (.av (.agg (AC.c (Bm b q)))):=by
 show HT Try.prog 23 (Vp b q).2.1 _
 by_cases h7:AH q.e0 26=7
 ·have e:Bm b q=NJ b q:=by unfold Bm;rw [decide_eq_true h7,cond_true]
  rw [e];exact pOddN b q hc h7 hn
 by_cases h16:AH q.e0 26=16
 ·by_cases h2:(b.Pours.length:Int)=2
  ·have e:Bm b q=LK b q:=by unfold Bm;rw [decide_eq_false h7,cond_false,decide_eq_true h16,cond_true,decide_eq_true h2,cond_true]
   rw [e];exact lD b q hc h16 h2
  by_cases h1:(b.Pours.length:Int)=1
  ·have e:Bm b q=Mw b q:=by unfold Bm;rw [decide_eq_false h7,cond_false,decide_eq_true h16,cond_true,decide_eq_false h2,cond_false,decide_eq_true h1,cond_true]
   rw [e];exact lF b q hc h16 h1
  have e:Bm b q=Mx b q:=by unfold Bm;rw [decide_eq_false h7,cond_false,decide_eq_true h16,cond_true,decide_eq_false h2,cond_false,decide_eq_false h1,cond_false]
  rw [e];exact lG b q hc h16 oM
 have e:Bm b q=B9 b q:=by unfold Bm;rw [decide_eq_false h7,cond_false,decide_eq_false h16,cond_false]
 rw [e];exact lH b q hc h7 h16
theorem mC (b:AC) (q:EO) (hc:Ce b) (hn:(b.Nets.length:Int)=3) (hp:(b.Pours.length:Int)<=2):OKc (W8 b q):=cPu<|pOddA b q hc hn hp
section
open Go.RowKit
variable (b:AC) (v3_5:List A9) (v3_6:List AO) (v3_9:List A5) (v9:Int) (v3_10:List BC) (v4 v5 v7:Int)
abbrev jN:List Cl:=(BT b (C6 b [lst 2 BE.c b.Classes,.any,lst 3 An.c b.Waivers,lst 3 AN.c b.Matches]))
def Zb4:Blk:=.cells (jN b) 62
def Zb5:Blk:=.cells GX 62
abbrev zzc19:=(b.Outline.Edges.take (min (b.Outline.Edges.length:Int) 5:Int).toNat)
abbrev Er:=(b.Waivers.take (min (b.Waivers.length:Int) 4:Int).toNat)
abbrev Y3:=(b.Parts.take (min (b.Parts.length:Int) 4:Int).toNat)
abbrev Hq:=(b.Vias.take (min (b.Vias.length:Int) 4:Int).toNat)
abbrev D1 (t_:List Cl):List Cl:=(.i b.Layers)::(.i b.Outline.Kind)::(lst 7 AG.c (zzc19 b))::(.i b.Outline.R)::(lst 7 AU.c (Y3 b))::t_
def Zb6:Blk:=.cells (D1 b [vN,vN,lst 8 BW.c (Hq b),vN,vN,vN,vN,vN,lst 3 An.c (Er b),vN]) 62
def Zb7:Blk:=.row 2 ([]:List A9).length (AV A9.c ([]:List A9)) 69
def Zb8:Blk:=.cells (D1 b [.own 2000 2 ([]:List A9).length,vN,lst 8 BW.c (Hq b),vN,vN,vN,vN,vN,lst 3 An.c (Er b),vN]) 62
def Zb9:Blk:=.cells (D1 b [.own 2000 2 v3_5.length,vN,lst 8 BW.c (Hq b),vN,vN,vN,vN,vN,lst 3 An.c (Er b),vN]) 62
abbrev MJ:=b.Nets.getD v4.toNat default
abbrev YM:=[A9.mk (MJ b v4).Name ((MJ b v4).Pins.take (min ((MJ b v4).Pins.length:Int) 5:Int).toNat)]
def Zba:Blk:=.cells (D1 b [.own 84 2 (v3_5++(YM b v4)).length,vN,lst 8 BW.c (Hq b),vN,vN,vN,vN,vN,lst 3 An.c (Er b),vN]) 62
def Zbb (v3_5:List A9) (b:AC) (v4:Int):Blk:=.row 2 (v3_5++(YM b v4)).length (AV A9.c (v3_5++(YM b v4))) 69
def Zbc:Blk:=.row 6 ([]:List AO).length (AV AO.c ([]:List AO)) 81
def Zbd:Blk:=.cells (D1 b [.own 2000 2 v3_5.length,.own 2001 6 ([]:List AO).length,lst 8 BW.c (Hq b),vN,vN,vN,vN,vN,lst 3 An.c (Er b),vN]) 62
abbrev G1 (v3_5:List A9) (v3_6:List AO) (b:AC) (t_:List Cl):List Cl:=(.own 2000 2 v3_5.length)::(.own 2001 6 v3_6.length)::(lst 8 BW.c (Hq b))::vN::t_
def Zbe:Blk:=.cells (D1 b (G1 v3_5 v3_6 b [vN,vN,vN,vN,lst 3 An.c (Er b),vN])) 62
def Zbf:Blk:=.row 6 v3_6.length (AV AO.c v3_6) 81
abbrev RK:=[AO.mk (EE b v5).Id (EE b v5).Net (EE b v5).Layer (AX.mk (EE b v5).Shape.Kind ((EE b v5).Shape.Edges.take (min ((EE b v5).Shape.Edges.length:Int) 4:Int).toNat) (EE b v5).Shape.R)]
def Zbg:Blk:=.cells (D1 b [.own 2000 2 v3_5.length,.own 117 6 (v3_6++(RK b v5)).length,lst 8 BW.c (Hq b),vN,vN,vN,vN,vN,lst 3 An.c (Er b),vN]) 62
def Zbh (v3_6:List AO) (b:AC) (v5:Int):Blk:=.row 6 (v3_6++(RK b v5)).length (AV AO.c (v3_6++(RK b v5))) 81
def Zbi:Blk:=.cells (D1 b [.own 2000 2 v3_5.length,.own 2001 6 (v3_6++(RK b v5)).length,lst 8 BW.c (Hq b),vN,vN,vN,vN,vN,lst 3 An.c (Er b),vN]) 62
def Zbj:Blk:=.row 4 ([]:List BC).length (AV BC.c ([]:List BC)) 137
def Zbk:Blk:=.cells (D1 b (G1 v3_5 v3_6 b [vN,.own 2002 4 ([]:List BC).length,vN,vN,lst 3 An.c (Er b),vN])) 62
def Zbl:Blk:=.cells (D1 b (G1 v3_5 v3_6 b [vN,.own 2002 4 v3_10.length,vN,vN,lst 3 An.c (Er b),vN])) 62
def Zbm:Blk:=.row 4 v3_10.length (AV BC.c v3_10) 137
abbrev KQ:=b.Slots.getD v7.toNat default
abbrev V6:=[BC.mk (KQ b v7).Id (AX.mk (KQ b v7).Shape.Kind ((KQ b v7).Shape.Edges.take (min ((KQ b v7).Shape.Edges.length:Int) 4:Int).toNat) (KQ b v7).Shape.R)]
abbrev N2:=b.Slots.getD v7.toNat default
def Zbn:Blk:=.cells (D1 b (G1 v3_5 v3_6 b [vN,.own 150 4 (v3_10++(V6 b v7)).length,vN,vN,lst 3 An.c (Er b),vN])) 62
def Zbo (v3_10:List BC) (b:AC) (v7:Int):Blk:=.row 4 (v3_10++(V6 b v7)).length (AV BC.c (v3_10++(V6 b v7))) 137
def Zbp:Blk:=.cells (D1 b (G1 v3_5 v3_6 b [vN,.own 2002 4 (v3_10++(V6 b v7)).length,vN,vN,lst 3 An.c (Er b),vN])) 62
def Zbq:Blk:=.row 5 ([]:List A5).length (AV A5.c ([]:List A5)) 135
def Zbr:Blk:=.cells (D1 b (G1 v3_5 v3_6 b [.own 2003 5 ([]:List A5).length,.own 2002 4 v3_10.length,vN,vN,lst 3 An.c (Er b),vN])) 62
def Zbs:Blk:=.cells (D1 b (G1 v3_5 v3_6 b [.own 2003 5 v3_9.length,.own 2002 4 v3_10.length,vN,vN,lst 3 An.c (Er b),vN])) 62
def Zbt:Blk:=.row 5 v3_9.length (AV A5.c v3_9) 135
abbrev V7:=[A5.mk (HV b v9).Id (HV b v9).Layer (AX.mk (HV b v9).Shape.Kind ((HV b v9).Shape.Edges.take (min ((HV b v9).Shape.Edges.length:Int) 4:Int).toNat) (HV b v9).Shape.R)]
abbrev MK:=b.Keeps.getD v9.toNat default
def Zbu:Blk:=.cells (D1 b (G1 v3_5 v3_6 b [.own 183 5 (v3_9++(V7 b v9)).length,.own 2002 4 v3_10.length,vN,vN,lst 3 An.c (Er b),vN])) 62
def Zbv (v3_9:List A5) (b:AC) (v9:Int):Blk:=.row 5 (v3_9++(V7 b v9)).length (AV A5.c (v3_9++(V7 b v9))) 135
def Zbw:Blk:=.cells (D1 b (G1 v3_5 v3_6 b [.own 2003 5 (v3_9++(V7 b v9)).length,.own 2002 4 v3_10.length,vN,vN,lst 3 An.c (Er b),vN])) 62
def GG (b:AC) (v3_5:List A9) (v4:Int) (v3_6:List AO) (v5:Int) (v3_10:List BC) (v7:Int) (K0:List A9->Int->AC) (K1:List AO->Int->AC) (K2:List BC->Int->AC):Nat->List A5->Int->AC
 | 0,_,_=>default
 | n3+1,v3_9,v9=>bif bif decide ((v9:Int)<(b.Keeps.length:Int)) then decide ((v9:Int)<4) else false then ((GG b v3_5 v4 v3_6 v5 v3_10 v7 K0 K1 K2 n3) (v3_9++[A5.mk (b.Keeps.getD v9.toNat default).Id (b.Keeps.getD v9.toNat default).Layer (AX.mk (b.Keeps.getD v9.toNat default).Shape.Kind ((b.Keeps.getD v9.toNat default).Shape.Edges.take (min ((b.Keeps.getD v9.toNat default).Shape.Edges.length:Int) 4:Int).toNat) (b.Keeps.getD v9.toNat default).Shape.R)]) (v9+1)) else (AC.mk b.Layers (AX.mk b.Outline.Kind (b.Outline.Edges.take (min (b.Outline.Edges.length:Int) 5:Int).toNat) b.Outline.R) (b.Parts.take (min (b.Parts.length:Int) 4:Int).toNat) v3_5 v3_6 (b.Vias.take (min (b.Vias.length:Int) 4:Int).toNat) [] v3_9 v3_10 [] [] (b.Waivers.take (min (b.Waivers.length:Int) 4:Int).toNat) [])
def FB (b:AC) (v3_5:List A9) (v4:Int) (v3_6:List AO) (v5:Int) (K0:List A9->Int->AC) (K1:List AO->Int->AC):Nat->List BC->Int->AC
 | 0,_,_=>default
 | n2+1,v3_10,v7=>bif bif decide ((v7:Int)<(b.Slots.length:Int)) then decide ((v7:Int)<4) else false then ((FB b v3_5 v4 v3_6 v5 K0 K1 n2) (v3_10++[BC.mk (b.Slots.getD v7.toNat default).Id (AX.mk (b.Slots.getD v7.toNat default).Shape.Kind ((b.Slots.getD v7.toNat default).Shape.Edges.take (min ((b.Slots.getD v7.toNat default).Shape.Edges.length:Int) 4:Int).toNat) (b.Slots.getD v7.toNat default).Shape.R)]) (v7+1)) else (GG b v3_5 v4 v3_6 v5 v3_10 v7 K0 K1 (FB b v3_5 v4 v3_6 v5 K0 K1 n2) (((4:Int)-0).toNat+1) ([]:List A5) 0)
def Dt (b:AC) (v3_5:List A9) (v4:Int) (K0:List A9->Int->AC):Nat->List AO->Int->AC
 | 0,_,_=>default
 | n1+1,v3_6,v5=>bif bif decide ((v5:Int)<(b.Tracks.length:Int)) then decide ((v5:Int)<4) else false then ((Dt b v3_5 v4 K0 n1) (v3_6++[AO.mk (b.Tracks.getD v5.toNat default).Id (b.Tracks.getD v5.toNat default).Net (b.Tracks.getD v5.toNat default).Layer (AX.mk (b.Tracks.getD v5.toNat default).Shape.Kind ((b.Tracks.getD v5.toNat default).Shape.Edges.take (min ((b.Tracks.getD v5.toNat default).Shape.Edges.length:Int) 4:Int).toNat) (b.Tracks.getD v5.toNat default).Shape.R)]) (v5+1)) else (FB b v3_5 v4 v3_6 v5 K0 (Dt b v3_5 v4 K0 n1) (((4:Int)-0).toNat+1) ([]:List BC) 0)
def DI (b:AC):Nat->List A9->Int->AC
 | 0,_,_=>default
 | n0+1,v3_5,v4=>bif bif decide ((v4:Int)<(b.Nets.length:Int)) then decide ((v4:Int)<4) else false then ((DI b n0) (v3_5++[A9.mk (b.Nets.getD v4.toNat default).Name ((b.Nets.getD v4.toNat default).Pins.take (min ((b.Nets.getD v4.toNat default).Pins.length:Int) 5:Int).toNat)]) (v4+1)) else (Dt b v3_5 v4 (DI b n0) (((4:Int)-0).toNat+1) ([]:List AO) 0)
def HP (b:AC):AC:=DI b (((4:Int)-0).toNat+1) ([]:List A9) 0
def SA:CT:=(24,[.agg (jN b)],.val [] (.av (.agg (AC.c (HP b)))))
abbrev FE:Nat×Blk:=(2000,.row 2 v3_5.length (AV A9.c v3_5) 69)
abbrev Qr:List (Nat×Tv):=(C7 [])
abbrev Yg (t_:List Cl):List Cl:=(.i b.Layers)::(.i b.Outline.Kind)::(lst 7 AG.c (b.Outline.Edges.take (min (b.Outline.Edges.length:Int) 5:Int).toNat))::(.i b.Outline.R)::(lst 7 AU.c (b.Parts.take (min (b.Parts.length:Int) 4:Int).toNat))::(lst 2 A9.c v3_5)::(lst 6 AO.c v3_6)::(lst 8 BW.c (b.Vias.take (min (b.Vias.length:Int) 4:Int).toNat))::t_
theorem lL (b:AC):PuP 24 (SA b).2.1 (.av (.agg (AC.c (HP b)))):=by
 refine pwf Try.func24 fun W0 M0 => ?_
 refine AA<|on<|AA<|dw [] [] [0<=(0:Int)/\(0:Int)<=(min (b.Parts.length:Int) 4:Int)/\(min (b.Parts.length:Int) 4:Int)<=((b.Parts.length:Nat):Int),0<=(0:Int)/\(0:Int)<=(min (b.Vias.length:Int) 4:Int)/\(min (b.Vias.length:Int) 4:Int)<=((b.Vias.length:Nat):Int),0<=(0:Int)/\(0:Int)<=(min (b.Waivers.length:Int) 4:Int)/\(min (b.Waivers.length:Int) 4:Int)<=((b.Waivers.length:Nat):Int)] ⟨Qr,[(1,Zb4 b),(2,Zb5),(3,.cells (UB b [.list false 7 ((min (b.Parts.length:Int) 4:Int).toNat-(0:Int).toNat) (fun i_ j_=>(Hf b) (i_+(0:Int).toNat) j_),vN,vN,.list false 8 ((min (b.Vias.length:Int) 4:Int).toNat-(0:Int).toNat) (fun i_ j_=>(Hc b) (i_+(0:Int).toNat) j_),vN,vN,vN,vN,vN,.list false 3 ((min (b.Waivers.length:Int) 4:Int).toNat-(0:Int).toNat) (fun i_ j_=>(Hg b) (i_+(0:Int).toNat) j_),vN]) 62)]⟩ .nil (.cons (by first | omega | decide) (.cons (by first | omega | decide) (.cons (by first | omega | decide) .nil)))<|AF ?_
 refine Al (C1 (⟨Qr,[(1,Zb4 b),(2,Zb5),(3,.cells (UB b [lst 7 AU.c (Y3 b),vN,vN,lst 8 BW.c (Hq b),vN,vN,vN,vN,vN,lst 3 An.c (Er b),vN]) 62)]⟩) lr (.cons ⟨rfl,.refl _⟩ (.cons ⟨rfl,.refl _⟩ (.cons ⟨rfl,.cells _ (rr4 (.cons (BM false (Ed (b:=min (b.Parts.length:Int) 4) (Af 7 AU.c b.Parts) (by have hc:=(show 0<=(0:Int)/\(0:Int)<=(min (b.Parts.length:Int) 4:Int)/\(min (b.Parts.length:Int) 4:Int)<=((b.Parts.length:Nat):Int) from (by first | omega | decide));exact hc.2.1) (by have hc:=(show 0<=(0:Int)/\(0:Int)<=(min (b.Parts.length:Int) 4:Int)/\(min (b.Parts.length:Int) 4:Int)<=((b.Parts.length:Nat):Int) from (by first | omega | decide));exact hc.2.2))) (rr (rr (.cons (BM false (Ed (b:=min (b.Vias.length:Int) 4) (Af 8 BW.c b.Vias) (by have hc:=(show 0<=(0:Int)/\(0:Int)<=(min (b.Vias.length:Int) 4:Int)/\(min (b.Vias.length:Int) 4:Int)<=((b.Vias.length:Nat):Int) from (by first | omega | decide));exact hc.2.1) (by have hc:=(show 0<=(0:Int)/\(0:Int)<=(min (b.Vias.length:Int) 4:Int)/\(min (b.Vias.length:Int) 4:Int)<=((b.Vias.length:Nat):Int) from (by first | omega | decide));exact hc.2.2))) (rr (rr (rr (rr (rr (.cons (BM false (Ed (b:=min (b.Waivers.length:Int) 4) (Af 3 An.c b.Waivers) (by have hc:=(show 0<=(0:Int)/\(0:Int)<=(min (b.Waivers.length:Int) 4:Int)/\(min (b.Waivers.length:Int) 4:Int)<=((b.Waivers.length:Nat):Int) from (by first | omega | decide));exact hc.2.1) (by have hc:=(show 0<=(0:Int)/\(0:Int)<=(min (b.Waivers.length:Int) 4:Int)/\(min (b.Waivers.length:Int) 4:Int)<=((b.Waivers.length:Nat):Int) from (by first | omega | decide));exact hc.2.2))) (rr .nil))))))))))))⟩ .nil))))<|AA ?_
 refine rc [] [0<=(0:Int)/\(0:Int)<=(min (b.Outline.Edges.length:Int) 5:Int)/\(min (b.Outline.Edges.length:Int) 5:Int)<=((b.Outline.Edges.length:Nat):Int)] ⟨Qr,[(1,Zb4 b),(2,Zb5),(3,.cells [.i b.Layers,.i b.Outline.Kind,.list false 7 ((min (b.Outline.Edges.length:Int) 5:Int).toNat-(0:Int).toNat) (fun i_ j_=>(AV AG.c b.Outline.Edges) (i_+(0:Int).toNat) j_),.i b.Outline.R,lst 7 AU.c (Y3 b),vN,vN,lst 8 BW.c (Hq b),vN,vN,vN,vN,vN,lst 3 An.c (Er b),vN] 62)]⟩ .nil (.cons (by first | omega | decide) .nil)<|AF ?_
 refine Al (C1 (⟨Qr,[(1,Zb4 b),(2,Zb5),(3,Zb6 b)]⟩) lr (.cons ⟨rfl,.refl _⟩ (.cons ⟨rfl,.refl _⟩ (.cons ⟨rfl,.cells _ (rr2 (.cons (BM false (Ed (b:=min (b.Outline.Edges.length:Int) 5) (Af 7 AG.c b.Outline.Edges) (by have hc:=(show 0<=(0:Int)/\(0:Int)<=(min (b.Outline.Edges.length:Int) 5:Int)/\(min (b.Outline.Edges.length:Int) 5:Int)<=((b.Outline.Edges.length:Nat):Int) from (by first | omega | decide));exact hc.2.1) (by have hc:=(show 0<=(0:Int)/\(0:Int)<=(min (b.Outline.Edges.length:Int) 5:Int)/\(min (b.Outline.Edges.length:Int) 5:Int)<=((b.Outline.Edges.length:Nat):Int) from (by first | omega | decide));exact hc.2.2))) (rr (rr (rr (rr (rr (rr (rr (rr (rr (rr (rr (rr .nil))))))))))))))⟩ .nil))))<|AA<|AA<|rn ⟨MR,[(1,Zb4 b),(2,Zb5),(3,Zb6 b)]⟩<|AM<|Al (Cv.trans (vg 2000 2 (fun _ _=>default) 69 [] [(3,[5])] hk0) (Cv.trans (A6 2000 (CV 2 (fun _ _=>default) A9.c)) (ck (⟨MR,[(1,Zb4 b),(2,Zb5),(3,Zb8 b),(2000,Zb7)]⟩)))) ?_
 refine BK (ι:=Nat×List A9×Int) (fun x=>⟨(C7 [(4,tI x.2.2)]),[(1,Zb4 b),(2,Zb5),(3,.cells (D1 b [.own 2000 2 x.2.1.length,vN,lst 8 BW.c (Hq b),vN,vN,vN,vN,vN,lst 3 An.c (Er b),vN]) 62),(2000,.row 2 x.2.1.length (AV A9.c x.2.1) 69)]⟩) (fun x=>((4:Int)-x.2.2).toNat<x.1/\(0<=x.2.2/\x.2.2<=4/\(x.2.1.length:Int)=x.2.2/\0<=x.2.2)/\DI b x.1 x.2.1 x.2.2=HP b) (fun x=>x.1) ?_ (((4:Int)-0).toNat+1,([]:List A9),0) ⟨Nat.lt_succ_self _,⟨ax0,ax0,ax0,ax0⟩,(by simp only [HP,cond_true,cond_false])⟩
 rintro ⟨n0,v3_5,v4⟩ ⟨hm0,hinv0,hF0⟩
 try dsimp only at hm0 hinv0 hF0
 cases n0 with | zero=>exact nz hm0 | succ n0 => ?_
 refine AA<|AA<|rc [] (t2 (decide ((v4:Int)<(b.Nets.length:Int))) []) ⟨(C7 [(4,tI v4),(56,tB (bif decide ((v4:Int)<(b.Nets.length:Int)) then decide ((v4:Int)<4) else false))]),[(1,Zb4 b),(2,Zb5),(3,Zb9 b v3_5),(FE v3_5)]⟩ .nil (c2 .nil)<|AF<|AL _ rfl (fun h1 => ?_) (fun h1 => ?_)
 ·have g1:=Hb h1
  refine AQ<|AF<|AA<|AM<|dw [] [] [0<=(v4:Int)/\(v4:Int)<((b.Nets.length:Nat):Int),0<=(v4:Int)/\(v4:Int)<((b.Nets.length:Nat):Int),0<=(v4:Int)/\(v4:Int)<((b.Nets.length:Nat):Int),0<=(0:Int)/\(0:Int)<=(min ((b.Nets.getD v4.toNat default).Pins.length:Int) 5:Int)/\(min ((b.Nets.getD v4.toNat default).Pins.length:Int) 5:Int)<=(((b.Nets.getD v4.toNat default).Pins.length:Nat):Int),v3_5.length=v3_5.length,v3_5.length+1<=maxLen,(v3_5.length+1)*40<=140737488355328] ⟨(C7 [(4,tI v4)]),[(1,Zb4 b),(2,Zb5),(3,.cells (D1 b [.own 84 2 (v3_5.length+1),vN,lst 8 BW.c (Hq b),vN,vN,vN,vN,vN,lst 3 An.c (Er b),vN]) 62),(84,.row 2 (v3_5.length+1) (fun i_ j_=>if i_<v3_5.length then (AV A9.c v3_5) i_ j_ else (BF 2 1 [.s (MJ b v4).Name,.list false 2 ((min ((MJ b v4).Pins.length:Int) 5:Int).toNat-(0:Int).toNat) (fun i_ j_=>(AV Ag.c (MJ b v4).Pins) (i_+(0:Int).toNat) j_)]) (i_-v3_5.length) j_) 69)]⟩ .nil (.cons (by first | omega | decide) (.cons (by first | omega | decide) (.cons (by first | omega | decide) (.cons (by first | omega | decide) (.cons rfl (.cons au3 (.cons au3 .nil)))))))<|A0<|AF ?_
  refine Al (C1 (⟨(C7 [(4,tI v4)]),[(1,Zb4 b),(2,Zb5),(3,Zba b v3_5 v4),(84,Zbb v3_5 b v4)]⟩) lr (.cons ⟨rfl,.refl _⟩ (.cons ⟨rfl,.refl _⟩ (.cons ⟨rfl,.cells _ (rr5 (.cons (.own _ _ au16) (rr (rr (rr (rr (rr (rr (rr (rr (rr .nil)))))))))))⟩ (.cons ⟨rfl,CX 69 (Ar (Af 2 A9.c v3_5) (Dh (c:=A9.c) (xs:=([A9.mk (b.Nets.getD v4.toNat default).Name ((b.Nets.getD v4.toNat default).Pins.take (min ((b.Nets.getD v4.toNat default).Pins.length:Int) 5:Int).toNat)]:List A9)) (y:=[[.s (b.Nets.getD v4.toNat default).Name,.list false 2 ((min ((b.Nets.getD v4.toNat default).Pins.length:Int) 5:Int).toNat-(0:Int).toNat) (fun i_ j_=>(AV Ag.c (b.Nets.getD v4.toNat default).Pins) (i_+(0:Int).toNat) j_)]]) (z:=[[.s (b.Nets.getD v4.toNat default).Name,lst 2 Ag.c ((b.Nets.getD v4.toNat default).Pins.take (min ((b.Nets.getD v4.toNat default).Pins.length:Int) 5:Int).toNat)]]) rfl kr kr (.cons (rr (.cons (BM false (Ed (b:=min ((b.Nets.getD v4.toNat default).Pins.length:Int) 5) (Af 2 Ag.c (b.Nets.getD v4.toNat default).Pins) (by have hc:=(show 0<=(0:Int)/\(0:Int)<=(min ((b.Nets.getD v4.toNat default).Pins.length:Int) 5:Int)/\(min ((b.Nets.getD v4.toNat default).Pins.length:Int) 5:Int)<=(((b.Nets.getD v4.toNat default).Pins.length:Nat):Int) from (by first | omega | decide));exact hc.2.1) (by have hc:=(show 0<=(0:Int)/\(0:Int)<=(min ((b.Nets.getD v4.toNat default).Pins.length:Int) 5:Int)/\(min ((b.Nets.getD v4.toNat default).Pins.length:Int) 5:Int)<=(((b.Nets.getD v4.toNat default).Pins.length:Nat):Int) from (by first | omega | decide));exact hc.2.2))) .nil)) .nil)))⟩ .nil))))) ?_
  refine rg ⟨(C7 [(4,tI (W64 (v4+1)))]),[(1,Zb4 b),(2,Zb5),(3,Zba b v3_5 v4),(84,Zbb v3_5 b v4)]⟩ ?_
  (try rw [(show W64 (v4+1)=v4+1 from Ap oM oM)])
  refine AF ?_
  refine ⟨(n0,v3_5++[A9.mk (b.Nets.getD v4.toNat default).Name ((b.Nets.getD v4.toNat default).Pins.take (min ((b.Nets.getD v4.toNat default).Pins.length:Int) 5:Int).toNat)],v4+1),⟨?_,?_,(by rw [<- hF0];simp only [DI,h1,cond_true,cond_false])⟩,Nat.lt_succ_self _,Cv.trans (vr 84 2000 hk0) (BG kr)⟩
  ·show ((4:Int)-(v4+1)).toNat<n0;omega
  exact ⟨ax0,ax0,ax0,ax0⟩
 refine BH<|A7<|A7<|BI<|AF<|AA<|AA<|rn ⟨(C7 [(5,tI 0)]),[(1,Zb4 b),(2,Zb5),(3,Zb9 b v3_5),(FE v3_5)]⟩<|AM<|Al (Cv.trans (vg 2001 6 (fun _ _=>default) 81 [] [(3,[6])] hk0) (Cv.trans (A6 2001 (CV 6 (fun _ _=>default) AO.c)) (ck (⟨(C7 [(5,tI 0)]),[(1,Zb4 b),(2,Zb5),(3,Zbd b v3_5),(FE v3_5),(2001,Zbc)]⟩))))<|BK (ι:=Nat×List AO×Int) (fun x=>⟨(C7 [(5,tI x.2.2)]),[(1,Zb4 b),(2,Zb5),(3,.cells (D1 b [.own 2000 2 v3_5.length,.own 2001 6 x.2.1.length,lst 8 BW.c (Hq b),vN,vN,vN,vN,vN,lst 3 An.c (Er b),vN]) 62),(FE v3_5),(2001,.row 6 x.2.1.length (AV AO.c x.2.1) 81)]⟩) (fun x=>((4:Int)-x.2.2).toNat<x.1/\(0<=x.2.2/\x.2.2<=4/\(x.2.1.length:Int)=x.2.2/\0<=x.2.2)/\Dt b v3_5 v4 (DI b n0) x.1 x.2.1 x.2.2=HP b) (fun x=>x.1) ?_ (((4:Int)-0).toNat+1,([]:List AO),0) ⟨Nat.lt_succ_self _,⟨ax0,ax0,ax0,ax0⟩,(by rw [<- hF0];simp only [DI,h1,cond_true,cond_false])⟩
 rintro ⟨n1,v3_6,v5⟩ ⟨hm1,hinv1,hF1⟩
 try dsimp only at hm1 hinv1 hF1
 cases n1 with | zero=>exact nz hm1 | succ n1 => ?_
 refine AA<|AA<|rc [] (t2 (decide ((v5:Int)<(b.Tracks.length:Int))) []) ⟨(C7 [(5,tI v5),(94,tB (bif decide ((v5:Int)<(b.Tracks.length:Int)) then decide ((v5:Int)<4) else false))]),[(1,Zb4 b),(2,Zb5),(3,Zbe b v3_5 v3_6),(FE v3_5),(2001,Zbf v3_6)]⟩ .nil (c2 .nil)<|AF<|AL _ rfl (fun h2 => ?_) (fun h2 => ?_)
 ·have g2:=Hb h2
  refine AQ<|AF<|AA<|AM<|AA<|oc [] [0<=(v5:Int)/\(v5:Int)<((b.Tracks.length:Nat):Int)] .nil (.cons (by first | omega | decide) .nil)<|AF<|AA<|rc [] [0<=(0:Int)/\(0:Int)<=(min ((b.Tracks.getD v5.toNat default).Shape.Edges.length:Int) 4:Int)/\(min ((b.Tracks.getD v5.toNat default).Shape.Edges.length:Int) 4:Int)<=(((b.Tracks.getD v5.toNat default).Shape.Edges.length:Nat):Int)] ⟨(C7 [(5,tI v5),(6,tP 6 0)]),[(1,Zb4 b),(2,Zb5),(3,Zbe b v3_5 v3_6),(6,.cells [.i (EE b v5).Id,.s (EE b v5).Net,.i (EE b v5).Layer,.i (EE b v5).Shape.Kind,.list false 7 ((min ((EE b v5).Shape.Edges.length:Int) 4:Int).toNat-(0:Int).toNat) (fun i_ j_=>(AV AG.c (EE b v5).Shape.Edges) (i_+(0:Int).toNat) j_),.i (EE b v5).Shape.R] 81),(FE v3_5),(2001,Zbf v3_6)]⟩ .nil (.cons (by first | omega | decide) .nil)<|AF ?_
  refine Al (C1 (⟨(C7 [(5,tI v5),(6,tP 6 0)]),[(1,Zb4 b),(2,Zb5),(3,Zbe b v3_5 v3_6),(6,.cells [.i (EE b v5).Id,.s (EE b v5).Net,.i (EE b v5).Layer,.i (EE b v5).Shape.Kind,lst 7 AG.c ((EE b v5).Shape.Edges.take (min ((EE b v5).Shape.Edges.length:Int) 4:Int).toNat),.i (EE b v5).Shape.R] 81),(FE v3_5),(2001,Zbf v3_6)]⟩) lr (.cons ⟨rfl,.refl _⟩ (.cons ⟨rfl,.refl _⟩ (.cons ⟨rfl,.refl _⟩ (.cons ⟨rfl,.cells _ (rr4 (.cons (BM false (Ed (b:=min ((b.Tracks.getD v5.toNat default).Shape.Edges.length:Int) 4) (Af 7 AG.c (b.Tracks.getD v5.toNat default).Shape.Edges) (by have hc:=(show 0<=(0:Int)/\(0:Int)<=(min ((b.Tracks.getD v5.toNat default).Shape.Edges.length:Int) 4:Int)/\(min ((b.Tracks.getD v5.toNat default).Shape.Edges.length:Int) 4:Int)<=(((b.Tracks.getD v5.toNat default).Shape.Edges.length:Nat):Int) from (by first | omega | decide));exact hc.2.1) (by have hc:=(show 0<=(0:Int)/\(0:Int)<=(min ((b.Tracks.getD v5.toNat default).Shape.Edges.length:Int) 4:Int)/\(min ((b.Tracks.getD v5.toNat default).Shape.Edges.length:Int) 4:Int)<=(((b.Tracks.getD v5.toNat default).Shape.Edges.length:Nat):Int) from (by first | omega | decide));exact hc.2.2))) (rr .nil)))⟩ lr))))) ?_
  refine oc [] [v3_6.length=v3_6.length,v3_6.length+1<=maxLen,(v3_6.length+1)*72<=140737488355328] .nil (.cons rfl (.cons au3 (.cons au3 .nil)))<|A0<|AF<|Al (A6 117 (Ar (Af 6 AO.c v3_6) (A1 6 AO.c ([AO.mk (b.Tracks.getD v5.toNat default).Id (b.Tracks.getD v5.toNat default).Net (b.Tracks.getD v5.toNat default).Layer (AX.mk (b.Tracks.getD v5.toNat default).Shape.Kind ((b.Tracks.getD v5.toNat default).Shape.Edges.take (min ((b.Tracks.getD v5.toNat default).Shape.Edges.length:Int) 4:Int).toNat) (b.Tracks.getD v5.toNat default).Shape.R)]:List AO))))<|rg ⟨(C7 [(5,tI (W64 (v5+1)))]),[(1,Zb4 b),(2,Zb5),(3,Zbg b v3_5 v3_6 v5),(117,Zbh v3_6 b v5),(FE v3_5)]⟩ ?_
  (try rw [(show W64 (v5+1)=v5+1 from Ap oM oM)])
  refine AF ?_
  refine ⟨(n1,v3_6++[AO.mk (b.Tracks.getD v5.toNat default).Id (b.Tracks.getD v5.toNat default).Net (b.Tracks.getD v5.toNat default).Layer (AX.mk (b.Tracks.getD v5.toNat default).Shape.Kind ((b.Tracks.getD v5.toNat default).Shape.Edges.take (min ((b.Tracks.getD v5.toNat default).Shape.Edges.length:Int) 4:Int).toNat) (b.Tracks.getD v5.toNat default).Shape.R)],v5+1),⟨?_,?_,(by rw [<- hF1];simp only [Dt,h2,cond_true,cond_false])⟩,Nat.lt_succ_self _,Cv.trans (vr 117 2001 hk0) (Cv.trans (vk [1,2,3,5] [1,2,3,2000,2001]) (BG kr))⟩
  ·show ((4:Int)-(v5+1)).toNat<n1;omega
  exact ⟨ax0,ax0,ax0,ax0⟩
 refine BH<|A7<|A7<|BI<|AF<|AA<|AA<|rn ⟨(C7 [(7,tI 0)]),[(1,Zb4 b),(2,Zb5),(3,Zbe b v3_5 v3_6),(FE v3_5),(2001,Zbf v3_6)]⟩<|AM<|Al (Cv.trans (vg 2002 4 (fun _ _=>default) 137 [] [(3,[10])] hk0) (Cv.trans (A6 2002 (CV 4 (fun _ _=>default) BC.c)) (ck (⟨(C7 [(7,tI 0)]),[(1,Zb4 b),(2,Zb5),(3,Zbk b v3_5 v3_6),(FE v3_5),(2001,Zbf v3_6),(2002,Zbj)]⟩))))<|BK (ι:=Nat×List BC×Int) (fun x=>⟨(C7 [(7,tI x.2.2)]),[(1,Zb4 b),(2,Zb5),(3,.cells (D1 b (G1 v3_5 v3_6 b [vN,.own 2002 4 x.2.1.length,vN,vN,lst 3 An.c (Er b),vN])) 62),(FE v3_5),(2001,Zbf v3_6),(2002,.row 4 x.2.1.length (AV BC.c x.2.1) 137)]⟩) (fun x=>((4:Int)-x.2.2).toNat<x.1/\(0<=x.2.2/\x.2.2<=4/\(x.2.1.length:Int)=x.2.2/\0<=x.2.2)/\FB b v3_5 v4 v3_6 v5 (DI b n0) (Dt b v3_5 v4 (DI b n0) n1) x.1 x.2.1 x.2.2=HP b) (fun x=>x.1) ?_ (((4:Int)-0).toNat+1,([]:List BC),0) ⟨Nat.lt_succ_self _,⟨ax0,ax0,ax0,ax0⟩,(by rw [<- hF1];simp only [Dt,h2,cond_true,cond_false])⟩
 rintro ⟨n2,v3_10,v7⟩ ⟨hm2,hinv2,hF2⟩
 try dsimp only at hm2 hinv2 hF2
 cases n2 with | zero=>exact nz hm2 | succ n2 => ?_
 refine AA<|AA<|rc [] (t2 (decide ((v7:Int)<(b.Slots.length:Int))) []) ⟨(C7 [(7,tI v7),(127,tB (bif decide ((v7:Int)<(b.Slots.length:Int)) then decide ((v7:Int)<4) else false))]),[(1,Zb4 b),(2,Zb5),(3,Zbl b v3_5 v3_6 v3_10),(FE v3_5),(2001,Zbf v3_6),(2002,Zbm v3_10)]⟩ .nil (c2 .nil)<|AF<|AL _ rfl (fun h3 => ?_) (fun h3 => ?_)
 ·have g3:=Hb h3
  refine AQ<|AF<|AA<|AM<|AA<|oc [] [0<=(v7:Int)/\(v7:Int)<((b.Slots.length:Nat):Int)] .nil (.cons (by first | omega | decide) .nil)<|AF<|AA<|rc [] [0<=(0:Int)/\(0:Int)<=(min ((b.Slots.getD v7.toNat default).Shape.Edges.length:Int) 4:Int)/\(min ((b.Slots.getD v7.toNat default).Shape.Edges.length:Int) 4:Int)<=(((b.Slots.getD v7.toNat default).Shape.Edges.length:Nat):Int)] ⟨(C7 [(7,tI v7),(8,tP 8 0)]),[(1,Zb4 b),(2,Zb5),(3,Zbl b v3_5 v3_6 v3_10),(8,.cells [.i (KQ b v7).Id,.i (KQ b v7).Shape.Kind,.list false 7 ((min ((KQ b v7).Shape.Edges.length:Int) 4:Int).toNat-(0:Int).toNat) (fun i_ j_=>(AV AG.c (KQ b v7).Shape.Edges) (i_+(0:Int).toNat) j_),.i (KQ b v7).Shape.R] 137),(FE v3_5),(2001,Zbf v3_6),(2002,Zbm v3_10)]⟩ .nil (.cons (by first | omega | decide) .nil)<|AF ?_
  refine Al (C1 (⟨(C7 [(7,tI v7),(8,tP 8 0)]),[(1,Zb4 b),(2,Zb5),(3,Zbl b v3_5 v3_6 v3_10),(8,.cells [.i (KQ b v7).Id,.i (KQ b v7).Shape.Kind,lst 7 AG.c ((KQ b v7).Shape.Edges.take (min ((KQ b v7).Shape.Edges.length:Int) 4:Int).toNat),.i (KQ b v7).Shape.R] 137),(FE v3_5),(2001,Zbf v3_6),(2002,Zbm v3_10)]⟩) lr (.cons ⟨rfl,.refl _⟩ (.cons ⟨rfl,.refl _⟩ (.cons ⟨rfl,.refl _⟩ (.cons ⟨rfl,.cells _ (rr2 (.cons (BM false (Ed (b:=min ((b.Slots.getD v7.toNat default).Shape.Edges.length:Int) 4) (Af 7 AG.c (b.Slots.getD v7.toNat default).Shape.Edges) (by have hc:=(show 0<=(0:Int)/\(0:Int)<=(min ((b.Slots.getD v7.toNat default).Shape.Edges.length:Int) 4:Int)/\(min ((b.Slots.getD v7.toNat default).Shape.Edges.length:Int) 4:Int)<=(((b.Slots.getD v7.toNat default).Shape.Edges.length:Nat):Int) from (by first | omega | decide));exact hc.2.1) (by have hc:=(show 0<=(0:Int)/\(0:Int)<=(min ((b.Slots.getD v7.toNat default).Shape.Edges.length:Int) 4:Int)/\(min ((b.Slots.getD v7.toNat default).Shape.Edges.length:Int) 4:Int)<=(((b.Slots.getD v7.toNat default).Shape.Edges.length:Nat):Int) from (by first | omega | decide));exact hc.2.2))) (rr .nil)))⟩ lr))))) ?_
  refine oc [] [v3_10.length=v3_10.length,v3_10.length+1<=maxLen,(v3_10.length+1)*48<=140737488355328] .nil (.cons rfl (.cons au3 (.cons au3 .nil)))<|A0<|AF<|Al (A6 150 (Ar (Af 4 BC.c v3_10) (A1 4 BC.c ([BC.mk (b.Slots.getD v7.toNat default).Id (AX.mk (b.Slots.getD v7.toNat default).Shape.Kind ((b.Slots.getD v7.toNat default).Shape.Edges.take (min ((b.Slots.getD v7.toNat default).Shape.Edges.length:Int) 4:Int).toNat) (b.Slots.getD v7.toNat default).Shape.R)]:List BC))))<|rg ⟨(C7 [(7,tI (W64 (v7+1)))]),[(1,Zb4 b),(2,Zb5),(3,Zbn b v3_5 v3_6 v3_10 v7),(150,Zbo v3_10 b v7),(FE v3_5),(2001,Zbf v3_6)]⟩ ?_
  (try rw [(show W64 (v7+1)=v7+1 from Ap oM oM)])
  refine AF ?_
  refine ⟨(n2,v3_10++[BC.mk (b.Slots.getD v7.toNat default).Id (AX.mk (b.Slots.getD v7.toNat default).Shape.Kind ((b.Slots.getD v7.toNat default).Shape.Edges.take (min ((b.Slots.getD v7.toNat default).Shape.Edges.length:Int) 4:Int).toNat) (b.Slots.getD v7.toNat default).Shape.R)],v7+1),⟨?_,?_,(by rw [<- hF2];simp only [FB,h3,cond_true,cond_false])⟩,Nat.lt_succ_self _,Cv.trans (vr 150 2002 hk0) (Cv.trans (vk [1,2,3,7] [1,2,3,2000,2001,2002]) (BG kr))⟩
  ·show ((4:Int)-(v7+1)).toNat<n2;omega
  exact ⟨ax0,ax0,ax0,ax0⟩
 refine BH<|A7<|A7<|BI<|AF<|AA<|AA<|rn ⟨(C7 [(9,tI 0)]),[(1,Zb4 b),(2,Zb5),(3,Zbl b v3_5 v3_6 v3_10),(FE v3_5),(2001,Zbf v3_6),(2002,Zbm v3_10)]⟩<|AM<|Al (Cv.trans (vg 2003 5 (fun _ _=>default) 135 [] [(3,[9])] hk0) (Cv.trans (A6 2003 (CV 5 (fun _ _=>default) A5.c)) (ck (⟨(C7 [(9,tI 0)]),[(1,Zb4 b),(2,Zb5),(3,Zbr b v3_5 v3_6 v3_10),(FE v3_5),(2001,Zbf v3_6),(2002,Zbm v3_10),(2003,Zbq)]⟩))))<|BK (ι:=Nat×List A5×Int) (fun x=>⟨(C7 [(9,tI x.2.2)]),[(1,Zb4 b),(2,Zb5),(3,.cells (D1 b (G1 v3_5 v3_6 b [.own 2003 5 x.2.1.length,.own 2002 4 v3_10.length,vN,vN,lst 3 An.c (Er b),vN])) 62),(FE v3_5),(2001,Zbf v3_6),(2002,Zbm v3_10),(2003,.row 5 x.2.1.length (AV A5.c x.2.1) 135)]⟩) (fun x=>((4:Int)-x.2.2).toNat<x.1/\(0<=x.2.2/\x.2.2<=4/\(x.2.1.length:Int)=x.2.2/\0<=x.2.2)/\GG b v3_5 v4 v3_6 v5 v3_10 v7 (DI b n0) (Dt b v3_5 v4 (DI b n0) n1) (FB b v3_5 v4 v3_6 v5 (DI b n0) (Dt b v3_5 v4 (DI b n0) n1) n2) x.1 x.2.1 x.2.2=HP b) (fun x=>x.1) ?_ (((4:Int)-0).toNat+1,([]:List A5),0) ⟨Nat.lt_succ_self _,⟨ax0,ax0,ax0,ax0⟩,(by rw [<- hF2];simp only [FB,h3,cond_true,cond_false])⟩
 rintro ⟨n3,v3_9,v9⟩ ⟨hm3,hinv3,hF3⟩
 try dsimp only at hm3 hinv3 hF3
 cases n3 with | zero=>exact nz hm3 | succ n3 => ?_
 refine AA<|AA<|rc [] (t2 (decide ((v9:Int)<(b.Keeps.length:Int))) []) ⟨(C7 [(9,tI v9),(160,tB (bif decide ((v9:Int)<(b.Keeps.length:Int)) then decide ((v9:Int)<4) else false))]),[(1,Zb4 b),(2,Zb5),(3,Zbs b v3_5 v3_6 v3_9 v3_10),(FE v3_5),(2001,Zbf v3_6),(2002,Zbm v3_10),(2003,Zbt v3_9)]⟩ .nil (c2 .nil)<|AF<|AL _ rfl (fun h4 => ?_) (fun h4 => ?_)
 ·have g4:=Hb h4
  refine AQ<|AF<|AA<|AM<|AA<|oc [] [0<=(v9:Int)/\(v9:Int)<((b.Keeps.length:Nat):Int)] .nil (.cons (by first | omega | decide) .nil)<|AF<|AA<|rc [] [0<=(0:Int)/\(0:Int)<=(min ((b.Keeps.getD v9.toNat default).Shape.Edges.length:Int) 4:Int)/\(min ((b.Keeps.getD v9.toNat default).Shape.Edges.length:Int) 4:Int)<=(((b.Keeps.getD v9.toNat default).Shape.Edges.length:Nat):Int)] ⟨(C7 [(9,tI v9),(10,tP 10 0)]),[(1,Zb4 b),(2,Zb5),(3,Zbs b v3_5 v3_6 v3_9 v3_10),(10,.cells [.i (HV b v9).Id,.i (HV b v9).Layer,.i (HV b v9).Shape.Kind,.list false 7 ((min ((HV b v9).Shape.Edges.length:Int) 4:Int).toNat-(0:Int).toNat) (fun i_ j_=>(AV AG.c (HV b v9).Shape.Edges) (i_+(0:Int).toNat) j_),.i (HV b v9).Shape.R] 135),(FE v3_5),(2001,Zbf v3_6),(2002,Zbm v3_10),(2003,Zbt v3_9)]⟩ .nil (.cons (by first | omega | decide) .nil)<|AF ?_
  refine Al (C1 (⟨(C7 [(9,tI v9),(10,tP 10 0)]),[(1,Zb4 b),(2,Zb5),(3,Zbs b v3_5 v3_6 v3_9 v3_10),(10,.cells [.i (HV b v9).Id,.i (HV b v9).Layer,.i (HV b v9).Shape.Kind,lst 7 AG.c ((HV b v9).Shape.Edges.take (min ((HV b v9).Shape.Edges.length:Int) 4:Int).toNat),.i (HV b v9).Shape.R] 135),(FE v3_5),(2001,Zbf v3_6),(2002,Zbm v3_10),(2003,Zbt v3_9)]⟩) lr (.cons ⟨rfl,.refl _⟩ (.cons ⟨rfl,.refl _⟩ (.cons ⟨rfl,.refl _⟩ (.cons ⟨rfl,.cells _ (rr3 (.cons (BM false (Ed (b:=min ((b.Keeps.getD v9.toNat default).Shape.Edges.length:Int) 4) (Af 7 AG.c (b.Keeps.getD v9.toNat default).Shape.Edges) (by have hc:=(show 0<=(0:Int)/\(0:Int)<=(min ((b.Keeps.getD v9.toNat default).Shape.Edges.length:Int) 4:Int)/\(min ((b.Keeps.getD v9.toNat default).Shape.Edges.length:Int) 4:Int)<=(((b.Keeps.getD v9.toNat default).Shape.Edges.length:Nat):Int) from (by first | omega | decide));exact hc.2.1) (by have hc:=(show 0<=(0:Int)/\(0:Int)<=(min ((b.Keeps.getD v9.toNat default).Shape.Edges.length:Int) 4:Int)/\(min ((b.Keeps.getD v9.toNat default).Shape.Edges.length:Int) 4:Int)<=(((b.Keeps.getD v9.toNat default).Shape.Edges.length:Nat):Int) from (by first | omega | decide));exact hc.2.2))) (rr .nil)))⟩ lr))))) ?_
  refine oc [] [v3_9.length=v3_9.length,v3_9.length+1<=maxLen,(v3_9.length+1)*56<=140737488355328] .nil (.cons rfl (.cons au3 (.cons au3 .nil)))<|A0<|AF<|Al (A6 183 (Ar (Af 5 A5.c v3_9) (A1 5 A5.c ([A5.mk (b.Keeps.getD v9.toNat default).Id (b.Keeps.getD v9.toNat default).Layer (AX.mk (b.Keeps.getD v9.toNat default).Shape.Kind ((b.Keeps.getD v9.toNat default).Shape.Edges.take (min ((b.Keeps.getD v9.toNat default).Shape.Edges.length:Int) 4:Int).toNat) (b.Keeps.getD v9.toNat default).Shape.R)]:List A5))))<|rg ⟨(C7 [(9,tI (W64 (v9+1)))]),[(1,Zb4 b),(2,Zb5),(3,Zbu b v3_5 v3_6 v3_9 v9 v3_10),(183,Zbv v3_9 b v9),(FE v3_5),(2001,Zbf v3_6),(2002,Zbm v3_10)]⟩ ?_
  (try rw [(show W64 (v9+1)=v9+1 from Ap oM oM)])
  refine AF ?_
  refine ⟨(n3,v3_9++[A5.mk (b.Keeps.getD v9.toNat default).Id (b.Keeps.getD v9.toNat default).Layer (AX.mk (b.Keeps.getD v9.toNat default).Shape.Kind ((b.Keeps.getD v9.toNat default).Shape.Edges.take (min ((b.Keeps.getD v9.toNat default).Shape.Edges.length:Int) 4:Int).toNat) (b.Keeps.getD v9.toNat default).Shape.R)],v9+1),⟨?_,?_,(by rw [<- hF3];simp only [GG,h4,cond_true,cond_false])⟩,Nat.lt_succ_self _,Cv.trans (vr 183 2003 hk0) (Cv.trans (vk [1,2,3,9] [1,2,3,2000,2001,2002,2003]) (BG kr))⟩
  ·show ((4:Int)-(v9+1)).toNat<n3;omega
  exact ⟨ax0,ax0,ax0,ax0⟩
 exact BH<|A7<|A7<|BI<|AF<|AA<|on<|AR<|yl (Cv.trans (vf 2000 hk0) (Cv.trans (vf 2001 hk0) (Cv.trans (vf 2003 hk0) (vf 2002 hk0)))) (.av (.agg (Yg b v3_5 v3_6 [vN,lst 5 A5.c v3_9,lst 4 BC.c v3_10,vN,vN,lst 3 An.c (b.Waivers.take (min (b.Waivers.length:Int) 4:Int).toNat),vN]))) (Dk (y:=.av (.agg (Yg b v3_5 v3_6 [lst 8 A4.c [],lst 5 A5.c v3_9,lst 4 BC.c v3_10,lst 2 BE.c [],lst 20 Az.c [],lst 3 An.c (b.Waivers.take (min (b.Waivers.length:Int) 4:Int).toNat),lst 3 AN.c []]))) (.av (.agg (rr5 (rr3 (.cons (Bi 8 A4.c) (rr (rr (.cons (Bi 2 BE.c) (.cons (Bi 20 Az.c) (rr (.cons (Bi 3 AN.c) .nil))))))))))) (by rw [<- hF3];first | (simp only [GG,h4,cond_true,cond_false] <;> rfl)))
theorem gP (b:AC):OKc (SA b):=cPu<|lL b
end
def Ix {α:Type} [Inhabited α] (P:Nat->α->Prop) (v:List α):Prop:=∀ k,k<v.length->P k (v.getD k default)
theorem Rv {α:Type} [Inhabited α] {P:Nat->α->Prop}:Ix P ([]:List α):=fun k h=>absurd h (Nat.not_lt_zero _)
theorem Rw {α:Type} [Inhabited α] {P:Nat->α->Prop} {v:List α} {x:α} (h:Ix P v) (hx:P v.length x):Ix P (v++[x]):=by
 intro k hk
 by_cases h1:k<v.length
 ·rw [List.getD_eq_getElem?_getD,List.getElem?_append_left h1,<- List.getD_eq_getElem?_getD];exact h k h1
 have e:k=v.length:=by simp only [List.length_append,List.length_cons,List.length_nil] at hk;omega
 subst e
 rw [List.getD_eq_getElem?_getD,List.getElem?_append_right (Nat.le_refl _),Nat.sub_self];exact hx
theorem mQ {α:Type} [Inhabited α] {P:Nat->α->Prop} {v:List α} {x:α} (h:Ix P v) (hx:x∈v):∃ k,k<v.length/\v.getD k default=x/\P k x:=by
 obtain ⟨k,hk,e⟩:=List.getElem_of_mem hx
 have e2:v.getD k default=x:=by rw [List.getD_eq_getElem?_getD,List.getElem?_eq_getElem hk];exact e
 exact ⟨k,hk,e2,e2▸h k hk⟩
structure nJ (k:Nat) (p:Eb):Prop where
 lt:k<6
 name:p.Name=Am k
 drill:0<=p.Drill/\p.Drill<=6
 shp:∃ y:Int,0<=y/\y<=10/\p.At=AD.mk (30*(k:Int)) y/\(p.Shape=Ho (Ah.mk (30*(k:Int)-6) (y-6) (30*(k:Int)+6) (y+6))\/(∃ r:Int,4<=r/\r<=6/\p.Shape=Iz (AD.mk (30*(k:Int)) y) r)\/p.Shape=AX.mk 1 [AG.mk 1 (AD.mk (30*(k:Int)-2) y) (AD.mk (30*(k:Int)+2) y) (AD.mk 0 0)] 4)
theorem Cf {d:AE} {n:Int} (h0:0<n) (h1:n<=1000000):0<=(AB d n).1/\(AB d n).1<n:=Dl d n h0 (by omega)
theorem P0 (l:List Int) (name:ByteArray):∀ (n:Nat) (v:List Eb) (d:AE) (k:Int),Ix nJ v->(v.length:Int)=k->k<=W64 (2+(AB (AE.mk l 0) 5).1)->(W64 (2+(AB (AE.mk l 0) 5).1)-k).toNat<n->Ix nJ (D7 l name n v d k).Pads
 | 0,v,d,k,_,_,_,h=>absurd h (Nat.not_lt_zero _)
 | n+1,v,d,k,hv,hl,hk,h=>by
  have hn:=Cf (d:=AE.mk l 0) (n:=5) (by decide) (by decide)
  have hw:W64 (2+(AB (AE.mk l 0) 5).1)=2+(AB (AE.mk l 0) 5).1:=Ap (by omega) (by omega)
  unfold D7
  by_cases hc:k<W64 (2+(AB (AE.mk l 0) 5).1)
  ·rw [decide_eq_true hc,cond_true]
   refine P0 l name n _ _ _ (Rw hv ?_) (by simp only [List.length_append,List.length_cons,List.length_nil];omega) (by omega) (by omega)
   have hk6:v.length<6:=by omega
   have hy:=Cf (d:=d) (n:=2) (by decide) (by decide)
   have hr:=Cf (d:=(AB (AB d 2).2 3).2) (n:=3) (by decide) (by decide)
   have h4:=Cf (d:=Z48 d) (n:=4) (by decide) (by decide)
   have h2:=Cf (d:=(AB (Z48 d) 4).2) (n:=2) (by decide) (by decide)
   have e1:W64 (30*k)=30*(v.length:Int):=by rw [Ap (by omega) (by omega)];omega
   have e2:W64 (10*(AB d 2).1)=10*(AB d 2).1:=Ap (by omega) (by omega)
   refine ⟨hk6,by rw [<- hl],?_,10*(AB d 2).1,by omega,by omega,by show AD.mk _ _=_;rw [e1,e2],?_⟩
   ·show 0<=W64 (W64 (2*(AB (Z48 d) 4).1)*(AB (AB (Z48 d) 4).2 2).1)/\W64 (W64 (2*(AB (Z48 d) 4).1)*(AB (AB (Z48 d) 4).2 2).1)<=6
    rw [Ap (x:=2*(AB (Z48 d) 4).1) (by omega) (by omega)]
    have h01:(AB (AB (Z48 d) 4).2 2).1=0\/(AB (AB (Z48 d) 4).2 2).1=1:=by omega
    rcases h01 with h01 | h01 <;> rw [h01] <;> rw [Ap (by omega) (by omega)] <;> omega
   show (AX.mk _ (Z49 d k) _=_)\/_
   unfold Z49 Z44 Z47
   rw [e1,e2]
   cases decide ((AB (AB d 2).2 3).1=0) with
   | true =>
    simp only [cond_true]
    left
    rw [Ap (x:=30*(v.length:Int)-6) (by omega) (by omega),Ap (x:=10*(AB d 2).1-6) (by omega) (by omega),Ap (x:=30*(v.length:Int)+6) (by omega) (by omega),Ap (x:=10*(AB d 2).1+6) (by omega) (by omega)]
   | false =>
    simp only [cond_false]
    right
    cases decide ((AB (AB d 2).2 3).1=1) with
    | true =>
     simp only [cond_true]
     left
     exact ⟨W64 (4+(AB (AB (AB d 2).2 3).2 3).1),by rw [Ap (by omega) (by omega)];omega,by rw [Ap (by omega) (by omega)];omega,rfl⟩
    | false =>
     simp only [cond_false]
     right
     rw [Ap (x:=30*(v.length:Int)-2) (by omega) (by omega),Ap (x:=30*(v.length:Int)+2) (by omega) (by omega)]
  rw [decide_eq_false hc,cond_false]
  exact hv
theorem TP (l:List Int) (name:ByteArray):Ix nJ (BQ l name).Pads:=by
 have hn:=Cf (d:=AE.mk l 0) (n:=5) (by decide) (by decide)
 have hw:W64 (2+(AB (AE.mk l 0) 5).1)=2+(AB (AE.mk l 0) 5).1:=Ap (by omega) (by omega)
 unfold BQ
 exact P0 l name _ [] _ 0 Rv rfl (by omega) (by omega)
abbrev nR:ByteArray:={ data := #[82] }
abbrev nQ:ByteArray:={ data := #[81] }
abbrev refs3:List ByteArray:=[({ data := #[82,49] }:ByteArray),({ data := #[82,50] }:ByteArray),({ data := #[120,47,82,49] }:ByteArray)]
structure QW (k:Nat) (p:AU):Prop where
 id:p.Id=1+(k:Int)
 ref:p.Ref=refs3.getD k ⟨#[]⟩
 typ:p.Type'=nR\/p.Type'=nQ
 turn:0<=p.Turn/\p.Turn<4
 x:80<=p.At.X/\p.At.X<=300
 y:100<=p.At.Y/\p.At.Y<=270
abbrev Kw (l:List (List Int)):List BA:=[Z55 l,Z56 l]
theorem XN (l:List (List Int)) {i:Int} (hi:0<=i/\i<2):((Kw l).getD i.toNat default).Name=nR\/((Kw l).getD i.toNat default).Name=nQ:=by
 have h01:i=0\/i=1:=by omega
 rcases h01 with rfl | rfl
 ·exact .inl (GA _ _).1
 exact .inr (GA _ _).1
theorem SX (l:List (List Int)) {x:ByteArray} (h:x=nR\/x=nQ):∃ a,CJ (Kw l) x=(BQ a x,true)/\BQ a x∈Kw l:=by
 have h0:=(GA (Aa l 0) nR).1
 have h1:=(GA (Aa l 1) nQ).1
 rcases h with rfl | rfl
 ·refine ⟨Aa l 0,?_,List.mem_cons_self ..⟩
  have:=QD (a:=Z55 l) (c:=Z56 l)
  rw [show (Z55 l).Name=nR from h0] at this
  exact this
 refine ⟨Aa l 1,?_,List.mem_cons_of_mem _ (List.mem_cons_self ..)⟩
 have:=QB (a:=Z55 l) (c:=Z56 l) (by rw [show (Z55 l).Name=nR from h0,show (Z56 l).Name=nQ from h1];decide +kernel)
 rw [show (Z56 l).Name=nQ from h1] at this
 exact this
theorem cL (l:List (List Int)) {x:ByteArray} (h:x=nR\/x=nQ):((CJ (Kw l) x).1.Pads.length:Int)<=6:=by
 obtain ⟨a,e,_⟩:=SX l h
 rw [e]
 exact (GA a x).2.2
theorem Og (v5'':AE) (v:List Ag) (v6_4:List AU) (v10:Int) (l:List (List Int)) (v13:Int):(Z5F v5'' v v6_4 v10 l v13).length<=v.length+1/\(Z5G v5'' v v6_4 v10 l v13).length<=v.length+1/\(Z5H v5'' v v6_4 v10 l v13).length<=v.length+1:=by
 unfold Z5F Z5G Z5H
 cases decide ((AB v5'' 5).1<3) <;> cases decide ((AB v5'' 5).1=0) <;> cases decide ((AB v5'' 5).1=1) <;> simp
theorem Wl (l:List (List Int)) (v6_4:List AU) (v5:AE) (v8:Int) (a1 a3 a5:List Ag) (d1:AE) (v10:Int) (K0:List AU->AE->Int->(AC×(List BA))) (K1:List Ag->List Ag->List Ag->AE->Int->(AC×(List BA))) (Q:AC×List BA->Prop) (M:Nat) (hK:∀ a b c d,a.length<=M->b.length<=M->c.length<=M->Q (K1 a b c d (v10+1))) :
  ∀ (n:Nat) (x y z:List Ag) (d:AE) (k:Int),0<=k->(x.length:Int)+((Z5A l v6_4 v10).Pads.length-k)<=M->(y.length:Int)+((Z5A l v6_4 v10).Pads.length-k)<=M->(z.length:Int)+((Z5A l v6_4 v10).Pads.length-k)<=M->k<=(Z5A l v6_4 v10).Pads.length->(((Z5A l v6_4 v10).Pads.length:Int)-k).toNat<n->Q (EU l v6_4 v5 v8 a1 a3 a5 d1 v10 K0 K1 n x y z d k)
 | 0,x,y,z,d,k,_,_,_,_,_,h=>absurd h (Nat.not_lt_zero _)
 | n+1,x,y,z,d,k,k0,hx,hy,hz,hk,h=>by
  unfold EU
  by_cases hc:(k:Int)<((Z5A l v6_4 v10).Pads.length:Int)
  ·rw [decide_eq_true hc,cond_true]
   have p1:=(Og d x v6_4 v10 l k).1
   have p2:=(Og d y v6_4 v10 l k).2.1
   have p3:=(Og d z v6_4 v10 l k).2.2
   exact Wl l v6_4 v5 v8 a1 a3 a5 d1 v10 K0 K1 Q M hK n _ _ _ _ _ (by omega) (by omega) (by omega) (by omega) (by omega) (by omega)
  rw [decide_eq_false hc,cond_false]
  exact hK _ _ _ _ (by omega) (by omega) (by omega)
theorem Wm (l:List (List Int)) (v6_4:List AU) (v5:AE) (v8:Int) (K0:List AU->AE->Int->(AC×(List BA))) (Q:AC×List BA->Prop) (hp:Ix QW v6_4) (hm:(v6_4.length:Int)=W64 (1+(AB (AB (AE.mk (Aa l 2) 0) 3).2 3).1)) (h3:v6_4.length<=3) (hQ:∀ x y z:List Ag,x.length<=18->y.length<=18->z.length<=18->Q ((Z5N l v6_4 x y z).1,Kw l)) :
  ∀ (n:Nat) (x y z:List Ag) (d:AE) (k:Int),0<=k->(x.length:Int)<=6*k->(y.length:Int)<=6*k->(z.length:Int)<=6*k->k<=(v6_4.length:Int)->((v6_4.length:Int)-k).toNat<n->Q (D6 l v6_4 v5 v8 K0 n x y z d k)
 | 0,x,y,z,d,k,_,_,_,_,_,h=>absurd h (Nat.not_lt_zero _)
 | n+1,x,y,z,d,k,k0,hx,hy,hz,hk,h=>by
  unfold D6
  rw [<- hm]
  by_cases hc:k<(v6_4.length:Int)
  ·rw [decide_eq_true hc,cond_true]
   have hg:=cL l (hp k.toNat (by omega)).typ
   have hg:((Z5A l v6_4 k).Pads.length:Int)<=6:=hg
   exact Wl l v6_4 v5 v8 x y z d k K0 _ Q (6*(k+1)).toNat (fun a b c e ha hb hc'=>Wm l v6_4 v5 v8 K0 Q hp hm h3 hQ n a b c e (k+1) (by omega) (by omega) (by omega) (by omega) (by omega) (by omega)) _ _ _ _ _ 0 (by omega) (by omega) (by omega) (by omega) (by omega) (by omega)
  rw [decide_eq_false hc,cond_false]
  exact hQ _ _ _ (by omega) (by omega) (by omega)
theorem Wn (l:List (List Int)) (Q:AC×List BA->Prop) (hQ:∀ (v:List AU) (x y z:List Ag),Ix QW v->1<=v.length->v.length<=3->x.length<=18->y.length<=18->z.length<=18->Q ((Z5N l v x y z).1,Kw l)) :
  ∀ (n:Nat) (v:List AU) (d:AE) (k:Int),Ix QW v->(v.length:Int)=k->k<=W64 (1+(AB (AB (AE.mk (Aa l 2) 0) 3).2 3).1)->(W64 (1+(AB (AB (AE.mk (Aa l 2) 0) 3).2 3).1)-k).toNat<n->Q (DG l n v d k)
 | 0,v,d,k,_,_,_,h=>absurd h (Nat.not_lt_zero _)
 | n+1,v,d,k,hv,hl,hk,h=>by
  have hn:=Cf (d:=(AB (AE.mk (Aa l 2) 0) 3).2) (n:=3) (by decide) (by decide)
  have hw:W64 (1+(AB (AB (AE.mk (Aa l 2) 0) 3).2 3).1)=1+(AB (AB (AE.mk (Aa l 2) 0) 3).2 3).1:=Ap (by omega) (by omega)
  unfold DG
  by_cases hc:k<W64 (1+(AB (AB (AE.mk (Aa l 2) 0) 3).2 3).1)
  ·rw [decide_eq_true hc,cond_true]
   refine Wn l Q hQ n _ _ _ (Rw hv ?_) (by simp only [List.length_append,List.length_cons,List.length_nil];omega) (by omega) (by omega)
   have h2:=Cf (d:=d) (n:=2) (by decide) (by decide)
   have h4:=Cf (d:=(AB d 2).2) (n:=4) (by decide) (by decide)
   have h5:=Cf (d:=Z5p d) (n:=5) (by decide) (by decide)
   have h6:=Cf (d:=(AB (Z5p d) 5).2) (n:=3) (by decide) (by decide)
   have h7:=Cf (d:=Z5s d) (n:=3) (by decide) (by decide)
   refine ⟨?_,by rw [<- hl];rfl,XN l h2,h4,?_,?_⟩
   ·show W64 (1+k)=_
    rw [Ap (by omega) (by omega)];omega
   ·show 80<=W64 (W64 (80+W64 (100*k))+W64 (5*(AB (Z5p d) 5).1))/\W64 (W64 (80+W64 (100*k))+W64 (5*(AB (Z5p d) 5).1))<=300
    rw [Ap (x:=100*k) (by omega) (by omega),Ap (x:=80+100*k) (by omega) (by omega),Ap (x:=5*(AB (Z5p d) 5).1) (by omega) (by omega),Ap (by omega) (by omega)]
    omega
   show 100<=W64 (W64 (100+W64 (80*(AB (AB (Z5p d) 5).2 3).1))+W64 (5*(AB (Z5s d) 3).1))/\W64 (W64 (100+W64 (80*(AB (AB (Z5p d) 5).2 3).1))+W64 (5*(AB (Z5s d) 3).1))<=270
   rw [Ap (x:=80*(AB (AB (Z5p d) 5).2 3).1) (by omega) (by omega),Ap (x:=100+80*(AB (AB (Z5p d) 5).2 3).1) (by omega) (by omega),Ap (x:=5*(AB (Z5s d) 3).1) (by omega) (by omega),Ap (by omega) (by omega)]
   omega
  rw [decide_eq_false hc,cond_false]
  exact Wm l v d k _ Q hv (by omega) (by omega) (fun x y z hx hy hz=>hQ v x y z hv (by omega) (by omega) hx hy hz) _ [] [] [] _ 0 (by omega) (by simp) (by simp) (by simp) (by omega) (by omega)
theorem O0 (l:List (List Int)) (Q:AC×List BA->Prop) (hQ:∀ (v:List AU) (x y z:List Ag),Ix QW v->1<=v.length->v.length<=3->x.length<=18->y.length<=18->z.length<=18->Q ((Z5N l v x y z).1,Kw l)):Q (AP l):=by
 have hn:=Cf (d:=(AB (AE.mk (Aa l 2) 0) 3).2) (n:=3) (by decide) (by decide)
 have hw:W64 (1+(AB (AB (AE.mk (Aa l 2) 0) 3).2 3).1)=1+(AB (AB (AE.mk (Aa l 2) 0) 3).2 3).1:=Ap (by omega) (by omega)
 unfold AP
 exact Wn l Q hQ _ [] _ 0 Rv rfl (by omega) (by omega)
end Go.Proofs.Ytgmhnkoifdpemaa
