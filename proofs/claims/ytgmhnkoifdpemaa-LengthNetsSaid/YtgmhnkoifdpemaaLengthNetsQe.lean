/-
  No statement is proved in this text. It holds a part of what the proof of LengthNets needs.
-/
import Derived.Test.YtgmhnkoifdpemaaLengthNetsQd
namespace Go.Proofs.Ytgmhnkoifdpemaa
set_option maxRecDepth 100000
set_option linter.unusedVariables false
set_option linter.unusedSimpArgs false
open Go.RowKit
section
open Go.RowKit
theorem O1 {v a:Int} {d:AE} {n:Int} (h:v<W64 (a+(AB d n).1)) (h0:0<n) (h1:n<=1000000) (ha:0<=a) (hb:a<=1000000):v<a+n-1:=by
 have:=Dl d n h0 (by omega)
 rw [Ap (by omega) (by omega)] at h
 omega
theorem H5 {p q:Prop} [Decidable p] [Decidable q] {r:Bool} (h:(bif bif decide p then decide q else false then r else (bif bif decide p then decide q else false then false else false))=true):q:=by
 by_cases hp:p
 ·rw [decide_eq_true hp] at h
  by_cases hq:q
  ·exact hq
  rw [decide_eq_false hq] at h;cases h
 rw [decide_eq_false hp] at h;cases h
theorem Wh {n:Nat} (h:(0:Int)<(n:Int)):0<n:=by omega
theorem QE {c2 c1:Bool} {a b c:B3} {L:List B3} (hL:L=bif c2 then [a,b] else bif c1 then [c] else []):L.length<=2:=by
 subst hL;cases c2 <;> cases c1 <;> simp
theorem Ww {c2 c1:Bool} {a b c:B3} {L:List B3} {k:Int} (hk:0<=k/\k<2) (ha:a.Legs.length=2) (hc:c.Legs.length=2) (hL:L=bif c2 then [a,b] else bif c1 then [c] else []) (h:(0:Int)<(L.length:Int)):0<=k/\k<(((L.getD 0 default).Legs.length:Nat):Int):=by
 subst hL
 cases c2 with
 | true=>show 0<=k/\k<((a.Legs.length:Nat):Int);rw [ha];exact hk
 | false =>
  cases c1 with
  | true=>show 0<=k/\k<((c.Legs.length:Nat):Int);rw [hc];exact hk
  | false=>exact absurd h (by simp)
theorem cN {α:Type} {L:List α} (h:L.length<=2):L.length+1<=maxLen:=by unfold maxLen;omega
theorem cO {α:Type} {L:List α} (h:L.length<=2):(L.length+1)*32<=140737488355328:=by omega
def Z3O:Blk:=.cells [.s (⟨#[]⟩),vN,vN] 110
variable (name:ByteArray) (l:List Int) (r:Ah) (v6_1:List Eb) (v8:Int) (x0:AD) (radius:Int) (v5:AE) (x1:AD)
abbrev I9:=AB (AE.mk l 0) 5
def Z3P:CT:=(34,Ki.map (CC 1000 14),wrI 14 (.cells [lst 1 eIn l,.i 0] 94) (tI (I9 l).1) (.cells (AE.c (I9 l).2) 94))
def Z3Q:Blk:=.cells (AE.c (I9 l).2) 94
abbrev UC:Bool:=(decide (((W64 (2+(I9 l).1)):Int)<4))
def Z3R:Tv:=tB (UC l)
abbrev MI:Av:=.one (.ptr 14 0)
def Z3S:Tv:=.grd ((UC l)=true) MI
def Z3T:Blk:=.row 2 ([]:List B3).length (AV B3.c ([]:List B3)) 170
abbrev UF:Bool:=(decide ((4:Int)<=(W64 (2+(I9 l).1))))
def Z3U:Tv:=tB (UF l)
def Z3V:Tv:=.grd ((UF l)=true) MI
def Z3W:Blk:=.row 7 ([]:List Eb).length (AV Eb.c ([]:List Eb)) 119
def Z3X:Blk:=.cells [.s name,.own 2000 7 ([]:List Eb).length,vN] 110
def Z3Y:Blk:=.cells [.s name,.own 2000 7 v6_1.length,vN] 110
abbrev MM:Blk:=.cells (AE.c (AB v5 2).2) 94
abbrev MG:Blk:=.cells (AE.c v5) 94
def Z3Z:CT:=(34,(Hp:List Av).map (CC 1000 14),wrI 14 (MG v5) (tI (AB v5 2).1) (MM v5))
def Z40:Blk:=.cells [.s (Am v8),.i 0,vN,.i 0,.i (W64 (30*v8)),.i (W64 (10*(AB v5 2).1)),.i 0] 119
def Z41:Blk:=.cells [.i (W64 (30*v8)),.i (W64 (10*(AB v5 2).1))] 31
abbrev F8:=AB (AB v5 2).2 3
def Z42:CT:=(34,(FZ:List Av).map (CC 1000 14),wrI 14 (MM v5) (tI (F8 v5).1) (.cells (AE.c (F8 v5).2) 94))
def Z43:Blk:=.cells (AE.c (F8 v5).2) 94
def Z44:AX:=Ho (Ah.mk (W64 ((W64 (30*v8))-6)) (W64 ((W64 (10*(AB v5 2).1))-6)) (W64 ((W64 (30*v8))+6)) (W64 ((W64 (10*(AB v5 2).1))+6)))
def Z45:CT:=(34,(FZ:List Av).map (CC 1000 14),wrI 14 (.cells (AE.c (F8 v5).2) 94) (tI (AB (F8 v5).2 3).1) (.cells (AE.c (AB (F8 v5).2 3).2) 94))
abbrev Z46:AE:=(AB (AB (AB v5 2).2 3).2 3).2
def Z47:AX:=Iz (AD.mk (W64 (30*v8)) (W64 (10*(AB v5 2).1))) (W64 (4+(AB (AB (AB v5 2).2 3).2 3).1))
abbrev Z48:AE:=bif decide (((AB (AB v5 2).2 3).1:Int)=0) then (AB (AB v5 2).2 3).2 else (bif decide (((AB (AB v5 2).2 3).1:Int)=1) then (Z46 v5) else (AB (AB v5 2).2 3).2)
def Z49 (v5:AE) (v8:Int):(List AG):=bif decide (((AB (AB v5 2).2 3).1:Int)=0) then (Z44 v8 v5).Edges else (bif decide (((AB (AB v5 2).2 3).1:Int)=1) then (Z47 v8 v5).Edges else [AG.mk 1 (AD.mk (W64 ((W64 (30*v8))-2)) (W64 (10*(AB v5 2).1))) (AD.mk (W64 ((W64 (30*v8))+2)) (W64 (10*(AB v5 2).1))) (AD.mk 0 0)])
def Z4a:CT:=(34,(KJ:List Av).map (CC 1000 14),wrI 14 (.cells (AE.c (Z48 v5)) 94) (tI (AB (Z48 v5) 4).1) (.cells (AE.c (AB (Z48 v5) 4).2) 94))
def Z4b:CT:=(34,(Hp:List Av).map (CC 1000 14),wrI 14 (.cells (AE.c (AB (Z48 v5) 4).2) 94) (tI (AB (AB (Z48 v5) 4).2 2).1) (.cells (AE.c (AB (AB (Z48 v5) 4).2 2).2) 94))
abbrev Z4c:AE:=(AB (AB (Z48 v5) 4).2 2).2
def Z4d:CT:=(34,(FZ:List Av).map (CC 1000 14),wrI 14 (MG v5) (tI (AB v5 3).1) (.cells (AE.c (AB v5 3).2) 94))
abbrev Z4e:AE:=bif decide (((W64 (2+(AB (AE.mk l 0) 5).1)):Int)<4) then (AB v5 3).2 else v5
def Z4f:CT:=(34,(Hp:List Av).map (CC 1000 14),wrI 14 (.cells (AE.c (Z4e l v5)) 94) (tI (AB (Z4e l v5) 2).1) (.cells (AE.c (AB (Z4e l v5) 2).2) 94))
def Z4g:Blk:=.cells (AE.c (AB (Z4e l v5) 2).2) 94
abbrev UP:=[B3.mk 0 [Ct.mk (Am 0) 1,Ct.mk (Am 1) (AB (Z4e l v5) 2).1]]
def Z4h:Blk:=.row 2 ((UP l v5).length) (AV B3.c (UP l v5)) 170
abbrev Z4i:AE:=bif bif decide (((W64 (2+(AB (AE.mk l 0) 5).1)):Int)<4) then (bif decide (((W64 (2+(AB (AE.mk l 0) 5).1)):Int)<4) then decide ((0:Int)<(AB v5 3).1) else false) else (bif decide (((W64 (2+(AB (AE.mk l 0) 5).1)):Int)<4) then false else false) then (AB (Z4e l v5) 2).2 else (Z4e l v5)
def Z4j:(List B3):=bif bif decide (((W64 (2+(AB (AE.mk l 0) 5).1)):Int)<4) then (bif decide (((W64 (2+(AB (AE.mk l 0) 5).1)):Int)<4) then decide ((0:Int)<(AB v5 3).1) else false) else (bif decide (((W64 (2+(AB (AE.mk l 0) 5).1)):Int)<4) then false else false) then [B3.mk 0 [Ct.mk (Am 0) 1,Ct.mk (Am 1) (AB (Z4e l v5) 2).1]] else ([]:List B3)
def Z4k:CT:=(34,(FZ:List Av).map (CC 1000 14),wrI 14 (.cells (AE.c (Z4i l v5)) 94) (tI (AB (Z4i l v5) 3).1) (.cells (AE.c (AB (Z4i l v5) 3).2) 94))
def Z4l:Blk:=.row 2 (Z4j l v5).length (AV B3.c (Z4j l v5)) 170
abbrev Z4m:AE:=bif decide ((4:Int)<=(W64 (2+(AB (AE.mk l 0) 5).1))) then (AB (Z4i l v5) 3).2 else (Z4i l v5)
abbrev GW:=AB (Z4m l v5) 2
def Z4n:CT:=(34,(Hp:List Av).map (CC 1000 14),wrI 14 (.cells (AE.c (Z4m l v5)) 94) (tI (GW l v5).1) (.cells (AE.c (GW l v5).2) 94))
def Z4o:Blk:=.cells (AE.c (GW l v5).2) 94
abbrev YK:=[B3.mk 1 [Ct.mk (Am 0) (GW l v5).1,Ct.mk (Am 1) (GW l v5).1],B3.mk 1 [Ct.mk (Am 2) (GW l v5).1,Ct.mk (Am 3) (GW l v5).1]]
def Z4p:Blk:=.row 2 ((YK l v5).length) (AV B3.c (YK l v5)) 170
abbrev Z4q:AE:=bif bif decide ((4:Int)<=(W64 (2+(AB (AE.mk l 0) 5).1))) then (bif decide ((4:Int)<=(W64 (2+(AB (AE.mk l 0) 5).1))) then decide ((0:Int)<(AB (Z4i l v5) 3).1) else false) else (bif decide ((4:Int)<=(W64 (2+(AB (AE.mk l 0) 5).1))) then false else false) then (AB (Z4m l v5) 2).2 else (Z4m l v5)
def Z4r:(List B3):=bif bif decide ((4:Int)<=(W64 (2+(AB (AE.mk l 0) 5).1))) then (bif decide ((4:Int)<=(W64 (2+(AB (AE.mk l 0) 5).1))) then decide ((0:Int)<(AB (Z4i l v5) 3).1) else false) else (bif decide ((4:Int)<=(W64 (2+(AB (AE.mk l 0) 5).1))) then false else false) then [B3.mk 1 [Ct.mk (Am 0) (AB (Z4m l v5) 2).1,Ct.mk (Am 1) (AB (Z4m l v5) 2).1],B3.mk 1 [Ct.mk (Am 2) (AB (Z4m l v5) 2).1,Ct.mk (Am 3) (AB (Z4m l v5) 2).1]] else (Z4j l v5)
def Z4s:CT:=(34,(Hp:List Av).map (CC 1000 14),wrI 14 (.cells (AE.c (Z4q l v5)) 94) (tI (AB (Z4q l v5) 2).1) (.cells (AE.c (AB (Z4q l v5) 2).2) 94))
def Z4t:Blk:=.row 2 (Z4r l v5).length (AV B3.c (Z4r l v5)) 170
abbrev Z4u:AE:=bif bif decide (((W64 (2+(AB (AE.mk l 0) 5).1)):Int)=6) then decide ((0:Int)<(((Z4r l v5).length:Nat):Int)) else false then (AB (Z4q l v5) 2).2 else (Z4q l v5)
def Z4v:CT:=(34,(FZ:List Av).map (CC 1000 14),wrI 14 (.cells (AE.c (Z4u l v5)) 94) (tI (AB (Z4u l v5) 3).1) (.cells (AE.c (AB (Z4u l v5) 3).2) 94))
abbrev YN:=[B3.mk (AB (Z4u l v5) 3).1 [Ct.mk (Am 5) (((Z4r l v5).getD 0 default).Legs.getD 0 default).Group,Ct.mk (Am 4) (((Z4r l v5).getD 0 default).Legs.getD 1 default).Group]]
def Z4w:Blk:=.row 2 ((Z4r l v5)++(YN l v5)).length (AV B3.c ((Z4r l v5)++(YN l v5))) 170
def Z4x:(List B3):=bif bif bif decide (((W64 (2+(AB (AE.mk l 0) 5).1)):Int)=6) then decide ((0:Int)<(((Z4r l v5).length:Nat):Int)) else false then (bif bif decide (((W64 (2+(AB (AE.mk l 0) 5).1)):Int)=6) then decide ((0:Int)<(((Z4r l v5).length:Nat):Int)) else false then decide (((AB (Z4q l v5) 2).1:Int)=1) else false) else (bif bif decide (((W64 (2+(AB (AE.mk l 0) 5).1)):Int)=6) then decide ((0:Int)<(((Z4r l v5).length:Nat):Int)) else false then false else false) then ((Z4r l v5)++[B3.mk (AB (Z4u l v5) 3).1 [Ct.mk (Am 5) (((Z4r l v5).getD 0 default).Legs.getD 0 default).Group,Ct.mk (Am 4) (((Z4r l v5).getD 0 default).Legs.getD 1 default).Group]]) else (Z4r l v5)
def Z4y:Blk:=.row 2 (Z4x l v5).length (AV B3.c (Z4x l v5)) 170
def Z4z (name:ByteArray) (v6_1:List Eb) (l:(List Int)) (v5:AE):Blk:=.cells [.s name,.own 2000 7 v6_1.length,.own 2001 2 ((UP l v5).length)] 110
def Z4A:Blk:=.cells [.s name,.own 2000 7 v6_1.length,.own 2001 2 ([]:List B3).length] 110
def Z4B (name:ByteArray) (v6_1:List Eb) (l:(List Int)) (v5:AE):Blk:=.cells [.s name,.own 2000 7 v6_1.length,.own 2001 2 (Z4j l v5).length] 110
def Z4C (name:ByteArray) (v6_1:List Eb) (l:(List Int)) (v5:AE):Blk:=.cells [.s name,.own 2000 7 v6_1.length,.own 2002 2 ((YK l v5).length)] 110
def Z4D (name:ByteArray) (v6_1:List Eb) (l:(List Int)) (v5:AE):Blk:=.cells [.s name,.own 2000 7 v6_1.length,.own 2002 2 (Z4r l v5).length] 110
def Z4E (name:ByteArray) (v6_1:List Eb) (l:(List Int)) (v5:AE):Blk:=.cells [.s name,.own 2000 7 v6_1.length,.own 2003 2 ((Z4r l v5)++(YN l v5)).length] 110
def D7 (l:(List Int)) (name:ByteArray):Nat->List Eb->AE->Int->BA
 | 0,_,_,_=>default
 | n0+1,v6_1,v5,v8=>bif decide ((v8:Int)<(W64 (2+(AB (AE.mk l 0) 5).1))) then ((D7 l name n0) (v6_1++[Eb.mk (Am v8) (AX.mk (bif decide (((AB (AB v5 2).2 3).1:Int)=0) then (Z44 v8 v5).Kind else (bif decide (((AB (AB v5 2).2 3).1:Int)=1) then (Z47 v8 v5).Kind else 1)) (Z49 v5 v8) (bif decide (((AB (AB v5 2).2 3).1:Int)=0) then (Z44 v8 v5).R else (bif decide (((AB (AB v5 2).2 3).1:Int)=1) then (Z47 v8 v5).R else 4))) (AD.mk (W64 (30*v8)) (W64 (10*(AB v5 2).1))) (W64 ((W64 (2*(AB (Z48 v5) 4).1))*(AB (AB (Z48 v5) 4).2 2).1))]) (Z4c v5) (v8+1)) else (BA.mk name v6_1 (Z4x l v5))
def BQ (l:(List Int)) (name:ByteArray):BA:=D7 l name (((W64 (2+(AB (AE.mk l 0) 5).1))-0).toNat+1) ([]:List Eb) (AB (AE.mk l 0) 5).2 0
def KC (l:(List Int)) (name:ByteArray):CT:=(53,[.one (lst 1 eIn l),.one (.s name)],.val [] (.av (.agg (BA.c (BQ l name)))))
abbrev DK:Nat×Blk:=(2000,.row 7 v6_1.length (AV Eb.c v6_1) 119)
abbrev EX:Nat×Tv:=(7,tI (W64 (2+(I9 l).1)))
abbrev LO:=(bif decide (((W64 (2+(I9 l).1)):Int)=6) then decide ((0:Int)<(((Z4r l v5).length:Nat):Int)) else false)
abbrev Yh:=[Eb.mk (Am v8) (AX.mk (bif decide (((F8 v5).1:Int)=0) then (Z44 v8 v5).Kind else (bif decide (((F8 v5).1:Int)=1) then (Z47 v8 v5).Kind else 1)) (Z49 v5 v8) (bif decide (((F8 v5).1:Int)=0) then (Z44 v8 v5).R else (bif decide (((F8 v5).1:Int)=1) then (Z47 v8 v5).R else 4))) (AD.mk (W64 (30*v8)) (W64 (10*(AB v5 2).1))) (W64 ((W64 (2*(AB (Z48 v5) 4).1))*(AB (AB (Z48 v5) 4).2 2).1))]
abbrev Gg:Bool:=(decide (((W64 (2+(I9 l).1)):Int)=6))
abbrev KN:Bool:=(decide ((4:Int)<=(W64 (2+(AB (AE.mk l 0) 5).1))))
abbrev KM:Bool:=(decide (((W64 (2+(AB (AE.mk l 0) 5).1)):Int)<4))
abbrev Kv:Nat×Blk:=(4,.cells [.s (⟨#[]⟩),vN,vN] 110)
abbrev Cn (t_:List (Nat×Tv)):List (Nat×Tv):=(4,tP 4 0)::(5,tP 14 0)::(6,tP 6 0)::t_
abbrev G6:List (Nat×Tv):=(Cn [(EX l)])
abbrev OL:List (Nat×Tv):=(Cn [(EX l),(8,tI v8),(9,tP 9 0)])
abbrev Q3 (name:ByteArray) (v6_1:List Eb) (l:List Int) (v5:AE):List (Nat×Blk):=[(4,Z3O),(6,Z4B name v6_1 l v5),(14,.cells (AE.c (Z4i l v5)) 94),(DK v6_1),(2001,Z4l l v5)]
abbrev Q2 (name:ByteArray) (v6_1:List Eb) (l:List Int) (v5:AE):List (Nat×Blk):=[(4,Z3O),(6,Z4D name v6_1 l v5),(14,.cells (AE.c (Z4q l v5)) 94),(DK v6_1),(2002,Z4t l v5)]
abbrev OA:List (Nat×Blk):=[(4,Z3O),(6,Z3Y name v6_1),(14,.cells (AE.c v5) 94),(DK v6_1)]
abbrev N6:List (Nat×Tv):=[(4,tP 4 0),(6,tP 6 0)]
theorem au16 {p:Prop} (h:p:=by first | (simp;done) | (simp;omega)):p:=h
set_option maxHeartbeats 2000000 in
theorem gF (l:(List Int)) (name:ByteArray) (hl:(l.length:Int)<=9223372036854775807):PuP 53 (KC l name).2.1 (.av (.agg (BA.c (BQ l name)))):=by
 refine pwf Try.func53 fun W0 M0 => ?_
 have hd0:=DA hl
 refine AA<|on<|AA<|on<|AA<|on<|AA<|rb 18 (Z3P l) (.cells [lst 1 eIn l,.i 0] 94) ⟨(G6 l),[(4,Z3O),(6,.cells [.s name,vN,vN] 110),(14,Z3Q l)]⟩ (cWr (Bg (AE.mk l 0) 5 au7 au11))<|AF<|AA<|AA<|rn ⟨(Cn [(EX l),(8,tI 0)]),[(4,Z3O),(6,.cells [.s name,vN,vN] 110),(14,Z3Q l)]⟩<|AM<|Al (Cv.trans (vg 2000 7 (fun _ _=>default) 119 [] [(6,[1])] hk0) (Cv.trans (A6 2000 (CV 7 (fun _ _=>default) Eb.c)) (ck (⟨(Cn [(EX l),(8,tI 0)]),[(4,Z3O),(6,Z3X name),(14,Z3Q l),(2000,Z3W)]⟩)))) ?_
 refine BK (ι:=Nat×List Eb×AE×Int) (fun x=>⟨(Cn [(EX l),(8,tI x.2.2.2)]),[(4,Z3O),(6,.cells [.s name,.own 2000 7 x.2.1.length,vN] 110),(14,.cells (AE.c x.2.2.1) 94),(2000,.row 7 x.2.1.length (AV Eb.c x.2.1) 119)]⟩) (fun x=>((W64 (2+(AB (AE.mk l 0) 5).1))-x.2.2.2).toNat<x.1/\(Bz x.2.2.1/\0<=x.2.2.2/\(x.2.2.2<=(W64 (2+(AB (AE.mk l 0) 5).1))\/x.2.2.2=0)/\(x.2.1.length:Int)<=0+1*(x.2.2.2-0))/\D7 l name x.1 x.2.1 x.2.2.1 x.2.2.2=BQ l name) (fun x=>x.1) ?_ (((W64 (2+(AB (AE.mk l 0) 5).1))-0).toNat+1,([]:List Eb),(AB (AE.mk l 0) 5).2,0) ⟨Nat.lt_succ_self _,⟨(by show Bz ((AB (AE.mk l 0) 5).2);repeat (first | with_reducible assumption | exact DA (Dv hll _) | with_reducible refine Bd ?_ | with_reducible refine FI ?_ | with_reducible refine EB ?_ | with_reducible refine Do ?_  | with_reducible refine DO ?_ ?_)),ax0,ax0,ax0⟩,(by simp only [BQ,cond_true,cond_false])⟩
 rintro ⟨n0,v6_1,v5,v8⟩ ⟨hm0,hinv0,hF0⟩
 try dsimp only at hm0 hinv0 hF0
 cases n0 with | zero=>exact nz hm0 | succ n0 => ?_
 have hi0_0:=hinv0.1
 refine AA<|AA<|rn ⟨(Cn [(EX l),(8,tI v8),(22,tB (decide ((v8:Int)<(W64 (2+(AB (AE.mk l 0) 5).1)))))]),(OA name v6_1 v5)⟩<|AL _ rfl (fun h1 => ?_) (fun h1 => ?_)
 ·have g1:=oT h1
  have k1:=Ru g1 (by decide) (by decide) (by decide) (by decide)
  have kk1:=O1 g1 (by decide) (by decide) (by decide) (by decide)
  refine AQ<|AF<|AA<|AM<|AA<|oc [(26,Cy v8),(30,(Z3Z v5))] [As (Cy v8).2.1,As (Z3Z v5).2.1,CL (MG v5)] (.cons (E2 v8 au14) (.cons (cWr (Bg v5 2 au7 au11)) .nil)) (.cons rfl (.cons rfl (.cons rfl .nil)))<|AF<|AA<|on<|AA<|AA<|rb 37 (Z42 v5) (MM v5) ⟨(Cn [(EX l),(8,tI v8),(9,tP 9 0),(10,tP 10 0),(37,tI (F8 v5).1)]),[(4,Z3O),(6,Z3Y name v6_1),(9,Z40 v8 v5),(10,Z41 v8 v5),(14,Z43 v5),(DK v6_1)]⟩ (cWr (Bg (AB v5 2).2 3 au7 au11))<|AF<|CR (⟨(OL l v8),[Kv,(6,.cells [.s name,.own 2000 7 v6_1.length,vN] 110),(9,.cells [.s (Am v8),.i (bif decide (((F8 v5).1:Int)=0) then (Z44 v8 v5).Kind else (bif decide (((F8 v5).1:Int)=1) then (Z47 v8 v5).Kind else 1)),lst 7 AG.c (Z49 v5 v8),.i (bif decide (((F8 v5).1:Int)=0) then (Z44 v8 v5).R else (bif decide (((F8 v5).1:Int)=1) then (Z47 v8 v5).R else 4)),.i (W64 (30*v8)),.i (W64 (10*(AB v5 2).1)),.i 0] 119),(14,.cells (AE.c (Z48 v5)) 94),(DK v6_1)]⟩) ?_ ?_
  ·refine AM<|AA<|rn ⟨(Cn [(EX l),(8,tI v8),(9,tP 9 0),(10,tP 10 0),(37,tI (F8 v5).1),(54,tB (decide (((AB (AB v5 2).2 3).1:Int)=0)))]),[(4,Z3O),(6,Z3Y name v6_1),(9,Z40 v8 v5),(10,Z41 v8 v5),(14,Z43 v5),(DK v6_1)]⟩<|AL _ rfl (fun h2 => ?_) (fun h2 => ?_)
   ·refine rs 69 (Jk (Ah.mk (W64 ((W64 (30*v8))-6)) (W64 ((W64 (10*(AB v5 2).1))-6)) (W64 ((W64 (30*v8))+6)) (W64 ((W64 (10*(AB v5 2).1))+6)))) ⟨(OL l v8),[(4,Z3O),(6,Z3Y name v6_1),(9,.cells [.s (Am v8),.i (Z44 v8 v5).Kind,lst 7 AG.c (Z44 v8 v5).Edges,.i (Z44 v8 v5).R,.i (W64 (30*v8)),.i (W64 (10*(AB v5 2).1)),.i 0] 119),(14,Z43 v5),(DK v6_1)]⟩ (Nc (Ah.mk (W64 ((W64 (30*v8))-6)) (W64 ((W64 (10*(AB v5 2).1))-6)) (W64 ((W64 (30*v8))+6)) (W64 ((W64 (10*(AB v5 2).1))+6))))<|A0<|AF<|BG ?_
    first | rfl | (simp only [h2,Z48,Z49,cond_true,cond_false] <;> rfl)
   have g2:=oF h2
   refine AA<|rn ⟨(Cn [(EX l),(8,tI v8),(9,tP 9 0),(10,tP 10 0),(71,tB (decide (((AB (AB v5 2).2 3).1:Int)=1)))]),[(4,Z3O),(6,Z3Y name v6_1),(9,Z40 v8 v5),(10,Z41 v8 v5),(14,Z43 v5),(DK v6_1)]⟩<|AL _ rfl (fun h3 => ?_) (fun h3 => ?_)
   ·have g3:=oT h3
    refine dw [] [(75,(Z45 v5)),(77,LI (AD.mk (W64 (30*v8)) (W64 (10*(AB v5 2).1))) (W64 (4+(AB (F8 v5).2 3).1)))] [As (Z45 v5).2.1,CL (.cells (AE.c (AB (AB v5 2).2 3).2) 94),As (LI (AD.mk (W64 (30*v8)) (W64 (10*(AB v5 2).1))) (W64 (4+(AB (AB (AB v5 2).2 3).2 3).1))).2.1] ⟨(OL l v8),[(4,Z3O),(6,Z3Y name v6_1),(9,.cells [.s (Am v8),.i (Z47 v8 v5).Kind,lst 7 AG.c (Z47 v8 v5).Edges,.i (Z47 v8 v5).R,.i (W64 (30*v8)),.i (W64 (10*(AB v5 2).1)),.i 0] 119),(14,.cells (AE.c (Z46 v5)) 94),(DK v6_1)]⟩ (.cons (cWr (Bg (AB (AB v5 2).2 3).2 3 au7 au11)) (.cons (Rn (AD.mk (W64 (30*v8)) (W64 (10*(AB v5 2).1))) (W64 (4+(AB (AB (AB v5 2).2 3).2 3).1))) .nil)) (.cons rfl (.cons rfl (.cons rfl .nil)))<|A0<|AF<|BG ?_
    first | rfl | (simp only [h2,h3,Z48,Z49,cond_true,cond_false] <;> rfl)
   refine rg ⟨(OL l v8),[(4,Z3O),(6,Z3Y name v6_1),(9,.cells [.s (Am v8),.i 1,.list true 7 1 (BF 7 1 [.i 1,.i (W64 ((W64 (30*v8))-2)),.i (W64 (10*(AB v5 2).1)),.i (W64 ((W64 (30*v8))+2)),.i (W64 (10*(AB v5 2).1)),.i 0,.i 0]),.i 4,.i (W64 (30*v8)),.i (W64 (10*(AB v5 2).1)),.i 0] 119),(14,Z43 v5),(DK v6_1)]⟩<|A0<|AF<|Cv.trans (C1 (⟨(OL l v8),[(4,Z3O),(6,Z3Y name v6_1),(9,.cells [.s (Am v8),.i 1,lst 7 AG.c [AG.mk 1 (AD.mk (W64 ((W64 (30*v8))-2)) (W64 (10*(AB v5 2).1))) (AD.mk (W64 ((W64 (30*v8))+2)) (W64 (10*(AB v5 2).1))) (AD.mk 0 0)],.i 4,.i (W64 (30*v8)),.i (W64 (10*(AB v5 2).1)),.i 0] 119),(14,Z43 v5),(DK v6_1)]⟩) lr (.cons ⟨rfl,.refl _⟩ (.cons ⟨rfl,.refl _⟩ (.cons ⟨rfl,.cells _ (rr2 (.cons (BM true (BR (c:=AG.c) (xs:=([AG.mk 1 (AD.mk (W64 ((W64 (30*v8))-2)) (W64 (10*(AB v5 2).1))) (AD.mk (W64 ((W64 (30*v8))+2)) (W64 (10*(AB v5 2).1))) (AD.mk 0 0)]:List AG)) rfl kr)) (rr (rr (rr (rr .nil))))))⟩ lr)))) (BG ?_)
   first | rfl | (simp only [h2,h3,Z48,Z49,cond_true,cond_false] <;> rfl)
  refine AA<|oc [(80,(Z4a v5)),(83,(Z4b v5))] [As (Z4a v5).2.1,CL (.cells (AE.c (Z48 v5)) 94),As (Z4b v5).2.1,CL (.cells (AE.c (AB (Z48 v5) 4).2) 94)] (.cons (cWr (Bg (Z48 v5) 4 au7 au11)) (.cons (cWr (Bg (AB (Z48 v5) 4).2 2 au7 au11)) .nil)) (.cons rfl (.cons rfl (.cons rfl (.cons rfl .nil))))<|AF<|oc [] [v6_1.length=v6_1.length,v6_1.length+1<=maxLen,(v6_1.length+1)*80<=140737488355328] .nil (.cons rfl (.cons au3 (.cons au3 .nil)))<|A0<|AF<|Al (A6 90 (Ar (Af 7 Eb.c v6_1) (A1 7 Eb.c ([Eb.mk (Am v8) (AX.mk (bif decide (((AB (AB v5 2).2 3).1:Int)=0) then (Z44 v8 v5).Kind else (bif decide (((AB (AB v5 2).2 3).1:Int)=1) then (Z47 v8 v5).Kind else 1)) (Z49 v5 v8) (bif decide (((AB (AB v5 2).2 3).1:Int)=0) then (Z44 v8 v5).R else (bif decide (((AB (AB v5 2).2 3).1:Int)=1) then (Z47 v8 v5).R else 4))) (AD.mk (W64 (30*v8)) (W64 (10*(AB v5 2).1))) (W64 ((W64 (2*(AB (Z48 v5) 4).1))*(AB (AB (Z48 v5) 4).2 2).1))]:List Eb))))<|rg ⟨(Cn [(EX l),(8,tI (W64 (v8+1)))]),[(4,Z3O),(6,.cells [.s name,.own 90 7 (v6_1++(Yh v8 v5)).length,vN] 110),(14,.cells (AE.c (Z4c v5)) 94),(90,.row 7 (v6_1++(Yh v8 v5)).length (AV Eb.c (v6_1++(Yh v8 v5))) 119)]⟩ ?_
  (try rw [(show W64 (v8+1)=v8+1 from Ap oM au8)])
  refine AF ?_
  refine ⟨(n0,v6_1++[Eb.mk (Am v8) (AX.mk (bif decide (((AB (AB v5 2).2 3).1:Int)=0) then (Z44 v8 v5).Kind else (bif decide (((AB (AB v5 2).2 3).1:Int)=1) then (Z47 v8 v5).Kind else 1)) (Z49 v5 v8) (bif decide (((AB (AB v5 2).2 3).1:Int)=0) then (Z44 v8 v5).R else (bif decide (((AB (AB v5 2).2 3).1:Int)=1) then (Z47 v8 v5).R else 4))) (AD.mk (W64 (30*v8)) (W64 (10*(AB v5 2).1))) (W64 ((W64 (2*(AB (Z48 v5) 4).1))*(AB (AB (Z48 v5) 4).2 2).1))],Z4c v5,v8+1),⟨?_,?_,(by rw [<- hF0];simp only [D7,h1,cond_true,cond_false])⟩,Nat.lt_succ_self _,Cv.trans (vr 90 2000 hk0) (BG kr)⟩
  ·show ((W64 (2+(AB (AE.mk l 0) 5).1))-(v8+1)).toNat<n0;omega
  exact ⟨(by show Bz (Z4c v5);repeat (first | with_reducible assumption | exact DA (Dv hll _) | with_reducible refine Bd ?_ | with_reducible refine FI ?_ | with_reducible refine EB ?_ | with_reducible refine Do ?_  | with_reducible refine DO ?_ ?_)),ax0,ax0,ax0⟩
 have g1:=oF h1
 have k1:=R2 g1 (by decide) (by decide) (by decide) (by decide)
 refine BH<|A7<|A7<|BI<|AF<|AA<|AA<|CR (⟨(Cn [(EX l),(98,tB (bif decide (((W64 (2+(AB (AE.mk l 0) 5).1)):Int)<4) then (bif decide (((W64 (2+(AB (AE.mk l 0) 5).1)):Int)<4) then decide ((0:Int)<(AB v5 3).1) else false) else (bif decide (((W64 (2+(AB (AE.mk l 0) 5).1)):Int)<4) then false else false)))]),[Kv,(6,.cells [.s name,.own 2000 7 v6_1.length,vN] 110),(14,.cells (AE.c (Z4e l v5)) 94),(DK v6_1)]⟩) ?_ ?_
 ·refine NG (KM l) (fun h2 => ?_) (fun h2 => ?_)
  ·have g2:=oT h2
   refine Dp<|F2 DU 4 [] [] [] [4,5,6,7,94,95] [4,6,14,2000] [] ⟨(Cn [(EX l),(94,Z3R l),(95,Z3S l)]),(OA name v6_1 v5)⟩ .nil kr .nil<|PK DU 2 true ((KM l)=true) [] [(96,(Z4d v5))] [((KM l)=true)->((KM l)=true),As (Z4d v5).2.1,CL (MG v5)] ⟨(Cn [(EX l),(94,Z3R l),(95,Z3S l),(96,tI (AB v5 3).1)]),[(4,Z3O),(6,Z3Y name v6_1),(14,.cells (AE.c (AB v5 3).2) 94),(DK v6_1)]⟩ rfl kr h2 (.cons (cWr (Bg v5 3 au7 au11)) .nil) kr (.cons id (.cons rfl (.cons rfl .nil)))<|Ew DU [] [] [] [4,5,6,7,98] [4,6,14,2000] [(KM l)=true->((KM l)=true)] ⟨(Cn [(EX l),(98,tB (bif decide (((W64 (2+(I9 l).1)):Int)<4) then decide ((0:Int)<(AB v5 3).1) else false))]),[(4,Z3O),(6,Z3Y name v6_1),(14,.cells (AE.c (AB v5 3).2) 94),(DK v6_1)]⟩ .nil kr (.cons id .nil)<|AF<|BG ?_
   first | rfl | (simp only [h2,Z4e,cond_true,cond_false] <;> rfl)
  have g2:=oF h2
  refine Dp<|F2 DU 4 [] [] [] [4,5,6,7,94,95] [4,6,14,2000] [] ⟨(Cn [(EX l),(94,Z3R l),(95,Z3S l)]),(OA name v6_1 v5)⟩ .nil kr .nil<|PL 2 true ((KM l)=true) ⟨(Cn [(EX l),(94,Z3R l),(95,Z3S l),(96,.grd ((UC l)=true) (.one (.b false)))]),(OA name v6_1 v5)⟩ rfl kr (fun e=>by rw [h2] at e;cases e) kr kr<|Ew DU [] [] [] [4,5,6,7,98] [4,6,14,2000] [¬ ((KM l)=true),(KM l)=true->((KM l)=true)] ⟨(Cn [(EX l),(98,tB (bif decide (((W64 (2+(I9 l).1)):Int)<4) then false else false))]),(OA name v6_1 v5)⟩ .nil kr (.cons (fun e=>by rw [h2] at e;cases e) (.cons id .nil))<|AF<|BG ?_
  first | rfl | (simp only [h2,Z4e,cond_true,cond_false] <;> rfl)
 refine CR (⟨(G6 l),[Kv,(6,.cells [.s name,.own 2000 7 v6_1.length,.own 2001 2 (Z4j l v5).length] 110),(14,.cells (AE.c (Z4i l v5)) 94),(DK v6_1),(2001,.row 2 (Z4j l v5).length (AV B3.c (Z4j l v5)) 170)]⟩) ?_ ?_
 ·refine AL (bif decide (((W64 (2+(AB (AE.mk l 0) 5).1)):Int)<4) then (bif decide (((W64 (2+(AB (AE.mk l 0) 5).1)):Int)<4) then decide ((0:Int)<(AB v5 3).1) else false) else (bif decide (((W64 (2+(AB (AE.mk l 0) 5).1)):Int)<4) then false else false)) kr (fun h2 => ?_) (fun h2 => ?_)
  ·refine CN DU [107] [] [(99,Cy 0),(101,Cy 1),(103,(Z4f l v5))] [4,5,6,7] [4,6,14,107,2000] [As (Cy 0).2.1,As (Cy 1).2.1,As (Z4f l v5).2.1,CL (.cells (AE.c (Z4e l v5)) 94)] ⟨(G6 l),[(4,Z3O),(6,.cells [.s name,.own 2000 7 v6_1.length,.own 107 2 1] 110),(14,Z4g l v5),(107,.row 2 1 (BF 2 1 [.i 0,.list true 2 2 (BF 2 2 [.s (Am 0),.i 1,.s (Am 1),.i (AB (Z4e l v5) 2).1])]) 170),(DK v6_1)]⟩ (.cons (E2 0 au14) (.cons (E2 1 au14) (.cons (cWr (Bg (Z4e l v5) 2 au7 au11)) .nil))) kr (.cons rfl (.cons rfl (.cons rfl (.cons rfl .nil))))<|AF ?_
   refine Cv.trans (C1 (⟨(G6 l),[(4,Z3O),(6,.cells [.s name,.own 2000 7 v6_1.length,.own 107 2 ([B3.mk 0 [Ct.mk (Am 0) 1,Ct.mk (Am 1) (AB (Z4e l v5) 2).1]].length)] 110),(14,Z4g l v5),(107,Z4h l v5),(DK v6_1)]⟩) lr (.cons ⟨rfl,.refl _⟩ (.cons ⟨rfl,.cells _ (rr2 (.cons (.own _ _ au16) .nil))⟩ (.cons ⟨rfl,.refl _⟩ (.cons ⟨rfl,CX 170 (Dh (c:=B3.c) (xs:=([B3.mk 0 [Ct.mk (Am 0) 1,Ct.mk (Am 1) (AB (Z4e l v5) 2).1]]:List B3)) (y:=[[.i 0,.list true 2 2 (BF 2 2 [.s (Am 0),.i 1,.s (Am 1),.i (AB (Z4e l v5) 2).1])]]) (z:=[[.i 0,lst 2 Ct.c [Ct.mk (Am 0) 1,Ct.mk (Am 1) (AB (Z4e l v5) 2).1]]]) rfl kr kr (.cons (rr (.cons (BM true (BR (c:=Ct.c) (xs:=([Ct.mk (Am 0) 1,Ct.mk (Am 1) (AB (Z4e l v5) 2).1]:List Ct)) rfl kr)) .nil)) .nil))⟩ lr))))) (Cv.trans (vr 107 2001 hk0) (Cv.trans (ck (⟨(G6 l),[(4,Z3O),(6,Z4z name v6_1 l v5),(14,Z4g l v5),(DK v6_1),(2001,Z4h l v5)]⟩)) (BG ?_)))
   first | rfl | (simp only [h2,Z4i,Z4j,cond_true,cond_false] <;> rfl)
  refine AQ<|AF<|Cv.trans (vk [4,5,6,7] [4,6,14,2000]) (Cv.trans (vg 2001 2 (fun _ _=>default) 170 [] [(6,[2])] hk0) (Cv.trans (A6 2001 (CV 2 (fun _ _=>default) B3.c)) (Cv.trans (ck (⟨(G6 l),[(4,Z3O),(6,Z4A name v6_1),(14,.cells (AE.c (Z4e l v5)) 94),(DK v6_1),(2001,Z3T)]⟩)) (BG ?_))))
  first | rfl | (simp only [h2,Z4i,Z4j,cond_true,cond_false] <;> rfl)
 refine AA<|AA<|CR (⟨(Cn [(EX l),(115,tB (bif decide ((4:Int)<=(W64 (2+(AB (AE.mk l 0) 5).1))) then (bif decide ((4:Int)<=(W64 (2+(AB (AE.mk l 0) 5).1))) then decide ((0:Int)<(AB (Z4i l v5) 3).1) else false) else (bif decide ((4:Int)<=(W64 (2+(AB (AE.mk l 0) 5).1))) then false else false)))]),[Kv,(6,.cells [.s name,.own 2000 7 v6_1.length,.own 2001 2 (Z4j l v5).length] 110),(14,.cells (AE.c (Z4m l v5)) 94),(DK v6_1),(2001,.row 2 (Z4j l v5).length (AV B3.c (Z4j l v5)) 170)]⟩) ?_ ?_
 ·refine NG (KN l) (fun h2 => ?_) (fun h2 => ?_)
  ·have g2:=oT h2
   refine Dp<|F2 DU 4 [] [] [] [4,5,6,7,111,112] [4,6,14,2000,2001] [] ⟨(Cn [(EX l),(111,Z3U l),(112,Z3V l)]),(Q3 name v6_1 l v5)⟩ .nil kr .nil<|PK DU 2 true ((KN l)=true) [] [(113,(Z4k l v5))] [((KN l)=true)->((KN l)=true),As (Z4k l v5).2.1,CL (.cells (AE.c (Z4i l v5)) 94)] ⟨(Cn [(EX l),(111,Z3U l),(112,Z3V l),(113,tI (AB (Z4i l v5) 3).1)]),[(4,Z3O),(6,Z4B name v6_1 l v5),(14,.cells (AE.c (AB (Z4i l v5) 3).2) 94),(DK v6_1),(2001,Z4l l v5)]⟩ rfl kr h2 (.cons (cWr (Bg (Z4i l v5) 3 au7 au11)) .nil) kr (.cons id (.cons rfl (.cons rfl .nil)))<|Ew DU [] [] [] [4,5,6,7,115] [4,6,14,2000,2001] [(KN l)=true->((KN l)=true)] ⟨(Cn [(EX l),(115,tB (bif decide ((4:Int)<=(W64 (2+(I9 l).1))) then decide ((0:Int)<(AB (Z4i l v5) 3).1) else false))]),[(4,Z3O),(6,Z4B name v6_1 l v5),(14,.cells (AE.c (AB (Z4i l v5) 3).2) 94),(DK v6_1),(2001,Z4l l v5)]⟩ .nil kr (.cons id .nil)<|AF<|BG ?_
   first | rfl | (simp only [h2,Z4m,cond_true,cond_false] <;> rfl)
  have g2:=oF h2
  refine Dp<|F2 DU 4 [] [] [] [4,5,6,7,111,112] [4,6,14,2000,2001] [] ⟨(Cn [(EX l),(111,Z3U l),(112,Z3V l)]),(Q3 name v6_1 l v5)⟩ .nil kr .nil<|PL 2 true ((KN l)=true) ⟨(Cn [(EX l),(111,Z3U l),(112,Z3V l),(113,.grd ((UF l)=true) (.one (.b false)))]),(Q3 name v6_1 l v5)⟩ rfl kr (fun e=>by rw [h2] at e;cases e) kr kr<|Ew DU [] [] [] [4,5,6,7,115] [4,6,14,2000,2001] [¬ ((KN l)=true),(KN l)=true->((KN l)=true)] ⟨(Cn [(EX l),(115,tB (bif decide ((4:Int)<=(W64 (2+(I9 l).1))) then false else false))]),(Q3 name v6_1 l v5)⟩ .nil kr (.cons (fun e=>by rw [h2] at e;cases e) (.cons id .nil))<|AF<|BG ?_
  first | rfl | (simp only [h2,Z4m,cond_true,cond_false] <;> rfl)
 refine CR (⟨(G6 l),[Kv,(6,.cells [.s name,.own 2000 7 v6_1.length,.own 2002 2 (Z4r l v5).length] 110),(14,.cells (AE.c (Z4q l v5)) 94),(DK v6_1),(2002,.row 2 (Z4r l v5).length (AV B3.c (Z4r l v5)) 170)]⟩) ?_ ?_
 ·refine AL (bif decide ((4:Int)<=(W64 (2+(AB (AE.mk l 0) 5).1))) then (bif decide ((4:Int)<=(W64 (2+(AB (AE.mk l 0) 5).1))) then decide ((0:Int)<(AB (Z4i l v5) 3).1) else false) else (bif decide ((4:Int)<=(W64 (2+(AB (AE.mk l 0) 5).1))) then false else false)) kr (fun h2 => ?_) (fun h2 => ?_)
  ·refine AA<|rb 117 (Z4n l v5) (.cells (AE.c (Z4m l v5)) 94) ⟨(Cn [(EX l),(11,tI (GW l v5).1)]),[(4,Z3O),(6,Z4B name v6_1 l v5),(14,Z4o l v5),(DK v6_1),(2001,Z4l l v5)]⟩ (cWr (Bg (Z4m l v5) 2 au7 au11))<|AF<|CN DU [134] [] [(118,Cy 0),(121,Cy 1),(126,Cy 2),(129,Cy 3)] [4,5,6,7] [4,6,14,134,2000] [As (Cy 0).2.1,As (Cy 1).2.1,As (Cy 2).2.1,As (Cy 3).2.1] ⟨(G6 l),[(4,Z3O),(6,.cells [.s name,.own 2000 7 v6_1.length,.own 134 2 2] 110),(14,Z4o l v5),(134,.row 2 2 (BF 2 2 [.i 1,.list true 2 2 (BF 2 2 [.s (Am 0),.i (GW l v5).1,.s (Am 1),.i (GW l v5).1]),.i 1,.list true 2 2 (BF 2 2 [.s (Am 2),.i (GW l v5).1,.s (Am 3),.i (GW l v5).1])]) 170),(DK v6_1)]⟩ (.cons (E2 0 au14) (.cons (E2 1 au14) (.cons (E2 2 au14) (.cons (E2 3 au14) .nil)))) kr (.cons rfl (.cons rfl (.cons rfl (.cons rfl .nil))))<|AF ?_
   refine Cv.trans (C1 (⟨(G6 l),[(4,Z3O),(6,.cells [.s name,.own 2000 7 v6_1.length,.own 134 2 ([B3.mk 1 [Ct.mk (Am 0) (AB (Z4m l v5) 2).1,Ct.mk (Am 1) (AB (Z4m l v5) 2).1],B3.mk 1 [Ct.mk (Am 2) (AB (Z4m l v5) 2).1,Ct.mk (Am 3) (AB (Z4m l v5) 2).1]].length)] 110),(14,Z4o l v5),(134,Z4p l v5),(DK v6_1)]⟩) lr (.cons ⟨rfl,.refl _⟩ (.cons ⟨rfl,.cells _ (rr2 (.cons (.own _ _ au16) .nil))⟩ (.cons ⟨rfl,.refl _⟩ (.cons ⟨rfl,CX 170 (Dh (c:=B3.c) (xs:=([B3.mk 1 [Ct.mk (Am 0) (AB (Z4m l v5) 2).1,Ct.mk (Am 1) (AB (Z4m l v5) 2).1],B3.mk 1 [Ct.mk (Am 2) (AB (Z4m l v5) 2).1,Ct.mk (Am 3) (AB (Z4m l v5) 2).1]]:List B3)) (y:=[[.i 1,.list true 2 2 (BF 2 2 [.s (Am 0),.i (AB (Z4m l v5) 2).1,.s (Am 1),.i (AB (Z4m l v5) 2).1])],[.i 1,.list true 2 2 (BF 2 2 [.s (Am 2),.i (AB (Z4m l v5) 2).1,.s (Am 3),.i (AB (Z4m l v5) 2).1])]]) (z:=[[.i 1,lst 2 Ct.c [Ct.mk (Am 0) (AB (Z4m l v5) 2).1,Ct.mk (Am 1) (AB (Z4m l v5) 2).1]],[.i 1,lst 2 Ct.c [Ct.mk (Am 2) (AB (Z4m l v5) 2).1,Ct.mk (Am 3) (AB (Z4m l v5) 2).1]]]) rfl kr kr (.cons (rr (.cons (BM true (BR (c:=Ct.c) (xs:=([Ct.mk (Am 0) (AB (Z4m l v5) 2).1,Ct.mk (Am 1) (AB (Z4m l v5) 2).1]:List Ct)) rfl kr)) .nil)) (.cons (rr (.cons (BM true (BR (c:=Ct.c) (xs:=([Ct.mk (Am 2) (AB (Z4m l v5) 2).1,Ct.mk (Am 3) (AB (Z4m l v5) 2).1]:List Ct)) rfl kr)) .nil)) .nil)))⟩ lr))))) (Cv.trans (vr 134 2002 hk0) (Cv.trans (ck (⟨(G6 l),[(4,Z3O),(6,Z4C name v6_1 l v5),(14,Z4o l v5),(DK v6_1),(2002,Z4p l v5)]⟩)) (BG ?_)))
   first | rfl | (simp only [h2,Z4q,Z4r,cond_true,cond_false] <;> rfl)
  refine AQ<|AF<|Cv.trans (vk [4,5,6,7] [4,6,14,2000,2001]) (Cv.trans (wr (⟨(G6 l),[(4,Z3O),(6,.cells [.s name,.own 2000 7 v6_1.length,.own 2002 2 (Z4j l v5).length] 110),(14,.cells (AE.c (Z4m l v5)) 94),(DK v6_1),(2002,Z4l l v5)]⟩) 2001 2002 hk0) (BG ?_))
  first | rfl | (simp only [h2,Z4q,Z4r,cond_true,cond_false] <;> rfl)
 refine AA<|AA<|CR (⟨(Cn [(148,tB (bif bif decide (((W64 (2+(AB (AE.mk l 0) 5).1)):Int)=6) then decide ((0:Int)<(((Z4r l v5).length:Nat):Int)) else false then (bif bif decide (((W64 (2+(AB (AE.mk l 0) 5).1)):Int)=6) then decide ((0:Int)<(((Z4r l v5).length:Nat):Int)) else false then decide (((AB (Z4q l v5) 2).1:Int)=1) else false) else (bif bif decide (((W64 (2+(AB (AE.mk l 0) 5).1)):Int)=6) then decide ((0:Int)<(((Z4r l v5).length:Nat):Int)) else false then false else false)))]),[Kv,(6,.cells [.s name,.own 2000 7 v6_1.length,.own 2002 2 (Z4r l v5).length] 110),(14,.cells (AE.c (Z4u l v5)) 94),(DK v6_1),(2002,.row 2 (Z4r l v5).length (AV B3.c (Z4r l v5)) 170)]⟩) ?_ ?_
 ·refine NG (bif decide (((W64 (2+(AB (AE.mk l 0) 5).1)):Int)=6) then decide ((0:Int)<(((Z4r l v5).length:Nat):Int)) else false) (fun h2 => ?_) (fun h2 => ?_)
  ·have g2:=Hb h2
   refine Dp<|F2 DU 10 [] [] [] [4,5,6,144,145] [4,6,14,2000,2002] [((Gg l)=true)->((Gg l)=true),((Gg l)=true)->((Gg l)=true),((Gg l)=true)->((Gg l)=true),(Gg l)=true->((Gg l)=true)] ⟨(Cn [(144,tB (LO l v5)),(145,.grd ((LO l v5)=true) MI)]),(Q2 name v6_1 l v5)⟩ .nil kr (.cons id (.cons id (.cons id (.cons id .nil))))<|PK DU 8 true ((bif decide (((W64 (2+(AB (AE.mk l 0) 5).1)):Int)=6) then decide ((0:Int)<(((Z4r l v5).length:Nat):Int)) else false)=true) [] [(146,(Z4s l v5))] [((bif decide (((W64 (2+(AB (AE.mk l 0) 5).1)):Int)=6) then decide ((0:Int)<(((Z4r l v5).length:Nat):Int)) else false)=true)->((bif decide (((W64 (2+(AB (AE.mk l 0) 5).1)):Int)=6) then decide ((0:Int)<(((Z4r l v5).length:Nat):Int)) else false)=true),As (Z4s l v5).2.1,CL (.cells (AE.c (Z4q l v5)) 94)] ⟨(Cn [(144,tB (LO l v5)),(145,.grd ((LO l v5)=true) MI),(146,tI (AB (Z4q l v5) 2).1)]),[(4,Z3O),(6,Z4D name v6_1 l v5),(14,.cells (AE.c (AB (Z4q l v5) 2).2) 94),(DK v6_1),(2002,Z4t l v5)]⟩ rfl kr h2 (.cons (cWr (Bg (Z4q l v5) 2 au7 au11)) .nil) kr (.cons id (.cons rfl (.cons rfl .nil))) ?_
   refine Ew DU [] [] [] [4,5,6,148] [4,6,14,2000,2002] [(bif decide (((W64 (2+(AB (AE.mk l 0) 5).1)):Int)=6) then decide ((0:Int)<(((Z4r l v5).length:Nat):Int)) else false)=true->((bif decide (((W64 (2+(AB (AE.mk l 0) 5).1)):Int)=6) then decide ((0:Int)<(((Z4r l v5).length:Nat):Int)) else false)=true)] ⟨(Cn [(148,tB (bif bif decide (((W64 (2+(I9 l).1)):Int)=6) then decide ((0:Int)<(((Z4r l v5).length:Nat):Int)) else false then decide (((AB (Z4q l v5) 2).1:Int)=1) else false))]),[(4,Z3O),(6,Z4D name v6_1 l v5),(14,.cells (AE.c (AB (Z4q l v5) 2).2) 94),(DK v6_1),(2002,Z4t l v5)]⟩ .nil kr (.cons id .nil)<|AF<|BG ?_
   first | rfl | (simp only [h2,Z4u,cond_true,cond_false] <;> rfl)
  refine Dp<|F2 DU 10 [] [] [] [4,5,6,144,145] [4,6,14,2000,2002] [((Gg l)=true)->((Gg l)=true),((Gg l)=true)->((Gg l)=true),((Gg l)=true)->((Gg l)=true),(Gg l)=true->((Gg l)=true)] ⟨(Cn [(144,tB (LO l v5)),(145,.grd ((LO l v5)=true) MI)]),(Q2 name v6_1 l v5)⟩ .nil kr (.cons id (.cons id (.cons id (.cons id .nil))))<|PL 8 true ((bif decide (((W64 (2+(AB (AE.mk l 0) 5).1)):Int)=6) then decide ((0:Int)<(((Z4r l v5).length:Nat):Int)) else false)=true) ⟨(Cn [(144,tB (LO l v5)),(145,.grd ((LO l v5)=true) MI),(146,.grd ((LO l v5)=true) (.one (.b false)))]),(Q2 name v6_1 l v5)⟩ rfl kr (fun e=>by rw [h2] at e;cases e) kr kr ?_
  refine Ew DU [] [] [] [4,5,6,148] [4,6,14,2000,2002] [¬ ((bif decide (((W64 (2+(AB (AE.mk l 0) 5).1)):Int)=6) then decide ((0:Int)<(((Z4r l v5).length:Nat):Int)) else false)=true),(bif decide (((W64 (2+(AB (AE.mk l 0) 5).1)):Int)=6) then decide ((0:Int)<(((Z4r l v5).length:Nat):Int)) else false)=true->((bif decide (((W64 (2+(AB (AE.mk l 0) 5).1)):Int)=6) then decide ((0:Int)<(((Z4r l v5).length:Nat):Int)) else false)=true)] ⟨(Cn [(148,tB (bif bif decide (((W64 (2+(I9 l).1)):Int)=6) then decide ((0:Int)<(((Z4r l v5).length:Nat):Int)) else false then false else false))]),(Q2 name v6_1 l v5)⟩ .nil kr (.cons (fun e=>by rw [h2] at e;cases e) (.cons id .nil))<|AF<|BG ?_
  first | rfl | (simp only [h2,Z4u,cond_true,cond_false] <;> rfl)
 refine CR (⟨N6,[Kv,(6,.cells [.s name,.own 2000 7 v6_1.length,.own 2003 2 (Z4x l v5).length] 110),(DK v6_1),(2003,.row 2 (Z4x l v5).length (AV B3.c (Z4x l v5)) 170)]⟩) ?_ ?_
 ·refine AL (bif bif decide (((W64 (2+(AB (AE.mk l 0) 5).1)):Int)=6) then decide ((0:Int)<(((Z4r l v5).length:Nat):Int)) else false then (bif bif decide (((W64 (2+(AB (AE.mk l 0) 5).1)):Int)=6) then decide ((0:Int)<(((Z4r l v5).length:Nat):Int)) else false then decide (((AB (Z4q l v5) 2).1:Int)=1) else false) else (bif bif decide (((W64 (2+(AB (AE.mk l 0) 5).1)):Int)=6) then decide ((0:Int)<(((Z4r l v5).length:Nat):Int)) else false then false else false)) kr (fun h2 => ?_) (fun h2 => ?_)
  ·refine dw [] [(152,(Z4v l v5)),(153,Cy 5),(163,Cy 4)] [As (Z4v l v5).2.1,CL (.cells (AE.c (Z4u l v5)) 94),As (Cy 5).2.1,0<=(0:Int)/\(0:Int)<(((Z4r l v5).length:Nat):Int),0<(Z4r l v5).length,0<=(0:Int)/\(0:Int)<((((Z4r l v5).getD 0 default).Legs.length:Nat):Int),As (Cy 4).2.1,0<=(0:Int)/\(0:Int)<(((Z4r l v5).length:Nat):Int),0<(Z4r l v5).length,0<=(1:Int)/\(1:Int)<((((Z4r l v5).getD 0 default).Legs.length:Nat):Int),(Z4r l v5).length=(Z4r l v5).length,(Z4r l v5).length+1<=maxLen,((Z4r l v5).length+1)*32<=140737488355328] ⟨N6,[(4,Z3O),(6,.cells [.s name,.own 2000 7 v6_1.length,.own 176 2 ((Z4r l v5).length+1)] 110),(176,.row 2 ((Z4r l v5).length+1) (fun i_ j_=>if i_<(Z4r l v5).length then (AV B3.c (Z4r l v5)) i_ j_ else (BF 2 1 [.i (AB (Z4u l v5) 3).1,.list true 2 2 (BF 2 2 [.s (Am 5),.i (((Z4r l v5).getD 0 default).Legs.getD 0 default).Group,.s (Am 4),.i (((Z4r l v5).getD 0 default).Legs.getD 1 default).Group])]) (i_-(Z4r l v5).length) j_) 170),(DK v6_1)]⟩ (.cons (cWr (Bg (Z4u l v5) 3 au7 au11)) (.cons (E2 5 au14) (.cons (E2 4 au14) .nil))) (.cons rfl (.cons rfl (.cons rfl (.cons ⟨by decide,(H5 (by with_reducible assumption))⟩ (.cons (Wh (H5 (by with_reducible assumption))) (.cons (Ww (by decide) rfl rfl rfl (H5 (by with_reducible assumption))) (.cons rfl (.cons ⟨by decide,(H5 (by with_reducible assumption))⟩ (.cons (Wh (H5 (by with_reducible assumption))) (.cons (Ww (by decide) rfl rfl rfl (H5 (by with_reducible assumption))) (.cons rfl (.cons (cN (QE rfl)) (.cons (cO (QE rfl)) .nil)))))))))))))<|AF ?_
   refine Cv.trans (C1 (⟨N6,[(4,Z3O),(6,.cells [.s name,.own 2000 7 v6_1.length,.own 176 2 ((Z4r l v5)++[B3.mk (AB (Z4u l v5) 3).1 [Ct.mk (Am 5) (((Z4r l v5).getD 0 default).Legs.getD 0 default).Group,Ct.mk (Am 4) (((Z4r l v5).getD 0 default).Legs.getD 1 default).Group]]).length] 110),(176,Z4w l v5),(DK v6_1)]⟩) lr (.cons ⟨rfl,.refl _⟩ (.cons ⟨rfl,.cells _ (rr2 (.cons (.own _ _ au16) .nil))⟩ (.cons ⟨rfl,CX 170 (Ar (Af 2 B3.c (Z4r l v5)) (Dh (c:=B3.c) (xs:=([B3.mk (AB (Z4u l v5) 3).1 [Ct.mk (Am 5) (((Z4r l v5).getD 0 default).Legs.getD 0 default).Group,Ct.mk (Am 4) (((Z4r l v5).getD 0 default).Legs.getD 1 default).Group]]:List B3)) (y:=[[.i (AB (Z4u l v5) 3).1,.list true 2 2 (BF 2 2 [.s (Am 5),.i (((Z4r l v5).getD 0 default).Legs.getD 0 default).Group,.s (Am 4),.i (((Z4r l v5).getD 0 default).Legs.getD 1 default).Group])]]) (z:=[[.i (AB (Z4u l v5) 3).1,lst 2 Ct.c [Ct.mk (Am 5) (((Z4r l v5).getD 0 default).Legs.getD 0 default).Group,Ct.mk (Am 4) (((Z4r l v5).getD 0 default).Legs.getD 1 default).Group]]]) rfl kr kr (.cons (rr (.cons (BM true (BR (c:=Ct.c) (xs:=([Ct.mk (Am 5) (((Z4r l v5).getD 0 default).Legs.getD 0 default).Group,Ct.mk (Am 4) (((Z4r l v5).getD 0 default).Legs.getD 1 default).Group]:List Ct)) rfl kr)) .nil)) .nil)))⟩ lr)))) (Cv.trans (vr 176 2003 hk0) (Cv.trans (ck (⟨N6,[(4,Z3O),(6,Z4E name v6_1 l v5),(DK v6_1),(2003,Z4w l v5)]⟩)) (BG ?_)))
   first | rfl | (simp only [h2,Z4x,cond_true,cond_false] <;> rfl)
  refine AQ<|AF<|Cv.trans (vk [4,6] [4,6,2000,2002]) (Cv.trans (wr (⟨N6,[(4,Z3O),(6,.cells [.s name,.own 2000 7 v6_1.length,.own 2003 2 (Z4r l v5).length] 110),(DK v6_1),(2003,Z4t l v5)]⟩) 2002 2003 hk0) (BG ?_))
  first | rfl | (simp only [h2,Z4x,cond_true,cond_false] <;> rfl)
 exact AA<|on<|AR<|zy (Cv.trans (vf 2000 hk0) (vf 2003 hk0)) (by rw [<- hF0];simp only [D7,h1,cond_true,cond_false] <;> kernel_rfl)
theorem TD (l:(List Int)) (name:ByteArray) (hl:(l.length:Int)<=9223372036854775807):OKc (KC l name):=cPu<|gF l name hl
def KE (x0:AD) (x1:AD):AG:=AG.mk 1 x0 x1 (AD.mk 0 0)
def GM:CT:=(77,[.agg (AD.c x0),.agg (AD.c x1)],.val [] (.av (.agg (AG.c (KE x0 x1)))))
theorem fU (x0:AD) (x1:AD):PuP 77 (GM x0 x1).2.1 (.av (.agg (AG.c (KE x0 x1)))):=by
 refine pwf Try.func77 fun W0 M0 => ?_
 exact AA<|on<|AA<|on<|AR<|zl
theorem LX (x0:AD) (x1:AD):OKc (GM x0 x1):=cPu<|fU x0 x1
def Z4F:Blk:=.cells [.i 0,vN,.i 0] 36
def Z4G:Blk:=.cells [.i 2,vN,.i 0] 36
def Z4H:Blk:=.cells [.i (W64 (r.X1-radius)),.i (W64 (r.Y0+radius)),.i (W64 (r.X1-radius)),.i (W64 (r.Y1-radius)),.i (W64 (r.X0+radius)),.i (W64 (r.Y1-radius)),.i (W64 (r.X0+radius)),.i (W64 (r.Y0+radius))] 171
def Z4I:AG:=Fe (AD.mk (W64 (r.X1-radius)) (W64 (r.Y0+radius))) radius 3 2
def Z4J:AG:=Fe (AD.mk (W64 (r.X1-radius)) (W64 (r.Y1-radius))) radius 4 2
def Z4K:AG:=KE (Z4I r radius).B (Z4J r radius).A
def Z4L:Blk:=.cells [.i 2,.own 77 7 ([Z4I r radius,Z4K r radius].length),.i 0] 36
def Z4M:Blk:=.row 7 ([Z4I r radius,Z4K r radius].length) (AV AG.c [Z4I r radius,Z4K r radius]) 33
def Z4N:Blk:=.cells [.i 2,.own 2000 7 ([Z4I r radius,Z4K r radius].length),.i 0] 36
def Z4O:AG:=Fe (AD.mk (W64 (r.X0+radius)) (W64 (r.Y1-radius))) radius 5 2
def Z4P:AG:=KE (Z4J r radius).B (Z4O r radius).A
def Z4Q:Blk:=.cells [.i 2,.own 77 7 ([Z4I r radius,Z4K r radius]++[Z4J r radius,Z4P r radius]).length,.i 0] 36
def Z4R:Blk:=.row 7 ([Z4I r radius,Z4K r radius]++[Z4J r radius,Z4P r radius]).length (AV AG.c ([Z4I r radius,Z4K r radius]++[Z4J r radius,Z4P r radius])) 33
def Z4S:Blk:=.cells [.i 2,.own 2001 7 ([Z4I r radius,Z4K r radius]++[Z4J r radius,Z4P r radius]).length,.i 0] 36
def Z4T:AG:=Fe (AD.mk (W64 (r.X0+radius)) (W64 (r.Y0+radius))) radius 6 2
def Z4U:AG:=KE (Z4O r radius).B (Z4T r radius).A
def Z4V:Blk:=.cells [.i 2,.own 77 7 (([Z4I r radius,Z4K r radius]++[Z4J r radius,Z4P r radius])++[Z4O r radius,Z4U r radius]).length,.i 0] 36
def Z4W:Blk:=.row 7 (([Z4I r radius,Z4K r radius]++[Z4J r radius,Z4P r radius])++[Z4O r radius,Z4U r radius]).length (AV AG.c (([Z4I r radius,Z4K r radius]++[Z4J r radius,Z4P r radius])++[Z4O r radius,Z4U r radius])) 33
def Z4X:Blk:=.cells [.i 2,.own 2002 7 (([Z4I r radius,Z4K r radius]++[Z4J r radius,Z4P r radius])++[Z4O r radius,Z4U r radius]).length,.i 0] 36
def Z4Y:AG:=Fe (AD.mk (W64 (r.X1-radius)) (W64 (r.Y0+radius))) radius 7 2
def Z4Z:AG:=KE (Z4T r radius).B (Z4Y r radius).A
def Z50:Blk:=.cells [.i 2,.own 77 7 ((([Z4I r radius,Z4K r radius]++[Z4J r radius,Z4P r radius])++[Z4O r radius,Z4U r radius])++[Z4T r radius,Z4Z r radius]).length,.i 0] 36
def Z51:Blk:=.row 7 ((([Z4I r radius,Z4K r radius]++[Z4J r radius,Z4P r radius])++[Z4O r radius,Z4U r radius])++[Z4T r radius,Z4Z r radius]).length (AV AG.c ((([Z4I r radius,Z4K r radius]++[Z4J r radius,Z4P r radius])++[Z4O r radius,Z4U r radius])++[Z4T r radius,Z4Z r radius])) 33
def Z52:Blk:=.cells [.i 2,.own 2003 7 ((([Z4I r radius,Z4K r radius]++[Z4J r radius,Z4P r radius])++[Z4O r radius,Z4U r radius])++[Z4T r radius,Z4Z r radius]).length,.i 0] 36
def Gy (r:Ah) (radius:Int):AX:=AX.mk 2 ((([Z4I r radius,Z4K r radius]++[Z4J r radius,Z4P r radius])++[Z4O r radius,Z4U r radius])++[Z4T r radius,Z4Z r radius]) 0
def Ms:CT:=(55,[.agg (Ah.c r),.one (.i radius)],.val [] (.av (.agg (AX.c (Gy r radius)))))
abbrev IF (t_:List (Nat×Tv)):List (Nat×Tv):=(1,tI radius)::(4,tP 4 0)::(5,tP 5 0)::(6,tP 6 0)::t_
theorem Xi (r:Ah) (radius:Int):PuP 55 (Ms r radius).2.1 (.av (.agg (AX.c (Gy r radius)))):=by
 refine pwf Try.func55 fun W0 M0 => ?_
 refine AA<|on<|AA<|on<|AA<|on<|AA<|AA<|rn ⟨(IF radius [(7,tI 0)]),[(4,Z4F),(5,Z4G),(6,Z4H r radius)]⟩<|AM<|Dr 5<|Ba<|AA<|AA<|on<|Bq kr<|AQ<|AF<|AA<|AM<|AA<|oc [(58,Cc (AD.mk (W64 (r.X1-radius)) (W64 (r.Y0+radius))) radius 3 2)] [0<=(0:Int)/\(0:Int)<(4:Int),As (Cc (AD.mk (W64 (r.X1-radius)) (W64 (r.Y0+radius))) radius 3 2).2.1] (.cons (EN (AD.mk (W64 (r.X1-radius)) (W64 (r.Y0+radius))) radius 3 2) .nil) (.cons (by decide) (.cons rfl .nil))<|AF<|AA<|oc [(67,Cc (AD.mk (W64 (r.X1-radius)) (W64 (r.Y1-radius))) radius 4 2)] [(4:Int)≠0,0<=(1:Int)/\(1:Int)<(4:Int),As (Cc (AD.mk (W64 (r.X1-radius)) (W64 (r.Y1-radius))) radius 4 2).2.1] (.cons (EN (AD.mk (W64 (r.X1-radius)) (W64 (r.Y1-radius))) radius 4 2) .nil) (.cons au13 (.cons (by decide) (.cons rfl .nil)))<|AF<|od [] [(75,GM (Z4I r radius).B (Z4J r radius).A)] [As (GM (Z4I r radius).B (Z4J r radius).A).2.1,2<=maxLen,2*56<=140737488355328] (.cons (LX (Z4I r radius).B (Z4J r radius).A) .nil) (.cons rfl (.cons au3 (.cons au3 .nil)))<|A0<|AF ?_
 refine Al (A6 77 (A1 7 AG.c ([Z4I r radius,Z4K r radius]:List AG)))<|rn ⟨(IF radius [(7,tI 1)]),[(4,Z4F),(5,Z4L r radius),(6,Z4H r radius),(77,Z4M r radius)]⟩<|Ba<|Al (wr (⟨(IF radius [(7,tI 1)]),[(4,Z4F),(5,Z4N r radius),(6,Z4H r radius),(2000,Z4M r radius)]⟩) 77 2000 hk0)<|AA<|AA<|on<|Bq kr<|AQ<|AF<|AA<|AM<|AA<|oc [(58,Cc (AD.mk (W64 (r.X1-radius)) (W64 (r.Y1-radius))) radius 4 2)] [0<=(1:Int)/\(1:Int)<(4:Int),As (Cc (AD.mk (W64 (r.X1-radius)) (W64 (r.Y1-radius))) radius 4 2).2.1] (.cons (EN (AD.mk (W64 (r.X1-radius)) (W64 (r.Y1-radius))) radius 4 2) .nil) (.cons (by decide) (.cons rfl .nil))<|AF<|AA<|oc [(67,Cc (AD.mk (W64 (r.X0+radius)) (W64 (r.Y1-radius))) radius 5 2)] [(4:Int)≠0,0<=(2:Int)/\(2:Int)<(4:Int),As (Cc (AD.mk (W64 (r.X0+radius)) (W64 (r.Y1-radius))) radius 5 2).2.1] (.cons (EN (AD.mk (W64 (r.X0+radius)) (W64 (r.Y1-radius))) radius 5 2) .nil) (.cons au13 (.cons (by decide) (.cons rfl .nil)))<|AF ?_
 refine od [] [(75,GM (Z4J r radius).B (Z4O r radius).A)] [As (GM (Z4J r radius).B (Z4O r radius).A).2.1,[Z4I r radius,Z4K r radius].length=[Z4I r radius,Z4K r radius].length,([Z4I r radius,Z4K r radius].length)+2<=maxLen,(([Z4I r radius,Z4K r radius].length)+2)*56<=140737488355328] (.cons (LX (Z4J r radius).B (Z4O r radius).A) .nil) (.cons rfl (.cons rfl (.cons au3 (.cons au3 .nil))))<|A0<|AF<|Al (A6 77 (Ar (Af 7 AG.c [Z4I r radius,Z4K r radius]) (A1 7 AG.c ([Z4J r radius,Z4P r radius]:List AG))))<|rn ⟨(IF radius [(7,tI 2)]),[(4,Z4F),(5,Z4Q r radius),(6,Z4H r radius),(77,Z4R r radius)]⟩<|Ba<|Al (wr (⟨(IF radius [(7,tI 2)]),[(4,Z4F),(5,Z4S r radius),(6,Z4H r radius),(2001,Z4R r radius)]⟩) 77 2001 hk0)<|AA<|AA<|on<|Bq kr<|AQ<|AF<|AA<|AM<|AA<|oc [(58,Cc (AD.mk (W64 (r.X0+radius)) (W64 (r.Y1-radius))) radius 5 2)] [0<=(2:Int)/\(2:Int)<(4:Int),As (Cc (AD.mk (W64 (r.X0+radius)) (W64 (r.Y1-radius))) radius 5 2).2.1] (.cons (EN (AD.mk (W64 (r.X0+radius)) (W64 (r.Y1-radius))) radius 5 2) .nil) (.cons (by decide) (.cons rfl .nil))<|AF<|AA ?_
 refine oc [(67,Cc (AD.mk (W64 (r.X0+radius)) (W64 (r.Y0+radius))) radius 6 2)] [(4:Int)≠0,0<=(3:Int)/\(3:Int)<(4:Int),As (Cc (AD.mk (W64 (r.X0+radius)) (W64 (r.Y0+radius))) radius 6 2).2.1] (.cons (EN (AD.mk (W64 (r.X0+radius)) (W64 (r.Y0+radius))) radius 6 2) .nil) (.cons au13 (.cons (by decide) (.cons rfl .nil)))<|AF<|od [] [(75,GM (Z4O r radius).B (Z4T r radius).A)] [As (GM (Z4O r radius).B (Z4T r radius).A).2.1,([Z4I r radius,Z4K r radius]++[Z4J r radius,Z4P r radius]).length=([Z4I r radius,Z4K r radius]++[Z4J r radius,Z4P r radius]).length,([Z4I r radius,Z4K r radius]++[Z4J r radius,Z4P r radius]).length+2<=maxLen,(([Z4I r radius,Z4K r radius]++[Z4J r radius,Z4P r radius]).length+2)*56<=140737488355328] (.cons (LX (Z4O r radius).B (Z4T r radius).A) .nil) (.cons rfl (.cons rfl (.cons au3 (.cons au3 .nil))))<|A0<|AF<|Al (A6 77 (Ar (Af 7 AG.c ([Z4I r radius,Z4K r radius]++[Z4J r radius,Z4P r radius])) (A1 7 AG.c ([Z4O r radius,Z4U r radius]:List AG))))<|rn ⟨(IF radius [(7,tI 3)]),[(4,Z4F),(5,Z4V r radius),(6,Z4H r radius),(77,Z4W r radius)]⟩<|Ba ?_
 refine Al (wr (⟨(IF radius [(7,tI 3)]),[(4,Z4F),(5,Z4X r radius),(6,Z4H r radius),(2002,Z4W r radius)]⟩) 77 2002 hk0)<|AA<|AA<|on<|Bq kr<|AQ<|AF<|AA<|AM<|AA<|oc [(58,Cc (AD.mk (W64 (r.X0+radius)) (W64 (r.Y0+radius))) radius 6 2)] [0<=(3:Int)/\(3:Int)<(4:Int),As (Cc (AD.mk (W64 (r.X0+radius)) (W64 (r.Y0+radius))) radius 6 2).2.1] (.cons (EN (AD.mk (W64 (r.X0+radius)) (W64 (r.Y0+radius))) radius 6 2) .nil) (.cons (by decide) (.cons rfl .nil))<|AF<|AA<|oc [(67,Cc (AD.mk (W64 (r.X1-radius)) (W64 (r.Y0+radius))) radius 7 2)] [(4:Int)≠0,0<=(0:Int)/\(0:Int)<(4:Int),As (Cc (AD.mk (W64 (r.X1-radius)) (W64 (r.Y0+radius))) radius 7 2).2.1] (.cons (EN (AD.mk (W64 (r.X1-radius)) (W64 (r.Y0+radius))) radius 7 2) .nil) (.cons au13 (.cons (by decide) (.cons rfl .nil)))<|AF ?_
 exact od [] [(75,GM (Z4T r radius).B (Z4Y r radius).A)] [As (GM (Z4T r radius).B (Z4Y r radius).A).2.1,(([Z4I r radius,Z4K r radius]++[Z4J r radius,Z4P r radius])++[Z4O r radius,Z4U r radius]).length=(([Z4I r radius,Z4K r radius]++[Z4J r radius,Z4P r radius])++[Z4O r radius,Z4U r radius]).length,(([Z4I r radius,Z4K r radius]++[Z4J r radius,Z4P r radius])++[Z4O r radius,Z4U r radius]).length+2<=maxLen,((([Z4I r radius,Z4K r radius]++[Z4J r radius,Z4P r radius])++[Z4O r radius,Z4U r radius]).length+2)*56<=140737488355328] (.cons (LX (Z4T r radius).B (Z4Y r radius).A) .nil) (.cons rfl (.cons rfl (.cons au3 (.cons au3 .nil))))<|A0<|AF<|Al (A6 77 (Ar (Af 7 AG.c (([Z4I r radius,Z4K r radius]++[Z4J r radius,Z4P r radius])++[Z4O r radius,Z4U r radius])) (A1 7 AG.c ([Z4T r radius,Z4Z r radius]:List AG))))<|rn ⟨(IF radius [(7,tI 4)]),[(4,Z4F),(5,Z50 r radius),(6,Z4H r radius),(77,Z51 r radius)]⟩<|Ba<|Al (wr (⟨(IF radius [(7,tI 4)]),[(4,Z4F),(5,Z52 r radius),(6,Z4H r radius),(2003,Z51 r radius)]⟩) 77 2003 hk0)<|AA<|AA<|on<|Ak kr<|BH<|A7<|A7<|BI<|AF<|AA<|on<|AR<|zy (vf 2003 hk0)
theorem VS (r:Ah) (radius:Int):OKc (Ms r radius):=cPu<|Xi r radius
end
section
open Go.RowKit
theorem Pz (l:List Int) (name:ByteArray):∀ (n:Nat) (v:List Eb) (d:AE) (k:Int),0<=k->k<=W64 (2+(AB (AE.mk l 0) 5).1)->((W64 (2+(AB (AE.mk l 0) 5).1))-k).toNat<n ->
  (D7 l name n v d k).Name=name/\((D7 l name n v d k).Pads.length:Int)=v.length+(W64 (2+(AB (AE.mk l 0) 5).1)-k)
 | 0,v,d,k,_,_,h=>absurd h (Nat.not_lt_zero _)
 | n+1,v,d,k,h0,h1,h2=>by
  unfold D7
  by_cases h:k<W64 (2+(AB (AE.mk l 0) 5).1)
  ·simp only [h,decide_true,cond_true]
   obtain ⟨e1,e2⟩:=Pz l name n (v++[_]) _ (k+1) (by omega) (by omega) (by omega)
   refine ⟨e1,e2.trans ?_⟩
   simp only [List.length_append,List.length_cons,List.length_nil]
   omega
  simp only [h,decide_false,cond_false]
  refine ⟨by first | trivial | rfl,?_⟩
  show (v.length:Int)=_
  omega
theorem GA (l:List Int) (name:ByteArray):(BQ l name).Name=name/\2<=((BQ l name).Pads.length:Int)/\((BQ l name).Pads.length:Int)<=6:=by
 have hn:=Dl (AE.mk l 0) 5 (by decide) (by decide)
 have hw:W64 (2+(AB (AE.mk l 0) 5).1)=2+(AB (AE.mk l 0) 5).1:=Ap (by omega) (by omega)
 obtain ⟨e1,e2⟩:=Pz l name (((W64 (2+(AB (AE.mk l 0) 5).1))-0).toNat+1) [] (AB (AE.mk l 0) 5).2 0 (by omega) (by omega) (by omega)
 refine ⟨e1,?_⟩
 unfold BQ
 rw [e2,hw]
 simp only [List.length_nil]
 omega
theorem QD {a c:BA}:CJ [a,c] a.Name=(a,true):=by
 unfold CJ FA
 simp [Z0R]
theorem QB {a c:BA} (h:¬ a.Name.toList=c.Name.toList):CJ [a,c] c.Name=(c,true):=by
 have hb:(a.Name.toList==c.Name.toList)=false:=by simp [h]
 unfold CJ FA
 simp [FA,Z0R,hb]
def PR (types:List BA) (xs:List AU):Prop:=∀ k:Int,0<=k->k<(xs.length:Int)->1<=((CJ types (xs.getD k.toNat default).Type').1.Pads.length:Int)/\((CJ types (xs.getD k.toNat default).Type').1.Pads.length:Int)<=6
theorem WP {types:List BA}:PR types ([]:List AU):=fun k h0 h1=>absurd h1 (by simp only [List.length_nil];omega)
theorem WQ {types:List BA} {xs:List AU} {p:AU} (h:PR types xs) (hp:1<=((CJ types p.Type').1.Pads.length:Int)/\((CJ types p.Type').1.Pads.length:Int)<=6):PR types (xs++[p]):=by
 intro k h0 h1
 simp only [List.length_append,List.length_cons,List.length_nil] at h1
 by_cases hk:k.toNat<xs.length
 ·rw [List.getD_eq_getElem?_getD,List.getElem?_append_left hk,<- List.getD_eq_getElem?_getD]
  exact h k h0 oM
 rw [List.getD_eq_getElem?_getD,List.getElem?_append_right oM,show k.toNat-xs.length=0 by omega]
 exact hp
theorem Pf (a c:List Int) (i:Int) (hi:0<=i/\i<2):1<=((CJ [BQ a { data := #[82] },BQ c { data := #[81] }] (([BQ a { data := #[82] },BQ c { data := #[81] }]:List BA).getD i.toNat default).Name).1.Pads.length:Int)/\((CJ [BQ a { data := #[82] },BQ c { data := #[81] }] (([BQ a { data := #[82] },BQ c { data := #[81] }]:List BA).getD i.toNat default).Name).1.Pads.length:Int)<=6:=by
 have ha:=GA a { data := #[82] }
 have hc:=GA c { data := #[81] }
 have h01:i=0\/i=1:=by omega
 rcases h01 with rfl | rfl
 ·show 1<=((CJ [BQ a { data := #[82] },BQ c { data := #[81] }] (BQ a { data := #[82] }).Name).1.Pads.length:Int)/\((CJ [BQ a { data := #[82] },BQ c { data := #[81] }] (BQ a { data := #[82] }).Name).1.Pads.length:Int)<=6
  rw [QD]
  exact ⟨by show 1<=((BQ a { data := #[82] }).Pads.length:Int);omega,ha.2.2⟩
 show 1<=((CJ [BQ a { data := #[82] },BQ c { data := #[81] }] (BQ c { data := #[81] }).Name).1.Pads.length:Int)/\((CJ [BQ a { data := #[82] },BQ c { data := #[81] }] (BQ c { data := #[81] }).Name).1.Pads.length:Int)<=6
 rw [QB (by rw [ha.1,hc.1];decide +kernel)]
 exact ⟨by show 1<=((BQ c { data := #[81] }).Pads.length:Int);omega,hc.2.2⟩
theorem Xp {d:AE} (h:(AB d 5).1<3) (h0:¬ (AB d 5).1=0) (h1:¬ (AB d 5).1=1):(AB d 5).1=2:=by
 have:=Dl d 5 (by decide) (by decide)
 omega
theorem aL {b:AC} {types:List BA} (h:PR types b.Parts):Nn b types:=fun k h0 h1=>(h k h0 h1).1
def Df (v:List Ag) (m:Int):Prop:=(v.length:Int)<=m
theorem FP {α:Type} {c:Bool} {a b:List α} {m:Int} (ha:(a.length:Int)<=m) (hb:(b.length:Int)<=m):((bif c then a else b).length:Int)<=m:=by cases c <;> assumption
theorem FQ {α:Type} {a:List α} {x:α} {m:Int} (h:(a.length:Int)+1<=m):((a++[x]).length:Int)<=m:=by simp only [List.length_append,List.length_cons,List.length_nil];omega
theorem kS {d:AE} {a c:BA}:0<=(AB d 2).1/\(AB d 2).1<((([a,c]:List BA).length:Nat):Int):=Dl d 2 (by decide) (by decide)
theorem Zl {v:Int} {a b c:ByteArray} (h0:0<=v) (h:v<3):0<=v/\v<((([a,b,c]:List ByteArray).length:Nat):Int):=⟨h0,h⟩
theorem lR {b B:AC} (h:L0 b B) (hb:(b.Parts.length:Int)<=1000000):(B.Parts.length:Int)<=1000000:=by rw [h.par];exact hb
theorem gN {b B:AC} (h:L0 b B) (hb:1<=(b.Parts.length:Int)):1<=(B.Parts.length:Int):=by rw [h.par];exact hb
theorem lO {b B:AC} (h:L0 b B):(B.Tracks.length:Int)<=1000000:=by have:=h.trk;omega
theorem lN {b B:AC} (h:L0 b B):(B.Vias.length:Int)<=1000000:=by have:=h.via;omega
theorem lQ {b B:AC} (h:L0 b B):(B.Pours.length:Int)<=1000000:=by have:=h.pou;omega
theorem lS {b B:AC} (h:L0 b B):(B.Keeps.length:Int)<=1000000:=by have:=h.kee;omega
theorem lP {b B:AC} (h:L0 b B):(B.Slots.length:Int)<=1000000:=by have:=h.slo;omega
variable (v6_4:List AU) (v31_1':List Ag) (v5'':AE) (v10:Int) (l:List (List Int)) (v31_1 v31_3' v31_3:List Ag) (v8:Int) (v31_5':List Ag) (v13:Int) (v31_5:List Ag) (v5:AE)
def Z53:Tv:=.av (oL l)
abbrev GX:List Cl:=[.i 0,.i 0,vN,.i 0,vN,vN,vN,vN,vN,vN,vN,vN,vN,vN,vN]
def Z54:Blk:=.cells GX 62
def Z55:BA:=BQ (Aa l 0) ({ data := #[82] }:ByteArray)
def Z56:BA:=BQ (Aa l 1) ({ data := #[81] }:ByteArray)
def Z57:Tv:=.av (.one (lst 3 BA.c [Z55 l,Z56 l]))
def Z58:Blk:=.cells [lst 1 eIn (Aa l 2),.i 0] 94
abbrev Kq:=Ah.mk 0 0 400 400
def Z59:Blk:=.cells [.i 2,.i (Ho Kq).Kind,lst 7 AG.c (Ho Kq).Edges,.i (Ho Kq).R,vN,.own 31 2 3,vN,vN,vN,vN,vN,vN,vN,vN,vN] 62
def Z5a:Blk:=.rowx 2 3 (fun _ _=>default) 69 [(0,[.s ({ data := #[78,49] }:ByteArray),vN]),(1,[.s ({ data := #[78,50] }:ByteArray),vN]),(2,[.s ({ data := #[71,78,68] }:ByteArray),vN])]
abbrev G4:=AB (AE.mk (Aa l 2) 0) 3
def Z5b:CT:=(34,(FZ:List Av).map (CC 1000 25),wrI 25 (.cells [lst 1 eIn (Aa l 2),.i 0] 94) (tI (G4 l).1) (.cells (AE.c (G4 l).2) 94))
def Z5c:Blk:=.cells (AE.c (G4 l).2) 94
def Z5d:AX:=bif decide (((AB (AE.mk (Aa l 2) 0) 3).1:Int)=0) then (Gy (Ah.mk 0 0 400 400) 50) else (Ho (Ah.mk 0 0 400 400))
def Z5e:CT:=(34,(FZ:List Av).map (CC 1000 25),wrI 25 (.cells (AE.c (G4 l).2) 94) (tI (AB (G4 l).2 3).1) (.cells (AE.c (AB (G4 l).2 3).2) 94))
abbrev Z5f:AE:=(AB (AB (AE.mk (Aa l 2) 0) 3).2 3).2
def Z5g:Tv:=tI (W64 (1+(AB (G4 l).2 3).1))
abbrev IG (t_:List Cl):List Cl:=(.i 2)::(.i (Z5d l).Kind)::(lst 7 AG.c (Z5d l).Edges)::(.i (Z5d l).R)::t_
def Z5h:Blk:=.cells (IG l [vN,.own 31 2 3,vN,vN,vN,vN,vN,vN,vN,vN,vN]) 62
def Z5i:Blk:=.cells [lst 1 eIn (Aa l 3),.i 0] 94
def Z5j:Blk:=.row 7 ([]:List AU).length (AV AU.c ([]:List AU)) 115
def Z5k:Blk:=.cells (IG l [.own 2000 7 ([]:List AU).length,.own 31 2 3,vN,vN,vN,vN,vN,vN,vN,vN,vN]) 62
def Z5l (l:(List (List Int))) (v6_4:List AU):Blk:=.cells (IG l [.own 2000 7 v6_4.length,.own 31 2 3,vN,vN,vN,vN,vN,vN,vN,vN,vN]) 62
def Z5m:CT:=(34,(Hp:List Av).map (CC 1000 25),wrI 25 (MG v5) (tI (AB v5 2).1) (MM v5))
abbrev IP:=AB (AB v5 2).2 4
def Z5n:CT:=(34,(KJ:List Av).map (CC 1000 25),wrI 25 (MM v5) (tI (IP v5).1) (.cells (AE.c (IP v5).2) 94))
def Z5o:CT:=(34,(FZ:List Av).map (CC 1000 25),wrI 25 (.cells (AE.c (IP v5).2) 94) (tI (AB (IP v5).2 3).1) (.cells (AE.c (AB (IP v5).2 3).2) 94))
abbrev Z5p:AE:=(AB (AB (AB v5 2).2 4).2 3).2
def Z5q:CT:=(34,Ki.map (CC 1000 25),wrI 25 (.cells (AE.c (Z5p v5)) 94) (tI (AB (Z5p v5) 5).1) (.cells (AE.c (AB (Z5p v5) 5).2) 94))
def Z5r:CT:=(34,(FZ:List Av).map (CC 1000 25),wrI 25 (.cells (AE.c (AB (Z5p v5) 5).2) 94) (tI (AB (AB (Z5p v5) 5).2 3).1) (.cells (AE.c (AB (AB (Z5p v5) 5).2 3).2) 94))
abbrev Z5s:AE:=(AB (AB (Z5p v5) 5).2 3).2
def Z5t:CT:=(34,(FZ:List Av).map (CC 1000 25),wrI 25 (.cells (AE.c (Z5s v5)) 94) (tI (AB (Z5s v5) 3).1) (.cells (AE.c (AB (Z5s v5) 3).2) 94))
def Z5u:Blk:=.cells (AE.c (AB (Z5s v5) 3).2) 94
abbrev YO:=AD.mk (W64 ((W64 (80+(W64 (100*v8))))+(W64 (5*(AB (Z5p v5) 5).1)))) (W64 ((W64 (100+(W64 (80*(AB (AB (Z5p v5) 5).2 3).1))))+(W64 (5*(AB (Z5s v5) 3).1))))
abbrev MQ:Bool:=(decide (((AB (IP v5).2 3).1:Int)=0))
def Z5v (l:(List (List Int))) (v6_4:List AU) (v8:Int) (v5:AE):Blk:=.cells (IG l [.own 86 7 (v6_4++[AU.mk (W64 (1+v8)) (([({ data := #[82,49] }:ByteArray),({ data := #[82,50] }:ByteArray),({ data := #[120,47,82,49] }:ByteArray)]:List ByteArray).getD v8.toNat ⟨#[]⟩) ([Z55 l,Z56 l].getD (AB v5 2).1.toNat default).Name (YO v8 v5) (IP v5).1 (MQ v5)]).length,.own 31 2 3,vN,vN,vN,vN,vN,vN,vN,vN,vN]) 62
def Z5w (v6_4:List AU) (v8:Int) (l:(List (List Int))) (v5:AE):Blk:=.row 7 (v6_4++[AU.mk (W64 (1+v8)) (([({ data := #[82,49] }:ByteArray),({ data := #[82,50] }:ByteArray),({ data := #[120,47,82,49] }:ByteArray)]:List ByteArray).getD v8.toNat ⟨#[]⟩) ([Z55 l,Z56 l].getD (AB v5 2).1.toNat default).Name (YO v8 v5) (IP v5).1 (MQ v5)]).length (AV AU.c (v6_4++[AU.mk (W64 (1+v8)) (([({ data := #[82,49] }:ByteArray),({ data := #[82,50] }:ByteArray),({ data := #[120,47,82,49] }:ByteArray)]:List ByteArray).getD v8.toNat ⟨#[]⟩) ([Z55 l,Z56 l].getD (AB v5 2).1.toNat default).Name (YO v8 v5) (IP v5).1 (MQ v5)])) 115
def Z5x:Blk:=.row 2 ([]:List Ag).length (AV Ag.c ([]:List Ag)) 121
def Z5y (l:(List (List Int))) (v6_4:List AU):Blk:=.cells (IG l [lst 7 AU.c v6_4,.own 31 2 3,vN,vN,vN,vN,vN,vN,vN,vN,vN]) 62
def Z5z:Tv:=tB (decide ((v10:Int)<(W64 (1+(AB (G4 l).2 3).1))))
def Z5A (l:(List (List Int))) (v6_4:List AU) (v10:Int):BA:=(CJ [Z55 l,Z56 l] (v6_4.getD v10.toNat default).Type').1
def Z5B:CT:=(34,Ki.map (CC 1000 91),wrI 91 (.cells (AE.c v5'') 94) (tI (AB v5'' 5).1) (.cells (AE.c (AB v5'' 5).2) 94))
abbrev I4:=[Ag.mk (v6_4.getD v10.toNat default).Ref ((Z5A l v6_4 v10).Pads.getD v13.toNat default).Name]
def Z5C (v31_1':List Ag) (v6_4:List AU) (v10:Int) (l:(List (List Int))) (v13:Int):Blk:=.row 2 (v31_1'++(I4 v6_4 v10 l v13)).length (AV Ag.c (v31_1'++(I4 v6_4 v10 l v13))) 121
def Z5D (v31_3':List Ag) (v6_4:List AU) (v10:Int) (l:(List (List Int))) (v13:Int):Blk:=.row 2 (v31_3'++(I4 v6_4 v10 l v13)).length (AV Ag.c (v31_3'++(I4 v6_4 v10 l v13))) 121
def Z5E (v31_5':List Ag) (v6_4:List AU) (v10:Int) (l:(List (List Int))) (v13:Int):Blk:=.row 2 (v31_5'++(I4 v6_4 v10 l v13)).length (AV Ag.c (v31_5'++(I4 v6_4 v10 l v13))) 121
def Z5F (v5'':AE) (v31_1':List Ag) (v6_4:List AU) (v10:Int) (l:(List (List Int))) (v13:Int):(List Ag):=bif decide (((AB v5'' 5).1:Int)<3) then (bif decide (((AB v5'' 5).1:Int)=0) then (v31_1'++[Ag.mk (v6_4.getD v10.toNat default).Ref ((Z5A l v6_4 v10).Pads.getD v13.toNat default).Name]) else v31_1') else v31_1'
def Z5G (v5'':AE) (v31_3':List Ag) (v6_4:List AU) (v10:Int) (l:(List (List Int))) (v13:Int):(List Ag):=bif decide (((AB v5'' 5).1:Int)<3) then (bif decide (((AB v5'' 5).1:Int)=0) then v31_3' else (bif decide (((AB v5'' 5).1:Int)=1) then (v31_3'++[Ag.mk (v6_4.getD v10.toNat default).Ref ((Z5A l v6_4 v10).Pads.getD v13.toNat default).Name]) else v31_3')) else v31_3'
def Z5H (v5'':AE) (v31_5':List Ag) (v6_4:List AU) (v10:Int) (l:(List (List Int))) (v13:Int):(List Ag):=bif decide (((AB v5'' 5).1:Int)<3) then (bif decide (((AB v5'' 5).1:Int)=0) then v31_5' else (bif decide (((AB v5'' 5).1:Int)=1) then v31_5' else (v31_5'++[Ag.mk (v6_4.getD v10.toNat default).Ref ((Z5A l v6_4 v10).Pads.getD v13.toNat default).Name]))) else v31_5'
def Z5I (v5'':AE) (v31_1':List Ag) (v6_4:List AU) (v10:Int) (l:(List (List Int))) (v13:Int):Blk:=.row 2 (Z5F v5'' v31_1' v6_4 v10 l v13).length (AV Ag.c (Z5F v5'' v31_1' v6_4 v10 l v13)) 121
def Z5J (v5'':AE) (v31_3':List Ag) (v6_4:List AU) (v10:Int) (l:(List (List Int))) (v13:Int):Blk:=.row 2 (Z5G v5'' v31_3' v6_4 v10 l v13).length (AV Ag.c (Z5G v5'' v31_3' v6_4 v10 l v13)) 121
def Z5K (v5'':AE) (v31_5':List Ag) (v6_4:List AU) (v10:Int) (l:(List (List Int))) (v13:Int):Blk:=.row 2 (Z5H v5'' v31_5' v6_4 v10 l v13).length (AV Ag.c (Z5H v5'' v31_5' v6_4 v10 l v13)) 121
def Z5L (l:(List (List Int))) (v6_4:List AU) (v31_1:List Ag) (v31_3:List Ag) (v31_5:List Ag):AC:=BS (AC.mk 2 (Z5d l) v6_4 [A9.mk ({ data := #[78,49] }:ByteArray) v31_1,A9.mk ({ data := #[78,50] }:ByteArray) v31_3,A9.mk ({ data := #[71,78,68] }:ByteArray) v31_5] [] [] [] [] [] [] [] [] []) [Z55 l,Z56 l] l
abbrev V9 (l:List (List Int)) (v6_4:List AU) (v31_1:List Ag) (v31_3:List Ag) (v31_5:List Ag):List Cl:=[.i (Z5L l v6_4 v31_1 v31_3 v31_5).Layers,.i (Z5L l v6_4 v31_1 v31_3 v31_5).Outline.Kind,lst 7 AG.c (Z5L l v6_4 v31_1 v31_3 v31_5).Outline.Edges,.i (Z5L l v6_4 v31_1 v31_3 v31_5).Outline.R,lst 7 AU.c (Z5L l v6_4 v31_1 v31_3 v31_5).Parts,lst 2 A9.c (Z5L l v6_4 v31_1 v31_3 v31_5).Nets,lst 6 AO.c (Z5L l v6_4 v31_1 v31_3 v31_5).Tracks,lst 8 BW.c (Z5L l v6_4 v31_1 v31_3 v31_5).Vias,lst 8 A4.c (Z5L l v6_4 v31_1 v31_3 v31_5).Pours,lst 5 A5.c (Z5L l v6_4 v31_1 v31_3 v31_5).Keeps,lst 4 BC.c (Z5L l v6_4 v31_1 v31_3 v31_5).Slots,vN,vN,vN,vN]
def Z5M (l:(List (List Int))) (v6_4:List AU) (v31_1:List Ag) (v31_3:List Ag) (v31_5:List Ag):CT:=(57,([.one (.ptr 1000 0),.one (lst 3 BA.c [Z55 l,Z56 l]),.one (lst 1 (fun x=>[lst 1 eIn x]) l)]:List Av).map (CC 1000 6),wrI 6 (.cells (IG l [lst 7 AU.c v6_4,lst 2 A9.c [A9.mk ({ data := #[78,49] }:ByteArray) v31_1,A9.mk ({ data := #[78,50] }:ByteArray) v31_3,A9.mk ({ data := #[71,78,68] }:ByteArray) v31_5],vN,vN,vN,vN,vN,vN,vN,vN,vN]) 62) (.tup []) (.cells (V9 l v6_4 v31_1 v31_3 v31_5) 62))
def Z5N (l:(List (List Int))) (v6_4:List AU) (v31_1:List Ag) (v31_3:List Ag) (v31_5:List Ag):AC×AE:=DB (AC.mk (Z5L l v6_4 v31_1 v31_3 v31_5).Layers (Z5L l v6_4 v31_1 v31_3 v31_5).Outline (Z5L l v6_4 v31_1 v31_3 v31_5).Parts (Z5L l v6_4 v31_1 v31_3 v31_5).Nets (Z5L l v6_4 v31_1 v31_3 v31_5).Tracks (Z5L l v6_4 v31_1 v31_3 v31_5).Vias (Z5L l v6_4 v31_1 v31_3 v31_5).Pours (Z5L l v6_4 v31_1 v31_3 v31_5).Keeps (Z5L l v6_4 v31_1 v31_3 v31_5).Slots [] [] [] []) (AE.mk (Aa l 7) 0)
def Z5O (l:(List (List Int))) (v6_4:List AU) (v31_1:List Ag) (v31_3:List Ag) (v31_5:List Ag):CT:=(58,(OE:List Av).map (F7 1000 6 1001 151),kR 6 151 (.cells (V9 l v6_4 v31_1 v31_3 v31_5) 62) (.cells [lst 1 eIn (Aa l 7),.i 0] 94) (.tup []) (.cells (AC.c (Z5N l v6_4 v31_1 v31_3 v31_5).1) 62) (.cells (AE.c (Z5N l v6_4 v31_1 v31_3 v31_5).2) 94))
def Z5P:Blk:=.rowx 2 3 (fun _ _=>default) 69 [(0,[.s ({ data := #[78,49] }:ByteArray),.own 2001 2 ([]:List Ag).length]),(1,[.s ({ data := #[78,50] }:ByteArray),.own 2002 2 ([]:List Ag).length]),(2,[.s ({ data := #[71,78,68] }:ByteArray),.own 2003 2 ([]:List Ag).length])]
def Z5Q:Blk:=.rowx 2 3 (fun _ _=>default) 69 [(0,[.s ({ data := #[78,49] }:ByteArray),.own 2001 2 v31_1.length]),(1,[.s ({ data := #[78,50] }:ByteArray),.own 2002 2 v31_3.length]),(2,[.s ({ data := #[71,78,68] }:ByteArray),.own 2003 2 v31_5.length])]
def Z5R:Blk:=.rowx 2 3 (fun _ _=>default) 69 [(0,[.s ({ data := #[78,49] }:ByteArray),.own 2001 2 v31_1'.length]),(1,[.s ({ data := #[78,50] }:ByteArray),.own 2002 2 v31_3'.length]),(2,[.s ({ data := #[71,78,68] }:ByteArray),.own 2003 2 v31_5'.length])]
def Z5S (v31_1':List Ag) (v6_4:List AU) (v10:Int) (l:(List (List Int))) (v13:Int) (v31_3':List Ag) (v31_5':List Ag):Blk:=.rowx 2 3 (fun _ _=>default) 69 [(0,[.s ({ data := #[78,49] }:ByteArray),.own 2004 2 (v31_1'++(I4 v6_4 v10 l v13)).length]),(1,[.s ({ data := #[78,50] }:ByteArray),.own 2005 2 v31_3'.length]),(2,[.s ({ data := #[71,78,68] }:ByteArray),.own 2006 2 v31_5'.length])]
def Z5T (v31_1':List Ag) (v31_3':List Ag) (v6_4:List AU) (v10:Int) (l:(List (List Int))) (v13:Int) (v31_5':List Ag):Blk:=.rowx 2 3 (fun _ _=>default) 69 [(0,[.s ({ data := #[78,49] }:ByteArray),.own 2004 2 v31_1'.length]),(1,[.s ({ data := #[78,50] }:ByteArray),.own 2005 2 (v31_3'++(I4 v6_4 v10 l v13)).length]),(2,[.s ({ data := #[71,78,68] }:ByteArray),.own 2006 2 v31_5'.length])]
def Z5U (v31_1':List Ag) (v31_3':List Ag) (v31_5':List Ag) (v6_4:List AU) (v10:Int) (l:(List (List Int))) (v13:Int):Blk:=.rowx 2 3 (fun _ _=>default) 69 [(0,[.s ({ data := #[78,49] }:ByteArray),.own 2004 2 v31_1'.length]),(1,[.s ({ data := #[78,50] }:ByteArray),.own 2005 2 v31_3'.length]),(2,[.s ({ data := #[71,78,68] }:ByteArray),.own 2006 2 (v31_5'++(I4 v6_4 v10 l v13)).length])]
def EU (l:(List (List Int))) (v6_4:List AU) (v5:AE) (v8:Int) (v31_1:List Ag) (v31_3:List Ag) (v31_5:List Ag) (v5':AE) (v10:Int) (K0:List AU->AE->Int->(AC×(List BA))) (K1:List Ag->List Ag->List Ag->AE->Int->(AC×(List BA))):Nat->List Ag->List Ag->List Ag->AE->Int->(AC×(List BA))
 | 0,_,_,_,_,_=>default
 | n2+1,v31_1',v31_3',v31_5',v5'',v13=>bif decide ((v13:Int)<((Z5A l v6_4 v10).Pads.length:Int)) then ((EU l v6_4 v5 v8 v31_1 v31_3 v31_5 v5' v10 K0 K1 n2) (Z5F v5'' v31_1' v6_4 v10 l v13) (Z5G v5'' v31_3' v6_4 v10 l v13) (Z5H v5'' v31_5' v6_4 v10 l v13) (AB v5'' 5).2 (v13+1)) else (K1 v31_1' v31_3' v31_5' v5'' (v10+1))
def D6 (l:(List (List Int))) (v6_4:List AU) (v5:AE) (v8:Int) (K0:List AU->AE->Int->(AC×(List BA))):Nat->List Ag->List Ag->List Ag->AE->Int->(AC×(List BA))
 | 0,_,_,_,_,_=>default
 | n1+1,v31_1,v31_3,v31_5,v5',v10=>bif decide ((v10:Int)<(W64 (1+(AB (AB (AE.mk (Aa l 2) 0) 3).2 3).1))) then (EU l v6_4 v5 v8 v31_1 v31_3 v31_5 v5' v10 K0 (D6 l v6_4 v5 v8 K0 n1) ((((Z5A l v6_4 v10).Pads.length:Int)-0).toNat+1) v31_1 v31_3 v31_5 v5' 0) else ((Z5N l v6_4 v31_1 v31_3 v31_5).1,[Z55 l,Z56 l])
def DG (l:(List (List Int))):Nat->List AU->AE->Int->(AC×(List BA))
 | 0,_,_,_=>default
 | n0+1,v6_4,v5,v8=>bif decide ((v8:Int)<(W64 (1+(AB (AB (AE.mk (Aa l 2) 0) 3).2 3).1))) then ((DG l n0) (v6_4++[AU.mk (W64 (1+v8)) (([({ data := #[82,49] }:ByteArray),({ data := #[82,50] }:ByteArray),({ data := #[120,47,82,49] }:ByteArray)]:List ByteArray).getD v8.toNat ⟨#[]⟩) ([Z55 l,Z56 l].getD (AB v5 2).1.toNat default).Name (AD.mk (W64 ((W64 (80+(W64 (100*v8))))+(W64 (5*(AB (Z5p v5) 5).1)))) (W64 ((W64 (100+(W64 (80*(AB (AB (Z5p v5) 5).2 3).1))))+(W64 (5*(AB (Z5s v5) 3).1))))) (AB (AB v5 2).2 4).1 (decide (((AB (AB (AB v5 2).2 4).2 3).1:Int)=0))]) (AB (Z5s v5) 3).2 (v8+1)) else (D6 l v6_4 v5 v8 (DG l n0) (((W64 (1+(AB (AB (AE.mk (Aa l 2) 0) 3).2 3).1))-0).toNat+1) ([]:List Ag) ([]:List Ag) ([]:List Ag) (AE.mk (Aa l 3) 0) 0)
def AP (l:(List (List Int))):(AC×(List BA)):=DG l (((W64 (1+(AB (AB (AE.mk (Aa l 2) 0) 3).2 3).1))-0).toNat+1) ([]:List AU) (Z5f l) 0
def R9:CT:=(22,[.one (lst 1 (fun x=>[lst 1 eIn x]) l)],.val [] (.tup [.agg (AC.c (AP l).1),.one (lst 3 BA.c (AP l).2)]))
abbrev G2 (t_:List (Nat×Tv)):List (Nat×Tv):=(0,Z53 l)::(2,tP 2 0)::(4,Z57 l)::(5,tP 91 0)::(6,tP 6 0)::(7,Z5g l)::t_
abbrev KR (l:List (List Int)) (v10:Int) (v13:Int):List (Nat×Tv):=(G2 l [(10,tI v10),(11,tP 11 0),(13,tI v13)])
abbrev Eo:Nat×Blk:=(2000,.row 7 v6_4.length (AV AU.c v6_4) 115)
abbrev jP (l:List (List Int)) (v6_4:List AU) (v10:Int):Nat×Blk:=(11,.cells (BA.c (Z5A l v6_4 v10)) 110)
abbrev HU:Nat×Blk:=(91,.cells (AE.c (AB v5'' 5).2) 94)
abbrev RU (l:List (List Int)) (v10:Int):List (Nat×Tv):=(G2 l [(10,tI v10),(94,Z5z v10 l)])
abbrev JS:Nat×Blk:=(2001,.row 2 v31_1'.length (AV Ag.c v31_1') 121)
abbrev JR:Nat×Blk:=(2002,.row 2 v31_3'.length (AV Ag.c v31_3') 121)
abbrev JQ:Nat×Blk:=(2003,.row 2 v31_5'.length (AV Ag.c v31_5') 121)
abbrev RR:List (Nat×Tv):=(G2 l [(10,tI 0)])
abbrev Kb (t_:List (Nat×Tv)):List (Nat×Tv):=(0,Z53 l)::(2,tP 2 0)::(4,Z57 l)::(5,tP 25 0)::(6,tP 6 0)::t_
abbrev Q1:List (Nat×Tv):=(Kb l [])
abbrev US:=BF 2 1 [.s (v6_4.getD v10.toNat default).Ref,.s ((Z5A l v6_4 v10).Pads.getD v13.toNat default).Name]
abbrev FH (l:List (List Int)) (v6_4:List AU) (v10:Int) (t_:List (Nat×Blk)):List (Nat×Blk):=(2,Z54)::(6,Z5l l v6_4)::(jP l v6_4 v10)::t_
theorem au18 {p:Prop} (h:p:=by first | (with_reducible exact Dv hll _) | with_reducible assumption | omega | decide | (simp only [List.length_cons,List.length_nil,List.length_append];omega) | (exact aL (by assumption)) | ((refine And.intro ?_ ?_ <;> simp;done)) | ((simp only;exact lR (Gl _ _ _) (by show (v6_4.length:Int)≤_;omega))) | ((simp only;exact gN (Gl _ _ _) (by show 1≤(v6_4.length:Int);omega))) | ((simp only;exact lO (Gl _ _ _))) | ((simp only;exact lN (Gl _ _ _))) | ((simp only;exact lQ (Gl _ _ _))) | ((simp only;exact lS (Gl _ _ _))) | ((simp only;exact lP (Gl _ _ _))) | assumption):p:=h
theorem au19 {p:Prop} (h:p:=by first | exact Jy _ _ _ (by decide) (by decide) (by decide) | exact kS | exact Zl (by omega) (by omega) | decide | omega):p:=h
theorem au22 {p:Prop} (h:p:=by first | (unfold Df at *;unfold maxLen;omega) | (unfold Df at *;omega) | (unfold maxLen;omega) | omega):p:=h
set_option maxHeartbeats 4000000 in
theorem gE (l:(List (List Int))) (hl:(l.length:Int)<=9223372036854775807) (hll:∀ x∈l,(x.length:Int)<=9223372036854775807):HT Try.prog 22 (R9 l).2.1 (.tup [.agg (AC.c (AP l).1),.one (lst 3 BA.c (AP l).2)]):=by
 refine Ss Try.func22 rfl kr kr fun W0 M0 => ?_
 have hmany:1<=W64 (1+(AB (AB (AE.mk (Aa l 2) 0) 3).2 3).1):=by have:=Dl (AB (AE.mk (Aa l 2) 0) 3).2 3 (by decide) (by decide);rw [Ap (by omega) (by omega)];omega
 refine AA<|rn ⟨[(0,Z53 l),(2,tP 2 0)],[(2,Z54)]⟩<|AA ?_
 refine rc [(16,E3 l 0),(17,KC (Aa l 0) ({ data := #[82] }:ByteArray)),(19,E3 l 1),(20,KC (Aa l 1) ({ data := #[81] }:ByteArray))] [As (E3 l 0).2.1,As (KC (Aa l 0) ({ data := #[82] }:ByteArray)).2.1,As (E3 l 1).2.1,As (KC (Aa l 1) ({ data := #[81] }:ByteArray)).2.1] ⟨[(0,Z53 l),(2,tP 2 0),(4,.av (.one (.list true 3 2 (BF 3 2 [.s (Z55 l).Name,lst 7 Eb.c (Z55 l).Pads,lst 2 B3.c (Z55 l).Gates,.s (Z56 l).Name,lst 7 Eb.c (Z56 l).Pads,lst 2 B3.c (Z56 l).Gates]))))],[(2,Z54)]⟩ (.cons (GP l 0 au18) (.cons (TD (Aa l 0) ({ data := #[82] }:ByteArray) au18) (.cons (GP l 1 au18) (.cons (TD (Aa l 1) ({ data := #[81] }:ByteArray) au18) .nil)))) (.cons rfl (.cons rfl (.cons rfl (.cons rfl .nil))))<|AF ?_
 refine Al (Cv.trans (C1 (⟨[(0,Z53 l),(2,tP 2 0),(4,Z57 l)],[(2,Z54)]⟩) (.cons ⟨rfl,.refl _⟩ (.cons ⟨rfl,.refl _⟩ (.cons ⟨rfl,.av (.one (BM true (BR (c:=BA.c) (xs:=([Z55 l,Z56 l]:List BA)) rfl kr)))⟩ .nil))) lr) (Cv.refl _))<|AA ?_
 refine rs 23 (E3 l 2) ⟨[(0,Z53 l),(2,tP 2 0),(4,Z57 l),(5,tP 25 0)],[(2,Z54),(25,Z58 l)]⟩ (GP l 2 au18)<|AF<|AA ?_
 refine CN DU [31] [] [(27,Jk Kq)] [0,2,4,5,6] [2,6,25,31] [As (Jk (Ah.mk 0 0 400 400)).2.1] ⟨(Q1 l),[(2,Z54),(6,Z59),(25,Z58 l),(31,.row 2 3 (BF 2 3 [.s ({ data := #[78,49] }:ByteArray),vN,.s ({ data := #[78,50] }:ByteArray),vN,.s ({ data := #[71,78,68] }:ByteArray),vN]) 69)]⟩ (.cons (Nc (Ah.mk 0 0 400 400)) .nil) kr (.cons rfl .nil)<|AF ?_
 refine Al (Cv.trans (dB (⟨(Q1 l),[(2,Z54),(6,Z59),(25,Z58 l),(31,Z5a)]⟩) 31 2 3 (BF 2 3 [.s ({ data := #[78,49] }:ByteArray),vN,.s ({ data := #[78,50] }:ByteArray),vN,.s ({ data := #[71,78,68] }:ByteArray),vN]) 69 kr kr kr) (Cv.refl _))<|AA<|AA ?_
 refine rb 34 (Z5b l) (.cells [lst 1 (fun x=>[.i x]) (Aa l 2),.i 0] 94) ⟨(Kb l [(35,tB (decide (((G4 l).1:Int)=0)))]),[(2,Z54),(6,Z59),(25,Z5c l),(31,Z5a)]⟩ (YD (fun _ _=>kr) kr kr (Bg (AE.mk (Aa l 2) 0) 3 au7 au11))<|AF ?_
 refine CR (⟨[(0,.av (oL l)),(2,tP 2 0),(4,tO (lst 3 BA.c [Z55 l,Z56 l])),(5,tP 25 0),(6,tP 6 0)],[(2,.cells GX 62),(6,.cells [.i 2,.i (Z5d l).Kind,lst 7 AG.c (Z5d l).Edges,.i (Z5d l).R,vN,.own 31 2 3,vN,vN,vN,vN,vN,vN,vN,vN,vN] 62),(25,.cells (AE.c (G4 l).2) 94),(31,.rowx 2 3 (fun _ _=>default) 69 [(0,[.s ({ data := #[78,49] }:ByteArray),vN]),(1,[.s ({ data := #[78,50] }:ByteArray),vN]),(2,[.s ({ data := #[71,78,68] }:ByteArray),vN])])]⟩) ?_ ?_
 ·refine AL _ rfl (fun h1 => ?_) (fun h1 => ?_)
  ·have g1:=oT h1
   refine rs 37 (Ms (Ah.mk 0 0 400 400) 50) ⟨(Q1 l),[(2,Z54),(6,.cells [.i 2,.i (Gy Kq 50).Kind,lst 7 AG.c (Gy Kq 50).Edges,.i (Gy Kq 50).R,vN,.own 31 2 3,vN,vN,vN,vN,vN,vN,vN,vN,vN] 62),(25,Z5c l),(31,Z5a)]⟩ (VS (Ah.mk 0 0 400 400) 50)<|AF ?_
   refine BG ?_
   first | rfl | (simp only [h1,Z5d,cond_true,cond_false] <;> rfl)
  ·have g1:=oF h1
   refine AQ<|AF ?_
   refine Cv.trans (ck (⟨(Q1 l),[(2,Z54),(6,Z59),(25,Z5c l),(31,Z5a)]⟩)) (BG ?_)
   first | rfl | (simp only [h1,Z5d,cond_true,cond_false] <;> rfl)
 refine AA<|rb 40 (Z5e l) (.cells (AE.c (AB (AE.mk (Aa l 2) 0) 3).2) 94) ⟨(Kb l [(7,Z5g l)]),[(2,Z54),(6,Z5h l),(25,.cells (AE.c (Z5f l)) 94),(31,Z5a)]⟩ (YD (fun _ _=>kr) kr kr (Bg (AB (AE.mk (Aa l 2) 0) 3).2 3 au7 au11))<|AF ?_
 refine AA<|AA ?_
 refine rn ⟨(Kb l [(7,Z5g l),(8,tI 0)]),[(2,Z54),(6,Z5h l),(25,.cells (AE.c (Z5f l)) 94),(31,Z5a)]⟩<|AM ?_
 refine Al (Cv.trans (vg 2000 7 (fun _ _=>default) 115 [] [(6,[4])] (K:=[]) (fun k x h=>by cases h)) (Cv.trans (A6 2000 (CV 7 (fun _ _=>default) AU.c)) (Cv.trans (ck (⟨(Kb l [(7,Z5g l),(8,tI 0)]),[(2,Z54),(6,Z5k l),(25,.cells (AE.c (Z5f l)) 94),(31,Z5a),(2000,Z5j)]⟩)) (Cv.refl _)))) ?_
 refine BK (ι:=Nat×List AU×AE×Int) (fun x=>⟨(Kb l [(7,Z5g l),(8,tI x.2.2.2)]),[(2,Z54),(6,.cells [.i 2,.i (Z5d l).Kind,lst 7 AG.c (Z5d l).Edges,.i (Z5d l).R,.own 2000 7 x.2.1.length,.own 31 2 3,vN,vN,vN,vN,vN,vN,vN,vN,vN] 62),(25,.cells (AE.c x.2.2.1) 94),(31,Z5a),(2000,.row 7 x.2.1.length (AV AU.c x.2.1) 115)]⟩) (fun x=>((W64 (1+(AB (AB (AE.mk (Aa l 2) 0) 3).2 3).1))-x.2.2.2).toNat<x.1/\((x.2.1.length:Int)=x.2.2.2/\PR [BQ (Aa l 0) ({ data := #[82] }:ByteArray),BQ (Aa l 1) ({ data := #[81] }:ByteArray)] x.2.1/\Bz x.2.2.1/\0<=x.2.2.2/\(x.2.2.2<=(W64 (1+(AB (AB (AE.mk (Aa l 2) 0) 3).2 3).1))\/x.2.2.2=0)/\(x.2.1.length:Int)<=0+1*(x.2.2.2-0))/\DG l x.1 x.2.1 x.2.2.1 x.2.2.2=AP l) (fun x=>x.1) ?_ (((W64 (1+(AB (AB (AE.mk (Aa l 2) 0) 3).2 3).1))-0).toNat+1,([]:List AU),Z5f l,0) ⟨Nat.lt_succ_self _,⟨ax0,(by show PR [BQ (Aa l 0) ({ data := #[82] }:ByteArray),BQ (Aa l 1) ({ data := #[81] }:ByteArray)] ([]:List AU);first | exact WP | exact WQ (by assumption) (Pf _ _ _ (Dl _ 2 (by decide) (by decide))) | assumption),(by show Bz (Z5f l);repeat (first | with_reducible assumption | exact DA (Dv hll _) | with_reducible refine Bd ?_ | with_reducible refine FI ?_ | with_reducible refine EB ?_ | with_reducible refine Do ?_  | with_reducible refine DO ?_ ?_)),ax0,ax0,ax0⟩,(by simp only [AP,cond_true,cond_false])⟩
 rintro ⟨n0,v6_4,v5,v8⟩ ⟨hn,hinv,hF⟩
 have hm0:=hn;have hinv0:=hinv;have hF0:=hF;try dsimp only at hm0 hinv0 hF0
 clear hn hinv hF
 cases n0 with
 | zero=>exact absurd hm0 (Nat.not_lt_zero _)
 | succ n0 =>
  have hi0_1:=hinv0.2.1
  have hi0_2:=hinv0.2.2.1
  refine AA<|AA ?_
  refine rn ⟨(Kb l [(7,Z5g l),(8,tI v8),(44,tB (decide ((v8:Int)<(W64 (1+(AB (AB (AE.mk (Aa l 2) 0) 3).2 3).1)))))]),[(2,Z54),(6,Z5l l v6_4),(25,.cells (AE.c v5) 94),(31,Z5a),(Eo v6_4)]⟩ ?_
  refine AL (decide ((v8:Int)<(W64 (1+(AB (AB (AE.mk (Aa l 2) 0) 3).2 3).1)))) kr (fun h1 => ?_) (fun h1 => ?_)
  ·have g1:=oT h1
   have k1:=Ru g1 (by decide) (by decide) (by decide) (by decide)
   have kk1:=O1 g1 (by decide) (by decide) (by decide) (by decide)
   refine AQ<|AF ?_
   refine AA<|AM<|AA ?_
   refine dw [] [(55,(Z5m v5)),(60,(Z5n v5)),(62,(Z5o v5))] [0<=(v8:Int)/\(v8:Int)<((3:Nat):Int),As (Z5m v5).2.1,CL (MG v5),0<=((AB v5 2).1:Int)/\((AB v5 2).1:Int)<(([Z55 l,Z56 l].length:Nat):Int),As (Z5n v5).2.1,CL (MM v5),As (Z5o v5).2.1,CL (.cells (AE.c (AB (AB v5 2).2 4).2) 94)] ⟨(Kb l [(7,Z5g l),(8,tI v8),(9,tP 9 0)]),[(2,Z54),(6,Z5l l v6_4),(9,.cells [.i (W64 (1+v8)),.s (([({ data := #[82,49] }:ByteArray),({ data := #[82,50] }:ByteArray),({ data := #[120,47,82,49] }:ByteArray)]:List ByteArray).getD v8.toNat ⟨#[]⟩),.s ([Z55 l,Z56 l].getD (AB v5 2).1.toNat default).Name,.i 0,.i 0,.i (IP v5).1,.b (MQ v5)] 115),(25,.cells (AE.c (Z5p v5)) 94),(31,Z5a),(Eo v6_4)]⟩ (.cons (YD (fun _ _=>kr) kr kr (Bg v5 2 au7 au11)) (.cons (YD (fun _ _=>kr) kr kr (Bg (AB v5 2).2 4 au7 au11)) (.cons (YD (fun _ _=>kr) kr kr (Bg (AB (AB v5 2).2 4).2 3 au7 au11)) .nil))) (.cons au19 (.cons rfl (.cons rfl (.cons au19 (.cons rfl (.cons rfl (.cons rfl (.cons rfl .nil))))))))<|AF<|AA ?_
   refine rc [(69,(Z5q v5)),(73,(Z5r v5)),(77,(Z5t v5))] [As (Z5q v5).2.1,CL (.cells (AE.c (Z5p v5)) 94),As (Z5r v5).2.1,CL (.cells (AE.c (AB (Z5p v5) 5).2) 94),As (Z5t v5).2.1,CL (.cells (AE.c (Z5s v5)) 94)] ⟨(Kb l [(7,Z5g l),(8,tI v8),(9,tP 9 0)]),[(2,Z54),(6,Z5l l v6_4),(9,.cells [.i (W64 (1+v8)),.s (([({ data := #[82,49] }:ByteArray),({ data := #[82,50] }:ByteArray),({ data := #[120,47,82,49] }:ByteArray)]:List ByteArray).getD v8.toNat ⟨#[]⟩),.s ([Z55 l,Z56 l].getD (AB v5 2).1.toNat default).Name,.i (W64 ((W64 (80+(W64 (100*v8))))+(W64 (5*(AB (Z5p v5) 5).1)))),.i (W64 ((W64 (100+(W64 (80*(AB (AB (Z5p v5) 5).2 3).1))))+(W64 (5*(AB (Z5s v5) 3).1)))),.i (IP v5).1,.b (MQ v5)] 115),(25,Z5u v5),(31,Z5a),(Eo v6_4)]⟩ (.cons (YD (fun _ _=>kr) kr kr (Bg (Z5p v5) 5 au7 au11)) (.cons (YD (fun _ _=>kr) kr kr (Bg (AB (Z5p v5) 5).2 3 au7 au11)) (.cons (YD (fun _ _=>kr) kr kr (Bg (Z5s v5) 3 au7 au11)) .nil))) (.cons rfl (.cons rfl (.cons rfl (.cons rfl (.cons rfl (.cons rfl .nil))))))<|AF ?_
   refine rc [] [v6_4.length=v6_4.length,v6_4.length+1<=maxLen,(v6_4.length+1)*72<=140737488355328] ⟨(Kb l [(7,Z5g l),(8,tI v8)]),[(2,Z54),(6,.cells [.i 2,.i (Z5d l).Kind,lst 7 AG.c (Z5d l).Edges,.i (Z5d l).R,.own 86 7 (v6_4.length+1),.own 31 2 3,vN,vN,vN,vN,vN,vN,vN,vN,vN] 62),(25,Z5u v5),(31,Z5a),(86,.row 7 (v6_4.length+1) (fun i_ j_=>if i_<v6_4.length then (AV AU.c v6_4) i_ j_ else (BF 7 1 [.i (W64 (1+v8)),.s (([({ data := #[82,49] }:ByteArray),({ data := #[82,50] }:ByteArray),({ data := #[120,47,82,49] }:ByteArray)]:List ByteArray).getD v8.toNat ⟨#[]⟩),.s ([Z55 l,Z56 l].getD (AB v5 2).1.toNat default).Name,.i (W64 ((W64 (80+(W64 (100*v8))))+(W64 (5*(AB (Z5p v5) 5).1)))),.i (W64 ((W64 (100+(W64 (80*(AB (AB (Z5p v5) 5).2 3).1))))+(W64 (5*(AB (Z5s v5) 3).1)))),.i (IP v5).1,.b (MQ v5)]) (i_-v6_4.length) j_) 115)]⟩ .nil (.cons rfl (.cons au22 (.cons au22 .nil)))<|A0<|AF ?_
   refine Al (Cv.trans (HY (⟨(Kb l [(7,Z5g l),(8,tI v8)]),[(2,Z54),(6,Z5v l v6_4 v8 v5),(25,Z5u v5),(31,Z5a),(86,Z5w v6_4 v8 l v5)]⟩) 86 (Ar (Af 7 AU.c v6_4) (A1 7 AU.c ([AU.mk (W64 (1+v8)) (([({ data := #[82,49] }:ByteArray),({ data := #[82,50] }:ByteArray),({ data := #[120,47,82,49] }:ByteArray)]:List ByteArray).getD v8.toNat ⟨#[]⟩) ([Z55 l,Z56 l].getD (AB v5 2).1.toNat default).Name (AD.mk (W64 ((W64 (80+(W64 (100*v8))))+(W64 (5*(AB (Z5p v5) 5).1)))) (W64 ((W64 (100+(W64 (80*(AB (AB (Z5p v5) 5).2 3).1))))+(W64 (5*(AB (Z5s v5) 3).1))))) (AB (AB v5 2).2 4).1 (MQ v5)]:List AU)))) (Cv.refl _)) ?_
   refine rg ⟨(Kb l [(7,Z5g l),(8,tI (W64 (v8+1)))]),[(2,Z54),(6,Z5v l v6_4 v8 v5),(25,Z5u v5),(31,Z5a),(86,Z5w v6_4 v8 l v5)]⟩ ?_
   (try rw [(show W64 (v8+1)=v8+1 from Ap (by omega) au8)])
   refine AF ?_
   refine ⟨(n0,v6_4++[AU.mk (W64 (1+v8)) (([({ data := #[82,49] }:ByteArray),({ data := #[82,50] }:ByteArray),({ data := #[120,47,82,49] }:ByteArray)]:List ByteArray).getD v8.toNat ⟨#[]⟩) ([Z55 l,Z56 l].getD (AB v5 2).1.toNat default).Name (AD.mk (W64 ((W64 (80+(W64 (100*v8))))+(W64 (5*(AB (Z5p v5) 5).1)))) (W64 ((W64 (100+(W64 (80*(AB (AB (Z5p v5) 5).2 3).1))))+(W64 (5*(AB (Z5s v5) 3).1))))) (AB (AB v5 2).2 4).1 (MQ v5)],(AB (Z5s v5) 3).2,v8+1),⟨?_,?_,(by rw [<- hF0];simp only [DG,h1,cond_true,cond_false])⟩,Nat.lt_succ_self _,Cv.trans (vr 86 2000 (K:=[]) (fun k x h=>by cases h)) (BG kr)⟩
   ·show ((W64 (1+(AB (AB (AE.mk (Aa l 2) 0) 3).2 3).1))-(v8+1)).toNat<n0;omega
   ·exact ⟨ax0,(by show PR [BQ (Aa l 0) ({ data := #[82] }:ByteArray),BQ (Aa l 1) ({ data := #[81] }:ByteArray)] (v6_4++[AU.mk (W64 (1+v8)) (([({ data := #[82,49] }:ByteArray),({ data := #[82,50] }:ByteArray),({ data := #[120,47,82,49] }:ByteArray)]:List ByteArray).getD v8.toNat ⟨#[]⟩) ([Z55 l,Z56 l].getD (AB v5 2).1.toNat default).Name (AD.mk (W64 ((W64 (80+(W64 (100*v8))))+(W64 (5*(AB (Z5p v5) 5).1)))) (W64 ((W64 (100+(W64 (80*(AB (AB (Z5p v5) 5).2 3).1))))+(W64 (5*(AB (Z5s v5) 3).1))))) (AB (AB v5 2).2 4).1 (MQ v5)]);first | exact WP | exact WQ (by assumption) (Pf _ _ _ (Dl _ 2 (by decide) (by decide))) | assumption),(by show Bz ((AB (Z5s v5) 3).2);repeat (first | with_reducible assumption | exact DA (Dv hll _) | with_reducible refine Bd ?_ | with_reducible refine FI ?_ | with_reducible refine EB ?_ | with_reducible refine Do ?_  | with_reducible refine DO ?_ ?_)),ax0,ax0,ax0⟩
  ·have g1:=oF h1
   have k1:=R2 g1 (by decide) (by decide) (by decide) (by decide)
   refine BH<|A7 ?_
   refine A7<|BI ?_
   refine AF<|AA ?_
   refine rs 89 (E3 l 3) ⟨(G2 l []),[(2,Z54),(6,Z5l l v6_4),(31,Z5a),(91,Z5i l),(Eo v6_4)]⟩ (GP l 3 au18)<|AF ?_
   refine AA<|AA ?_
   refine rn ⟨(RR l),[(2,Z54),(6,Z5l l v6_4),(31,Z5a),(91,Z5i l),(Eo v6_4)]⟩<|AM ?_
   refine Al (Cv.trans (vg 2001 2 (fun _ _=>default) 121 [] [(31,[1])] (K:=[]) (fun k x h=>by cases h)) (Cv.trans (vg 2002 2 (fun _ _=>default) 121 [] [(31,[3])] (K:=[]) (fun k x h=>by cases h)) (Cv.trans (wg (⟨(RR l),[(2003,.row 2 0 (fun _ _=>default) 121),(2002,.row 2 0 (fun _ _=>default) 121),(2001,.row 2 0 (fun _ _=>default) 121),(2,Z54),(6,Z5l l v6_4),(31,.rowx 2 3 (fun _ _=>default) 69 [(0,[.s ({ data := #[78,49] }:ByteArray),.own 2001 2 0]),(1,[.s ({ data := #[78,50] }:ByteArray),.own 2002 2 0]),(2,[.s ({ data := #[71,78,68] }:ByteArray),.own 2003 2 0])]),(91,Z5i l),(Eo v6_4)]⟩) 2003 2 (fun _ _=>default) 121 [] [(31,[5])] (K:=[]) (fun k x h=>by cases h)) (Cv.trans (C1 (⟨(RR l),[(2003,Z5x),(2002,Z5x),(2001,Z5x),(2,Z54),(6,Z5l l v6_4),(31,Z5P),(91,Z5i l),(Eo v6_4)]⟩) lr (.cons ⟨rfl,CX 121 (CV 2 (fun _ _=>default) Ag.c)⟩ (.cons ⟨rfl,CX 121 (CV 2 (fun _ _=>default) Ag.c)⟩ (.cons ⟨rfl,CX 121 (CV 2 (fun _ _=>default) Ag.c)⟩ (.cons ⟨rfl,.refl _⟩ (.cons ⟨rfl,.refl _⟩ (.cons ⟨rfl,.rowx _ _ _ _ (.cons ⟨rfl,(rr (.cons (.own _ _ au16) .nil))⟩ (.cons ⟨rfl,(rr (.cons (.own _ _ au16) .nil))⟩ (.cons ⟨rfl,(rr (.cons (.own _ _ au16) .nil))⟩ .nil)))⟩ lr))))))) (Cv.trans (ck (⟨(RR l),[(2,Z54),(6,Z5l l v6_4),(31,Z5P),(91,Z5i l),(Eo v6_4),(2001,Z5x),(2002,Z5x),(2003,Z5x)]⟩)) (Cv.refl _)))))) ?_
   refine BK (ι:=Nat×List Ag×List Ag×List Ag×AE×Int) (fun x=>⟨(G2 l [(10,tI x.2.2.2.2.2)]),[(2,Z54),(6,Z5l l v6_4),(31,.rowx 2 3 (fun _ _=>default) 69 [(0,[.s ({ data := #[78,49] }:ByteArray),.own 2001 2 x.2.1.length]),(1,[.s ({ data := #[78,50] }:ByteArray),.own 2002 2 x.2.2.1.length]),(2,[.s ({ data := #[71,78,68] }:ByteArray),.own 2003 2 x.2.2.2.1.length])]),(91,.cells (AE.c x.2.2.2.2.1) 94),(Eo v6_4),(2001,.row 2 x.2.1.length (AV Ag.c x.2.1) 121),(2002,.row 2 x.2.2.1.length (AV Ag.c x.2.2.1) 121),(2003,.row 2 x.2.2.2.1.length (AV Ag.c x.2.2.2.1) 121)]⟩) (fun x=>((W64 (1+(AB (AB (AE.mk (Aa l 2) 0) 3).2 3).1))-x.2.2.2.2.2).toNat<x.1/\(Df x.2.1 (6*x.2.2.2.2.2)/\Df x.2.2.1 (6*x.2.2.2.2.2)/\Df x.2.2.2.1 (6*x.2.2.2.2.2)/\Bz x.2.2.2.2.1/\0<=x.2.2.2.2.2/\(x.2.2.2.2.2<=(W64 (1+(AB (AB (AE.mk (Aa l 2) 0) 3).2 3).1))\/x.2.2.2.2.2=0))/\D6 l v6_4 v5 v8 (DG l n0) x.1 x.2.1 x.2.2.1 x.2.2.2.1 x.2.2.2.2.1 x.2.2.2.2.2=AP l) (fun x=>x.1) ?_ (((W64 (1+(AB (AB (AE.mk (Aa l 2) 0) 3).2 3).1))-0).toNat+1,([]:List Ag),([]:List Ag),([]:List Ag),AE.mk (Aa l 3) 0,0) ⟨Nat.lt_succ_self _,⟨(by show Df ([]:List Ag) (6*0);unfold Df at *;repeat (first | omega | exact FQ (by omega) | refine FP ?_ ?_ | (simp;done))),(by show Df ([]:List Ag) (6*0);unfold Df at *;repeat (first | omega | exact FQ (by omega) | refine FP ?_ ?_ | (simp;done))),(by show Df ([]:List Ag) (6*0);unfold Df at *;repeat (first | omega | exact FQ (by omega) | refine FP ?_ ?_ | (simp;done))),(by show Bz (AE.mk (Aa l 3) 0);repeat (first | with_reducible assumption | exact DA (Dv hll _) | with_reducible refine Bd ?_ | with_reducible refine FI ?_ | with_reducible refine EB ?_ | with_reducible refine Do ?_  | with_reducible refine DO ?_ ?_)),ax0,ax0⟩,(by rw [<- hF0];simp only [DG,h1,cond_true,cond_false])⟩
   rintro ⟨n1,v31_1,v31_3,v31_5,v5',v10⟩ ⟨hn,hinv,hF⟩
   have hm1:=hn;have hinv1:=hinv;have hF1:=hF;try dsimp only at hm1 hinv1 hF1
   clear hn hinv hF
   cases n1 with
   | zero=>exact absurd hm1 (Nat.not_lt_zero _)
   | succ n1 =>
    have hi1_0:=hinv1.1
    have hi1_1:=hinv1.2.1
    have hi1_2:=hinv1.2.2.1
    have hi1_3:=hinv1.2.2.2.1
    refine AA<|AA ?_
    refine rn ⟨(RU l v10),[(2,Z54),(6,Z5l l v6_4),(31,Z5Q v31_1 v31_3 v31_5),(91,.cells (AE.c v5') 94),(Eo v6_4),(2001,.row 2 v31_1.length (AV Ag.c v31_1) 121),(2002,.row 2 v31_3.length (AV Ag.c v31_3) 121),(2003,.row 2 v31_5.length (AV Ag.c v31_5) 121)]⟩ ?_
    refine AL (decide ((v10:Int)<(W64 (1+(AB (AB (AE.mk (Aa l 2) 0) 3).2 3).1)))) kr (fun h2 => ?_) (fun h2 => ?_)
    ·have g2:=oT h2
     have k2:=Ru g2 (by decide) (by decide) (by decide) (by decide)
     have kk2:=O1 g2 (by decide) (by decide) (by decide) (by decide)
     refine AQ<|AF ?_
     refine AA<|AM<|AA ?_
     refine rc [(105,PJ [Z55 l,Z56 l] (v6_4.getD v10.toNat default).Type')] [0<=(v10:Int)/\(v10:Int)<((v6_4.length:Nat):Int),v10.toNat<v6_4.length,As (PJ [Z55 l,Z56 l] (v6_4.getD v10.toNat default).Type').2.1] ⟨(G2 l [(10,tI v10),(11,tP 11 0)]),(FH l v6_4 v10 [(31,Z5Q v31_1 v31_3 v31_5),(91,.cells (AE.c v5') 94),(Eo v6_4),(2001,.row 2 v31_1.length (AV Ag.c v31_1) 121),(2002,.row 2 v31_3.length (AV Ag.c v31_3) 121),(2003,.row 2 v31_5.length (AV Ag.c v31_5) 121)])⟩ (.cons (WV [Z55 l,Z56 l] (v6_4.getD v10.toNat default).Type' au18) .nil) (.cons au19 (.cons au19 (.cons rfl .nil)))<|AF<|AA ?_
     refine rn ⟨(G2 l [(10,tI v10),(11,tP 11 0),(13,tI 0)]),(FH l v6_4 v10 [(31,Z5Q v31_1 v31_3 v31_5),(91,.cells (AE.c v5') 94),(Eo v6_4),(2001,.row 2 v31_1.length (AV Ag.c v31_1) 121),(2002,.row 2 v31_3.length (AV Ag.c v31_3) 121),(2003,.row 2 v31_5.length (AV Ag.c v31_5) 121)])⟩<|AM ?_
     refine BK (ι:=Nat×List Ag×List Ag×List Ag×AE×Int) (fun x=>⟨(G2 l [(10,tI v10),(11,tP 11 0),(13,tI x.2.2.2.2.2)]),(FH l v6_4 v10 [(31,.rowx 2 3 (fun _ _=>default) 69 [(0,[.s ({ data := #[78,49] }:ByteArray),.own 2001 2 x.2.1.length]),(1,[.s ({ data := #[78,50] }:ByteArray),.own 2002 2 x.2.2.1.length]),(2,[.s ({ data := #[71,78,68] }:ByteArray),.own 2003 2 x.2.2.2.1.length])]),(91,.cells (AE.c x.2.2.2.2.1) 94),(Eo v6_4),(2001,.row 2 x.2.1.length (AV Ag.c x.2.1) 121),(2002,.row 2 x.2.2.1.length (AV Ag.c x.2.2.1) 121),(2003,.row 2 x.2.2.2.1.length (AV Ag.c x.2.2.2.1) 121)])⟩) (fun x=>(((Z5A l v6_4 v10).Pads.length:Int)-x.2.2.2.2.2).toNat<x.1/\(Df x.2.1 (6*v10+x.2.2.2.2.2)/\Df x.2.2.1 (6*v10+x.2.2.2.2.2)/\Df x.2.2.2.1 (6*v10+x.2.2.2.2.2)/\Bz x.2.2.2.2.1/\0<=x.2.2.2.2.2/\(x.2.2.2.2.2<=((Z5A l v6_4 v10).Pads.length:Int)\/x.2.2.2.2.2=0))/\EU l v6_4 v5 v8 v31_1 v31_3 v31_5 v5' v10 (DG l n0) (D6 l v6_4 v5 v8 (DG l n0) n1) x.1 x.2.1 x.2.2.1 x.2.2.2.1 x.2.2.2.2.1 x.2.2.2.2.2=AP l) (fun x=>x.1) ?_ ((((Z5A l v6_4 v10).Pads.length:Int)-0).toNat+1,v31_1,v31_3,v31_5,v5',0) ⟨Nat.lt_succ_self _,⟨(by show Df v31_1 (6*v10+0);unfold Df at *;repeat (first | omega | exact FQ (by omega) | refine FP ?_ ?_ | (simp;done))),(by show Df v31_3 (6*v10+0);unfold Df at *;repeat (first | omega | exact FQ (by omega) | refine FP ?_ ?_ | (simp;done))),(by show Df v31_5 (6*v10+0);unfold Df at *;repeat (first | omega | exact FQ (by omega) | refine FP ?_ ?_ | (simp;done))),(by show Bz v5';repeat (first | with_reducible assumption | exact DA (Dv hll _) | with_reducible refine Bd ?_ | with_reducible refine FI ?_ | with_reducible refine EB ?_ | with_reducible refine Do ?_  | with_reducible refine DO ?_ ?_)),ax0,ax0⟩,(by rw [<- hF1];simp only [D6,h2,cond_true,cond_false])⟩
     rintro ⟨n2,v31_1',v31_3',v31_5',v5'',v13⟩ ⟨hn,hinv,hF⟩
     have hm2:=hn;have hinv2:=hinv;have hF2:=hF;try dsimp only at hm2 hinv2 hF2
     clear hn hinv hF
     cases n2 with
     | zero=>exact absurd hm2 (Nat.not_lt_zero _)
     | succ n2 =>
      have hi2_0:=hinv2.1
      have hi2_1:=hinv2.2.1
      have hi2_2:=hinv2.2.2.1
      have hi2_3:=hinv2.2.2.2.1
      have hp6:((Z5A l v6_4 v10).Pads.length:Int)<=6:=(hi0_1 v10 (by omega) (by omega)).2
      refine AA<|AA ?_
      refine rn ⟨(G2 l [(10,tI v10),(11,tP 11 0),(13,tI v13),(112,tB (decide ((v13:Int)<((Z5A l v6_4 v10).Pads.length:Int))))]),(FH l v6_4 v10 [(31,Z5R v31_1' v31_3' v31_5'),(91,.cells (AE.c v5'') 94),(Eo v6_4),(JS v31_1'),(JR v31_3'),(JQ v31_5')])⟩ ?_
      refine AL _ rfl (fun h3 => ?_) (fun h3 => ?_)
      ·have g3:=oT h3
       refine AQ<|AF<|AA ?_
       refine CR (⟨[(0,.av (oL l)),(2,tP 2 0),(4,tO (lst 3 BA.c [Z55 l,Z56 l])),(5,tP 91 0),(6,tP 6 0),(7,tI (W64 (1+(AB (G4 l).2 3).1))),(10,tI v10),(11,tP 11 0),(13,tI v13)],[(2,.cells GX 62),(6,.cells [.i 2,.i (Z5d l).Kind,lst 7 AG.c (Z5d l).Edges,.i (Z5d l).R,.own 2000 7 v6_4.length,.own 31 2 3,vN,vN,vN,vN,vN,vN,vN,vN,vN] 62),(jP l v6_4 v10),(31,.rowx 2 3 (fun _ _=>default) 69 [(0,[.s ({ data := #[78,49] }:ByteArray),.own 2004 2 (Z5F v5'' v31_1' v6_4 v10 l v13).length]),(1,[.s ({ data := #[78,50] }:ByteArray),.own 2005 2 (Z5G v5'' v31_3' v6_4 v10 l v13).length]),(2,[.s ({ data := #[71,78,68] }:ByteArray),.own 2006 2 (Z5H v5'' v31_5' v6_4 v10 l v13).length])]),(HU v5''),(Eo v6_4),(2004,.row 2 (Z5F v5'' v31_1' v6_4 v10 l v13).length (AV Ag.c (Z5F v5'' v31_1' v6_4 v10 l v13)) 121),(2005,.row 2 (Z5G v5'' v31_3' v6_4 v10 l v13).length (AV Ag.c (Z5G v5'' v31_3' v6_4 v10 l v13)) 121),(2006,.row 2 (Z5H v5'' v31_5' v6_4 v10 l v13).length (AV Ag.c (Z5H v5'' v31_5' v6_4 v10 l v13)) 121)]⟩) ?_ ?_
       ·refine AM<|AA ?_
        refine rb 116 (Z5B v5'') (.cells (AE.c v5'') 94) ⟨(G2 l [(10,tI v10),(11,tP 11 0),(13,tI v13),(14,tI (AB v5'' 5).1)]),(FH l v6_4 v10 [(31,Z5R v31_1' v31_3' v31_5'),(HU v5''),(Eo v6_4),(JS v31_1'),(JR v31_3'),(JQ v31_5')])⟩ (YD (fun _ _=>kr) kr kr (Bg v5'' 5 au7 au11))<|AF<|AA ?_
        refine rn ⟨(G2 l [(10,tI v10),(11,tP 11 0),(13,tI v13),(14,tI (AB v5'' 5).1),(118,tB (decide (((AB v5'' 5).1:Int)<3)))]),(FH l v6_4 v10 [(31,Z5R v31_1' v31_3' v31_5'),(HU v5''),(Eo v6_4),(JS v31_1'),(JR v31_3'),(JQ v31_5')])⟩ ?_
        refine AL _ rfl (fun h4 => ?_) (fun h4 => ?_)
        ·have g4:=oT h4
         refine NG (decide (((AB v5'' 5).1:Int)=0)) (fun h5 => ?_) (fun h5 => ?_)
         ·have g5:=oT h5
          (try rw [g5])
          refine dw [] [] [0<=(0:Int)/\(0:Int)<((3:Nat):Int),0<=(v10:Int)/\(v10:Int)<((v6_4.length:Nat):Int),v10.toNat<v6_4.length,0<=(v13:Int)/\(v13:Int)<(((Z5A l v6_4 v10).Pads.length:Nat):Int),v31_1'.length=v31_1'.length,v31_1'.length+1<=maxLen,(v31_1'.length+1)*32<=140737488355328,0<=(0:Int)/\(0:Int)<((3:Nat):Int)] ⟨(KR l v10 v13),(FH l v6_4 v10 [(31,.rowx 2 3 (fun _ _=>default) 69 [(0,[.s ({ data := #[78,49] }:ByteArray),.own 142 2 (v31_1'.length+1)]),(1,[.s ({ data := #[78,50] }:ByteArray),.own 2002 2 v31_3'.length]),(2,[.s ({ data := #[71,78,68] }:ByteArray),.own 2003 2 v31_5'.length])]),(HU v5''),(142,.row 2 (v31_1'.length+1) (fun i_ j_=>if i_<v31_1'.length then (AV Ag.c v31_1') i_ j_ else (US v6_4 v10 l v13) (i_-v31_1'.length) j_) 121),(Eo v6_4),(JR v31_3'),(JQ v31_5')])⟩ .nil (.cons au19 (.cons au19 (.cons au19 (.cons au19 (.cons rfl (.cons au22 (.cons au22 (.cons au19 .nil))))))))<|A0<|AF ?_
          refine Cv.trans (C1 (⟨(KR l v10 v13),(FH l v6_4 v10 [(31,.rowx 2 3 (fun _ _=>default) 69 [(0,[.s ({ data := #[78,49] }:ByteArray),.own 142 2 (v31_1'++(I4 v6_4 v10 l v13)).length]),(1,[.s ({ data := #[78,50] }:ByteArray),.own 2002 2 v31_3'.length]),(2,[.s ({ data := #[71,78,68] }:ByteArray),.own 2003 2 v31_5'.length])]),(HU v5''),(142,Z5C v31_1' v6_4 v10 l v13),(Eo v6_4),(JR v31_3'),(JQ v31_5')])⟩) lr (.cons ⟨rfl,.refl _⟩ (.cons ⟨rfl,.refl _⟩ (.cons ⟨rfl,.refl _⟩ (.cons ⟨rfl,.rowx _ _ _ _ (.cons ⟨rfl,(rr (.cons (.own _ _ au16) .nil))⟩ (.cons ⟨rfl,(rr (rr .nil))⟩ (.cons ⟨rfl,(rr (rr .nil))⟩ .nil)))⟩ (.cons ⟨rfl,.refl _⟩ (.cons ⟨rfl,CX 121 (Ar (Af 2 Ag.c v31_1') (BR (c:=Ag.c) (xs:=([Ag.mk (v6_4.getD v10.toNat default).Ref ((Z5A l v6_4 v10).Pads.getD v13.toNat default).Name]:List Ag)) rfl kr))⟩ lr))))))) (Cv.trans (vr 142 2004 (K:=[]) (fun k x h=>by cases h)) (Cv.trans (vr 2002 2005 (K:=[]) (fun k x h=>by cases h)) (Cv.trans (vr 2003 2006 (K:=[]) (fun k x h=>by cases h)) (Cv.trans (ck (⟨(KR l v10 v13),(FH l v6_4 v10 [(31,Z5S v31_1' v6_4 v10 l v13 v31_3' v31_5'),(HU v5''),(Eo v6_4),(2004,Z5C v31_1' v6_4 v10 l v13),(2005,.row 2 v31_3'.length (AV Ag.c v31_3') 121),(2006,.row 2 v31_5'.length (AV Ag.c v31_5') 121)])⟩)) (BG ?_)))))
          first | rfl | (simp only [h4,h5,Z5F,Z5G,Z5H,cond_true,cond_false] <;> rfl)
         ·have g5:=oF h5
          refine NG (decide (((AB v5'' 5).1:Int)=1)) (fun h6 => ?_) (fun h6 => ?_)
          ·have g6:=oT h6
           (try rw [g6])
           refine dw [] [] [0<=(1:Int)/\(1:Int)<((3:Nat):Int),0<=(v10:Int)/\(v10:Int)<((v6_4.length:Nat):Int),v10.toNat<v6_4.length,0<=(v13:Int)/\(v13:Int)<(((Z5A l v6_4 v10).Pads.length:Nat):Int),v31_3'.length=v31_3'.length,v31_3'.length+1<=maxLen,(v31_3'.length+1)*32<=140737488355328,0<=(1:Int)/\(1:Int)<((3:Nat):Int)] ⟨(KR l v10 v13),(FH l v6_4 v10 [(31,.rowx 2 3 (fun _ _=>default) 69 [(0,[.s ({ data := #[78,49] }:ByteArray),.own 2001 2 v31_1'.length]),(1,[.s ({ data := #[78,50] }:ByteArray),.own 142 2 (v31_3'.length+1)]),(2,[.s ({ data := #[71,78,68] }:ByteArray),.own 2003 2 v31_5'.length])]),(HU v5''),(142,.row 2 (v31_3'.length+1) (fun i_ j_=>if i_<v31_3'.length then (AV Ag.c v31_3') i_ j_ else (US v6_4 v10 l v13) (i_-v31_3'.length) j_) 121),(Eo v6_4),(JS v31_1'),(JQ v31_5')])⟩ .nil (.cons au19 (.cons au19 (.cons au19 (.cons au19 (.cons rfl (.cons au22 (.cons au22 (.cons au19 .nil))))))))<|A0<|AF ?_
           refine Cv.trans (C1 (⟨(KR l v10 v13),(FH l v6_4 v10 [(31,.rowx 2 3 (fun _ _=>default) 69 [(0,[.s ({ data := #[78,49] }:ByteArray),.own 2001 2 v31_1'.length]),(1,[.s ({ data := #[78,50] }:ByteArray),.own 142 2 (v31_3'++(I4 v6_4 v10 l v13)).length]),(2,[.s ({ data := #[71,78,68] }:ByteArray),.own 2003 2 v31_5'.length])]),(HU v5''),(142,Z5D v31_3' v6_4 v10 l v13),(Eo v6_4),(JS v31_1'),(JQ v31_5')])⟩) lr (.cons ⟨rfl,.refl _⟩ (.cons ⟨rfl,.refl _⟩ (.cons ⟨rfl,.refl _⟩ (.cons ⟨rfl,.rowx _ _ _ _ (.cons ⟨rfl,(rr (rr .nil))⟩ (.cons ⟨rfl,(rr (.cons (.own _ _ au16) .nil))⟩ (.cons ⟨rfl,(rr (rr .nil))⟩ .nil)))⟩ (.cons ⟨rfl,.refl _⟩ (.cons ⟨rfl,CX 121 (Ar (Af 2 Ag.c v31_3') (BR (c:=Ag.c) (xs:=([Ag.mk (v6_4.getD v10.toNat default).Ref ((Z5A l v6_4 v10).Pads.getD v13.toNat default).Name]:List Ag)) rfl kr))⟩ lr))))))) (Cv.trans (vr 2001 2004 (K:=[]) (fun k x h=>by cases h)) (Cv.trans (vr 142 2005 (K:=[]) (fun k x h=>by cases h)) (Cv.trans (vr 2003 2006 (K:=[]) (fun k x h=>by cases h)) (Cv.trans (ck (⟨(KR l v10 v13),(FH l v6_4 v10 [(31,Z5T v31_1' v31_3' v6_4 v10 l v13 v31_5'),(HU v5''),(Eo v6_4),(2004,.row 2 v31_1'.length (AV Ag.c v31_1') 121),(2005,Z5D v31_3' v6_4 v10 l v13),(2006,.row 2 v31_5'.length (AV Ag.c v31_5') 121)])⟩)) (BG ?_)))))
           first | rfl | (simp only [h4,h5,h6,Z5F,Z5G,Z5H,cond_true,cond_false] <;> rfl)
          ·have g6:=oF h6
           have g7:((AB v5'' 5).1:Int)=2:=Xp (by with_reducible assumption) (by with_reducible assumption) (by with_reducible assumption)
           (try rw [g7])
           refine dw [] [] [0<=(2:Int)/\(2:Int)<((3:Nat):Int),0<=(v10:Int)/\(v10:Int)<((v6_4.length:Nat):Int),v10.toNat<v6_4.length,0<=(v13:Int)/\(v13:Int)<(((Z5A l v6_4 v10).Pads.length:Nat):Int),v31_5'.length=v31_5'.length,v31_5'.length+1<=maxLen,(v31_5'.length+1)*32<=140737488355328,0<=(2:Int)/\(2:Int)<((3:Nat):Int)] ⟨(KR l v10 v13),(FH l v6_4 v10 [(31,.rowx 2 3 (fun _ _=>default) 69 [(0,[.s ({ data := #[78,49] }:ByteArray),.own 2001 2 v31_1'.length]),(1,[.s ({ data := #[78,50] }:ByteArray),.own 2002 2 v31_3'.length]),(2,[.s ({ data := #[71,78,68] }:ByteArray),.own 142 2 (v31_5'.length+1)])]),(HU v5''),(142,.row 2 (v31_5'.length+1) (fun i_ j_=>if i_<v31_5'.length then (AV Ag.c v31_5') i_ j_ else (US v6_4 v10 l v13) (i_-v31_5'.length) j_) 121),(Eo v6_4),(JS v31_1'),(JR v31_3')])⟩ .nil (.cons au19 (.cons au19 (.cons au19 (.cons au19 (.cons rfl (.cons au22 (.cons au22 (.cons au19 .nil))))))))<|A0<|AF ?_
           refine Cv.trans (C1 (⟨(KR l v10 v13),(FH l v6_4 v10 [(31,.rowx 2 3 (fun _ _=>default) 69 [(0,[.s ({ data := #[78,49] }:ByteArray),.own 2001 2 v31_1'.length]),(1,[.s ({ data := #[78,50] }:ByteArray),.own 2002 2 v31_3'.length]),(2,[.s ({ data := #[71,78,68] }:ByteArray),.own 142 2 (v31_5'++(I4 v6_4 v10 l v13)).length])]),(HU v5''),(142,Z5E v31_5' v6_4 v10 l v13),(Eo v6_4),(JS v31_1'),(JR v31_3')])⟩) lr (.cons ⟨rfl,.refl _⟩ (.cons ⟨rfl,.refl _⟩ (.cons ⟨rfl,.refl _⟩ (.cons ⟨rfl,.rowx _ _ _ _ (.cons ⟨rfl,(rr (rr .nil))⟩ (.cons ⟨rfl,(rr (rr .nil))⟩ (.cons ⟨rfl,(rr (.cons (.own _ _ au16) .nil))⟩ .nil)))⟩ (.cons ⟨rfl,.refl _⟩ (.cons ⟨rfl,CX 121 (Ar (Af 2 Ag.c v31_5') (BR (c:=Ag.c) (xs:=([Ag.mk (v6_4.getD v10.toNat default).Ref ((Z5A l v6_4 v10).Pads.getD v13.toNat default).Name]:List Ag)) rfl kr))⟩ lr))))))) (Cv.trans (vr 2001 2004 (K:=[]) (fun k x h=>by cases h)) (Cv.trans (vr 2002 2005 (K:=[]) (fun k x h=>by cases h)) (Cv.trans (vr 142 2006 (K:=[]) (fun k x h=>by cases h)) (Cv.trans (ck (⟨(KR l v10 v13),(FH l v6_4 v10 [(31,Z5U v31_1' v31_3' v31_5' v6_4 v10 l v13),(HU v5''),(Eo v6_4),(2004,.row 2 v31_1'.length (AV Ag.c v31_1') 121),(2005,.row 2 v31_3'.length (AV Ag.c v31_3') 121),(2006,Z5E v31_5' v6_4 v10 l v13)])⟩)) (BG ?_)))))
           first | rfl | (simp only [h4,h5,h6,Z5F,Z5G,Z5H,cond_true,cond_false] <;> rfl)
        ·have g4:=oF h4
         refine AQ<|A0<|AF ?_
         refine Cv.trans (vk [0,2,4,5,6,7,10,11,13] [2,6,11,31,91,2000,2001,2002,2003]) (Cv.trans (vr 2001 2004 (K:=[]) (fun k x h=>by cases h)) (Cv.trans (vr 2002 2005 (K:=[]) (fun k x h=>by cases h)) (Cv.trans (wr (⟨(KR l v10 v13),(FH l v6_4 v10 [(31,.rowx 2 3 (fun _ _=>default) 69 [(0,[.s ({ data := #[78,49] }:ByteArray),.own 2004 2 v31_1'.length]),(1,[.s ({ data := #[78,50] }:ByteArray),.own 2005 2 v31_3'.length]),(2,[.s ({ data := #[71,78,68] }:ByteArray),.own 2006 2 v31_5'.length])]),(HU v5''),(Eo v6_4),(2004,.row 2 v31_1'.length (AV Ag.c v31_1') 121),(2005,.row 2 v31_3'.length (AV Ag.c v31_3') 121),(2006,.row 2 v31_5'.length (AV Ag.c v31_5') 121)])⟩) 2003 2006 (K:=[]) (fun k x h=>by cases h)) (BG ?_))))
         first | rfl | (simp only [h4,Z5F,Z5G,Z5H,cond_true,cond_false] <;> rfl)
       refine rg ⟨(G2 l [(10,tI v10),(11,tP 11 0),(13,tI (W64 (v13+1)))]),(FH l v6_4 v10 [(31,.rowx 2 3 (fun _ _=>default) 69 [(0,[.s ({ data := #[78,49] }:ByteArray),.own 2004 2 (Z5F v5'' v31_1' v6_4 v10 l v13).length]),(1,[.s ({ data := #[78,50] }:ByteArray),.own 2005 2 (Z5G v5'' v31_3' v6_4 v10 l v13).length]),(2,[.s ({ data := #[71,78,68] }:ByteArray),.own 2006 2 (Z5H v5'' v31_5' v6_4 v10 l v13).length])]),(HU v5''),(Eo v6_4),(2004,Z5I v5'' v31_1' v6_4 v10 l v13),(2005,Z5J v5'' v31_3' v6_4 v10 l v13),(2006,Z5K v5'' v31_5' v6_4 v10 l v13)])⟩ ?_
       (try rw [(show W64 (v13+1)=v13+1 from Ap (by omega) au8)])
       refine AF ?_
       refine ⟨(n2,Z5F v5'' v31_1' v6_4 v10 l v13,Z5G v5'' v31_3' v6_4 v10 l v13,Z5H v5'' v31_5' v6_4 v10 l v13,(AB v5'' 5).2,v13+1),⟨?_,?_,(by rw [<- hF2];simp only [EU,h3,cond_true,cond_false])⟩,Nat.lt_succ_self _,Cv.trans (vr 2004 2001 (K:=[]) (fun k x h=>by cases h)) (Cv.trans (vr 2005 2002 (K:=[]) (fun k x h=>by cases h)) (Cv.trans (vr 2006 2003 (K:=[]) (fun k x h=>by cases h)) (BG kr)))⟩
       ·show (((Z5A l v6_4 v10).Pads.length:Int)-(v13+1)).toNat<n2;omega
       ·exact ⟨(by show Df (Z5F v5'' v31_1' v6_4 v10 l v13) (6*v10+(v13+1));unfold Df at *;repeat (first | omega | exact FQ (by omega) | refine FP ?_ ?_ | (simp;done))),(by show Df (Z5G v5'' v31_3' v6_4 v10 l v13) (6*v10+(v13+1));unfold Df at *;repeat (first | omega | exact FQ (by omega) | refine FP ?_ ?_ | (simp;done))),(by show Df (Z5H v5'' v31_5' v6_4 v10 l v13) (6*v10+(v13+1));unfold Df at *;repeat (first | omega | exact FQ (by omega) | refine FP ?_ ?_ | (simp;done))),(by show Bz ((AB v5'' 5).2);repeat (first | with_reducible assumption | exact DA (Dv hll _) | with_reducible refine Bd ?_ | with_reducible refine FI ?_ | with_reducible refine EB ?_ | with_reducible refine Do ?_  | with_reducible refine DO ?_ ?_)),ax0,ax0⟩
      ·have g3:=oF h3
       refine BH<|A7 ?_
       refine A7<|BI ?_
       refine A0<|AF ?_
       refine rg ⟨(G2 l [(10,tI (W64 (v10+1)))]),[(2,Z54),(6,Z5l l v6_4),(31,Z5R v31_1' v31_3' v31_5'),(91,.cells (AE.c v5'') 94),(Eo v6_4),(JS v31_1'),(JR v31_3'),(JQ v31_5')]⟩ ?_
       (try rw [(show W64 (v10+1)=v10+1 from Ap (by omega) au8)])
       refine AF ?_
       refine ⟨(n1,v31_1',v31_3',v31_5',v5'',v10+1),⟨?_,?_,(by rw [<- hF2];simp only [EU,h3,cond_true,cond_false])⟩,Nat.lt_succ_self _,BG kr⟩
       ·show ((W64 (1+(AB (AB (AE.mk (Aa l 2) 0) 3).2 3).1))-(v10+1)).toNat<n1;omega
       ·exact ⟨(by show Df v31_1' (6*(v10+1));unfold Df at *;repeat (first | omega | exact FQ (by omega) | refine FP ?_ ?_ | (simp;done))),(by show Df v31_3' (6*(v10+1));unfold Df at *;repeat (first | omega | exact FQ (by omega) | refine FP ?_ ?_ | (simp;done))),(by show Df v31_5' (6*(v10+1));unfold Df at *;repeat (first | omega | exact FQ (by omega) | refine FP ?_ ?_ | (simp;done))),(by show Bz v5'';repeat (first | with_reducible assumption | exact DA (Dv hll _) | with_reducible refine Bd ?_ | with_reducible refine FI ?_ | with_reducible refine EB ?_ | with_reducible refine Do ?_  | with_reducible refine DO ?_ ?_)),ax0,ax0⟩
    ·have g2:=oF h2
     have k2:=R2 g2 (by decide) (by decide) (by decide) (by decide)
     refine BH<|A7 ?_
     refine A7<|BI ?_
     refine AF<|AA ?_
     refine Al (Cv.trans (I8 (⟨(RU l v10),[(2,Z54),(6,Z5y l v6_4),(31,Z5Q v31_1 v31_3 v31_5),(91,.cells (AE.c v5') 94),(2001,.row 2 v31_1.length (AV Ag.c v31_1) 121),(2002,.row 2 v31_3.length (AV Ag.c v31_3) 121),(2003,.row 2 v31_5.length (AV Ag.c v31_5) 121)]⟩) 2000 (K:=[]) (fun k x h=>by cases h)) (Cv.refl _)) ?_
     refine Al (Cv.trans (vf 2001 (K:=[]) (fun k x h=>by cases h)) (Cv.trans (vf 2002 (K:=[]) (fun k x h=>by cases h)) (Cv.trans (I8 (⟨(RU l v10),[(2,Z54),(6,Z5y l v6_4),(31,.rowx 2 3 (fun _ _=>default) 69 [(0,[.s ({ data := #[78,49] }:ByteArray),lst 2 Ag.c v31_1]),(1,[.s ({ data := #[78,50] }:ByteArray),lst 2 Ag.c v31_3]),(2,[.s ({ data := #[71,78,68] }:ByteArray),lst 2 Ag.c v31_5])]),(91,.cells (AE.c v5') 94)]⟩) 2003 (K:=[]) (fun k x h=>by cases h)) (Cv.trans (HI (⟨(RU l v10),[(2,Z54),(6,Z5y l v6_4),(31,.row 2 3 (BF 2 3 [.s ({ data := #[78,49] }:ByteArray),lst 2 Ag.c v31_1,.s ({ data := #[78,50] }:ByteArray),lst 2 Ag.c v31_3,.s ({ data := #[71,78,68] }:ByteArray),lst 2 Ag.c v31_5]) 69),(91,.cells (AE.c v5') 94)]⟩) 31 2 3 (fun _ _=>default) 69 [[.s ({ data := #[78,49] }:ByteArray),lst 2 Ag.c v31_1],[.s ({ data := #[78,50] }:ByteArray),lst 2 Ag.c v31_3],[.s ({ data := #[71,78,68] }:ByteArray),lst 2 Ag.c v31_5]] kr kr kr kr) (Cv.trans (A6 31 (A1 2 A9.c ([A9.mk ({ data := #[78,49] }:ByteArray) v31_1,A9.mk ({ data := #[78,50] }:ByteArray) v31_3,A9.mk ({ data := #[71,78,68] }:ByteArray) v31_5]:List A9))) (Cv.trans (I8 (⟨(RU l v10),[(2,Z54),(6,.cells [.i 2,.i (Z5d l).Kind,lst 7 AG.c (Z5d l).Edges,.i (Z5d l).R,lst 7 AU.c v6_4,lst 2 A9.c [A9.mk ({ data := #[78,49] }:ByteArray) v31_1,A9.mk ({ data := #[78,50] }:ByteArray) v31_3,A9.mk ({ data := #[71,78,68] }:ByteArray) v31_5],vN,vN,vN,vN,vN,vN,vN,vN,vN] 62),(91,.cells (AE.c v5') 94)]⟩) 31 (K:=[]) (fun k x h=>by cases h)) (Cv.refl _))))))) ?_
     refine rb 147 (Z5M l v6_4 v31_1 v31_3 v31_5) (.cells [.i 2,.i (Z5d l).Kind,lst 7 AG.c (Z5d l).Edges,.i (Z5d l).R,lst 7 AU.c v6_4,lst 2 A9.c [A9.mk ({ data := #[78,49] }:ByteArray) v31_1,A9.mk ({ data := #[78,50] }:ByteArray) v31_3,A9.mk ({ data := #[71,78,68] }:ByteArray) v31_5],vN,vN,vN,vN,vN,vN,vN,vN,vN] 62) ⟨[(0,Z53 l),(2,tP 2 0),(4,Z57 l),(6,tP 6 0)],[(2,Z54),(6,.cells (V9 l v6_4 v31_1 v31_3 v31_5) 62)]⟩ (YD (fun _ _=>kr) kr kr (VC (AC.mk 2 (Z5d l) v6_4 [A9.mk ({ data := #[78,49] }:ByteArray) v31_1,A9.mk ({ data := #[78,50] }:ByteArray) v31_3,A9.mk ({ data := #[71,78,68] }:ByteArray) v31_5] [] [] [] [] [] [] [] [] []) [Z55 l,Z56 l] l au18 au18 au18 au18 au18 au18))<|AF<|AA ?_
     refine rc [(149,E3 l 7),(152,(Z5O l v6_4 v31_1 v31_3 v31_5))] [As (E3 l 7).2.1,As (Z5O l v6_4 v31_1 v31_3 v31_5).2.1,eJ [.cells (V9 l v6_4 v31_1 v31_3 v31_5) 62,.cells [lst 1 (fun x=>[.i x]) (Aa l 7),.i 0] 94]] ⟨[(2,tP 2 0),(4,Z57 l),(6,tP 6 0)],[(2,Z54),(6,.cells (AC.c (Z5N l v6_4 v31_1 v31_3 v31_5).1) 62)]⟩ (.cons (GP l 7 au18) (.cons (Vo (fun _ _=>kr) kr rfl rfl kr kr (aD (AC.mk (Z5L l v6_4 v31_1 v31_3 v31_5).Layers (Z5L l v6_4 v31_1 v31_3 v31_5).Outline (Z5L l v6_4 v31_1 v31_3 v31_5).Parts (Z5L l v6_4 v31_1 v31_3 v31_5).Nets (Z5L l v6_4 v31_1 v31_3 v31_5).Tracks (Z5L l v6_4 v31_1 v31_3 v31_5).Vias (Z5L l v6_4 v31_1 v31_3 v31_5).Pours (Z5L l v6_4 v31_1 v31_3 v31_5).Keeps (Z5L l v6_4 v31_1 v31_3 v31_5).Slots [] [] [] []) (AE.mk (Aa l 7) 0) au7 au18 au18 au18 au18 au18 au18 au18)) .nil)) (.cons rfl (.cons rfl (.cons rfl .nil)))<|AF<|AA ?_
     refine rn ⟨[(2,tP 2 0),(3,Z57 l)],[(2,.cells (AC.c (Z5N l v6_4 v31_1 v31_3 v31_5).1) 62)]⟩<|AR ?_
     exact xl (.tup [.agg (AC.c (Z5N l v6_4 v31_1 v31_3 v31_5).1),.one (lst 3 BA.c [Z55 l,Z56 l])]) (BX (by rw [<- hF1];first | (simp only [D6,h2,cond_true,cond_false] <;> rfl)))
theorem aZ (l:(List (List Int))) (hl:(l.length:Int)<=9223372036854775807) (hll:∀ x∈l,(x.length:Int)<=9223372036854775807):OKc (R9 l):=cPu<|gE l hl hll
end
abbrev nN1:ByteArray:={ data := #[78,49] }
abbrev nN2:ByteArray:={ data := #[78,50] }
abbrev gT:ByteArray:={ data := #[71,78,68] }
structure HN (B:AC):Prop where
 lay:B.Layers=2
 par:1<=(B.Parts.length:Int)/\(B.Parts.length:Int)<=3
 net:∃ p q r,B.Nets=[A9.mk nN1 p,A9.mk nN2 q,A9.mk gT r]
 trk:(B.Tracks.length:Int)<=6
 edg:∀ t∈B.Tracks,(t.Shape.Edges.length:Int)<=2
 via:(B.Vias.length:Int)<=3
 pou:(B.Pours.length:Int)<=2
 kee:(B.Keeps.length:Int)<=1
 slo:(B.Slots.length:Int)<=1
theorem mJ {α:Type} {c:Bool} {a b:AC×α} (h:HN a.1) (k:HN b.1):HN (bif c then a else b).1:=by cases c <;> assumption
theorem fB {b:AC} {d:AE} (h:HN b):HN (DB b d).1:=by
 unfold DB
 obtain ⟨h1,h2,h3,h4,h5,h6,h7,h8,h9⟩:=h
 exact mJ ⟨h1,h2,h3,h4,h5,h6,h7,h8,h9⟩ ⟨h1,h2,h3,h4,h5,h6,h7,h8,h9⟩
theorem mE {b:AC} {types:List BA} {l:List (List Int)} {x y z w:List Unit} (h1:b.Layers=2) (h2:1<=(b.Parts.length:Int)/\(b.Parts.length:Int)<=3) (h3:∃ p q r,b.Nets=[A9.mk nN1 p,A9.mk nN2 q,A9.mk gT r]) {c:List BE} {ru:List Az} {wa:List An} {ma:List AN} :
  HN (AC.mk (BS b types l).Layers (BS b types l).Outline (BS b types l).Parts (BS b types l).Nets (BS b types l).Tracks (BS b types l).Vias (BS b types l).Pours (BS b types l).Keeps (BS b types l).Slots c ru wa ma):=by
 obtain ⟨k1,k2,k3,k4,k5,k6,k7,k8,k9,k10⟩:=Gl b types l
 exact ⟨k1.trans h1,by show 1<=((BS b types l).Parts.length:Int)/\((BS b types l).Parts.length:Int)<=3;rw [k3];exact h2,by rw [<- k4] at h3;exact h3,k5,k6,k7,k8,k9,k10⟩
theorem Wi (l:List (List Int)) (v6_4:List AU) (v5:AE) (v8:Int) (a1 a3 a5:List Ag) (d1:AE) (v10:Int) (K0:List AU->AE->Int->(AC×(List BA))) (K1:List Ag->List Ag->List Ag->AE->Int->(AC×(List BA))) (hK:∀ a b c d,HN (K1 a b c d (v10+1)).1):∀ (n:Nat) (x y z:List Ag) (d:AE) (k:Int),0<=k->(((CJ [BQ (Aa l 0) ({ data := #[82] }:ByteArray),BQ (Aa l 1) ({ data := #[81] }:ByteArray)] (v6_4.getD v10.toNat default).Type').1.Pads.length:Int)-k).toNat<n->HN (EU l v6_4 v5 v8 a1 a3 a5 d1 v10 K0 K1 n x y z d k).1
 | 0,x,y,z,d,k,_,h=>absurd h (Nat.not_lt_zero _)
 | n+1,x,y,z,d,k,k0,h=>by
  unfold EU
  show HN (bif decide ((k:Int)<((CJ [BQ (Aa l 0) ({ data := #[82] }:ByteArray),BQ (Aa l 1) ({ data := #[81] }:ByteArray)] (v6_4.getD v10.toNat default).Type').1.Pads.length:Int)) then (_:AC×List BA) else _).1
  by_cases hc:(k:Int)<((CJ [BQ (Aa l 0) ({ data := #[82] }:ByteArray),BQ (Aa l 1) ({ data := #[81] }:ByteArray)] (v6_4.getD v10.toNat default).Type').1.Pads.length:Int)
  ·rw [decide_eq_true hc]
   exact Wi l v6_4 v5 v8 a1 a3 a5 d1 v10 K0 K1 hK n _ _ _ _ _ (by omega) (by omega)
  rw [decide_eq_false hc]
  exact hK _ _ _ _
theorem Wj (l:List (List Int)) (v6_4:List AU) (v5:AE) (v8:Int) (K0:List AU->AE->Int->(AC×(List BA))) (hp:1<=(v6_4.length:Int)/\(v6_4.length:Int)<=3):∀ (n:Nat) (x y z:List Ag) (d:AE) (k:Int),0<=k->(W64 (1+(AB (AB (AE.mk (Aa l 2) 0) 3).2 3).1)-k).toNat<n->HN (D6 l v6_4 v5 v8 K0 n x y z d k).1
 | 0,x,y,z,d,k,_,h=>absurd h (Nat.not_lt_zero _)
 | n+1,x,y,z,d,k,k0,h=>by
  unfold D6
  by_cases hc:k<W64 (1+(AB (AB (AE.mk (Aa l 2) 0) 3).2 3).1)
  ·simp only [hc,decide_true,cond_true]
   exact Wi l v6_4 v5 v8 x y z d k K0 _ (fun a b c e=>Wj l v6_4 v5 v8 K0 hp n a b c e (k+1) (by omega) (by omega)) _ _ _ _ _ 0 (by omega) (Nat.lt_succ_self _)
  simp only [hc,decide_false,cond_false]
  exact fB (mE (x:=[]) (y:=[]) (z:=[]) (w:=[]) rfl hp ⟨_,_,_,rfl⟩)
theorem Wk (l:List (List Int)):∀ (n:Nat) (v:List AU) (d:AE) (k:Int),0<=k->(v.length:Int)=k->k<=W64 (1+(AB (AB (AE.mk (Aa l 2) 0) 3).2 3).1)->(W64 (1+(AB (AB (AE.mk (Aa l 2) 0) 3).2 3).1)-k).toNat<n->HN (DG l n v d k).1
 | 0,v,d,k,_,_,_,h=>absurd h (Nat.not_lt_zero _)
 | n+1,v,d,k,k0,kv,k1,h=>by
  have hmany:1<=W64 (1+(AB (AB (AE.mk (Aa l 2) 0) 3).2 3).1)/\W64 (1+(AB (AB (AE.mk (Aa l 2) 0) 3).2 3).1)<=3:=by
   have:=Dl (AB (AE.mk (Aa l 2) 0) 3).2 3 (by decide) (by decide)
   rw [Ap (by omega) (by omega)];omega
  unfold DG
  by_cases hc:k<W64 (1+(AB (AB (AE.mk (Aa l 2) 0) 3).2 3).1)
  ·simp only [hc,decide_true,cond_true]
   exact Wk l n _ _ _ (by omega) (by simp only [List.length_append,List.length_cons,List.length_nil];omega) (by omega) (by omega)
  simp only [hc,decide_false,cond_false]
  exact Wj l v d k _ (by omega) _ _ _ _ _ 0 (by omega) (Nat.lt_succ_self _)
theorem bO (l:List (List Int)):HN (AP l).1:=by
 have hmany:1<=W64 (1+(AB (AB (AE.mk (Aa l 2) 0) 3).2 3).1):=by
  have:=Dl (AB (AE.mk (Aa l 2) 0) 3).2 3 (by decide) (by decide)
  rw [Ap (by omega) (by omega)];omega
 unfold AP
 exact Wk l _ _ _ 0 (by omega) rfl (by omega) (Nat.lt_succ_self _)
section
open Go.RowKit
theorem Nh {α:Type} [Inhabited α] {p:α->Prop} {l:List α} (hd:p default) (h:∀ x∈l,p x) (k:Nat):p (l.getD k default):=by
 rw [List.getD_eq_getElem?_getD]
 cases hk:l[k]? with
 | none=>exact hd
 | some x=>exact h x (List.mem_of_getElem? hk)
def Be (op:Int) (tx:ByteArray) (n:Int) (bx:Ah):Bl:=Bl.mk op tx n bx (OpL.mk 0 (fun _ _=>default))
abbrev KP:Nat×Blk:=(2,.cells [.i 0,.s (⟨#[]⟩),.i 0,.i 0,.i 0,.i 0,.i 0,vN] 144)
variable (xop:Int) (xtx:ByteArray) (xn op yop:Int) (tx:ByteArray) (xbx:Ah) (ytx:ByteArray) (n yn:Int) (bx:Ah) (c:Bl) (f:Nat->Cl) (ybx:Ah)
abbrev IE (t_:List Cl):List Cl:=(.i op)::(.s tx)::(.i n)::(.i bx.X0)::(.i bx.Y0)::(.i bx.X1)::(.i bx.Y1)::t_
abbrev MP:List Cl:=(IE op tx n bx [vN])
theorem Rj  (op:Int) (tx:ByteArray) (n:Int) (bx:Ah):HT Try.prog 86 [.agg [.i op,.s tx,.i n,.i bx.X0,.i bx.Y0,.i bx.X1,.i bx.Y1,vN]] (.av (.agg (Bl.c (Be op tx n bx)))):=by
 refine pwf Try.func86 fun W0 M0 => ?_
 exact AA<|on<|AA<|on<|AA<|on<|AA<|AA<|rn ⟨[(1,tP 1 0),(2,tP 2 0),(3,.av (.one vN)),(4,tI 0)],[(1,.cells (MP op tx n bx) 144),KP]⟩<|AM<|Dr 1<|Ba<|AA<|AA<|on<|Ak kr<|BH<|A7<|A7<|BI<|AF<|AA<|on<|AR<|xl (.av (.agg (MP op tx n bx))) (Dk (y:=.av (.agg (IE op tx n bx [opL (OpL.mk 0 (fun _ _=>default))]))) (.av (.agg (rr5 (rr2 (.cons (.nil _ _) .nil))))) (by rfl))
abbrev OB:List Cl:=[.i xop,.s xtx,.i xn,.i xbx.X0,.i xbx.Y0,.i xbx.X1,.i xbx.Y1,vN]
def Z5V:CT:=(86,[.agg (OB xop xtx xn xbx)],.val [] (.av (.agg (Bl.c (Be xop xtx xn xbx)))))
def jL (xop:Int) (xtx:ByteArray) (xn:Int) (xbx:Ah) (op:Int) (tx:ByteArray) (n:Int) (bx:Ah):Bl:=Bl.mk op tx n bx (OpL.mk ([Be xop xtx xn xbx].length) (AV Bl.c [Be xop xtx xn xbx]))
theorem gA  (xop:Int) (xtx:ByteArray) (xn:Int) (xbx:Ah) (op:Int) (tx:ByteArray) (n:Int) (bx:Ah):HT Try.prog 86 [.agg [.i op,.s tx,.i n,.i bx.X0,.i bx.Y0,.i bx.X1,.i bx.Y1,.list false 8 1 (BF 8 1 [.i xop,.s xtx,.i xn,.i xbx.X0,.i xbx.Y0,.i xbx.X1,.i xbx.Y1,vN])]] (.av (.agg (Bl.c (jL xop xtx xn xbx op tx n bx)))):=by
 refine pwf Try.func86 fun W0 M0 => ?_
 refine AA<|on<|AA<|on<|AA<|on<|AA<|AA<|rn ⟨[(1,tP 1 0),(2,tP 2 0),(3,.av (.one (.list false 8 1 (BF 8 1 (OB xop xtx xn xbx))))),(4,tI 0)],[(1,.cells (MP op tx n bx) 144),KP]⟩<|AM<|Dr 2<|Ba<|AA<|AA<|on<|Bq kr<|AQ<|AF<|AA<|AM<|od [] [(20,(Z5V xop xtx xn xbx))] [0<=(0:Int)/\(0:Int)<((1:Nat):Int),As (Z5V xop xtx xn xbx).2.1,1<=maxLen,1*88<=140737488355328] (.cons (cPu<|Rj xop xtx xn xbx) .nil) (.cons au1 (.cons rfl (.cons au3 (.cons au3 .nil))))<|A0<|AF<|Al (A6 22 (A1 8 Bl.c ([Be xop xtx xn xbx]:List Bl)))<|rn ⟨[(1,tP 1 0),(2,tP 2 0),(3,.av (.one (.list false 8 1 (BF 8 1 (OB xop xtx xn xbx))))),(4,tI 1)],[(1,.cells (IE op tx n bx [.own 22 8 ([Be xop xtx xn xbx].length)]) 144),KP,(22,.row 8 ([Be xop xtx xn xbx].length) (AV Bl.c [Be xop xtx xn xbx]) 144)]⟩<|Ba<|Al (wr (⟨[(1,tP 1 0),(2,tP 2 0),(3,.av (.one (.list false 8 1 (BF 8 1 (OB xop xtx xn xbx))))),(4,tI 1)],[(1,.cells (IE op tx n bx [.own 2000 8 ([Be xop xtx xn xbx].length)]) 144),KP,(2000,.row 8 ([Be xop xtx xn xbx].length) (AV Bl.c [Be xop xtx xn xbx]) 144)]⟩) 22 2000 hk0)<|AA<|AA<|on ?_
 exact Ak kr<|BH<|A7<|A7<|BI<|AF<|AA<|on<|AR<|zy (vf 2000 hk0)
def Z5W:CT:=(86,[.agg (OB xop xtx xn xbx)],.val [] (.av (.agg (Bl.c (Be xop xtx xn xbx)))))
def Z5X:CT:=(86,[.agg [.i yop,.s ytx,.i yn,.i ybx.X0,.i ybx.Y0,.i ybx.X1,.i ybx.Y1,vN]],.val [] (.av (.agg (Bl.c (Be yop ytx yn ybx)))))
def jK (xop:Int) (xtx:ByteArray) (xn:Int) (xbx:Ah) (yop:Int) (ytx:ByteArray) (yn:Int) (ybx:Ah) (op:Int) (tx:ByteArray) (n:Int) (bx:Ah):Bl:=Bl.mk op tx n bx (OpL.mk ([Be xop xtx xn xbx]++[Be yop ytx yn ybx]).length (AV Bl.c ([Be xop xtx xn xbx]++[Be yop ytx yn ybx])))
abbrev SR (xop:Int) (xtx:ByteArray) (xn:Int) (xbx:Ah) (yop:Int) (ytx:ByteArray) (yn:Int) (ybx:Ah):Nat×Tv:=(3,.av (.one (.list false 8 2 (BF 8 2 [.i xop,.s xtx,.i xn,.i xbx.X0,.i xbx.Y0,.i xbx.X1,.i xbx.Y1,vN,.i yop,.s ytx,.i yn,.i ybx.X0,.i ybx.Y0,.i ybx.X1,.i ybx.Y1,vN]))))
theorem fZ  (xop:Int) (xtx:ByteArray) (xn:Int) (xbx:Ah) (yop:Int) (ytx:ByteArray) (yn:Int) (ybx:Ah) (op:Int) (tx:ByteArray) (n:Int) (bx:Ah):HT Try.prog 86 [.agg [.i op,.s tx,.i n,.i bx.X0,.i bx.Y0,.i bx.X1,.i bx.Y1,.list false 8 2 (BF 8 2 [.i xop,.s xtx,.i xn,.i xbx.X0,.i xbx.Y0,.i xbx.X1,.i xbx.Y1,vN,.i yop,.s ytx,.i yn,.i ybx.X0,.i ybx.Y0,.i ybx.X1,.i ybx.Y1,vN])]] (.av (.agg (Bl.c (jK xop xtx xn xbx yop ytx yn ybx op tx n bx)))):=by
 refine pwf Try.func86 fun W0 M0 => ?_
 refine AA<|on<|AA<|on<|AA<|on<|AA<|AA<|rn ⟨[(1,tP 1 0),(2,tP 2 0),(SR xop xtx xn xbx yop ytx yn ybx),(4,tI 0)],[(1,.cells (MP op tx n bx) 144),KP]⟩<|AM<|Dr 3<|Ba<|AA<|AA<|on<|Bq kr<|AQ<|AF<|AA<|AM<|od [] [(20,(Z5W xop xtx xn xbx))] [0<=(0:Int)/\(0:Int)<((2:Nat):Int),As (Z5W xop xtx xn xbx).2.1,1<=maxLen,1*88<=140737488355328] (.cons (cPu<|Rj xop xtx xn xbx) .nil) (.cons au1 (.cons rfl (.cons au3 (.cons au3 .nil))))<|A0<|AF<|Al (A6 22 (A1 8 Bl.c ([Be xop xtx xn xbx]:List Bl)))<|rn ⟨[(1,tP 1 0),(2,tP 2 0),(SR xop xtx xn xbx yop ytx yn ybx),(4,tI 1)],[(1,.cells (IE op tx n bx [.own 22 8 ([Be xop xtx xn xbx].length)]) 144),KP,(22,.row 8 ([Be xop xtx xn xbx].length) (AV Bl.c [Be xop xtx xn xbx]) 144)]⟩<|Ba<|Al (wr (⟨[(1,tP 1 0),(2,tP 2 0),(SR xop xtx xn xbx yop ytx yn ybx),(4,tI 1)],[(1,.cells (IE op tx n bx [.own 2000 8 ([Be xop xtx xn xbx].length)]) 144),KP,(2000,.row 8 ([Be xop xtx xn xbx].length) (AV Bl.c [Be xop xtx xn xbx]) 144)]⟩) 22 2000 hk0)<|AA<|AA<|on<|Bq kr<|AQ<|AF<|AA<|AM ?_
 refine od [] [(20,(Z5X yop ytx yn ybx))] [0<=(1:Int)/\(1:Int)<((2:Nat):Int),As (Z5X yop ytx yn ybx).2.1,[Be xop xtx xn xbx].length=[Be xop xtx xn xbx].length,([Be xop xtx xn xbx].length)+1<=maxLen,(([Be xop xtx xn xbx].length)+1)*88<=140737488355328] (.cons (cPu<|Rj yop ytx yn ybx) .nil) (.cons au1 (.cons rfl (.cons rfl (.cons au3 (.cons au3 .nil)))))<|A0<|AF<|Al (A6 22 (Ar (Af 8 Bl.c [Be xop xtx xn xbx]) (A1 8 Bl.c ([Be yop ytx yn ybx]:List Bl))))<|rn ⟨[(1,tP 1 0),(2,tP 2 0),(SR xop xtx xn xbx yop ytx yn ybx),(4,tI 2)],[(1,.cells (IE op tx n bx [.own 22 8 ([Be xop xtx xn xbx]++[Be yop ytx yn ybx]).length]) 144),KP,(22,.row 8 ([Be xop xtx xn xbx]++[Be yop ytx yn ybx]).length (AV Bl.c ([Be xop xtx xn xbx]++[Be yop ytx yn ybx])) 144)]⟩<|Ba<|Al (wr (⟨[(1,tP 1 0),(2,tP 2 0),(SR xop xtx xn xbx yop ytx yn ybx),(4,tI 2)],[(1,.cells (IE op tx n bx [.own 2001 8 ([Be xop xtx xn xbx]++[Be yop ytx yn ybx]).length]) 144),KP,(2001,.row 8 ([Be xop xtx xn xbx]++[Be yop ytx yn ybx]).length (AV Bl.c ([Be xop xtx xn xbx]++[Be yop ytx yn ybx])) 144)]⟩) 22 2001 hk0)<|AA<|AA<|on<|Ak kr<|BH ?_
 exact A7<|A7<|BI<|AF<|AA<|on<|AR<|zy (vf 2001 hk0)
def jJ (f:Nat->Nat->Cl) (op:Int) (tx:ByteArray) (n:Int) (bx:Ah):Bl:=Bl.mk op tx n bx (OpL.mk 0 (fun _ _=>default))
theorem fY  (f:Nat->Nat->Cl) (op:Int) (tx:ByteArray) (n:Int) (bx:Ah):HT Try.prog 86 [.agg [.i op,.s tx,.i n,.i bx.X0,.i bx.Y0,.i bx.X1,.i bx.Y1,.list false 8 0 f]] (.av (.agg (Bl.c (jJ f op tx n bx)))):=by
 refine pwf Try.func86 fun W0 M0 => ?_
 exact AA<|on<|AA<|on<|AA<|on<|AA<|AA<|rn ⟨[(1,tP 1 0),(2,tP 2 0),(3,.av (.one (.list false 8 0 f))),(4,tI 0)],[(1,.cells (MP op tx n bx) 144),KP]⟩<|AM<|Dr 1<|Ba<|AA<|AA<|on<|Ak kr<|BH<|A7<|A7<|BI<|AF<|AA<|on<|AR<|xl (.av (.agg (MP op tx n bx))) (Dk (y:=.av (.agg (IE op tx n bx [opL (OpL.mk 0 (fun _ _=>default))]))) (.av (.agg (rr5 (rr2 (.cons (.nil _ _) .nil))))) (by rfl))
def clI:Cl->Int
 | .val (.int _ n)=>n
 | _=>0
def clS:Cl->ByteArray
 | .val (.string s)=>s
 | _=>⟨#[]⟩
def CK (c:Bl):Prop:=(∃ f,c.L=OpL.mk 0 f)\/(∃ (xop:Int) (xtx:ByteArray) (xn:Int) (xbx:Ah),c.L=OpL.mk 1 (BF 8 1 [.i xop,.s xtx,.i xn,.i xbx.X0,.i xbx.Y0,.i xbx.X1,.i xbx.Y1,vN]))\/∃ (xop:Int) (xtx:ByteArray) (xn:Int) (xbx:Ah) (yop:Int) (ytx:ByteArray) (yn:Int) (ybx:Ah),c.L=OpL.mk 2 (BF 8 2 [.i xop,.s xtx,.i xn,.i xbx.X0,.i xbx.Y0,.i xbx.X1,.i xbx.Y1,vN,.i yop,.s ytx,.i yn,.i ybx.X0,.i ybx.Y0,.i ybx.X1,.i ybx.Y1,vN])
def QQ:Bl:=Be (clI (f 0)) (clS (f 1)) (clI (f 2)) (Ah.mk (clI (f 3)) (clI (f 4)) (clI (f 5)) (clI (f 6)))
def copyL:OpL->OpL
 | ⟨0,_⟩=>OpL.mk 0 (fun _ _=>default)
 | ⟨1,f⟩=>OpL.mk ([QQ (f 0)].length) (AV Bl.c [QQ (f 0)])
 | ⟨_+2,f⟩=>OpL.mk ([QQ (f 0)]++[QQ (f 1)]).length (AV Bl.c ([QQ (f 0)]++[QQ (f 1)]))
def KF (c:Bl):Bl:=Bl.mk c.Op c.Text c.N c.Box (copyL c.L)
def Gv:CT:=(86,[.agg (Bl.c c)],.val [] (.av (.agg (Bl.c (KF c)))))
theorem Xh (c:Bl) (h:CK c):PuP 86 (Gv c).2.1 (.av (.agg (Bl.c (KF c)))):=by
 obtain ⟨op,tx,n,bx,l⟩:=c
 rcases h with ⟨f,e⟩ | ⟨xop,xtx,xn,xbx,e⟩ | ⟨xop,xtx,xn,xbx,yop,ytx,yn,ybx,e⟩
 ·have e:l=OpL.mk 0 f:=e
  subst e
  exact fY f op tx n bx
 ·have e:l=OpL.mk 1 _:=e
  subst e
  exact gA xop xtx xn xbx op tx n bx
 have e:l=OpL.mk 2 _:=e
 subst e
 exact fZ xop xtx xn xbx yop ytx yn ybx op tx n bx
theorem On (c:Bl) (h:CK c):OKc (Gv c):=cPu<|Xh c h
def SH (b:AC):Prop:=∀ r∈b.Rules,CK r.A/\CK r.B
theorem LT {b:AC} (h:SH b) (k:Nat):CK (b.Rules.getD k default).A/\CK (b.Rules.getD k default).B:=Nh (p:=fun r:Az=>CK r.A/\CK r.B) ⟨.inl ⟨_,rfl⟩,.inl ⟨_,rfl⟩⟩ h k
end
structure Ce (b:AC):Prop where
 lParts:(b.Parts.length:Int)<=1000000
 lNets:(b.Nets.length:Int)<=1000000
 lTracks:(b.Tracks.length:Int)<=1000000
 lVias:(b.Vias.length:Int)<=1000000
 lPours:(b.Pours.length:Int)<=1000000
 lKeeps:(b.Keeps.length:Int)<=1000000
 lSlots:(b.Slots.length:Int)<=1000000
 lClasses:(b.Classes.length:Int)<=1000000
 lWaivers:(b.Waivers.length:Int)<=1000000
 lMatches:(b.Matches.length:Int)<=1000000
 lRules:(b.Rules.length:Int)<=1000000
 out:(b.Outline.Edges.length:Int)<=1000000
 pin:∀ k,((b.Nets.getD k default).Pins.length:Int)<=1000000
 ted:∀ k,((b.Tracks.getD k default).Shape.Edges.length:Int)<=1000000
 rec':∀ k,((b.Pours.getD k default).Rects.length:Int)<=1000000
 ked:∀ k,((b.Keeps.getD k default).Shape.Edges.length:Int)<=1000000
 sed:∀ k,((b.Slots.getD k default).Shape.Edges.length:Int)<=1000000
 cnt:∀ k,((b.Classes.getD k default).Nets.length:Int)<=1000000
 mnt:∀ k,((b.Matches.getD k default).Nets.length:Int)<=1000000
 rok:SH b
section
open Go.RowKit
def Cl.only (L:List Nat):Cl->Bool
 | .ptr n _=>BB L n
 | .own n _ _=>BB L n
 | .rptr n _ _ _=>BB L n
 | .osl n _ _ _=>BB L n
 | .om n=>BB L n
 | .clo _ k caps=>(List.range k).all fun i=>(caps i).only L
 | _=>true
def Av.only (L:List Nat):Av->Bool
 | .one c=>c.only L
 | .agg l=>l.all (Cl.only L)
def Tv.only (L:List Nat):Tv->Bool
 | .av x=>x.only L
 | .tup l=>l.all (Av.only L)
 | .grd _ x=>x.only L
def Blk.only (L:List Nat):Blk->Bool
 | .cells l _=>l.all (Cl.only L)
 | .rowx _ _ _ _ hs=>hs.all fun p=>p.2.all (Cl.only L)
 | _=>true
theorem HB {L:List Nat} {n d:Nat} (h:BB L n=true) (hd:(!Nat.beq n d)=false):BB L d=true:=by
 have:Nat.beq n d=true:=by cases hb:Nat.beq n d;rw [hb] at hd;cases hd;rfl
 rw [<- Nat.eq_of_beq_eq_true this];exact h
theorem IY {L:List Nat} {d:Nat}:∀ {c:Cl},c.only L=true->c.no d=false->BB L d=true
 | .ptr ..,h,hd=>HB h hd
 | .own ..,h,hd=>HB h hd
 | .rptr ..,h,hd=>HB h hd
 | .osl ..,h,hd=>HB h hd
 | .om ..,h,hd=>HB h hd
 | .clo f k caps,h,hd=>by
  simp only [Cl.no] at hd
  rw [List.all_eq_false] at hd
  obtain ⟨i,hi,hn⟩:=hd
  simp only [Cl.only,List.all_eq_true] at h
  exact IY (h i hi) (by cases hq:(caps i).no d;rfl;exact absurd hq hn)
 | .val ..,_,hd=>by cases hd
 | .list ..,_,hd=>by cases hd
 | .eptr ..,_,hd=>by cases hd
 | .mp ..,_,hd=>by cases hd
 | .any,_,hd=>by cases hd
theorem PM {α:Type} {p q:α->Bool} {l:List α} (h:l.all p=true) (hd:l.all q=false):∃ x,p x=true/\q x=false:=by
 rw [List.all_eq_false] at hd
 obtain ⟨x,hx,hn⟩:=hd
 exact ⟨x,List.all_eq_true.1 h x hx,by cases hq:q x;rfl;exact absurd hq hn⟩
theorem Ol {L:List Nat} {d:Nat}:∀ {x:Av},x.only L=true->x.no d=false->BB L d=true
 | .one _,h,hd=>IY h hd
 | .agg _,h,hd=>by obtain ⟨x,h1,h2⟩:=PM h hd;exact IY h1 h2
theorem S6 {L:List Nat} {d:Nat}:∀ {x:Tv},x.only L=true->x.no d=false->BB L d=true
 | .av _,h,hd=>Ol h hd
 | .tup _,h,hd=>by obtain ⟨x,h1,h2⟩:=PM h hd;exact Ol h1 h2
 | .grd _ _,h,hd=>Ol h hd
theorem S7 {L:List Nat} {d:Nat}:∀ {x:Blk},x.only L=true->x.no d=false->BB L d=true
 | .cells _ _,h,hd=>by obtain ⟨x,h1,h2⟩:=PM h hd;exact IY h1 h2
 | .row ..,_,hd=>by cases hd
 | .omap ..,_,hd=>by cases hd
 | .rowx ..,h,hd=>by obtain ⟨x,h1,h2⟩:=PM h hd;obtain ⟨y,h3,h4⟩:=PM h1 h2;exact IY h3 h4
def Dx (v:Nat->Value):Nat->List Bool->List Cl->List Cl
 | i,true::m,_::l=>.val (v i)::Dx v (i+1) m l
 | i,false::m,c::l=>c::Dx v (i+1) m l
 | _,_,l=>l
def Ox:List Bool->List Cl->List Cl->List Cl
 | true::m,a::l,_::l'=>a::Ox m l l'
 | false::m,_::l,b::l'=>b::Ox m l l'
 | _,_,l'=>l'
def MY (p:Cl->Bool):List Bool->List Cl->Bool
 | true::m,a::l=>p a&&MY p m l
 | false::m,_::l=>MY p m l
 | _,_=>true
section
variable {M M':Nat→Option Obj} {σ σ' σ2:Nat→Loc}
theorem P7 (v:Nat->Value):∀ (m:List Bool) (i:Nat) (l:List Cl) (c:List Value),(∀ j,v (i+j)=c.getD j undef)->L2 (R M σ) l c->L2 (R M σ) (Dx v i m l) c
 | [],i,l,c,_,h=>by unfold Dx;exact h
 | b::m,i,[],c,_,h=>by cases b <;> exact h
 | b::m,i,a::l,c,hv,h=>by
  cases h with
  | cons h1 h2 =>
   rename_i u us
   have ht:=P7 v m (i+1) l us (fun j=>by have:=hv (j+1);rw [show i+(j+1)=i+1+j by omega] at this;exact this) h2
   cases b with
   | true =>
    have h0:v i=u:=hv 0
    exact .cons ⟨h0.symm,by rw [h0];exact Jo h1⟩ ht
   | false=>exact .cons h1 ht
theorem VV (v:Nat->Value) (hm:∀ c V,R M σ c V->(∀ d,c.no d=false->σ2 d=σ d)->R M' σ2 c V) {L:List Nat} (hl:∀ d,BB L d=true->σ2 d=σ' d) :
  ∀ (m:List Bool) (i:Nat) (l:List Cl) (c:List Value) (l':List Cl) (c':List Value),(∀ j,v (i+j)=c.getD j undef)->L2 (R M σ) l c->L2 (R M' σ') (Dx v i m l') c'->l'.length=l.length ->
   (∀ d,MY (fun x=>x.no d) m l=false->σ2 d=σ d)->(∀ x∈Dx v i m l',x.only L=true)->L2 (R M' σ2) (Ox m l l') c'
 | [],i,l,c,l',c',_,_,h',_,_,ho=>by
  simp only [Ox]
  simp only [Dx] at h' ho
  exact h'.mono fun a ha b hb=>C3 (fun _ _ h=>h) (fun d hd=>hl d (IY (ho a ha) hd)) hb
 | b::m,i,[],c,l',c',_,_,h',hlen,_,ho=>by
  have:l'=[]:=List.eq_nil_of_length_eq_zero (by simpa using hlen)
  subst this
  cases b <;> (simp only [Ox];simp only [Dx] at h';cases h';exact .nil)
 | b::m,i,a::l,c,[],c',_,_,h',hlen,_,ho=>by simp at hlen
 | b::m,i,a::l,c,a'::l',c',hv,h,h',hlen,hd,ho=>by
  cases h with
  | cons h1 h2 =>
   rename_i u us
   have hv':∀ j,v (i+1+j)=us.getD j undef:=fun j=>by have:=hv (j+1);rw [show i+(j+1)=i+1+j by omega] at this;exact this
   have hlen':l'.length=l.length:=by simpa using hlen
   cases b with
   | true =>
    simp only [Dx] at h' ho
    simp only [Ox]
    cases h' with
    | cons k1 k2 =>
     rename_i u' us'
     have e1:u'=v i:=k1.1
     have e2:v i=u:=hv 0
     subst e1
     refine .cons ?_ (VV v hm hl m (i+1) l us l' us' hv' h2 k2 hlen' (fun d hn=>hd d (by simp only [MY,hn,Bool.and_false])) (fun x hx=>ho x (List.mem_cons_of_mem _ hx)))
     rw [e2]
     exact hm _ _ h1 fun d hn=>hd d (by simp only [MY,hn,Bool.false_and])
   | false =>
    simp only [Dx] at h' ho
    simp only [Ox]
    cases h' with
    | cons k1 k2 =>
     rename_i u' us'
     refine .cons ?_ (VV v hm hl m (i+1) l us l' us' hv' h2 k2 hlen' (fun d hn=>hd d hn) (fun x hx=>ho x (List.mem_cons_of_mem _ hx)))
     exact C3 (fun _ _ h=>h) (fun d hn=>hl d (IY (ho _ (List.mem_cons_self ..)) hn)) k1
end
def I7 {α:Type} (ks:List Nat):List (Nat×α)->List (Nat×α)
 | []=>[]
 | (k,v)::r=>bif BB ks k then I7 ks r else (k,v)::I7 ks r
theorem Mg {α:Type} (ks:List Nat):∀ (l:List (Nat×α)) (n:Nat) (v:α),get (I7 ks l) n=some v->get l n=some v/\BB ks n=false
 | [],n,v,h=>by cases h
 | (k,u)::r,n,v,h=>by
  simp only [I7] at h
  cases hk:BB ks k with
  | true =>
   rw [hk] at h
   simp only [cond_true] at h
   obtain ⟨h1,h2⟩:=Mg ks r n v h
   refine ⟨?_,h2⟩
   simp only [get,CQ]
   by_cases e:k=n
   ·subst e;rw [hk] at h2;cases h2
   simp [e,h1]
  | false =>
   rw [hk] at h
   simp only [cond_false,get,CQ] at h
   by_cases e:k=n
   ·subst e
    simp at h
    subst h
    refine ⟨by simp [get,Nat.beq_refl],hk⟩
   simp [e] at h
   obtain ⟨h1,h2⟩:=Mg ks r n v h
   refine ⟨?_,h2⟩
   simp only [get,CQ]
   simp [e,h1]
theorem R1 {α:Type} (l m:List (Nat×α)) (n:Nat):get (l++m) n=match get l n with | some v=>some v | none=>get m n:=by
 induction l with
 | nil=>rfl
 | cons p r ih =>
  obtain ⟨k,v⟩:=p
  simp only [List.cons_append,get,CQ]
  by_cases h:k=n
  ·simp [h]
  simp only [h,decide_false,cond_false,ih]
def HC {α:Type}:List (Nat×α)->List Nat
 | []=>[]
 | (k,_)::r=>k::HC r
theorem O3 {α:Type}:∀ {l:List (Nat×α)} {n:Nat} {v:α},get l n=some v->BB (HC l) n=true
 | (k,u)::r,n,v,h=>by
  simp only [get,CQ] at h
  simp only [HC,BB,CQ]
  by_cases e:k=n
  ·simp [e]
  simp only [e,decide_false,cond_false] at h ⊢
  exact O3 h
def mT (q:Nat) (K1:List Nat) (m:List Bool) (s:AS) (l:List Cl) (tE:List (Nat×Tv)) (lE:List Cl) (hE:List (Nat×Blk)):Bool :=
 let L:=q::HC hE
 let F:=I7 (q::K1) s.h
 Nat.beq lE.length l.length && !BB L 299999&&F.all (fun p => !BB L p.1&&L.all fun d=>p.2.no d)&&(L.all fun d=>MY (fun x=>x.no d) m l) &&
  tE.all (fun p=>p.2.only L)&&(Dx (fun _=>undef) 0 m lE).all (Cl.only L)&&hE.all (fun p=>p.2.only L)
theorem Mf {L:List Nat} (v v':Nat->Value):∀ (m:List Bool) (i:Nat) (l:List Cl),(Dx v i m l).all (Cl.only L)=true->(Dx v' i m l).all (Cl.only L)=true
 | [],i,l,h=>h
 | b::m,i,[],h=>by cases b <;> exact h
 | b::m,i,a::l,h=>by
  cases b <;> simp only [Dx,List.all_cons,Bool.and_eq_true] at h ⊢
  ·exact ⟨h.1,Mf v v' m _ l h.2⟩
  exact ⟨rfl,Mf v v' m _ l h.2⟩
section
variable {P:Program} {rd:Option Nat} {N:Nat} {W0:World} {X:Nat→Option Loc} {M0:Nat→Option Obj} {Q:Exit→AS→Prop} {s:AS}
set_option maxHeartbeats 1000000 in
theorem eB {c:Code} {ι:Type} (q:Nat) (l:List Cl) (ty:TypeId) (m:List Bool) (T1 K1:List Nat) (hX:C8 X W0 []) (hF:Na X) (I:ι->Prop) (tE:ι->List (Nat×Tv)) (lE:ι->List Cl) (hE:ι->List (Nat×Blk))
  (hq:get s.h q=some (.cells l ty)) (hN:(q::K1).all (fun n=>Nat.ble N n)=true) (hN2:Nat.ble N 299999=true) (hno:noD 299999 s=true) (hK:BB (q::K1) 299999=false) (hchk:∀ x,mT q K1 m s l (tE x) (lE x) (hE x)=true)
  (core:∀ (W1:World) (M1:Nat->Option Obj) (X1:Nat->Option Loc) (v:Nat->Value),C8 X1 W1 (q::K1)->Na X1->AWp P rd N W1 X1 M1 c (fun e s'=>e=.normal/\∃ x,I x/\s'=⟨tE x,(q,.cells (Dx v 0 m (lE x)) ty)::hE x⟩) ⟨HD s.t T1,(q,.cells (Dx v 0 m l) ty)::HD s.h K1⟩)
  (hQ:∀ x,I x->Q .normal ⟨tE x,(q,.cells (Ox m l (lE x)) ty)::(hE x++I7 (q::K1) s.h)⟩):AWp P rd N W0 X M0 c Q s:=by
 intro M σ a w hs
 obtain ⟨hqn,cq,hcq,hlq⟩:=hs.blk q _ hq
 obtain ⟨v,hv⟩:∃ v:Nat->Value,∀ j,v (0+j)=cq.getD j undef:=⟨fun j=>cq.getD j undef,fun j=>by rw [Nat.zero_add]⟩
 obtain ⟨X1,hX1⟩:∃ X1:Nat->Option Loc,X1=fun n=>bif BB (q::K1) n&&(get s.h n).isSome && !(σ n).nil then some (σ n) else bif Nat.beq n 299999 then some ⟨w.heap.size,424242,true⟩ else none:=⟨_,rfl⟩
 obtain ⟨σ1,hσ1⟩:∃ σ1,σ1=upd σ 299999 ⟨w.heap.size,424242,true⟩:=⟨_,rfl⟩
 have hg9:get s.h 299999=none:=Wb hno
 have hs1:∀ n,n≠299999->σ1 n=σ n:=fun n hn=>by rw [hσ1];exact C0 _ _ hn
 have hk9:∀ n b,get s.h n=some b->n≠299999:=fun n b h e=>by rw [e,hg9] at h;cases h
 have pins:∀ n x,X1 n=some x->(BB (q::K1) n=true/\(get s.h n).isSome=true/\(σ n).nil=false/\x=σ n)\/(n=299999/\x=⟨w.heap.size,424242,true⟩):=fun n x h=>by
  rw [hX1] at h
  simp only at h
  cases hb:(BB (q::K1) n&&(get s.h n).isSome && !(σ n).nil) with
  | true =>
   rw [hb] at h
   simp only [cond_true,Option.some.injEq] at h
   simp only [Bool.and_eq_true,Bool.not_eq_true'] at hb
   exact .inl ⟨hb.1.1,hb.1.2,hb.2,h.symm⟩
  | false =>
   rw [hb] at h
   simp only [cond_false] at h
   cases h9:Nat.beq n 299999 with
   | false=>rw [h9] at h;cases h
   | true=>rw [h9] at h;simp only [cond_true,Option.some.injEq] at h;exact .inr ⟨Nat.eq_of_beq_eq_true h9,h.symm⟩
 have hflat:Na X1:=⟨299999,⟨w.heap.size,424242,true⟩,by rw [hX1];simp only [hK,Bool.false_and,cond_false,Nat.beq_refl,cond_true],rfl,rfl⟩
 have hpins:C8 X1 w (q::K1):=fun n x h=>by
  rcases pins n x h with ⟨h1,_⟩ | ⟨h1,h2⟩
  ·exact .inl h1
  exact .inr ⟨h1,by rw [h2];exact Nat.le_refl _⟩
 have hpinned:∀ n,BB (q::K1) n=true->(get s.h n).isSome=true->(σ n).nil=false->X1 n=some (σ n):=fun n h1 h2 h3=>by rw [hX1];simp only [h1,h2,h3,Bool.not_false,Bool.and_true,cond_true]
 have hdef:a.defers=[]:=hs.defers.2 hF
 have hC:∀ n b,get ((q,Blk.cells (Dx v 0 m l) ty)::HD s.h K1) n=some b->BB (q::K1) n=true/\∃ b0,get s.h n=some b0/\((n=q/\b=.cells (Dx v 0 m l) ty)\/(n≠q/\b=b0)):=fun n b h=>by
  simp only [get,CQ] at h
  by_cases e:q=n
  ·simp only [e,decide_true,cond_true,Option.some.injEq] at h
   refine ⟨by rw [<- e];simp [BB,Nat.beq_refl],_,by rw [<- e];exact hq,.inl ⟨e.symm,h.symm⟩⟩
  simp only [e,decide_false,cond_false] at h
  refine ⟨?_,b,Gt _ _ _ _ h,.inr ⟨fun h'=>e h'.symm,rfl⟩⟩
  have:∀ (ks:List Nat),get (HD s.h ks) n=some b->BB ks n=true:=by
   intro ks
   induction ks with
   | nil=>intro h;cases h
   | cons k ks ih =>
    intro h
    simp only [HD] at h
    simp only [BB,CQ]
    by_cases ek:k=n
    ·simp [ek]
    simp only [ek,decide_false,cond_false]
    split at h
    ·simp only [get,CQ,ek,decide_false,cond_false] at h;exact ih h
    exact ih h
  simp only [BB,CQ,e,decide_false,cond_false]
  exact this K1 h
 have hsim:Sim N w X1 M M σ1 (get (HD s.t T1)) (get ((q,Blk.cells (Dx v 0 m l) ty)::HD s.h K1)) a w:=by
  have hR:∀ (c:Cl) (V:Value),c.no 299999=true->R M σ c V->R M σ1 c V:=fun c V hc h=>C3 (fun _ _ h=>h) (fun d hd=>hs1 d (fun e=>by rw [e,hc] at hd;cases hd)) h
  refine ⟨rfl,rfl,rfl,Nat.le_refl _,fun _ _ _=>rfl,fun _ _ h=>h,fun _ _ h h'=>by (rw [h] at h';cases h'),fun n x h => ?_,by rw [hdef];exact IA.nil,hs.room,fun i t ht => ?_,hs.imm,fun n b h => ?_,fun n b h => ?_,fun n n' b b' h h' hne => ?_⟩
  ·rcases pins n x h with ⟨h1,h2,h3,rfl⟩ | ⟨rfl,rfl⟩
   ·obtain ⟨b0,hb0⟩:=Option.isSome_iff_exists.1 h2
    exact ⟨Nat.le_of_ble_eq_true (List.all_eq_true.1 hN n (Jw h1)),hs1 n (hk9 n b0 hb0)⟩
   exact ⟨Nat.le_of_ble_eq_true hN2,by rw [hσ1];exact BV _ _ _⟩
  ·have h0:=Gt _ _ _ _ ht
   exact EP (fun _ _ h=>h) (fun d hd=>hs1 d (fun e=>by rw [e,Wa hno h0] at hd;cases hd)) (hs.tmps i t h0)
  ·obtain ⟨_,b0,hb0,⟨rfl,rfl⟩ | ⟨hne,rfl⟩⟩:=hC n b h
   ·rw [hs1 _ (hk9 _ _ hb0)]
    have hnl:∀ c∈l,c.no 299999=true:=fun c hc=>(List.all_eq_true.1 (TJ hno hq)) c hc
    exact ⟨hqn,cq,hcq,P7 v m 0 l cq hv (hlq.mono fun c hc V hV=>hR c V (hnl c hc) hV)⟩
   rw [hs1 _ (hk9 _ _ hb0)]
   exact Bv.mono (fun _ _ h=>h) (fun d hd=>hs1 d (fun e=>by rw [e,TJ hno hb0] at hd;cases hd)) (fun _=>rfl) (hs.blk n _ hb0)
  ·obtain ⟨h1,b0,hb0,_⟩:=hC n b h
   rw [hs1 _ (hk9 _ _ hb0)]
   cases hnil:(σ n).nil with
   | true=>exact .inl rfl
   | false =>
    rcases hs.loc n b0 hb0 with h2 | ⟨h2,_⟩
    ·rw [hnil] at h2;cases h2
    exact .inr ⟨h2,.inr ⟨n,σ n,hpinned n h1 (by rw [hb0];rfl) hnil,rfl⟩⟩
  obtain ⟨_,b0,hb0,_⟩:=hC n b h
  obtain ⟨_,b1,hb1,_⟩:=hC n' b' h'
  rw [hs1 _ (hk9 _ _ hb0),hs1 _ (hk9 _ _ hb1)]
  exact hs.inj n n' b0 b1 hb0 hb1 hne
 refine wpIn_mono (core w M X1 v hpins hflat M σ1 a w hsim) ?_
 rintro e a' w' ⟨s',M',σ',⟨rfl,x,hI,rfl⟩,hs'⟩
 have hok:=hchk x
 unfold mT at hok
 simp only [Bool.and_eq_true,Bool.not_eq_true'] at hok
 obtain ⟨⟨⟨⟨⟨⟨ok1,ok2⟩,ok3⟩,ok4⟩,ok5⟩,ok6⟩,ok7⟩:=hok
 obtain ⟨L,hL⟩:∃ L,L=q::HC (hE x):=⟨_,rfl⟩
 rw [<- hL] at ok2 ok3 ok4 ok5 ok6 ok7
 have hlen:(lE x).length=l.length:=Nat.eq_of_beq_eq_true ok1
 obtain ⟨σ2,hσ2⟩:∃ σ2:Nat->Loc,σ2=fun n=>bif BB L n then σ' n else σ n:=⟨_,rfl⟩
 have hin:∀ n,BB L n=true->σ2 n=σ' n:=fun n h=>by rw [hσ2];simp only [h,cond_true]
 have hout:∀ n,BB L n=false->σ2 n=σ n:=fun n h=>by rw [hσ2];simp only [h,cond_false]
 have hMM:∀ b o,M b=some o->M' b=some o:=hs'.sub
 -- where the small state's blocks lie
 have hX1in:∀ b,inX X1 b->(∃ k b0,BB (q::K1) k=true/\get s.h k=some b0/\(σ k).nil=false/\(σ k).b=b)\/b=w.heap.size:=fun b ⟨n,y,h1,h2⟩=>by
  rcases pins n y h1 with ⟨h3,h4,h5,rfl⟩ | ⟨_,rfl⟩
  ·obtain ⟨b0,hb0⟩:=Option.isSome_iff_exists.1 h4
   exact .inl ⟨n,b0,h3,hb0,h5,h2⟩
  exact .inr h2.symm
 have hnew0:∀ k b0,get s.h k=some b0->(σ k).nil=false->W0.heap.size<=(σ k).b:=fun k b0 hk hnil=>by
  rcases hs.loc k b0 hk with h1 | ⟨_,h1 | ⟨n,y,h1,h2⟩⟩
  ·rw [hnil] at h1;cases h1
  ·exact h1
  rcases hX n y h1 with h3 | ⟨_,h3⟩
  ·cases h3
  rw [<- h2];exact h3
 have hE0:∀ n b,get ((q,Blk.cells (Dx v 0 m (lE x)) ty)::hE x) n=some b->BB L n=true:=fun n b h=>by
  rw [hL]
  have:=O3 h
  exact this
 have hloc':∀ n b,get ((q,Blk.cells (Dx v 0 m (lE x)) ty)::hE x) n=some b->(σ' n).nil=true\/(M' (σ' n).b=none/\(w.heap.size<=(σ' n).b\/∃ k b0,BB (q::K1) k=true/\get s.h k=some b0/\(σ k).nil=false/\(σ k).b=(σ' n).b)):=fun n b h=>by
  rcases hs'.loc n b h with h1 | ⟨h1,h2 | h2⟩
  ·exact .inl h1
  ·exact .inr ⟨h1,.inl h2⟩
  rcases hX1in _ h2 with h3 | h3
  ·exact .inr ⟨h1,.inr h3⟩
  exact .inr ⟨h1,.inl (by rw [h3];exact Nat.le_refl _)⟩
 have hFr:∀ n b,get (I7 (q::K1) s.h) n=some b->get s.h n=some b/\BB (q::K1) n=false/\BB L n=false/\∀ d,BB L d=true->b.no d=true:=fun n b h=>by
  obtain ⟨h1,h2⟩:=Mg _ _ _ _ h
  have h3:=List.all_eq_true.1 ok3 _ (DL h)
  simp only [Bool.and_eq_true,Bool.not_eq_true'] at h3
  exact ⟨h1,h2,h3.1,fun d hd=>List.all_eq_true.1 h3.2 d (Jw hd)⟩
 have hFrlt:∀ n b,get (I7 (q::K1) s.h) n=some b->(σ n).nil=false->(σ n).b<w.heap.size/\¬ inX X1 (σ n).b:=fun n b h hnil=>by
  obtain ⟨h1,h2,_⟩:=hFr n b h
  have hlt:=(hs.blk n b h1).lt hnil
  refine ⟨hlt,fun hi => ?_⟩
  rcases hX1in _ hi with ⟨k,b0,h3,h4,h5,h6⟩ | h3
  ·have hne:n≠k:=fun e=>by rw [e,h3] at h2;cases h2
   rcases hs.inj n k b b0 h1 h4 hne with h7 | h7 | h7
   ·rw [hnil] at h7;cases h7
   ·rw [h5] at h7;cases h7
   exact h7 h6.symm
  omega
 have hG:∀ n b,get ((q,Blk.cells (Ox m l (lE x)) ty)::(hE x++I7 (q::K1) s.h)) n=some b->(BB L n=true/\((n=q/\b=.cells (Ox m l (lE x)) ty)\/(n≠q/\get (hE x) n=some b))/\∃ b',get ((q,Blk.cells (Dx v 0 m (lE x)) ty)::hE x) n=some b')\/get (I7 (q::K1) s.h) n=some b:=fun n b h=>by
  simp only [get,CQ] at h
  by_cases e:q=n
  ·simp only [e,decide_true,cond_true,Option.some.injEq] at h
   subst e
   refine .inl ⟨by rw [hL];simp [BB,Nat.beq_refl],.inl ⟨rfl,h.symm⟩,Blk.cells (Dx v 0 m (lE x)) ty,?_⟩
   simp only [get,Nat.beq_refl,cond_true]
  simp only [e,decide_false,cond_false] at h
  rw [R1] at h
  cases hg:get (hE x) n with
  | none=>rw [hg] at h;exact .inr h
  | some b2 =>
   rw [hg] at h
   simp only [Option.some.injEq] at h
   subst h
   have hg2:get ((q,Blk.cells (Dx v 0 m (lE x)) ty)::hE x) n=some b2:=by simp only [get,CQ,e,decide_false,cond_false];exact hg
   exact .inl ⟨hE0 n b2 hg2,.inr ⟨fun h'=>e h'.symm,rfl⟩,b2,hg2⟩
 have hqL:BB L q=true:=by rw [hL];simp [BB,Nat.beq_refl]
 refine ⟨_,M',σ2,hQ x hI,hs'.os.trans hs.os,hs'.tape.trans hs.tape,hs'.output.trans hs.output,Nat.le_trans hs.size hs'.size,fun b hb hnb => ?_,fun b o h=>hMM b o (hs.sub b o h),fun b o h1 h2 => ?_,fun n y h => ?_,?_,hs'.room,fun i t ht => ?_,hs'.imm,fun n b h => ?_,fun n b h => ?_,fun n n' b b' h h' hne => ?_⟩
 ·refine (hs'.old b (Nat.lt_of_lt_of_le hb hs.size) fun hi => ?_).trans (hs.old b hb hnb)
  rcases hX1in _ hi with ⟨k,b0,_,h4,h5,h6⟩ | h3
  ·have:=hnew0 k b0 h4 h5;omega
  have:=hs.size;omega
 ·cases hM:M b with
  | none=>exact Nat.le_trans hs.size (hs'.new b o h1 hM)
  | some o'=>exact hs.new b o' hM h2
 ·obtain ⟨h1,h2⟩:=hs.pin n y h
  refine ⟨h1,?_⟩
  rcases hX n y h with h3 | ⟨rfl,_⟩
  ·cases h3
  rw [hout _ ok2];exact h2
 ·have:a'.defers=[]:=hs'.defers.2 hflat
  rw [this]
  exact IA.nil
 ·have h1:=List.all_eq_true.1 ok5 _ (DL ht)
  exact EP (fun _ _ h=>h) (fun d hd=>hin d (S6 h1 hd)) (hs'.tmps i t ht)
 ·rcases hG n b h with ⟨hn,hb,b',hb'⟩ | hfr
  ·rw [hin n hn]
   rcases hb with ⟨rfl,rfl⟩ | ⟨hne,hb⟩
   ·have hq':=hs'.blk n (.cells (Dx v 0 m (lE x)) ty) (by simp only [get,Nat.beq_refl,cond_true])
    obtain ⟨hn1,c',hc',hl'⟩:=hq'
    refine ⟨hn1,c',hc',?_⟩
    have honly:=List.all_eq_true.1 (Mf (fun _=>undef) v m 0 (lE x) ok6)
    refine VV v (σ2:=σ2) (fun c V h1 h2=>C3 hMM h2 h1) hin m 0 l cq (lE x) c' hv hlq hl' hlen (fun d hd => ?_) honly
    refine hout d ?_
    cases hdL:BB L d with
    | false=>rfl
    | true=>rw [List.all_eq_true.1 ok4 d (Jw hdL)] at hd;cases hd
   have hb2:get ((q,Blk.cells (Dx v 0 m (lE x)) ty)::hE x) n=some b:=by simp only [get,CQ,Ne.symm hne,decide_false,cond_false];exact hb
   have h1:=List.all_eq_true.1 ok7 _ (DL hb)
   exact Bv.mono (fun _ _ h=>h) (fun d hd=>hin d (S7 h1 hd)) (fun _=>rfl) (hs'.blk n b hb2)
  obtain ⟨h1,h2,h3,h4⟩:=hFr n b hfr
  rw [hout n h3]
  refine Bv.mono hMM (fun d hd=>hout d ?_) (fun hnil => ?_) (hs.blk n b h1)
  ·cases hdL:BB L d with
   | false=>rfl
   | true=>rw [h4 d hdL] at hd;cases hd
  obtain ⟨h5,h6⟩:=hFrlt n b hfr hnil
  exact hs'.old _ h5 h6
 ·rcases hG n b h with ⟨hn,_,b',hb'⟩ | hfr
  ·rw [hin n hn]
   rcases hloc' n b' hb' with h1 | ⟨h1,h2 | ⟨k,b0,_,h4,h5,h6⟩⟩
   ·exact .inl h1
   ·exact .inr ⟨h1,.inl (Nat.le_trans hs.size h2)⟩
   exact .inr ⟨h1,.inl (by rw [<- h6];exact hnew0 k b0 h4 h5)⟩
  obtain ⟨h1,h2,h3,_⟩:=hFr n b hfr
  rw [hout n h3]
  cases hnil:(σ n).nil with
  | true=>exact .inl rfl
  | false =>
   have h4:=hFrlt n b hfr hnil
   refine .inr ⟨?_,.inl (hnew0 n b h1 hnil)⟩
   cases hM':M' (σ n).b with
   | none=>rfl
   | some o =>
    have hM:M (σ n).b=none:=by
     rcases hs.loc n b h1 with h5 | ⟨h5,_⟩
     ·rw [hnil] at h5;cases h5
     exact h5
    have:=hs'.new _ o hM' hM
    omega
 have KU:∀ (n n':Nat) (b':Blk),(BB L n=true/\∃ b2,get ((q,Blk.cells (Dx v 0 m (lE x)) ty)::hE x) n=some b2)->get (I7 (q::K1) s.h) n'=some b'->(σ2 n).nil=true\/(σ2 n').nil=true\/(σ2 n).b≠(σ2 n').b:=fun n n' b' ⟨hn,b2,hb2⟩ hfr=>by
  obtain ⟨h1,h2,h3,_⟩:=hFr n' b' hfr
  rw [hin n hn,hout n' h3]
  cases hnil:(σ n').nil with
  | true=>exact .inr (.inl rfl)
  | false =>
   obtain ⟨h4,h5⟩:=hFrlt n' b' hfr hnil
   rcases hloc' n b2 hb2 with h6 | ⟨_,h6 | ⟨k,b0,h7,h8,h9,h10⟩⟩
   ·exact .inl h6
   ·exact .inr (.inr (by omega))
   refine .inr (.inr ?_)
   have hne:n'≠k:=fun e=>by rw [e,h7] at h2;cases h2
   rcases hs.inj n' k b' b0 h1 h8 hne with h11 | h11 | h11
   ·rw [hnil] at h11;cases h11
   ·rw [h9] at h11;cases h11
   rw [<- h10];exact fun e=>h11 e.symm
 rcases hG n b h with ⟨hn,_,b2,hb2⟩ | hfr
 ·rcases hG n' b' h' with ⟨hn',_,b3,hb3⟩ | hfr'
  ·rw [hin n hn,hin n' hn']
   exact hs'.inj n n' b2 b3 hb2 hb3 hne
  exact KU n n' b' ⟨hn,b2,hb2⟩ hfr'
 rcases hG n' b' h' with ⟨hn',_,b3,hb3⟩ | hfr'
 ·rcases KU n' n b ⟨hn',b3,hb3⟩ hfr with h1 | h1 | h1
  ·exact .inr (.inl h1)
  ·exact .inl h1
  exact .inr (.inr (Ne.symm h1))
 obtain ⟨h1,_,h3,_⟩:=hFr n b hfr
 obtain ⟨h4,_,h6,_⟩:=hFr n' b' hfr'
 rw [hout n h3,hout n' h6]
 exact hs.inj n n' b b' h1 h4 hne
end
end
section
open Go.RowKit
def mkX (w:World):Nat->Option Loc:=fun n=>bif Nat.beq n 299999 then some ⟨w.heap.size,424242,true⟩ else none
theorem Ov {w:World} {n:Nat} {x:Loc} (h:mkX w n=some x):n=299999/\x=⟨w.heap.size,424242,true⟩:=by
 unfold mkX at h
 cases h9:Nat.beq n 299999 with
 | false=>rw [h9] at h;cases h
 | true=>rw [h9] at h;simp only [cond_true,Option.some.injEq] at h;exact ⟨Nat.eq_of_beq_eq_true h9,h.symm⟩
theorem bK (w:World):Na (mkX w):=⟨299999,⟨w.heap.size,424242,true⟩,by simp only [mkX,Nat.beq_refl,cond_true],rfl,rfl⟩
theorem bI (w:World):C8 (mkX w) w []:=fun n x h=>by
 obtain ⟨h1,rfl⟩:=Ov h
 exact .inr ⟨h1,Nat.le_refl _⟩
theorem bJ {w:World} {b:Nat} (h:inX (mkX w) b):b=w.heap.size:=by
 obtain ⟨n,x,h1,h2⟩:=h
 obtain ⟨_,rfl⟩:=Ov h1
 exact h2.symm
section
variable {P:Program}
def Frs (P:Program) (f:FuncId) (xs:List Av) {ι:Type} (I:ι->Prop) (V:ι->Tv) (hE:ι->List (Nat×Blk)):Prop:=∀ (M:Nat->Option Obj) (σ:Nat->Loc) (w:World) (args:List Value),(∀ b o,M b=some o->w.heap[b]? = some o)->L2 (RA M σ) xs args ->
 Calls P f args.toArray w fun en w'=>∃ U,en=.returned U/\∃ (x:ι) (M':Nat->Option Obj) (σ':Nat->Loc),I x/\Gf w w' M M' LZ/\(∀ n b,get (hE x) n=some b->Bv M' σ' w' (σ' n) b/\((σ' n).nil=true\/(w.heap.size<=(σ' n).b/\M' (σ' n).b=none))) /\
  (∀ n m b c,get (hE x) n=some b->get (hE x) m=some c->n≠m->(σ' n).nil=true\/(σ' m).nil=true\/(σ' n).b≠(σ' m).b)/\RT M' σ' (V x) U
theorem J5 {f:FuncId} {fn:Func} {c:Code} (hf:P.funcs[f]? = some fn) (hb:fn.body=some c) {xs:List Av} {ι:Type} {I:ι->Prop} {V:ι->Tv} {hE:ι->List (Nat×Blk)} (hN:Nat.ble xs.length fn.ntmps=true) (hN2:Nat.ble fn.ntmps 299999=true) (hdv:xs.all Av.dv=true)
  (h:∀ (W0:World) (M0:Nat->Option Obj) (X:Nat->Option Loc),C8 X W0 []->Na X->AWp P none fn.ntmps W0 X M0 c (My P fn.ntmps W0 X M0 fn fun r' s'=>∃ x,I x/\TvE r' (V x)/\∀ n b,get (hE x) n=some b->∃ b',get s'.h n=some b'/\I1 b' b) ⟨Gc 0 xs,[]⟩):Frs P f xs I V hE:=by
 intro M σ w args himm hargs
 have hargs':L2 (RA M (upd σ 299999 ⟨w.heap.size,424242,true⟩)) xs args:=hargs.mono fun x hx u hu=>LJ (r:=.av x) (List.all_eq_true.1 hdv x hx) hu
 refine Ha (X:=mkX w) (σ:=upd σ 299999 ⟨w.heap.size,424242,true⟩) (h0:=[]) hf hb (Nat.le_of_ble_eq_true hN) himm hargs' (fun n b h=>by cases h) (fun n b h=>by cases h) (fun n x h => ?_) (fun n m b c h=>by cases h) (HL (h w M (mkX w) (bI w) (bK w))) ?_
 ·obtain ⟨rfl,rfl⟩:=Ov h
  exact ⟨Nat.le_of_ble_eq_true hN2,BV _ _ _⟩
 rintro r' s' M' σ' a' w' U ⟨x,hI,he,hbs⟩ hs hR
 have hnew:∀ b,b<w.heap.size->¬ inX (mkX w) b:=fun b hb hi=>by have:=bJ hi;omega
 refine ⟨U,rfl,x,M',σ',hI,⟨hs.os,hs.tape,hs.output,hs.size,fun b hb _=>hs.old b hb (hnew b hb),hs.sub,hs.new,hs.imm⟩,fun n b hn => ?_,fun n m b c hn hm hne => ?_,PP he hR⟩
 ·obtain ⟨b',hb',hbe⟩:=hbs n b hn
  refine ⟨L6 hbe (hs.blk n _ hb'),?_⟩
  rcases hs.loc n _ hb' with h1 | ⟨h1,h2 | h2⟩
  ·exact .inl h1
  ·exact .inr ⟨h2,h1⟩
  exact .inr ⟨by rw [bJ h2];exact Nat.le_refl _,h1⟩
 obtain ⟨b',hb',_⟩:=hbs n b hn
 obtain ⟨c',hc',_⟩:=hbs m c hm
 exact hs.inj n m b' c' hb' hc' hne
def mX (N:Nat) (K:List Nat) (d:Nat) (V:Tv) (hE:List (Nat×Blk)) (s:AS):Bool :=
 Nat.ble (d+1) N&&(HC hE).all (fun k=>MU K k&&noD k s)&&V.only (HC hE)&&hE.all fun p=>p.2.only (HC hE)
def fA (d:Nat) (V:Tv) (hE:List (Nat×Blk)) (s:AS):AS:=⟨put s.t d V,hE++s.h⟩
variable {rd:Option Nat} {N:Nat} {W0:World} {X:Nat→Option Loc} {M0 M M':Nat→Option Obj} {σ σ':Nat→Loc} {w w':World} {a:Act} {Q:Exit→AS→Prop} {s:AS}
theorem XQ {K:List Nat} {d:Nat} {V:Tv} {hE:List (Nat×Blk)} {U:Value} (hX:C8 X W0 K) (hok:mX N K d V hE s=true) (hs:Sim N W0 X M0 M σ (get s.t) (get s.h) a w) (hk:Gf w w' M M' LZ)
  (hb:∀ n b,get hE n=some b->Bv M' σ' w' (σ' n) b/\((σ' n).nil=true\/(w.heap.size<=(σ' n).b/\M' (σ' n).b=none)))
  (hi:∀ n m b c,get hE n=some b->get hE m=some c->n≠m->(σ' n).nil=true\/(σ' m).nil=true\/(σ' n).b≠(σ' m).b) (hR:RT M' σ' V U) :
  Sim N W0 X M0 M' (fun n=>bif BB (HC hE) n then σ' n else σ n) (get (fA d V hE s).t) (get (fA d V hE s).h) (a.put (some d) U) w':=by
 unfold mX at hok
 simp only [Bool.and_eq_true] at hok
 obtain ⟨⟨⟨hdN,hks⟩,hV⟩,hEo⟩:=hok
 have hdN:=Nat.le_of_ble_eq_true hdN
 have hkeys:∀ n b,get hE n=some b->BB (HC hE) n=true:=fun n b h=>O3 h
 generalize HC hE=L at *
 obtain ⟨σ2,hσ2⟩:∃ σ2:Nat->Loc,σ2=fun n=>bif BB L n then σ' n else σ n:=⟨_,rfl⟩
 rw [<- hσ2]
 have hin:∀ n,BB L n=true->σ2 n=σ' n:=fun n h=>by rw [hσ2];simp only [h,cond_true]
 have hout:∀ n,BB L n=false->σ2 n=σ n:=fun n h=>by rw [hσ2];simp only [h,cond_false]
 have hk1:∀ n,BB L n=true->MU K n=true/\noD n s=true:=fun n h=>by
  have:=List.all_eq_true.1 hks n (Jw h)
  simpa only [Bool.and_eq_true] using this
 have hno:∀ n,BB L n=true->get s.h n=none:=fun n h=>Wb (hk1 n h).2
 have hold:∀ (x:Nat),(BB L x=true->False)->σ2 x=σ x:=fun x h=>hout x (by cases hm:BB L x;rfl;exact (h hm).elim)
 have hG:∀ n b,get (fA d V hE s).h n=some b->(BB L n=true/\get hE n=some b)\/(BB L n=false/\get s.h n=some b):=fun n b h=>by
  have h:get (hE++s.h) n=some b:=h
  rw [R1] at h
  cases hg:get hE n with
  | some b2=>rw [hg] at h;simp only at h;exact .inl ⟨hkeys n b2 hg,h⟩
  | none =>
   rw [hg] at h
   simp only at h
   cases hm:BB L n with
   | true=>rw [hno n hm] at h;cases h
   | false=>exact .inr ⟨rfl,h⟩
 have hMn:∀ b,b<w.heap.size->M b=none->M' b=none:=fun b hb h0=>by
  cases h1:M' b with
  | none=>rfl
  | some o=>have:=hk.new b o h1 h0;omega
 refine ⟨hk.os.trans hs.os,hk.tape.trans hs.tape,hk.output.trans hs.output,Nat.le_trans hs.size hk.size,fun b hb hnx=>(hk.old b (Nat.lt_of_lt_of_le hb hs.size) (fun h=>h)).trans (hs.old b hb hnx),fun b o h=>hk.sub b o (hs.sub b o h),fun b o h h0 => ?_,fun n u hu=>⟨(hs.pin n u hu).1,?_⟩,hs.defers.mono hk.sub,by simpa [Act.put] using hs.room,fun i v hv => ?_,hk.imm,fun n b hn => ?_,fun n b hn => ?_,fun n m b c hn hm hne => ?_⟩
 ·cases h1:M b with
  | some o'=>exact hs.new b o' h1 h0
  | none=>exact Nat.le_trans hs.size (hk.new b o h h1)
 ·rw [hold n fun h=>Ro hX (hk1 n h).1 hu rfl];exact (hs.pin n u hu).2
 ·have hv:get (put s.t d V) i=some v:=hv
  rw [J0] at hv
  have hput:(a.put (some d) U).tmps.getD i undef=if d=i then U else a.tmps.getD i undef:=HG hs.room (by omega) U i
  rw [hput]
  by_cases hdi:d=i
  ·rw [if_pos hdi] at hv ⊢
   simp only [Option.some.injEq] at hv
   subst hv
   exact EP (fun _ _ h=>h) (fun k hk'=>hin k (S6 hV hk')) hR
  rw [if_neg hdi] at hv ⊢
  exact EP hk.sub (fun k hk'=>hold k fun h=>by rw [Wa (hk1 k h).2 hv] at hk';cases hk') (hs.tmps i v hv)
 ·rcases hG n b hn with ⟨h1,h2⟩ | ⟨h1,h2⟩
  ·rw [hin n h1]
   exact (hb n b h2).1.mono (fun _ _ h=>h) (fun k hk'=>hin k (S7 (List.all_eq_true.1 hEo _ (DL h2)) hk')) (fun _=>rfl)
  rw [hout n h1]
  exact (hs.blk n b h2).mono hk.sub (fun k hk'=>hold k fun h=>by rw [TJ (hk1 k h).2 h2] at hk';cases hk') (fun hnil=>hk.old _ ((hs.blk n b h2).lt hnil) (fun h=>h))
 ·rcases hG n b hn with ⟨h1,h2⟩ | ⟨h1,h2⟩
  ·rw [hin n h1]
   rcases (hb n b h2).2 with h3 | ⟨h3,h4⟩
   ·exact .inl h3
   exact .inr ⟨h4,.inl (Nat.le_trans hs.size h3)⟩
  rw [hout n h1]
  cases hnil:(σ n).nil with
  | true=>exact .inl rfl
  | false =>
   rcases hs.loc n b h2 with h3 | ⟨h3,h4⟩
   ·rw [hnil] at h3;cases h3
   exact .inr ⟨hMn _ ((hs.blk n b h2).lt hnil) h3,h4⟩
 have KU:∀ (n m:Nat) (b c:Blk),get hE n=some b->get s.h m=some c->(σ' n).nil=true\/(σ m).nil=true\/(σ' n).b≠(σ m).b:=fun n m b c h1 h2=>by
  rcases (hb n b h1).2 with h3 | ⟨h3,_⟩
  ·exact .inl h3
  cases hnil:(σ m).nil with
  | true=>exact .inr (.inl rfl)
  | false=>have:=(hs.blk m c h2).lt hnil;exact .inr (.inr (by omega))
 rcases hG n b hn with ⟨h1,h2⟩ | ⟨h1,h2⟩ <;> rcases hG m c hm with ⟨h3,h4⟩ | ⟨h3,h4⟩
 ·rw [hin n h1,hin m h3];exact hi n m b c h2 h4 hne
 ·rw [hin n h1,hout m h3];exact KU n m b c h2 h4
 ·rw [hout n h1,hin m h3]
  rcases KU m n c b h4 h2 with h | h | h
  ·exact .inr (.inl h)
  ·exact .inl h
  exact .inr (.inr (Ne.symm h))
 rw [hout n h1,hout m h3];exact hs.inj n m b c h2 h4 hne
structure CallS (P:Program) (o:Oper) (s:AS) (f:FuncId) (xs:List Av) (d:Nat):Prop where
 op:∃ c g,o.op=.call c/\c.callee=.value g/\(∃ caps,evT (get s.t) g=some (.av (.one (.clo f 0 caps))))/\Fd (evT (get s.t)) c.args.toList=some xs
 eg:∀ args w,(callFunc f args).run P w=.ok (.enter f args) w
 gd:o.guard=none
 dst:o.dst=some d
theorem H4 {K:List Nat} {ops:Array Oper} {o:Oper} {l:List Oper} {Kk:AS->Prop} {f:FuncId} {xs:List Av} {d:Nat} {ι:Type} {I:ι->Prop} {V:ι->Tv} {hE:ι->List (Nat×Blk)} (S:ι->AS) (hX:C8 X W0 K) (hc:CallS P o s f xs d) (hF:Frs P f xs I V hE) (hok:∀ x,mX N K d (V x) (hE x) s=true) (hS:∀ x,fA d (V x) (hE x) s=S x)
  (h:∀ x,I x->AWL P rd N W0 X M0 ops l Kk (S x)):AWL P rd N W0 X M0 ops (o::l) Kk s:=by
 intro M σ a w hs Q' hQ'
 refine wpListIn_step fun K0 hK' => ?_
 obtain ⟨⟨c,g,ho,hcf,⟨caps,hf⟩,hxs⟩,heg,hgd,hdst⟩:=hc
 rw [if_pos (by simp [Region.wanted,hgd])]
 have hev:∀ x v,evT (get s.t) x=some v->RT M σ v (a.eval x):=fun x v hv=>Hm hs.tmps hv
 obtain ⟨caps',hfv,hsz,hcaps⟩:=hev g _ hf
 have hargs:=KD hev _ _ hxs
 have hce:caps' = #[]:=Array.eq_empty_of_size_eq_zero (by simpa using hsz)
 subst hce
 have hmap:c.args.map a.eval=(c.args.toList.map a.eval).toArray:=by apply Array.ext';simp
 have hres:(resolve a.eval c o.type).run P w=.ok { target:=.fn (.func f) #[],args:=(c.args.toList.map a.eval).toArray } w:=by
  simp only [resolve,hcf,hfv,Deferred.ofValue,hmap]
  simp
 have hd:V2 P o a w fun U w'=>∃ (x:ι) (M':Nat->Option Obj) (σ':Nat->Loc),I x/\Gf w w' M M' LZ/\(∀ n b,get (hE x) n=some b->Bv M' σ' w' (σ' n) b/\((σ' n).nil=true\/(w.heap.size<=(σ' n).b/\M' (σ' n).b=none))) /\
  (∀ n m b c,get (hE x) n=some b->get (hE x) m=some c->n≠m->(σ' n).nil=true\/(σ' m).nil=true\/(σ' n).b≠(σ' m).b)/\RT M' σ' (V x) U:=by
  refine .inr (.inr ⟨f,(c.args.toList.map a.eval).toArray,?_,?_⟩)
  ·simp only [execOp,ho,Sem.run_bind,hres,Result.andThen_ok,invoke,Array.append_empty]
   exact heg _ _
  exact hF M σ w _ hs.imm hargs
 refine hd.wp (fun U w' ⟨x,M',σ',h1,h2,h3,h4,h5⟩ => ?_) (fun c' hc'=>by rw [ho] at hc';cases hc')
 rw [hdst]
 have:=XQ hX (hok x) hs h2 h3 h4 h5
 rw [hS x] at this
 exact hK' _ _ (h x h1 _ _ _ _ this Q' hQ')
end
open Go.RowKit
def F9:List Bool->Code->Option Code
 | [],c=>some c
 | false::p,.seq c _=>F9 p c
 | true::p,.seq _ c=>F9 p c
 | _,_=>none
section
variable {P:Program} {rd:Option Nat} {N:Nat} {W0:World} {X:Nat→Option Loc} {M0:Nat→Option Obj} {Q:Exit→AS→Prop} {s:AS}
def NZ (P:Program) (N:Nat) (L:List Nat) (c:Code) {ι:Type} (I:ι->Prop) (S0:(Nat->Value)->AS) (S1:(Nat->Value)->ι->AS):Prop :=
 ∀ (W1:World) (M1:Nat->Option Obj) (X1:Nat->Option Loc) (v:Nat->Value),C8 X1 W1 L->Na X1->AWp P none N W1 X1 M1 c (fun e s'=>∃ t,Cv N W1 X1 M1 s' t/\e=.normal/\∃ x,I x/\t=S1 v x) (S0 v)
theorem CH {c:Code} {ι:Type} {I:ι->Prop} {S0:(Nat->Value)->AS} {S1:(Nat->Value)->ι->AS} (q:Nat) (l:List Cl) (ty:TypeId) (m:List Bool) (T1 K1:List Nat) (tE:ι->List (Nat×Tv)) (lE:ι->List Cl) (hE:ι->List (Nat×Blk)) (S:ι->AS) (hX:C8 X W0 []) (hF:Na X) (core:NZ P N (q::K1) c I S0 S1) (hQ:∀ x,I x->Q .normal (S x))
  (hq:get s.h q=some (.cells l ty):=by kernel_rfl) (hN:(q::K1).all (fun n=>Nat.ble N n)=true:=by kernel_rfl) (hN2:Nat.ble N 299999=true:=by kernel_rfl) (hno:noD 299999 s=true:=by kernel_rfl) (hK:BB (q::K1) 299999=false:=by kernel_rfl) (hchk:∀ x,mT q K1 m s l (tE x) (lE x) (hE x)=true:=by intro _;kernel_rfl)
  (h0:∀ v,(⟨HD s.t T1,(q,.cells (Dx v 0 m l) ty)::HD s.h K1⟩:AS)=S0 v:=by intro _;kernel_rfl) (h1:∀ v x,S1 v x=⟨tE x,(q,.cells (Dx v 0 m (lE x)) ty)::hE x⟩:=by intro _ _;kernel_rfl)
  (h2:∀ x,(⟨tE x,(q,.cells (Ox m l (lE x)) ty)::(hE x++I7 (q::K1) s.h)⟩:AS)=S x:=by intro _;kernel_rfl):AWp P none N W0 X M0 c Q s:=by
 refine eB q l ty m T1 K1 hX hF I tE lE hE hq hN hN2 hno hK hchk (fun W1 M1 X1 v hP hFl=>HL ?_) fun x hx=>by rw [h2 x];exact hQ x hx
 rw [h0 v]
 refine iZ (core W1 M1 X1 v hP hFl) ?_
 rintro e s' ⟨t,h3,h4,x,h5,h6⟩
 exact ⟨t,h3,h4,x,h5,by rw [h6,h1 v x]⟩
end
open Go.RowKit
def mkB (n k:Nat):List Bool:=(List.range n).map fun i => !Nat.beq i k
def lEB (n k:Nat) (c:Cl):List Cl:=(List.range n).map fun i=>bif Nat.beq i k then c else .any
theorem cM {α:Type} {l m:List (Nat×α)} {n:Nat} {v:α} (h:get l n=some v):get (l++m) n=some v:=by
 rw [R1,h]
open Go.RowKit
theorem iI {V:Tv} {h l m:List (Nat×Blk)} (hh:h=l++m):∃ x:Unit,True/\TvE V V/\∀ n b,get l n=some b->∃ b',get h n=some b'/\I1 b' b :=
 ⟨(),trivial,.refl _,fun n b h'=>⟨b,by rw [hh];exact cM h',.refl _⟩⟩
open Go.RowKit
def fzL:List Nat->AS->AS
 | [],s=>s
 | n::r,s=>fzL r (fzN n s)
def iG (K:List Nat):List Nat->AS->Bool
 | [],_=>true
 | n::r,s=>fzK K n s&&iG K r (fzN n s)
def fS:List Nat->AS->List (List (Nat×Nat))
 | [],_=>[]
 | n::r,s=>prS n s::fS r (fzN n s)
def iH:List Nat->AS->List (List (Nat×Nat))
 | [],_=>[]
 | n::r,s=>fzE n s::iH r (fzN n s)
theorem mU {N:Nat} {W0:World} {X:Nat->Option Loc} {M0:Nat->Option Obj} {K:List Nat} (l:List Nat) (hX:C8 X W0 K):∀ {s:AS},iG K l s=true->fS l s=iH l s->Cv N W0 X M0 s (fzL l s):=by
 induction l with
 | nil=>exact fun _ _=>Cv.refl _
 | cons n r ih =>
  intro s h1 h2
  simp only [iG,Bool.and_eq_true] at h1
  simp only [fS,iH,List.cons.injEq] at h2
  exact Cv.trans (Vj n hX h1.1 h2.1) (ih h1.2 h2.2)
theorem B2 {N:Nat} {W0:World} {X:Nat->Option Loc} {M0:Nat->Option Obj} {K:List Nat} {s:AS} (l:List Nat) (hX:C8 X W0 K) (hk:iG K l s=true:=by kernel_rfl) (he:fS l s=iH l s:=by kernel_rfl):Cv N W0 X M0 s (fzL l s):=mU l hX hk he
end
section
open Go.RowKit
def Z5Y:Blk:=.cells GX 62
variable (v:Nat->Value) (b:AC) (Bp:List BC) (Bo:List BE) (Bn:List Az) (Bb:List AN) (CF:List A9) (CE:List AO) (Bu:List A4) (CD:List A5) (v11 v16 v5 v9:Int)
def Z5Z:Blk:=.row 2 CF.length (AV A9.c CF) 69
abbrev FT (t_:List Cl):List Cl:=(.val (v 0))::(.val (v 1))::(.val (v 2))::(.val (v 3))::(.val (v 4))::t_
def Z60:Blk:=.cells (FT v [.own 2000 2 CF.length,.val (v 6),.val (v 7),.val (v 8),.val (v 9),.val (v 10),.val (v 11),.val (v 12),.val (v 13),.val (v 14)]) 62
def Z61 (CF:List A9) (b:AC) (v4:Int):Blk:=.row 2 (CF++[b.Nets.getD v4.toNat default]).length (AV A9.c (CF++[b.Nets.getD v4.toNat default])) 69
def Z62 (v:(Nat->Value)) (CF:List A9) (b:AC) (v4:Int):Blk:=.cells (FT v [.own 61 2 (CF++[b.Nets.getD v4.toNat default]).length,.val (v 6),.val (v 7),.val (v 8),.val (v 9),.val (v 10),.val (v 11),.val (v 12),.val (v 13),.val (v 14)]) 62
def Z63:Blk:=.cells (FT v [.own 3100 2 CF.length,.val (v 6),.val (v 7),.val (v 8),.val (v 9),.val (v 10),.val (v 11),.val (v 12),.val (v 13),.val (v 14)]) 62
def GH (b:AC):Nat->List A9->Int->(List A9)
 | 0,_,_=>default
 | n0+1,CF,v4=>bif decide ((v4:Int)<(b.Nets.length:Int)) then ((GH b n0) (CF++[b.Nets.getD v4.toNat default]) (v4+1)) else CF
def Aq (b:AC):(List A9):=GH b (((b.Nets.length:Int)-0).toNat+1) ([]:List A9) 0
abbrev Bf:List (Nat×Tv):=(Fq [(3,tP 3003 0)])
abbrev B7:Nat×Blk:=(3001,.cells (AC.c b) 62)
abbrev CI:Nat×Blk:=(3002,.cells GX 62)
abbrev WI (b:AC) (v:Nat->Value) (xs:List A9):AS:=⟨Bf,[(3003,.cells (FT v [.own 3100 2 xs.length,.val (v 6),.val (v 7),.val (v 8),.val (v 9),.val (v 10),.val (v 11),.val (v 12),.val (v 13),.val (v 14)]) 62),(B7 b),CI,(3100,.row 2 xs.length (AV A9.c xs) 69)]⟩
theorem au4 {p:Prop} (h:p:=by first | omega | (unfold maxLen;omega)):p:=h
set_option maxHeartbeats 4000000 in
theorem R3 (b:AC) (hc:Ce b) {c:Code} (hpc:Try.f59.body.bind (F9 [true,true,false,true])=some c):NZ Try.prog 229 [3003,3001,3002] c (fun _:Unit=>True) (fun v=>⟨[(1,tP 3001 0),(2,tP 3002 0),(3,tP 3003 0),(4,tI 0)],[(3003,.cells [.val (v 0),.val (v 1),.val (v 2),.val (v 3),.val (v 4),vN,.val (v 6),.val (v 7),.val (v 8),.val (v 9),.val (v 10),.val (v 11),.val (v 12),.val (v 13),.val (v 14)] 62),(3001,.cells (AC.c b) 62),(3002,.cells [.i 0,.i 0,vN,.i 0,vN,vN,vN,vN,vN,vN,vN,vN,vN,vN,vN] 62)]⟩) (fun v _=>WI b v (Aq b)):=by
 cases hpc
 intro W0 M0 X v hP hFl
 show AWp _ _ _ _ _ _ _ _ ⟨[(1,tP 3001 0),(2,tP 3002 0),(3,tP 3003 0),(4,tI 0)],[(3003,.cells [.val (v 0),.val (v 1),.val (v 2),.val (v 3),.val (v 4),vN,.val (v 6),.val (v 7),.val (v 8),.val (v 9),.val (v 10),.val (v 11),.val (v 12),.val (v 13),.val (v 14)] 62),(3001,.cells (AC.c b) 62),(3002,.cells [.i 0,.i 0,vN,.i 0,vN,vN,vN,vN,vN,vN,vN,vN,vN,vN,vN] 62)]⟩
 have h0:=hc.lParts
 have h1:=hc.lNets
 have h2:=hc.lTracks
 have h3:=hc.lVias
 have h4:=hc.lPours
 have h5:=hc.lKeeps
 have h6:=hc.lSlots
 have h7:=hc.lClasses
 have h8:=hc.lWaivers
 have h9:=hc.lMatches
 have h10:=hc.lRules
 have hr:=hc.rok
 refine AM<|Al (Cv.trans (CG [1,2,3,4] [3001,3002,3003] (⟨[(1,tP 3001 0),(2,tP 3002 0),(3,tP 3003 0),(4,tI 0)],[(3001,.cells (AC.c b) 62),(3002,Z5Y),(3003,.cells [.val (v 0),.val (v 1),.val (v 2),.val (v 3),.val (v 4),vN,.val (v 6),.val (v 7),.val (v 8),.val (v 9),.val (v 10),.val (v 11),.val (v 12),.val (v 13),.val (v 14)] 62)]⟩) kr) (Cv.trans (Fx (⟨[(1,tP 3001 0),(2,tP 3002 0),(3,tP 3003 0),(4,tI 0)],[(2000,.row 2 0 (fun _ _=>default) 69),(3001,.cells (AC.c b) 62),(3002,Z5Y),(3003,.cells [.val (v 0),.val (v 1),.val (v 2),.val (v 3),.val (v 4),.own 2000 2 0,.val (v 6),.val (v 7),.val (v 8),.val (v 9),.val (v 10),.val (v 11),.val (v 12),.val (v 13),.val (v 14)] 62)]⟩) 2000 2 (fun _ _=>default) 69 [] [(3003,[5])] (K:=[3003,3001,3002]) hP rfl kr kr) (HY (⟨[(1,tP 3001 0),(2,tP 3002 0),(3,tP 3003 0),(4,tI 0)],[(2000,.row 2 ([]:List A9).length (AV A9.c ([]:List A9)) 69),(3001,.cells (AC.c b) 62),(3002,Z5Y),(3003,.cells [.val (v 0),.val (v 1),.val (v 2),.val (v 3),.val (v 4),.own 2000 2 ([]:List A9).length,.val (v 6),.val (v 7),.val (v 8),.val (v 9),.val (v 10),.val (v 11),.val (v 12),.val (v 13),.val (v 14)] 62)]⟩) 2000 (CV 2 (fun _ _=>default) A9.c)))) ?_
 refine BK (ι:=Nat×List A9×Int) (fun x=>⟨[(1,tP 3001 0),(2,tP 3002 0),(3,tP 3003 0),(4,tI x.2.2)],[(2000,.row 2 x.2.1.length (AV A9.c x.2.1) 69),(3001,.cells (AC.c b) 62),(3002,Z5Y),(3003,.cells [.val (v 0),.val (v 1),.val (v 2),.val (v 3),.val (v 4),.own 2000 2 x.2.1.length,.val (v 6),.val (v 7),.val (v 8),.val (v 9),.val (v 10),.val (v 11),.val (v 12),.val (v 13),.val (v 14)] 62)]⟩) (fun x=>((b.Nets.length:Int)-x.2.2).toNat<x.1/\(0<=x.2.2/\(x.2.2<=(b.Nets.length:Int)\/x.2.2=0)/\(x.2.1.length:Int)<=0+1*(x.2.2-0))/\GH b x.1 x.2.1 x.2.2=Aq b) (fun x=>x.1) ?_ (((b.Nets.length:Int)-0).toNat+1,([]:List A9),0) ⟨Nat.lt_succ_self _,⟨ax0,ax0,ax0⟩,(by simp only [Aq,cond_true,cond_false])⟩
 rintro ⟨n0,CF,v4⟩ ⟨hm0,hinv0,hF0⟩
 try dsimp only at hm0 hinv0 hF0
 cases n0 with | zero=>exact nz hm0 | succ n0 => ?_
 have hb:=hc.pin v4.toNat
 refine AA<|AA<|rn ⟨[(1,tP 3001 0),(2,tP 3002 0),(3,tP 3003 0),(4,tI v4),(40,tB (decide ((v4:Int)<(b.Nets.length:Int))))],[(2000,Z5Z CF),(3001,.cells (AC.c b) 62),(3002,Z5Y),(3003,Z60 v CF)]⟩<|AL _ rfl (fun h1 => ?_) (fun h1 => ?_)
 ·have g1:=oT h1
  refine AQ<|AF<|AA<|AM<|od [1000051] [] [0<=(v4:Int)/\(v4:Int)<((b.Nets.length:Nat):Int),0<=(v4:Int)/\(v4:Int)<((b.Nets.length:Nat):Int),(b.Nets.getD v4.toNat default).Pins.length<=maxLen,(b.Nets.getD v4.toNat default).Pins.length*32<=140737488355328,CF.length=CF.length,CF.length+1<=maxLen,(CF.length+1)*40<=140737488355328] .nil (.cons au1 (.cons au1 (.cons au4 (.cons au4 (.cons rfl (.cons au4 (.cons au4 .nil)))))))<|A0<|AF<|Al (A6 61 (Ar (Af 2 A9.c CF) (A1 2 A9.c ([b.Nets.getD v4.toNat default]:List A9))))<|rg ⟨[(1,tP 3001 0),(2,tP 3002 0),(3,tP 3003 0),(4,tI (W64 (v4+1)))],[(61,Z61 CF b v4),(3001,.cells (AC.c b) 62),(3002,Z5Y),(3003,Z62 v CF b v4)]⟩ ?_
  (try rw [(show W64 (v4+1)=v4+1 from Ap (by omega) au8)])
  refine AF ?_
  refine ⟨(n0,CF++[b.Nets.getD v4.toNat default],v4+1),⟨?_,?_,(by rw [<- hF0];simp only [GH,h1,cond_true,cond_false])⟩,Nat.lt_succ_self _,Cv.trans (CM (⟨[(1,tP 3001 0),(2,tP 3002 0),(3,tP 3003 0),(4,tI (v4+1))],[(2000,Z61 CF b v4),(3001,.cells (AC.c b) 62),(3002,Z5Y),(3003,.cells [.val (v 0),.val (v 1),.val (v 2),.val (v 3),.val (v 4),.own 2000 2 (CF++[b.Nets.getD v4.toNat default]).length,.val (v 6),.val (v 7),.val (v 8),.val (v 9),.val (v 10),.val (v 11),.val (v 12),.val (v 13),.val (v 14)] 62)]⟩) 61 2000 (K:=[3003,3001,3002]) hP rfl rfl kr kr) (BG kr)⟩
  ·show ((b.Nets.length:Int)-(v4+1)).toNat<n0;omega
  exact ⟨ax0,ax0,ax0⟩
 have g1:=oF h1
 refine BH<|A7<|A7<|BI ?_
 exact ⟨_,Cv.trans (CG [1,2,3] [2000,3001,3002,3003] (⟨[(1,tP 3001 0),(2,tP 3002 0),(3,tP 3003 0)],[(2000,Z5Z CF),(3001,.cells (AC.c b) 62),(3002,Z5Y),(3003,Z60 v CF)]⟩) kr) (Cv.trans (CM (⟨[(1,tP 3001 0),(2,tP 3002 0),(3,tP 3003 0)],[(3100,Z5Z CF),(3001,.cells (AC.c b) 62),(3002,Z5Y),(3003,Z63 v CF)]⟩) 2000 3100 (K:=[3003,3001,3002]) hP rfl rfl kr kr) (CG [1,2,3] [3003,3001,3002,3100] (⟨[(1,tP 3001 0),(2,tP 3002 0),(3,tP 3003 0)],[(3003,Z63 v CF),(3001,.cells (AC.c b) 62),(3002,Z5Y),(3100,Z5Z CF)]⟩) kr)),rfl,(),trivial,congrArg (WI b v) (show CF=_ from (by rw [<- hF0];first | (simp only [GH,h1,cond_true,cond_false] <;> rfl)))⟩
def Z64:Blk:=.cells GX 62
def Z65:Blk:=.row 6 CE.length (AV AO.c CE) 81
def Z66:Blk:=.cells (FT v [.val (v 5),.own 2000 6 CE.length,.val (v 7),.val (v 8),.val (v 9),.val (v 10),.val (v 11),.val (v 12),.val (v 13),.val (v 14)]) 62
def Z67:AX:=Bx (b.Tracks.getD v5.toNat default).Shape
abbrev UR:=[AO.mk (EE b v5).Id (EE b v5).Net (EE b v5).Layer (Z67 b v5)]
def Z68 (CE:List AO) (b:AC) (v5:Int):Blk:=.row 6 (CE++(UR b v5)).length (AV AO.c (CE++(UR b v5))) 81
def Z69 (v:(Nat->Value)) (CE:List AO) (b:AC) (v5:Int):Blk:=.cells (FT v [.val (v 5),.own 83 6 (CE++(UR b v5)).length,.val (v 7),.val (v 8),.val (v 9),.val (v 10),.val (v 11),.val (v 12),.val (v 13),.val (v 14)]) 62
def Z6a:Blk:=.cells (FT v [.val (v 5),.own 3102 6 CE.length,.val (v 7),.val (v 8),.val (v 9),.val (v 10),.val (v 11),.val (v 12),.val (v 13),.val (v 14)]) 62
def EV (b:AC):Nat->List AO->Int->(List AO)
 | 0,_,_=>default
 | n0+1,CE,v5=>bif decide ((v5:Int)<(b.Tracks.length:Int)) then ((EV b n0) (CE++[AO.mk (b.Tracks.getD v5.toNat default).Id (b.Tracks.getD v5.toNat default).Net (b.Tracks.getD v5.toNat default).Layer (Z67 b v5)]) (v5+1)) else CE
def AK (b:AC):(List AO):=EV b (((b.Tracks.length:Int)-0).toNat+1) ([]:List AO) 0
abbrev Pk (b:AC) (v:Nat->Value) (xs:List AO):AS:=⟨Bf,[(3003,.cells (FT v [.val (v 5),.own 3102 6 xs.length,.val (v 7),.val (v 8),.val (v 9),.val (v 10),.val (v 11),.val (v 12),.val (v 13),.val (v 14)]) 62),(B7 b),CI,(3102,.row 6 xs.length (AV AO.c xs) 81)]⟩
theorem au29 {p:Prop} (h:p:=by first | (with_reducible exact hc.ted _) | (with_reducible exact hc.ked _) | (with_reducible exact hc.sed _) | (with_reducible exact hc.out) | with_reducible assumption | omega | decide | (simp only [List.length_cons,List.length_nil,List.length_append];omega) | assumption):p:=h
set_option maxHeartbeats 4000000 in
theorem J4 (b:AC) (hc:Ce b) {c:Code} (hpc:Try.f59.body.bind (F9 [true,true,true,false,true])=some c):NZ Try.prog 229 [3003,3001,3002] c (fun _:Unit=>True) (fun v=>⟨[(1,tP 3001 0),(2,tP 3002 0),(3,tP 3003 0),(5,tI 0)],[(3003,.cells [.val (v 0),.val (v 1),.val (v 2),.val (v 3),.val (v 4),.val (v 5),vN,.val (v 7),.val (v 8),.val (v 9),.val (v 10),.val (v 11),.val (v 12),.val (v 13),.val (v 14)] 62),(3001,.cells (AC.c b) 62),(3002,.cells [.i 0,.i 0,vN,.i 0,vN,vN,vN,vN,vN,vN,vN,vN,vN,vN,vN] 62)]⟩) (fun v _=>Pk b v (AK b)):=by
 cases hpc
 intro W0 M0 X v hP hFl
 show AWp _ _ _ _ _ _ _ _ ⟨[(1,tP 3001 0),(2,tP 3002 0),(3,tP 3003 0),(5,tI 0)],[(3003,.cells [.val (v 0),.val (v 1),.val (v 2),.val (v 3),.val (v 4),.val (v 5),vN,.val (v 7),.val (v 8),.val (v 9),.val (v 10),.val (v 11),.val (v 12),.val (v 13),.val (v 14)] 62),(3001,.cells (AC.c b) 62),(3002,.cells [.i 0,.i 0,vN,.i 0,vN,vN,vN,vN,vN,vN,vN,vN,vN,vN,vN] 62)]⟩
 have h0:=hc.lParts
 have h1:=hc.lNets
 have h2:=hc.lTracks
 have h3:=hc.lVias
 have h4:=hc.lPours
 have h5:=hc.lKeeps
 have h6:=hc.lSlots
 have h7:=hc.lClasses
 have h8:=hc.lWaivers
 have h9:=hc.lMatches
 have h10:=hc.lRules
 have hr:=hc.rok
 refine AM<|Al (Cv.trans (CG [1,2,3,5] [3001,3002,3003] (⟨[(1,tP 3001 0),(2,tP 3002 0),(3,tP 3003 0),(5,tI 0)],[(3001,.cells (AC.c b) 62),(3002,Z64),(3003,.cells [.val (v 0),.val (v 1),.val (v 2),.val (v 3),.val (v 4),.val (v 5),vN,.val (v 7),.val (v 8),.val (v 9),.val (v 10),.val (v 11),.val (v 12),.val (v 13),.val (v 14)] 62)]⟩) kr) (Cv.trans (Fx (⟨[(1,tP 3001 0),(2,tP 3002 0),(3,tP 3003 0),(5,tI 0)],[(2000,.row 6 0 (fun _ _=>default) 81),(3001,.cells (AC.c b) 62),(3002,Z64),(3003,.cells [.val (v 0),.val (v 1),.val (v 2),.val (v 3),.val (v 4),.val (v 5),.own 2000 6 0,.val (v 7),.val (v 8),.val (v 9),.val (v 10),.val (v 11),.val (v 12),.val (v 13),.val (v 14)] 62)]⟩) 2000 6 (fun _ _=>default) 81 [] [(3003,[6])] (K:=[3003,3001,3002]) hP rfl kr kr) (HY (⟨[(1,tP 3001 0),(2,tP 3002 0),(3,tP 3003 0),(5,tI 0)],[(2000,.row 6 ([]:List AO).length (AV AO.c ([]:List AO)) 81),(3001,.cells (AC.c b) 62),(3002,Z64),(3003,.cells [.val (v 0),.val (v 1),.val (v 2),.val (v 3),.val (v 4),.val (v 5),.own 2000 6 ([]:List AO).length,.val (v 7),.val (v 8),.val (v 9),.val (v 10),.val (v 11),.val (v 12),.val (v 13),.val (v 14)] 62)]⟩) 2000 (CV 6 (fun _ _=>default) AO.c)))) ?_
 refine BK (ι:=Nat×List AO×Int) (fun x=>⟨[(1,tP 3001 0),(2,tP 3002 0),(3,tP 3003 0),(5,tI x.2.2)],[(2000,.row 6 x.2.1.length (AV AO.c x.2.1) 81),(3001,.cells (AC.c b) 62),(3002,Z64),(3003,.cells [.val (v 0),.val (v 1),.val (v 2),.val (v 3),.val (v 4),.val (v 5),.own 2000 6 x.2.1.length,.val (v 7),.val (v 8),.val (v 9),.val (v 10),.val (v 11),.val (v 12),.val (v 13),.val (v 14)] 62)]⟩) (fun x=>((b.Tracks.length:Int)-x.2.2).toNat<x.1/\(0<=x.2.2/\(x.2.2<=(b.Tracks.length:Int)\/x.2.2=0)/\(x.2.1.length:Int)<=0+1*(x.2.2-0))/\EV b x.1 x.2.1 x.2.2=AK b) (fun x=>x.1) ?_ (((b.Tracks.length:Int)-0).toNat+1,([]:List AO),0) ⟨Nat.lt_succ_self _,⟨ax0,ax0,ax0⟩,(by simp only [AK,cond_true,cond_false])⟩
 rintro ⟨n0,CE,v5⟩ ⟨hm0,hinv0,hF0⟩
 try dsimp only at hm0 hinv0 hF0
 cases n0 with | zero=>exact nz hm0 | succ n0 => ?_
 refine AA<|AA<|rn ⟨[(1,tP 3001 0),(2,tP 3002 0),(3,tP 3003 0),(5,tI v5),(67,tB (decide ((v5:Int)<(b.Tracks.length:Int))))],[(2000,Z65 CE),(3001,.cells (AC.c b) 62),(3002,Z64),(3003,Z66 v CE)]⟩<|AL _ rfl (fun h1 => ?_) (fun h1 => ?_)
 ·have g1:=oT h1
  refine AQ<|AF<|AA<|AM<|AA<|oc [] [0<=(v5:Int)/\(v5:Int)<((b.Tracks.length:Nat):Int)] .nil (.cons au1 .nil)<|AF<|AA<|oc [(77,B5 (b.Tracks.getD v5.toNat default).Shape)] [As (B5 (b.Tracks.getD v5.toNat default).Shape).2.1] (.cons (D2 (b.Tracks.getD v5.toNat default).Shape au29) .nil) (.cons rfl .nil)<|AF<|oc [] [CE.length=CE.length,CE.length+1<=maxLen,(CE.length+1)*72<=140737488355328] .nil (.cons rfl (.cons au4 (.cons au4 .nil)))<|A0<|AF<|Al (A6 83 (Ar (Af 6 AO.c CE) (A1 6 AO.c ([AO.mk (b.Tracks.getD v5.toNat default).Id (b.Tracks.getD v5.toNat default).Net (b.Tracks.getD v5.toNat default).Layer (Z67 b v5)]:List AO))))<|rg ⟨[(1,tP 3001 0),(2,tP 3002 0),(3,tP 3003 0),(5,tI (W64 (v5+1)))],[(83,Z68 CE b v5),(3001,.cells (AC.c b) 62),(3002,Z64),(3003,Z69 v CE b v5)]⟩ ?_
  (try rw [(show W64 (v5+1)=v5+1 from Ap (by omega) au8)])
  refine AF ?_
  refine ⟨(n0,CE++[AO.mk (b.Tracks.getD v5.toNat default).Id (b.Tracks.getD v5.toNat default).Net (b.Tracks.getD v5.toNat default).Layer (Z67 b v5)],v5+1),⟨?_,?_,(by rw [<- hF0];simp only [EV,h1,cond_true,cond_false])⟩,Nat.lt_succ_self _,Cv.trans (CM (⟨[(1,tP 3001 0),(2,tP 3002 0),(3,tP 3003 0),(5,tI (v5+1))],[(2000,Z68 CE b v5),(3001,.cells (AC.c b) 62),(3002,Z64),(3003,.cells [.val (v 0),.val (v 1),.val (v 2),.val (v 3),.val (v 4),.val (v 5),.own 2000 6 (CE++[AO.mk (b.Tracks.getD v5.toNat default).Id (b.Tracks.getD v5.toNat default).Net (b.Tracks.getD v5.toNat default).Layer (Z67 b v5)]).length,.val (v 7),.val (v 8),.val (v 9),.val (v 10),.val (v 11),.val (v 12),.val (v 13),.val (v 14)] 62)]⟩) 83 2000 (K:=[3003,3001,3002]) hP rfl rfl kr kr) (BG kr)⟩
  ·show ((b.Tracks.length:Int)-(v5+1)).toNat<n0;omega
  exact ⟨ax0,ax0,ax0⟩
 have g1:=oF h1
 refine BH<|A7<|A7<|BI ?_
 exact ⟨_,Cv.trans (CG [1,2,3] [2000,3001,3002,3003] (⟨[(1,tP 3001 0),(2,tP 3002 0),(3,tP 3003 0)],[(2000,Z65 CE),(3001,.cells (AC.c b) 62),(3002,Z64),(3003,Z66 v CE)]⟩) kr) (Cv.trans (CM (⟨[(1,tP 3001 0),(2,tP 3002 0),(3,tP 3003 0)],[(3102,Z65 CE),(3001,.cells (AC.c b) 62),(3002,Z64),(3003,Z6a v CE)]⟩) 2000 3102 (K:=[3003,3001,3002]) hP rfl rfl kr kr) (CG [1,2,3] [3003,3001,3002,3102] (⟨[(1,tP 3001 0),(2,tP 3002 0),(3,tP 3003 0)],[(3003,Z6a v CE),(3001,.cells (AC.c b) 62),(3002,Z64),(3102,Z65 CE)]⟩) kr)),rfl,(),trivial,congrArg (Pk b v) (show CE=_ from (by rw [<- hF0];first | (simp only [EV,h1,cond_true,cond_false] <;> rfl)))⟩
def Z6b:Blk:=.cells GX 62
def Z6c:Blk:=.row 8 Bu.length (AV A4.c Bu) 132
abbrev Cx (t_:List Cl):List Cl:=(.val (v 0))::(.val (v 1))::(.val (v 2))::(.val (v 3))::(.val (v 4))::(.val (v 5))::(.val (v 6))::(.val (v 7))::t_
def Z6d:Blk:=.cells (Cx v [.own 2000 8 Bu.length,.val (v 9),.val (v 10),.val (v 11),.val (v 12),.val (v 13),.val (v 14)]) 62
def Z6e (Bu:List A4) (b:AC) (v7:Int):Blk:=.row 8 (Bu++[b.Pours.getD v7.toNat default]).length (AV A4.c (Bu++[b.Pours.getD v7.toNat default])) 132
def Z6f (v:(Nat->Value)) (Bu:List A4) (b:AC) (v7:Int):Blk:=.cells (Cx v [.own 106 8 (Bu++[b.Pours.getD v7.toNat default]).length,.val (v 9),.val (v 10),.val (v 11),.val (v 12),.val (v 13),.val (v 14)]) 62
def Z6g:Blk:=.cells (Cx v [.own 3104 8 Bu.length,.val (v 9),.val (v 10),.val (v 11),.val (v 12),.val (v 13),.val (v 14)]) 62
def Fk (b:AC):Nat->List A4->Int->(List A4)
 | 0,_,_=>default
 | n0+1,Bu,v7=>bif decide ((v7:Int)<(b.Pours.length:Int)) then ((Fk b n0) (Bu++[b.Pours.getD v7.toNat default]) (v7+1)) else Bu
def Aw (b:AC):(List A4):=Fk b (((b.Pours.length:Int)-0).toNat+1) ([]:List A4) 0
abbrev Si (b:AC) (v:Nat->Value) (xs:List A4):AS:=⟨Bf,[(3003,.cells (Cx v [.own 3104 8 xs.length,.val (v 9),.val (v 10),.val (v 11),.val (v 12),.val (v 13),.val (v 14)]) 62),(B7 b),CI,(3104,.row 8 xs.length (AV A4.c xs) 132)]⟩
set_option maxHeartbeats 4000000 in
theorem Tk (b:AC) (hc:Ce b) {c:Code} (hpc:Try.f59.body.bind (F9 [true,true,true,true,false,true])=some c):NZ Try.prog 229 [3003,3001,3002] c (fun _:Unit=>True) (fun v=>⟨[(1,tP 3001 0),(2,tP 3002 0),(3,tP 3003 0),(7,tI 0)],[(3003,.cells [.val (v 0),.val (v 1),.val (v 2),.val (v 3),.val (v 4),.val (v 5),.val (v 6),.val (v 7),vN,.val (v 9),.val (v 10),.val (v 11),.val (v 12),.val (v 13),.val (v 14)] 62),(3001,.cells (AC.c b) 62),(3002,.cells [.i 0,.i 0,vN,.i 0,vN,vN,vN,vN,vN,vN,vN,vN,vN,vN,vN] 62)]⟩) (fun v _=>Si b v (Aw b)):=by
 cases hpc
 intro W0 M0 X v hP hFl
 show AWp _ _ _ _ _ _ _ _ ⟨[(1,tP 3001 0),(2,tP 3002 0),(3,tP 3003 0),(7,tI 0)],[(3003,.cells [.val (v 0),.val (v 1),.val (v 2),.val (v 3),.val (v 4),.val (v 5),.val (v 6),.val (v 7),vN,.val (v 9),.val (v 10),.val (v 11),.val (v 12),.val (v 13),.val (v 14)] 62),(3001,.cells (AC.c b) 62),(3002,.cells [.i 0,.i 0,vN,.i 0,vN,vN,vN,vN,vN,vN,vN,vN,vN,vN,vN] 62)]⟩
 have h0:=hc.lParts
 have h1:=hc.lNets
 have h2:=hc.lTracks
 have h3:=hc.lVias
 have h4:=hc.lPours
 have h5:=hc.lKeeps
 have h6:=hc.lSlots
 have h7:=hc.lClasses
 have h8:=hc.lWaivers
 have h9:=hc.lMatches
 have h10:=hc.lRules
 have hr:=hc.rok
 refine AM<|Al (Cv.trans (CG [1,2,3,7] [3001,3002,3003] (⟨[(1,tP 3001 0),(2,tP 3002 0),(3,tP 3003 0),(7,tI 0)],[(3001,.cells (AC.c b) 62),(3002,Z6b),(3003,.cells [.val (v 0),.val (v 1),.val (v 2),.val (v 3),.val (v 4),.val (v 5),.val (v 6),.val (v 7),vN,.val (v 9),.val (v 10),.val (v 11),.val (v 12),.val (v 13),.val (v 14)] 62)]⟩) kr) (Cv.trans (Fx (⟨[(1,tP 3001 0),(2,tP 3002 0),(3,tP 3003 0),(7,tI 0)],[(2000,.row 8 0 (fun _ _=>default) 132),(3001,.cells (AC.c b) 62),(3002,Z6b),(3003,.cells [.val (v 0),.val (v 1),.val (v 2),.val (v 3),.val (v 4),.val (v 5),.val (v 6),.val (v 7),.own 2000 8 0,.val (v 9),.val (v 10),.val (v 11),.val (v 12),.val (v 13),.val (v 14)] 62)]⟩) 2000 8 (fun _ _=>default) 132 [] [(3003,[8])] (K:=[3003,3001,3002]) hP rfl kr kr) (HY (⟨[(1,tP 3001 0),(2,tP 3002 0),(3,tP 3003 0),(7,tI 0)],[(2000,.row 8 ([]:List A4).length (AV A4.c ([]:List A4)) 132),(3001,.cells (AC.c b) 62),(3002,Z6b),(3003,.cells [.val (v 0),.val (v 1),.val (v 2),.val (v 3),.val (v 4),.val (v 5),.val (v 6),.val (v 7),.own 2000 8 ([]:List A4).length,.val (v 9),.val (v 10),.val (v 11),.val (v 12),.val (v 13),.val (v 14)] 62)]⟩) 2000 (CV 8 (fun _ _=>default) A4.c)))) ?_
 refine BK (ι:=Nat×List A4×Int) (fun x=>⟨[(1,tP 3001 0),(2,tP 3002 0),(3,tP 3003 0),(7,tI x.2.2)],[(2000,.row 8 x.2.1.length (AV A4.c x.2.1) 132),(3001,.cells (AC.c b) 62),(3002,Z6b),(3003,.cells [.val (v 0),.val (v 1),.val (v 2),.val (v 3),.val (v 4),.val (v 5),.val (v 6),.val (v 7),.own 2000 8 x.2.1.length,.val (v 9),.val (v 10),.val (v 11),.val (v 12),.val (v 13),.val (v 14)] 62)]⟩) (fun x=>((b.Pours.length:Int)-x.2.2).toNat<x.1/\(0<=x.2.2/\(x.2.2<=(b.Pours.length:Int)\/x.2.2=0)/\(x.2.1.length:Int)<=0+1*(x.2.2-0))/\Fk b x.1 x.2.1 x.2.2=Aw b) (fun x=>x.1) ?_ (((b.Pours.length:Int)-0).toNat+1,([]:List A4),0) ⟨Nat.lt_succ_self _,⟨ax0,ax0,ax0⟩,(by simp only [Aw,cond_true,cond_false])⟩
 rintro ⟨n0,Bu,v7⟩ ⟨hm0,hinv0,hF0⟩
 try dsimp only at hm0 hinv0 hF0
 cases n0 with | zero=>exact nz hm0 | succ n0 => ?_
 have hb:=hc.rec' v7.toNat
 refine AA<|AA<|rn ⟨[(1,tP 3001 0),(2,tP 3002 0),(3,tP 3003 0),(7,tI v7),(89,tB (decide ((v7:Int)<(b.Pours.length:Int))))],[(2000,Z6c Bu),(3001,.cells (AC.c b) 62),(3002,Z6b),(3003,Z6d v Bu)]⟩<|AL _ rfl (fun h1 => ?_) (fun h1 => ?_)
 ·have g1:=oT h1
  refine AQ<|AF<|AA<|AM<|AA<|rc [] [0<=(v7:Int)/\(v7:Int)<((b.Pours.length:Nat):Int)] ⟨[(1,tP 3001 0),(2,tP 3002 0),(3,tP 3003 0),(7,tI v7),(8,tP 8 0)],[(8,.cells (A4.c (b.Pours.getD v7.toNat default)) 132),(2000,Z6c Bu),(3001,.cells (AC.c b) 62),(3002,Z6b),(3003,Z6d v Bu)]⟩ .nil (.cons au1 .nil)<|AF<|AA<|CN DU [1000097] [] [] [1,2,3,7,8] [8,2000,3001,3002,3003] [(b.Pours.getD v7.toNat default).Rects.length<=maxLen,(b.Pours.getD v7.toNat default).Rects.length*32<=140737488355328] ⟨[(1,tP 3001 0),(2,tP 3002 0),(3,tP 3003 0),(7,tI v7),(8,tP 8 0)],[(8,.cells (A4.c (b.Pours.getD v7.toNat default)) 132),(2000,Z6c Bu),(3001,.cells (AC.c b) 62),(3002,Z6b),(3003,Z6d v Bu)]⟩ .nil kr (.cons au4 (.cons au4 .nil))<|AF<|oc [] [Bu.length=Bu.length,Bu.length+1<=maxLen,(Bu.length+1)*88<=140737488355328] .nil (.cons rfl (.cons au4 (.cons au4 .nil)))<|A0<|AF<|Al (A6 106 (Ar (Af 8 A4.c Bu) (A1 8 A4.c ([b.Pours.getD v7.toNat default]:List A4))))<|rg ⟨[(1,tP 3001 0),(2,tP 3002 0),(3,tP 3003 0),(7,tI (W64 (v7+1)))],[(106,Z6e Bu b v7),(3001,.cells (AC.c b) 62),(3002,Z6b),(3003,Z6f v Bu b v7)]⟩ ?_
  (try rw [(show W64 (v7+1)=v7+1 from Ap (by omega) au8)])
  refine AF ?_
  refine ⟨(n0,Bu++[b.Pours.getD v7.toNat default],v7+1),⟨?_,?_,(by rw [<- hF0];simp only [Fk,h1,cond_true,cond_false])⟩,Nat.lt_succ_self _,Cv.trans (CM (⟨[(1,tP 3001 0),(2,tP 3002 0),(3,tP 3003 0),(7,tI (v7+1))],[(2000,Z6e Bu b v7),(3001,.cells (AC.c b) 62),(3002,Z6b),(3003,.cells [.val (v 0),.val (v 1),.val (v 2),.val (v 3),.val (v 4),.val (v 5),.val (v 6),.val (v 7),.own 2000 8 (Bu++[b.Pours.getD v7.toNat default]).length,.val (v 9),.val (v 10),.val (v 11),.val (v 12),.val (v 13),.val (v 14)] 62)]⟩) 106 2000 (K:=[3003,3001,3002]) hP rfl rfl kr kr) (BG kr)⟩
  ·show ((b.Pours.length:Int)-(v7+1)).toNat<n0;omega
  exact ⟨ax0,ax0,ax0⟩
 have g1:=oF h1
 refine BH<|A7<|A7<|BI ?_
 exact ⟨_,Cv.trans (CG [1,2,3] [2000,3001,3002,3003] (⟨[(1,tP 3001 0),(2,tP 3002 0),(3,tP 3003 0)],[(2000,Z6c Bu),(3001,.cells (AC.c b) 62),(3002,Z6b),(3003,Z6d v Bu)]⟩) kr) (Cv.trans (CM (⟨[(1,tP 3001 0),(2,tP 3002 0),(3,tP 3003 0)],[(3104,Z6c Bu),(3001,.cells (AC.c b) 62),(3002,Z6b),(3003,Z6g v Bu)]⟩) 2000 3104 (K:=[3003,3001,3002]) hP rfl rfl kr kr) (CG [1,2,3] [3003,3001,3002,3104] (⟨[(1,tP 3001 0),(2,tP 3002 0),(3,tP 3003 0)],[(3003,Z6g v Bu),(3001,.cells (AC.c b) 62),(3002,Z6b),(3104,Z6c Bu)]⟩) kr)),rfl,(),trivial,congrArg (Si b v) (show Bu=_ from (by rw [<- hF0];first | (simp only [Fk,h1,cond_true,cond_false] <;> rfl)))⟩
def Z6h:Blk:=.cells GX 62
def Z6i:Blk:=.row 5 CD.length (AV A5.c CD) 135
def Z6j:Blk:=.cells (Cx v [.val (v 8),.own 2000 5 CD.length,.val (v 10),.val (v 11),.val (v 12),.val (v 13),.val (v 14)]) 62
def Z6k:AX:=Bx (b.Keeps.getD v9.toNat default).Shape
abbrev HV:=b.Keeps.getD v9.toNat default
abbrev UD:=[A5.mk (HV b v9).Id (HV b v9).Layer (Z6k b v9)]
def Z6l (CD:List A5) (b:AC) (v9:Int):Blk:=.row 5 (CD++(UD b v9)).length (AV A5.c (CD++(UD b v9))) 135
def Z6m (v:(Nat->Value)) (CD:List A5) (b:AC) (v9:Int):Blk:=.cells (Cx v [.val (v 8),.own 128 5 (CD++(UD b v9)).length,.val (v 10),.val (v 11),.val (v 12),.val (v 13),.val (v 14)]) 62
def Z6n:Blk:=.cells (Cx v [.val (v 8),.own 3106 5 CD.length,.val (v 10),.val (v 11),.val (v 12),.val (v 13),.val (v 14)]) 62
def Fl (b:AC):Nat->List A5->Int->(List A5)
 | 0,_,_=>default
 | n0+1,CD,v9=>bif decide ((v9:Int)<(b.Keeps.length:Int)) then ((Fl b n0) (CD++[A5.mk (b.Keeps.getD v9.toNat default).Id (b.Keeps.getD v9.toNat default).Layer (Z6k b v9)]) (v9+1)) else CD
def Ay (b:AC):(List A5):=Fl b (((b.Keeps.length:Int)-0).toNat+1) ([]:List A5) 0
abbrev Sj (b:AC) (v:Nat->Value) (xs:List A5):AS:=⟨Bf,[(3003,.cells (Cx v [.val (v 8),.own 3106 5 xs.length,.val (v 10),.val (v 11),.val (v 12),.val (v 13),.val (v 14)]) 62),(B7 b),CI,(3106,.row 5 xs.length (AV A5.c xs) 135)]⟩
set_option maxHeartbeats 4000000 in
theorem Lm (b:AC) (hc:Ce b) {c:Code} (hpc:Try.f59.body.bind (F9 [true,true,true,true,true,false,true])=some c):NZ Try.prog 229 [3003,3001,3002] c (fun _:Unit=>True) (fun v=>⟨[(1,tP 3001 0),(2,tP 3002 0),(3,tP 3003 0),(9,tI 0)],[(3003,.cells [.val (v 0),.val (v 1),.val (v 2),.val (v 3),.val (v 4),.val (v 5),.val (v 6),.val (v 7),.val (v 8),vN,.val (v 10),.val (v 11),.val (v 12),.val (v 13),.val (v 14)] 62),(3001,.cells (AC.c b) 62),(3002,.cells [.i 0,.i 0,vN,.i 0,vN,vN,vN,vN,vN,vN,vN,vN,vN,vN,vN] 62)]⟩) (fun v _=>Sj b v (Ay b)):=by
 cases hpc
 intro W0 M0 X v hP hFl
 show AWp _ _ _ _ _ _ _ _ ⟨[(1,tP 3001 0),(2,tP 3002 0),(3,tP 3003 0),(9,tI 0)],[(3003,.cells [.val (v 0),.val (v 1),.val (v 2),.val (v 3),.val (v 4),.val (v 5),.val (v 6),.val (v 7),.val (v 8),vN,.val (v 10),.val (v 11),.val (v 12),.val (v 13),.val (v 14)] 62),(3001,.cells (AC.c b) 62),(3002,.cells [.i 0,.i 0,vN,.i 0,vN,vN,vN,vN,vN,vN,vN,vN,vN,vN,vN] 62)]⟩
 have h0:=hc.lParts
 have h1:=hc.lNets
 have h2:=hc.lTracks
 have h3:=hc.lVias
 have h4:=hc.lPours
 have h5:=hc.lKeeps
 have h6:=hc.lSlots
 have h7:=hc.lClasses
 have h8:=hc.lWaivers
 have h9:=hc.lMatches
 have h10:=hc.lRules
 have hr:=hc.rok
 refine AM<|Al (Cv.trans (CG [1,2,3,9] [3001,3002,3003] (⟨[(1,tP 3001 0),(2,tP 3002 0),(3,tP 3003 0),(9,tI 0)],[(3001,.cells (AC.c b) 62),(3002,Z6h),(3003,.cells [.val (v 0),.val (v 1),.val (v 2),.val (v 3),.val (v 4),.val (v 5),.val (v 6),.val (v 7),.val (v 8),vN,.val (v 10),.val (v 11),.val (v 12),.val (v 13),.val (v 14)] 62)]⟩) kr) (Cv.trans (Fx (⟨[(1,tP 3001 0),(2,tP 3002 0),(3,tP 3003 0),(9,tI 0)],[(2000,.row 5 0 (fun _ _=>default) 135),(3001,.cells (AC.c b) 62),(3002,Z6h),(3003,.cells [.val (v 0),.val (v 1),.val (v 2),.val (v 3),.val (v 4),.val (v 5),.val (v 6),.val (v 7),.val (v 8),.own 2000 5 0,.val (v 10),.val (v 11),.val (v 12),.val (v 13),.val (v 14)] 62)]⟩) 2000 5 (fun _ _=>default) 135 [] [(3003,[9])] (K:=[3003,3001,3002]) hP rfl kr kr) (HY (⟨[(1,tP 3001 0),(2,tP 3002 0),(3,tP 3003 0),(9,tI 0)],[(2000,.row 5 ([]:List A5).length (AV A5.c ([]:List A5)) 135),(3001,.cells (AC.c b) 62),(3002,Z6h),(3003,.cells [.val (v 0),.val (v 1),.val (v 2),.val (v 3),.val (v 4),.val (v 5),.val (v 6),.val (v 7),.val (v 8),.own 2000 5 ([]:List A5).length,.val (v 10),.val (v 11),.val (v 12),.val (v 13),.val (v 14)] 62)]⟩) 2000 (CV 5 (fun _ _=>default) A5.c)))) ?_
 refine BK (ι:=Nat×List A5×Int) (fun x=>⟨[(1,tP 3001 0),(2,tP 3002 0),(3,tP 3003 0),(9,tI x.2.2)],[(2000,.row 5 x.2.1.length (AV A5.c x.2.1) 135),(3001,.cells (AC.c b) 62),(3002,Z6h),(3003,.cells [.val (v 0),.val (v 1),.val (v 2),.val (v 3),.val (v 4),.val (v 5),.val (v 6),.val (v 7),.val (v 8),.own 2000 5 x.2.1.length,.val (v 10),.val (v 11),.val (v 12),.val (v 13),.val (v 14)] 62)]⟩) (fun x=>((b.Keeps.length:Int)-x.2.2).toNat<x.1/\(0<=x.2.2/\(x.2.2<=(b.Keeps.length:Int)\/x.2.2=0)/\(x.2.1.length:Int)<=0+1*(x.2.2-0))/\Fl b x.1 x.2.1 x.2.2=Ay b) (fun x=>x.1) ?_ (((b.Keeps.length:Int)-0).toNat+1,([]:List A5),0) ⟨Nat.lt_succ_self _,⟨ax0,ax0,ax0⟩,(by simp only [Ay,cond_true,cond_false])⟩
 rintro ⟨n0,CD,v9⟩ ⟨hm0,hinv0,hF0⟩
 try dsimp only at hm0 hinv0 hF0
 cases n0 with | zero=>exact nz hm0 | succ n0 => ?_
 refine AA<|AA<|rn ⟨[(1,tP 3001 0),(2,tP 3002 0),(3,tP 3003 0),(9,tI v9),(112,tB (decide ((v9:Int)<(b.Keeps.length:Int))))],[(2000,Z6i CD),(3001,.cells (AC.c b) 62),(3002,Z6h),(3003,Z6j v CD)]⟩<|AL _ rfl (fun h1 => ?_) (fun h1 => ?_)
 ·have g1:=oT h1
  refine AQ<|AF<|AA<|AM<|AA<|oc [] [0<=(v9:Int)/\(v9:Int)<((b.Keeps.length:Nat):Int)] .nil (.cons au1 .nil)<|AF<|AA<|oc [(122,B5 (b.Keeps.getD v9.toNat default).Shape)] [As (B5 (b.Keeps.getD v9.toNat default).Shape).2.1] (.cons (D2 (b.Keeps.getD v9.toNat default).Shape au29) .nil) (.cons rfl .nil)<|AF<|oc [] [CD.length=CD.length,CD.length+1<=maxLen,(CD.length+1)*56<=140737488355328] .nil (.cons rfl (.cons au4 (.cons au4 .nil)))<|A0<|AF<|Al (A6 128 (Ar (Af 5 A5.c CD) (A1 5 A5.c ([A5.mk (b.Keeps.getD v9.toNat default).Id (b.Keeps.getD v9.toNat default).Layer (Z6k b v9)]:List A5))))<|rg ⟨[(1,tP 3001 0),(2,tP 3002 0),(3,tP 3003 0),(9,tI (W64 (v9+1)))],[(128,Z6l CD b v9),(3001,.cells (AC.c b) 62),(3002,Z6h),(3003,Z6m v CD b v9)]⟩ ?_
  (try rw [(show W64 (v9+1)=v9+1 from Ap (by omega) au8)])
  refine AF ?_
  refine ⟨(n0,CD++[A5.mk (b.Keeps.getD v9.toNat default).Id (b.Keeps.getD v9.toNat default).Layer (Z6k b v9)],v9+1),⟨?_,?_,(by rw [<- hF0];simp only [Fl,h1,cond_true,cond_false])⟩,Nat.lt_succ_self _,Cv.trans (CM (⟨[(1,tP 3001 0),(2,tP 3002 0),(3,tP 3003 0),(9,tI (v9+1))],[(2000,Z6l CD b v9),(3001,.cells (AC.c b) 62),(3002,Z6h),(3003,.cells [.val (v 0),.val (v 1),.val (v 2),.val (v 3),.val (v 4),.val (v 5),.val (v 6),.val (v 7),.val (v 8),.own 2000 5 (CD++[A5.mk (b.Keeps.getD v9.toNat default).Id (b.Keeps.getD v9.toNat default).Layer (Z6k b v9)]).length,.val (v 10),.val (v 11),.val (v 12),.val (v 13),.val (v 14)] 62)]⟩) 128 2000 (K:=[3003,3001,3002]) hP rfl rfl kr kr) (BG kr)⟩
  ·show ((b.Keeps.length:Int)-(v9+1)).toNat<n0;omega
  exact ⟨ax0,ax0,ax0⟩
 have g1:=oF h1
 refine BH<|A7<|A7<|BI ?_
 exact ⟨_,Cv.trans (CG [1,2,3] [2000,3001,3002,3003] (⟨[(1,tP 3001 0),(2,tP 3002 0),(3,tP 3003 0)],[(2000,Z6i CD),(3001,.cells (AC.c b) 62),(3002,Z6h),(3003,Z6j v CD)]⟩) kr) (Cv.trans (CM (⟨[(1,tP 3001 0),(2,tP 3002 0),(3,tP 3003 0)],[(3106,Z6i CD),(3001,.cells (AC.c b) 62),(3002,Z6h),(3003,Z6n v CD)]⟩) 2000 3106 (K:=[3003,3001,3002]) hP rfl rfl kr kr) (CG [1,2,3] [3003,3001,3002,3106] (⟨[(1,tP 3001 0),(2,tP 3002 0),(3,tP 3003 0)],[(3003,Z6n v CD),(3001,.cells (AC.c b) 62),(3002,Z6h),(3106,Z6i CD)]⟩) kr)),rfl,(),trivial,congrArg (Sj b v) (show CD=_ from (by rw [<- hF0];first | (simp only [Fl,h1,cond_true,cond_false] <;> rfl)))⟩
def Z6o:Blk:=.cells GX 62
def Z6p:Blk:=.row 4 Bp.length (AV BC.c Bp) 137
def Z6q:Blk:=.cells (Cx v [.val (v 8),.val (v 9),.own 2000 4 Bp.length,.val (v 11),.val (v 12),.val (v 13),.val (v 14)]) 62
def Z6r:AX:=Bx (b.Slots.getD v11.toNat default).Shape
abbrev UK:=[BC.mk (b.Slots.getD v11.toNat default).Id (Z6r b v11)]
def Z6s (Bp:List BC) (b:AC) (v11:Int):Blk:=.row 4 (Bp++(UK b v11)).length (AV BC.c (Bp++(UK b v11))) 137
def Z6t (v:(Nat->Value)) (Bp:List BC) (b:AC) (v11:Int):Blk:=.cells (Cx v [.val (v 8),.val (v 9),.own 150 4 (Bp++(UK b v11)).length,.val (v 11),.val (v 12),.val (v 13),.val (v 14)]) 62
def Z6u:Blk:=.cells (Cx v [.val (v 8),.val (v 9),.own 3108 4 Bp.length,.val (v 11),.val (v 12),.val (v 13),.val (v 14)]) 62
def Fi (b:AC):Nat->List BC->Int->(List BC)
 | 0,_,_=>default
 | n0+1,Bp,v11=>bif decide ((v11:Int)<(b.Slots.length:Int)) then ((Fi b n0) (Bp++[BC.mk (b.Slots.getD v11.toNat default).Id (Z6r b v11)]) (v11+1)) else Bp
def A2 (b:AC):(List BC):=Fi b (((b.Slots.length:Int)-0).toNat+1) ([]:List BC) 0
abbrev Sg (b:AC) (v:Nat->Value) (xs:List BC):AS:=⟨Bf,[(3003,.cells (Cx v [.val (v 8),.val (v 9),.own 3108 4 xs.length,.val (v 11),.val (v 12),.val (v 13),.val (v 14)]) 62),(B7 b),CI,(3108,.row 4 xs.length (AV BC.c xs) 137)]⟩
set_option maxHeartbeats 4000000 in
theorem Lk (b:AC) (hc:Ce b) {c:Code} (hpc:Try.f59.body.bind (F9 [true,true,true,true,true,true,false,true])=some c):NZ Try.prog 229 [3003,3001,3002] c (fun _:Unit=>True) (fun v=>⟨[(1,tP 3001 0),(2,tP 3002 0),(3,tP 3003 0),(11,tI 0)],[(3003,.cells [.val (v 0),.val (v 1),.val (v 2),.val (v 3),.val (v 4),.val (v 5),.val (v 6),.val (v 7),.val (v 8),.val (v 9),vN,.val (v 11),.val (v 12),.val (v 13),.val (v 14)] 62),(3001,.cells (AC.c b) 62),(3002,.cells [.i 0,.i 0,vN,.i 0,vN,vN,vN,vN,vN,vN,vN,vN,vN,vN,vN] 62)]⟩) (fun v _=>Sg b v (A2 b)):=by
 cases hpc
 intro W0 M0 X v hP hFl
 show AWp _ _ _ _ _ _ _ _ ⟨[(1,tP 3001 0),(2,tP 3002 0),(3,tP 3003 0),(11,tI 0)],[(3003,.cells [.val (v 0),.val (v 1),.val (v 2),.val (v 3),.val (v 4),.val (v 5),.val (v 6),.val (v 7),.val (v 8),.val (v 9),vN,.val (v 11),.val (v 12),.val (v 13),.val (v 14)] 62),(3001,.cells (AC.c b) 62),(3002,.cells [.i 0,.i 0,vN,.i 0,vN,vN,vN,vN,vN,vN,vN,vN,vN,vN,vN] 62)]⟩
 have h0:=hc.lParts
 have h1:=hc.lNets
 have h2:=hc.lTracks
 have h3:=hc.lVias
 have h4:=hc.lPours
 have h5:=hc.lKeeps
 have h6:=hc.lSlots
 have h7:=hc.lClasses
 have h8:=hc.lWaivers
 have h9:=hc.lMatches
 have h10:=hc.lRules
 have hr:=hc.rok
 refine AM<|Al (Cv.trans (CG [1,2,3,11] [3001,3002,3003] (⟨[(1,tP 3001 0),(2,tP 3002 0),(3,tP 3003 0),(11,tI 0)],[(3001,.cells (AC.c b) 62),(3002,Z6o),(3003,.cells [.val (v 0),.val (v 1),.val (v 2),.val (v 3),.val (v 4),.val (v 5),.val (v 6),.val (v 7),.val (v 8),.val (v 9),vN,.val (v 11),.val (v 12),.val (v 13),.val (v 14)] 62)]⟩) kr) (Cv.trans (Fx (⟨[(1,tP 3001 0),(2,tP 3002 0),(3,tP 3003 0),(11,tI 0)],[(2000,.row 4 0 (fun _ _=>default) 137),(3001,.cells (AC.c b) 62),(3002,Z6o),(3003,.cells [.val (v 0),.val (v 1),.val (v 2),.val (v 3),.val (v 4),.val (v 5),.val (v 6),.val (v 7),.val (v 8),.val (v 9),.own 2000 4 0,.val (v 11),.val (v 12),.val (v 13),.val (v 14)] 62)]⟩) 2000 4 (fun _ _=>default) 137 [] [(3003,[10])] (K:=[3003,3001,3002]) hP rfl kr kr) (HY (⟨[(1,tP 3001 0),(2,tP 3002 0),(3,tP 3003 0),(11,tI 0)],[(2000,.row 4 ([]:List BC).length (AV BC.c ([]:List BC)) 137),(3001,.cells (AC.c b) 62),(3002,Z6o),(3003,.cells [.val (v 0),.val (v 1),.val (v 2),.val (v 3),.val (v 4),.val (v 5),.val (v 6),.val (v 7),.val (v 8),.val (v 9),.own 2000 4 ([]:List BC).length,.val (v 11),.val (v 12),.val (v 13),.val (v 14)] 62)]⟩) 2000 (CV 4 (fun _ _=>default) BC.c)))) ?_
 refine BK (ι:=Nat×List BC×Int) (fun x=>⟨[(1,tP 3001 0),(2,tP 3002 0),(3,tP 3003 0),(11,tI x.2.2)],[(2000,.row 4 x.2.1.length (AV BC.c x.2.1) 137),(3001,.cells (AC.c b) 62),(3002,Z6o),(3003,.cells [.val (v 0),.val (v 1),.val (v 2),.val (v 3),.val (v 4),.val (v 5),.val (v 6),.val (v 7),.val (v 8),.val (v 9),.own 2000 4 x.2.1.length,.val (v 11),.val (v 12),.val (v 13),.val (v 14)] 62)]⟩) (fun x=>((b.Slots.length:Int)-x.2.2).toNat<x.1/\(0<=x.2.2/\(x.2.2<=(b.Slots.length:Int)\/x.2.2=0)/\(x.2.1.length:Int)<=0+1*(x.2.2-0))/\Fi b x.1 x.2.1 x.2.2=A2 b) (fun x=>x.1) ?_ (((b.Slots.length:Int)-0).toNat+1,([]:List BC),0) ⟨Nat.lt_succ_self _,⟨ax0,ax0,ax0⟩,(by simp only [A2,cond_true,cond_false])⟩
 rintro ⟨n0,Bp,v11⟩ ⟨hm0,hinv0,hF0⟩
 try dsimp only at hm0 hinv0 hF0
 cases n0 with | zero=>exact nz hm0 | succ n0 => ?_
 refine AA<|AA<|rn ⟨[(1,tP 3001 0),(2,tP 3002 0),(3,tP 3003 0),(11,tI v11),(134,tB (decide ((v11:Int)<(b.Slots.length:Int))))],[(2000,Z6p Bp),(3001,.cells (AC.c b) 62),(3002,Z6o),(3003,Z6q v Bp)]⟩<|AL _ rfl (fun h1 => ?_) (fun h1 => ?_)
 ·have g1:=oT h1
  refine AQ<|AF<|AA<|AM<|AA<|oc [] [0<=(v11:Int)/\(v11:Int)<((b.Slots.length:Nat):Int)] .nil (.cons au1 .nil)<|AF<|AA<|oc [(144,B5 (b.Slots.getD v11.toNat default).Shape)] [As (B5 (b.Slots.getD v11.toNat default).Shape).2.1] (.cons (D2 (b.Slots.getD v11.toNat default).Shape au29) .nil) (.cons rfl .nil)<|AF<|oc [] [Bp.length=Bp.length,Bp.length+1<=maxLen,(Bp.length+1)*48<=140737488355328] .nil (.cons rfl (.cons au4 (.cons au4 .nil)))<|A0<|AF<|Al (A6 150 (Ar (Af 4 BC.c Bp) (A1 4 BC.c ([BC.mk (b.Slots.getD v11.toNat default).Id (Z6r b v11)]:List BC))))<|rg ⟨[(1,tP 3001 0),(2,tP 3002 0),(3,tP 3003 0),(11,tI (W64 (v11+1)))],[(150,Z6s Bp b v11),(3001,.cells (AC.c b) 62),(3002,Z6o),(3003,Z6t v Bp b v11)]⟩ ?_
  (try rw [(show W64 (v11+1)=v11+1 from Ap (by omega) au8)])
  refine AF ?_
  refine ⟨(n0,Bp++[BC.mk (b.Slots.getD v11.toNat default).Id (Z6r b v11)],v11+1),⟨?_,?_,(by rw [<- hF0];simp only [Fi,h1,cond_true,cond_false])⟩,Nat.lt_succ_self _,Cv.trans (CM (⟨[(1,tP 3001 0),(2,tP 3002 0),(3,tP 3003 0),(11,tI (v11+1))],[(2000,Z6s Bp b v11),(3001,.cells (AC.c b) 62),(3002,Z6o),(3003,.cells [.val (v 0),.val (v 1),.val (v 2),.val (v 3),.val (v 4),.val (v 5),.val (v 6),.val (v 7),.val (v 8),.val (v 9),.own 2000 4 (Bp++[BC.mk (b.Slots.getD v11.toNat default).Id (Z6r b v11)]).length,.val (v 11),.val (v 12),.val (v 13),.val (v 14)] 62)]⟩) 150 2000 (K:=[3003,3001,3002]) hP rfl rfl kr kr) (BG kr)⟩
  ·show ((b.Slots.length:Int)-(v11+1)).toNat<n0;omega
  exact ⟨ax0,ax0,ax0⟩
 have g1:=oF h1
 refine BH<|A7<|A7<|BI ?_
 exact ⟨_,Cv.trans (CG [1,2,3] [2000,3001,3002,3003] (⟨[(1,tP 3001 0),(2,tP 3002 0),(3,tP 3003 0)],[(2000,Z6p Bp),(3001,.cells (AC.c b) 62),(3002,Z6o),(3003,Z6q v Bp)]⟩) kr) (Cv.trans (CM (⟨[(1,tP 3001 0),(2,tP 3002 0),(3,tP 3003 0)],[(3108,Z6p Bp),(3001,.cells (AC.c b) 62),(3002,Z6o),(3003,Z6u v Bp)]⟩) 2000 3108 (K:=[3003,3001,3002]) hP rfl rfl kr kr) (CG [1,2,3] [3003,3001,3002,3108] (⟨[(1,tP 3001 0),(2,tP 3002 0),(3,tP 3003 0)],[(3003,Z6u v Bp),(3001,.cells (AC.c b) 62),(3002,Z6o),(3108,Z6p Bp)]⟩) kr)),rfl,(),trivial,congrArg (Sg b v) (show Bp=_ from (by rw [<- hF0];first | (simp only [Fi,h1,cond_true,cond_false] <;> rfl)))⟩
def Z6v:Blk:=.cells GX 62
def Z6w:Blk:=.row 2 Bo.length (AV BE.c Bo) 139
abbrev GV (t_:List Cl):List Cl:=(.val (v 8))::(.val (v 9))::(.val (v 10))::t_
def Z6x:Blk:=.cells (Cx v (GV v [.own 2000 2 Bo.length,.val (v 12),.val (v 13),.val (v 14)])) 62
def Z6y (Bo:List BE) (b:AC) (v13:Int):Blk:=.row 2 (Bo++[b.Classes.getD v13.toNat default]).length (AV BE.c (Bo++[b.Classes.getD v13.toNat default])) 139
def Z6z (v:(Nat->Value)) (Bo:List BE) (b:AC) (v13:Int):Blk:=.cells (Cx v (GV v [.own 177 2 (Bo++[b.Classes.getD v13.toNat default]).length,.val (v 12),.val (v 13),.val (v 14)])) 62
def Z6A:Blk:=.cells (Cx v (GV v [.own 3110 2 Bo.length,.val (v 12),.val (v 13),.val (v 14)])) 62
def Ei (b:AC):Nat->List BE->Int->(List BE)
 | 0,_,_=>default
 | n0+1,Bo,v13=>bif decide ((v13:Int)<(b.Classes.length:Int)) then ((Ei b n0) (Bo++[b.Classes.getD v13.toNat default]) (v13+1)) else Bo
def Ae (b:AC):(List BE):=Ei b (((b.Classes.length:Int)-0).toNat+1) ([]:List BE) 0
abbrev OY (b:AC) (v:Nat->Value) (xs:List BE):AS:=⟨Bf,[(3003,.cells (Cx v (GV v [.own 3110 2 xs.length,.val (v 12),.val (v 13),.val (v 14)])) 62),(B7 b),CI,(3110,.row 2 xs.length (AV BE.c xs) 139)]⟩
set_option maxHeartbeats 4000000 in
theorem Ik (b:AC) (hc:Ce b) {c:Code} (hpc:Try.f59.body.bind (F9 [true,true,true,true,true,true,true,false,true])=some c):NZ Try.prog 229 [3003,3001,3002] c (fun _:Unit=>True) (fun v=>⟨[(1,tP 3001 0),(2,tP 3002 0),(3,tP 3003 0),(13,tI 0)],[(3003,.cells [.val (v 0),.val (v 1),.val (v 2),.val (v 3),.val (v 4),.val (v 5),.val (v 6),.val (v 7),.val (v 8),.val (v 9),.val (v 10),vN,.val (v 12),.val (v 13),.val (v 14)] 62),(3001,.cells (AC.c b) 62),(3002,.cells [.i 0,.i 0,vN,.i 0,vN,vN,vN,vN,vN,vN,vN,vN,vN,vN,vN] 62)]⟩) (fun v _=>OY b v (Ae b)):=by
 cases hpc
 intro W0 M0 X v hP hFl
 show AWp _ _ _ _ _ _ _ _ ⟨[(1,tP 3001 0),(2,tP 3002 0),(3,tP 3003 0),(13,tI 0)],[(3003,.cells [.val (v 0),.val (v 1),.val (v 2),.val (v 3),.val (v 4),.val (v 5),.val (v 6),.val (v 7),.val (v 8),.val (v 9),.val (v 10),vN,.val (v 12),.val (v 13),.val (v 14)] 62),(3001,.cells (AC.c b) 62),(3002,.cells [.i 0,.i 0,vN,.i 0,vN,vN,vN,vN,vN,vN,vN,vN,vN,vN,vN] 62)]⟩
 have h0:=hc.lParts
 have h1:=hc.lNets
 have h2:=hc.lTracks
 have h3:=hc.lVias
 have h4:=hc.lPours
 have h5:=hc.lKeeps
 have h6:=hc.lSlots
 have h7:=hc.lClasses
 have h8:=hc.lWaivers
 have h9:=hc.lMatches
 have h10:=hc.lRules
 have hr:=hc.rok
 refine AM<|Al (Cv.trans (CG [1,2,3,13] [3001,3002,3003] (⟨[(1,tP 3001 0),(2,tP 3002 0),(3,tP 3003 0),(13,tI 0)],[(3001,.cells (AC.c b) 62),(3002,Z6v),(3003,.cells [.val (v 0),.val (v 1),.val (v 2),.val (v 3),.val (v 4),.val (v 5),.val (v 6),.val (v 7),.val (v 8),.val (v 9),.val (v 10),vN,.val (v 12),.val (v 13),.val (v 14)] 62)]⟩) kr) (Cv.trans (Fx (⟨[(1,tP 3001 0),(2,tP 3002 0),(3,tP 3003 0),(13,tI 0)],[(2000,.row 2 0 (fun _ _=>default) 139),(3001,.cells (AC.c b) 62),(3002,Z6v),(3003,.cells [.val (v 0),.val (v 1),.val (v 2),.val (v 3),.val (v 4),.val (v 5),.val (v 6),.val (v 7),.val (v 8),.val (v 9),.val (v 10),.own 2000 2 0,.val (v 12),.val (v 13),.val (v 14)] 62)]⟩) 2000 2 (fun _ _=>default) 139 [] [(3003,[11])] (K:=[3003,3001,3002]) hP rfl kr kr) (HY (⟨[(1,tP 3001 0),(2,tP 3002 0),(3,tP 3003 0),(13,tI 0)],[(2000,.row 2 ([]:List BE).length (AV BE.c ([]:List BE)) 139),(3001,.cells (AC.c b) 62),(3002,Z6v),(3003,.cells [.val (v 0),.val (v 1),.val (v 2),.val (v 3),.val (v 4),.val (v 5),.val (v 6),.val (v 7),.val (v 8),.val (v 9),.val (v 10),.own 2000 2 ([]:List BE).length,.val (v 12),.val (v 13),.val (v 14)] 62)]⟩) 2000 (CV 2 (fun _ _=>default) BE.c)))) ?_
 refine BK (ι:=Nat×List BE×Int) (fun x=>⟨[(1,tP 3001 0),(2,tP 3002 0),(3,tP 3003 0),(13,tI x.2.2)],[(2000,.row 2 x.2.1.length (AV BE.c x.2.1) 139),(3001,.cells (AC.c b) 62),(3002,Z6v),(3003,.cells [.val (v 0),.val (v 1),.val (v 2),.val (v 3),.val (v 4),.val (v 5),.val (v 6),.val (v 7),.val (v 8),.val (v 9),.val (v 10),.own 2000 2 x.2.1.length,.val (v 12),.val (v 13),.val (v 14)] 62)]⟩) (fun x=>((b.Classes.length:Int)-x.2.2).toNat<x.1/\(0<=x.2.2/\(x.2.2<=(b.Classes.length:Int)\/x.2.2=0)/\(x.2.1.length:Int)<=0+1*(x.2.2-0))/\Ei b x.1 x.2.1 x.2.2=Ae b) (fun x=>x.1) ?_ (((b.Classes.length:Int)-0).toNat+1,([]:List BE),0) ⟨Nat.lt_succ_self _,⟨ax0,ax0,ax0⟩,(by simp only [Ae,cond_true,cond_false])⟩
 rintro ⟨n0,Bo,v13⟩ ⟨hm0,hinv0,hF0⟩
 try dsimp only at hm0 hinv0 hF0
 cases n0 with | zero=>exact nz hm0 | succ n0 => ?_
 have hb:=hc.cnt v13.toNat
 refine AA<|AA<|rn ⟨[(1,tP 3001 0),(2,tP 3002 0),(3,tP 3003 0),(13,tI v13),(156,tB (decide ((v13:Int)<(b.Classes.length:Int))))],[(2000,Z6w Bo),(3001,.cells (AC.c b) 62),(3002,Z6v),(3003,Z6x v Bo)]⟩<|AL _ rfl (fun h1 => ?_) (fun h1 => ?_)
 ·have g1:=oT h1
  refine AQ<|AF<|AA<|AM<|od [1000167] [] [0<=(v13:Int)/\(v13:Int)<((b.Classes.length:Nat):Int),0<=(v13:Int)/\(v13:Int)<((b.Classes.length:Nat):Int),(b.Classes.getD v13.toNat default).Nets.length<=maxLen,(b.Classes.getD v13.toNat default).Nets.length*16<=140737488355328,Bo.length=Bo.length,Bo.length+1<=maxLen,(Bo.length+1)*40<=140737488355328] .nil (.cons au1 (.cons au1 (.cons au4 (.cons au4 (.cons rfl (.cons au4 (.cons au4 .nil)))))))<|A0<|AF<|Al (A6 177 (Ar (Af 2 BE.c Bo) (A1 2 BE.c ([b.Classes.getD v13.toNat default]:List BE))))<|rg ⟨[(1,tP 3001 0),(2,tP 3002 0),(3,tP 3003 0),(13,tI (W64 (v13+1)))],[(177,Z6y Bo b v13),(3001,.cells (AC.c b) 62),(3002,Z6v),(3003,Z6z v Bo b v13)]⟩ ?_
  (try rw [(show W64 (v13+1)=v13+1 from Ap (by omega) au8)])
  refine AF ?_
  refine ⟨(n0,Bo++[b.Classes.getD v13.toNat default],v13+1),⟨?_,?_,(by rw [<- hF0];simp only [Ei,h1,cond_true,cond_false])⟩,Nat.lt_succ_self _,Cv.trans (CM (⟨[(1,tP 3001 0),(2,tP 3002 0),(3,tP 3003 0),(13,tI (v13+1))],[(2000,Z6y Bo b v13),(3001,.cells (AC.c b) 62),(3002,Z6v),(3003,.cells [.val (v 0),.val (v 1),.val (v 2),.val (v 3),.val (v 4),.val (v 5),.val (v 6),.val (v 7),.val (v 8),.val (v 9),.val (v 10),.own 2000 2 (Bo++[b.Classes.getD v13.toNat default]).length,.val (v 12),.val (v 13),.val (v 14)] 62)]⟩) 177 2000 (K:=[3003,3001,3002]) hP rfl rfl kr kr) (BG kr)⟩
  ·show ((b.Classes.length:Int)-(v13+1)).toNat<n0;omega
  exact ⟨ax0,ax0,ax0⟩
 have g1:=oF h1
 refine BH<|A7<|A7<|BI ?_
 exact ⟨_,Cv.trans (CG [1,2,3] [2000,3001,3002,3003] (⟨[(1,tP 3001 0),(2,tP 3002 0),(3,tP 3003 0)],[(2000,Z6w Bo),(3001,.cells (AC.c b) 62),(3002,Z6v),(3003,Z6x v Bo)]⟩) kr) (Cv.trans (CM (⟨[(1,tP 3001 0),(2,tP 3002 0),(3,tP 3003 0)],[(3110,Z6w Bo),(3001,.cells (AC.c b) 62),(3002,Z6v),(3003,Z6A v Bo)]⟩) 2000 3110 (K:=[3003,3001,3002]) hP rfl rfl kr kr) (CG [1,2,3] [3003,3001,3002,3110] (⟨[(1,tP 3001 0),(2,tP 3002 0),(3,tP 3003 0)],[(3003,Z6A v Bo),(3001,.cells (AC.c b) 62),(3002,Z6v),(3110,Z6w Bo)]⟩) kr)),rfl,(),trivial,congrArg (OY b v) (show Bo=_ from (by rw [<- hF0];first | (simp only [Ei,h1,cond_true,cond_false] <;> rfl)))⟩
def Z6B:Blk:=.cells GX 62
def Z6C:Blk:=.row 3 Bb.length (AV AN.c Bb) 78
def Z6D:Blk:=.cells (Cx v (GV v [.val (v 11),.val (v 12),.val (v 13),.own 2000 3 Bb.length])) 62
def Z6E (Bb:List AN) (b:AC) (v14:Int):Blk:=.row 3 (Bb++[b.Matches.getD v14.toNat default]).length (AV AN.c (Bb++[b.Matches.getD v14.toNat default])) 78
def Z6F (v:(Nat->Value)) (Bb:List AN) (b:AC) (v14:Int):Blk:=.cells (Cx v (GV v [.val (v 11),.val (v 12),.val (v 13),.own 200 3 (Bb++[b.Matches.getD v14.toNat default]).length])) 62
def Z6G:Blk:=.cells (Cx v (GV v [.val (v 11),.val (v 12),.val (v 13),.own 3112 3 Bb.length])) 62
def Eh (b:AC):Nat->List AN->Int->(List AN)
 | 0,_,_=>default
 | n0+1,Bb,v14=>bif decide ((v14:Int)<(b.Matches.length:Int)) then ((Eh b n0) (Bb++[b.Matches.getD v14.toNat default]) (v14+1)) else Bb
def AZ (b:AC):(List AN):=Eh b (((b.Matches.length:Int)-0).toNat+1) ([]:List AN) 0
abbrev OX (b:AC) (v:Nat->Value) (xs:List AN):AS:=⟨Bf,[(3003,.cells (Cx v (GV v [.val (v 11),.val (v 12),.val (v 13),.own 3112 3 xs.length])) 62),(B7 b),CI,(3112,.row 3 xs.length (AV AN.c xs) 78)]⟩
set_option maxHeartbeats 4000000 in
theorem Ij (b:AC) (hc:Ce b) {c:Code} (hpc:Try.f59.body.bind (F9 [true,true,true,true,true,true,true,true,false,true])=some c):NZ Try.prog 229 [3003,3001,3002] c (fun _:Unit=>True) (fun v=>⟨[(1,tP 3001 0),(2,tP 3002 0),(3,tP 3003 0),(14,tI 0)],[(3003,.cells [.val (v 0),.val (v 1),.val (v 2),.val (v 3),.val (v 4),.val (v 5),.val (v 6),.val (v 7),.val (v 8),.val (v 9),.val (v 10),.val (v 11),.val (v 12),.val (v 13),vN] 62),(3001,.cells (AC.c b) 62),(3002,.cells [.i 0,.i 0,vN,.i 0,vN,vN,vN,vN,vN,vN,vN,vN,vN,vN,vN] 62)]⟩) (fun v _=>OX b v (AZ b)):=by
 cases hpc
 intro W0 M0 X v hP hFl
 show AWp _ _ _ _ _ _ _ _ ⟨[(1,tP 3001 0),(2,tP 3002 0),(3,tP 3003 0),(14,tI 0)],[(3003,.cells [.val (v 0),.val (v 1),.val (v 2),.val (v 3),.val (v 4),.val (v 5),.val (v 6),.val (v 7),.val (v 8),.val (v 9),.val (v 10),.val (v 11),.val (v 12),.val (v 13),vN] 62),(3001,.cells (AC.c b) 62),(3002,.cells [.i 0,.i 0,vN,.i 0,vN,vN,vN,vN,vN,vN,vN,vN,vN,vN,vN] 62)]⟩
 have h0:=hc.lParts
 have h1:=hc.lNets
 have h2:=hc.lTracks
 have h3:=hc.lVias
 have h4:=hc.lPours
 have h5:=hc.lKeeps
 have h6:=hc.lSlots
 have h7:=hc.lClasses
 have h8:=hc.lWaivers
 have h9:=hc.lMatches
 have h10:=hc.lRules
 have hr:=hc.rok
 refine AM<|Al (Cv.trans (CG [1,2,3,14] [3001,3002,3003] (⟨[(1,tP 3001 0),(2,tP 3002 0),(3,tP 3003 0),(14,tI 0)],[(3001,.cells (AC.c b) 62),(3002,Z6B),(3003,.cells [.val (v 0),.val (v 1),.val (v 2),.val (v 3),.val (v 4),.val (v 5),.val (v 6),.val (v 7),.val (v 8),.val (v 9),.val (v 10),.val (v 11),.val (v 12),.val (v 13),vN] 62)]⟩) kr) (Cv.trans (Fx (⟨[(1,tP 3001 0),(2,tP 3002 0),(3,tP 3003 0),(14,tI 0)],[(2000,.row 3 0 (fun _ _=>default) 78),(3001,.cells (AC.c b) 62),(3002,Z6B),(3003,.cells [.val (v 0),.val (v 1),.val (v 2),.val (v 3),.val (v 4),.val (v 5),.val (v 6),.val (v 7),.val (v 8),.val (v 9),.val (v 10),.val (v 11),.val (v 12),.val (v 13),.own 2000 3 0] 62)]⟩) 2000 3 (fun _ _=>default) 78 [] [(3003,[14])] (K:=[3003,3001,3002]) hP rfl kr kr) (HY (⟨[(1,tP 3001 0),(2,tP 3002 0),(3,tP 3003 0),(14,tI 0)],[(2000,.row 3 ([]:List AN).length (AV AN.c ([]:List AN)) 78),(3001,.cells (AC.c b) 62),(3002,Z6B),(3003,.cells [.val (v 0),.val (v 1),.val (v 2),.val (v 3),.val (v 4),.val (v 5),.val (v 6),.val (v 7),.val (v 8),.val (v 9),.val (v 10),.val (v 11),.val (v 12),.val (v 13),.own 2000 3 ([]:List AN).length] 62)]⟩) 2000 (CV 3 (fun _ _=>default) AN.c)))) ?_
 refine BK (ι:=Nat×List AN×Int) (fun x=>⟨[(1,tP 3001 0),(2,tP 3002 0),(3,tP 3003 0),(14,tI x.2.2)],[(2000,.row 3 x.2.1.length (AV AN.c x.2.1) 78),(3001,.cells (AC.c b) 62),(3002,Z6B),(3003,.cells [.val (v 0),.val (v 1),.val (v 2),.val (v 3),.val (v 4),.val (v 5),.val (v 6),.val (v 7),.val (v 8),.val (v 9),.val (v 10),.val (v 11),.val (v 12),.val (v 13),.own 2000 3 x.2.1.length] 62)]⟩) (fun x=>((b.Matches.length:Int)-x.2.2).toNat<x.1/\(0<=x.2.2/\(x.2.2<=(b.Matches.length:Int)\/x.2.2=0)/\(x.2.1.length:Int)<=0+1*(x.2.2-0))/\Eh b x.1 x.2.1 x.2.2=AZ b) (fun x=>x.1) ?_ (((b.Matches.length:Int)-0).toNat+1,([]:List AN),0) ⟨Nat.lt_succ_self _,⟨ax0,ax0,ax0⟩,(by simp only [AZ,cond_true,cond_false])⟩
 rintro ⟨n0,Bb,v14⟩ ⟨hm0,hinv0,hF0⟩
 try dsimp only at hm0 hinv0 hF0
 cases n0 with | zero=>exact nz hm0 | succ n0 => ?_
 have hb:=hc.mnt v14.toNat
 refine AA<|AA<|rn ⟨[(1,tP 3001 0),(2,tP 3002 0),(3,tP 3003 0),(14,tI v14),(183,tB (decide ((v14:Int)<(b.Matches.length:Int))))],[(2000,Z6C Bb),(3001,.cells (AC.c b) 62),(3002,Z6B),(3003,Z6D v Bb)]⟩<|AL _ rfl (fun h1 => ?_) (fun h1 => ?_)
 ·have g1:=oT h1
  refine AQ<|AF<|AA<|AM<|AA<|rc [] [0<=(v14:Int)/\(v14:Int)<((b.Matches.length:Nat):Int)] ⟨[(1,tP 3001 0),(2,tP 3002 0),(3,tP 3003 0),(14,tI v14),(15,tP 15 0)],[(15,.cells (AN.c (b.Matches.getD v14.toNat default)) 78),(2000,Z6C Bb),(3001,.cells (AC.c b) 62),(3002,Z6B),(3003,Z6D v Bb)]⟩ .nil (.cons au1 .nil)<|AF<|AA<|CN DU [1000191] [] [] [1,2,3,14,15] [15,2000,3001,3002,3003] [(b.Matches.getD v14.toNat default).Nets.length<=maxLen,(b.Matches.getD v14.toNat default).Nets.length*16<=140737488355328] ⟨[(1,tP 3001 0),(2,tP 3002 0),(3,tP 3003 0),(14,tI v14),(15,tP 15 0)],[(15,.cells (AN.c (b.Matches.getD v14.toNat default)) 78),(2000,Z6C Bb),(3001,.cells (AC.c b) 62),(3002,Z6B),(3003,Z6D v Bb)]⟩ .nil kr (.cons au4 (.cons au4 .nil))<|AF<|oc [] [Bb.length=Bb.length,Bb.length+1<=maxLen,(Bb.length+1)*48<=140737488355328] .nil (.cons rfl (.cons au4 (.cons au4 .nil)))<|A0<|AF<|Al (A6 200 (Ar (Af 3 AN.c Bb) (A1 3 AN.c ([b.Matches.getD v14.toNat default]:List AN)))) ?_
  refine rg ⟨[(1,tP 3001 0),(2,tP 3002 0),(3,tP 3003 0),(14,tI (W64 (v14+1)))],[(200,Z6E Bb b v14),(3001,.cells (AC.c b) 62),(3002,Z6B),(3003,Z6F v Bb b v14)]⟩ ?_
  (try rw [(show W64 (v14+1)=v14+1 from Ap (by omega) au8)])
  refine AF ?_
  refine ⟨(n0,Bb++[b.Matches.getD v14.toNat default],v14+1),⟨?_,?_,(by rw [<- hF0];simp only [Eh,h1,cond_true,cond_false])⟩,Nat.lt_succ_self _,Cv.trans (CM (⟨[(1,tP 3001 0),(2,tP 3002 0),(3,tP 3003 0),(14,tI (v14+1))],[(2000,Z6E Bb b v14),(3001,.cells (AC.c b) 62),(3002,Z6B),(3003,.cells [.val (v 0),.val (v 1),.val (v 2),.val (v 3),.val (v 4),.val (v 5),.val (v 6),.val (v 7),.val (v 8),.val (v 9),.val (v 10),.val (v 11),.val (v 12),.val (v 13),.own 2000 3 (Bb++[b.Matches.getD v14.toNat default]).length] 62)]⟩) 200 2000 (K:=[3003,3001,3002]) hP rfl rfl kr kr) (BG kr)⟩
  ·show ((b.Matches.length:Int)-(v14+1)).toNat<n0;omega
  exact ⟨ax0,ax0,ax0⟩
 have g1:=oF h1
 refine BH<|A7<|A7<|BI ?_
 exact ⟨_,Cv.trans (CG [1,2,3] [2000,3001,3002,3003] (⟨[(1,tP 3001 0),(2,tP 3002 0),(3,tP 3003 0)],[(2000,Z6C Bb),(3001,.cells (AC.c b) 62),(3002,Z6B),(3003,Z6D v Bb)]⟩) kr) (Cv.trans (CM (⟨[(1,tP 3001 0),(2,tP 3002 0),(3,tP 3003 0)],[(3112,Z6C Bb),(3001,.cells (AC.c b) 62),(3002,Z6B),(3003,Z6G v Bb)]⟩) 2000 3112 (K:=[3003,3001,3002]) hP rfl rfl kr kr) (CG [1,2,3] [3003,3001,3002,3112] (⟨[(1,tP 3001 0),(2,tP 3002 0),(3,tP 3003 0)],[(3003,Z6G v Bb),(3001,.cells (AC.c b) 62),(3002,Z6B),(3112,Z6C Bb)]⟩) kr)),rfl,(),trivial,congrArg (OX b v) (show Bb=_ from (by rw [<- hF0];first | (simp only [Eh,h1,cond_true,cond_false] <;> rfl)))⟩
def Z6H:Blk:=.cells GX 62
def Z6I:Blk:=.row 20 Bn.length (AV Az.c Bn) 146
def Z6J:Blk:=.cells (Cx v (GV v [.val (v 11),.own 2000 20 Bn.length,.val (v 13),.val (v 14)])) 62
def Z6K:Bl:=KF (b.Rules.getD v16.toNat default).A
def Z6L:Bl:=KF (b.Rules.getD v16.toNat default).B
abbrev YR:=[Az.mk (b.Rules.getD v16.toNat default).Name (b.Rules.getD v16.toNat default).Priority (b.Rules.getD v16.toNat default).What (Z6K b v16) (Z6L b v16) (b.Rules.getD v16.toNat default).Value]
def Z6M (Bn:List Az) (b:AC) (v16:Int):Blk:=.row 20 (Bn++(YR b v16)).length (AV Az.c (Bn++(YR b v16))) 146
def Z6N (v:(Nat->Value)) (Bn:List Az) (b:AC) (v16:Int):Blk:=.cells (Cx v (GV v [.val (v 11),.own 226 20 (Bn++(YR b v16)).length,.val (v 13),.val (v 14)])) 62
def Z6O:Blk:=.cells (Cx v (GV v [.val (v 11),.own 3114 20 Bn.length,.val (v 13),.val (v 14)])) 62
def Fj (b:AC):Nat->List Az->Int->(List Az)
 | 0,_,_=>default
 | n0+1,Bn,v16=>bif decide ((v16:Int)<(b.Rules.length:Int)) then ((Fj b n0) (Bn++[Az.mk (b.Rules.getD v16.toNat default).Name (b.Rules.getD v16.toNat default).Priority (b.Rules.getD v16.toNat default).What (Z6K b v16) (Z6L b v16) (b.Rules.getD v16.toNat default).Value]) (v16+1)) else Bn
def Ab (b:AC):(List Az):=Fj b (((b.Rules.length:Int)-0).toNat+1) ([]:List Az) 0
abbrev Sh (b:AC) (v:Nat->Value) (xs:List Az):AS:=⟨Bf,[(3003,.cells (Cx v (GV v [.val (v 11),.own 3114 20 xs.length,.val (v 13),.val (v 14)])) 62),(B7 b),CI,(3114,.row 20 xs.length (AV Az.c xs) 146)]⟩
set_option maxHeartbeats 4000000 in
theorem Ll (b:AC) (hc:Ce b) {c:Code} (hpc:Try.f59.body.bind (F9 [true,true,true,true,true,true,true,true,true,false,true])=some c):NZ Try.prog 229 [3003,3001,3002] c (fun _:Unit=>True) (fun v=>⟨[(1,tP 3001 0),(2,tP 3002 0),(3,tP 3003 0),(16,tI 0)],[(3003,.cells [.val (v 0),.val (v 1),.val (v 2),.val (v 3),.val (v 4),.val (v 5),.val (v 6),.val (v 7),.val (v 8),.val (v 9),.val (v 10),.val (v 11),vN,.val (v 13),.val (v 14)] 62),(3001,.cells (AC.c b) 62),(3002,.cells [.i 0,.i 0,vN,.i 0,vN,vN,vN,vN,vN,vN,vN,vN,vN,vN,vN] 62)]⟩) (fun v _=>Sh b v (Ab b)):=by
 cases hpc
 intro W0 M0 X v hP hFl
 show AWp _ _ _ _ _ _ _ _ ⟨[(1,tP 3001 0),(2,tP 3002 0),(3,tP 3003 0),(16,tI 0)],[(3003,.cells [.val (v 0),.val (v 1),.val (v 2),.val (v 3),.val (v 4),.val (v 5),.val (v 6),.val (v 7),.val (v 8),.val (v 9),.val (v 10),.val (v 11),vN,.val (v 13),.val (v 14)] 62),(3001,.cells (AC.c b) 62),(3002,.cells [.i 0,.i 0,vN,.i 0,vN,vN,vN,vN,vN,vN,vN,vN,vN,vN,vN] 62)]⟩
 have h0:=hc.lParts
 have h1:=hc.lNets
 have h2:=hc.lTracks
 have h3:=hc.lVias
 have h4:=hc.lPours
 have h5:=hc.lKeeps
 have h6:=hc.lSlots
 have h7:=hc.lClasses
 have h8:=hc.lWaivers
 have h9:=hc.lMatches
 have h10:=hc.lRules
 have hr:=hc.rok
 refine AM<|Al (Cv.trans (CG [1,2,3,16] [3001,3002,3003] (⟨[(1,tP 3001 0),(2,tP 3002 0),(3,tP 3003 0),(16,tI 0)],[(3001,.cells (AC.c b) 62),(3002,Z6H),(3003,.cells [.val (v 0),.val (v 1),.val (v 2),.val (v 3),.val (v 4),.val (v 5),.val (v 6),.val (v 7),.val (v 8),.val (v 9),.val (v 10),.val (v 11),vN,.val (v 13),.val (v 14)] 62)]⟩) kr) (Cv.trans (Fx (⟨[(1,tP 3001 0),(2,tP 3002 0),(3,tP 3003 0),(16,tI 0)],[(2000,.row 20 0 (fun _ _=>default) 146),(3001,.cells (AC.c b) 62),(3002,Z6H),(3003,.cells [.val (v 0),.val (v 1),.val (v 2),.val (v 3),.val (v 4),.val (v 5),.val (v 6),.val (v 7),.val (v 8),.val (v 9),.val (v 10),.val (v 11),.own 2000 20 0,.val (v 13),.val (v 14)] 62)]⟩) 2000 20 (fun _ _=>default) 146 [] [(3003,[12])] (K:=[3003,3001,3002]) hP rfl kr kr) (HY (⟨[(1,tP 3001 0),(2,tP 3002 0),(3,tP 3003 0),(16,tI 0)],[(2000,.row 20 ([]:List Az).length (AV Az.c ([]:List Az)) 146),(3001,.cells (AC.c b) 62),(3002,Z6H),(3003,.cells [.val (v 0),.val (v 1),.val (v 2),.val (v 3),.val (v 4),.val (v 5),.val (v 6),.val (v 7),.val (v 8),.val (v 9),.val (v 10),.val (v 11),.own 2000 20 ([]:List Az).length,.val (v 13),.val (v 14)] 62)]⟩) 2000 (CV 20 (fun _ _=>default) Az.c)))) ?_
 refine BK (ι:=Nat×List Az×Int) (fun x=>⟨[(1,tP 3001 0),(2,tP 3002 0),(3,tP 3003 0),(16,tI x.2.2)],[(2000,.row 20 x.2.1.length (AV Az.c x.2.1) 146),(3001,.cells (AC.c b) 62),(3002,Z6H),(3003,.cells [.val (v 0),.val (v 1),.val (v 2),.val (v 3),.val (v 4),.val (v 5),.val (v 6),.val (v 7),.val (v 8),.val (v 9),.val (v 10),.val (v 11),.own 2000 20 x.2.1.length,.val (v 13),.val (v 14)] 62)]⟩) (fun x=>((b.Rules.length:Int)-x.2.2).toNat<x.1/\(0<=x.2.2/\(x.2.2<=(b.Rules.length:Int)\/x.2.2=0)/\(x.2.1.length:Int)<=0+1*(x.2.2-0))/\Fj b x.1 x.2.1 x.2.2=Ab b) (fun x=>x.1) ?_ (((b.Rules.length:Int)-0).toNat+1,([]:List Az),0) ⟨Nat.lt_succ_self _,⟨ax0,ax0,ax0⟩,(by simp only [Ab,cond_true,cond_false])⟩
 rintro ⟨n0,Bn,v16⟩ ⟨hm0,hinv0,hF0⟩
 try dsimp only at hm0 hinv0 hF0
 cases n0 with | zero=>exact nz hm0 | succ n0 => ?_
 refine AA<|AA<|rn ⟨[(1,tP 3001 0),(2,tP 3002 0),(3,tP 3003 0),(16,tI v16),(206,tB (decide ((v16:Int)<(b.Rules.length:Int))))],[(2000,Z6I Bn),(3001,.cells (AC.c b) 62),(3002,Z6H),(3003,Z6J v Bn)]⟩<|AL _ rfl (fun h1 => ?_) (fun h1 => ?_)
 ·have g1:=oT h1
  refine AQ<|AF<|AA<|AM<|AA<|oc [] [0<=(v16:Int)/\(v16:Int)<((b.Rules.length:Nat):Int)] .nil (.cons au1 .nil)<|AF<|AA<|oc [(216,Gv (b.Rules.getD v16.toNat default).A)] [As (Gv (b.Rules.getD v16.toNat default).A).2.1] (.cons (On (b.Rules.getD v16.toNat default).A (by first | exact (LT hr _).1 | exact (LT hr _).2)) .nil) (.cons rfl .nil)<|AF<|AA<|oc [(220,Gv (b.Rules.getD v16.toNat default).B)] [As (Gv (b.Rules.getD v16.toNat default).B).2.1] (.cons (On (b.Rules.getD v16.toNat default).B (by first | exact (LT hr _).1 | exact (LT hr _).2)) .nil) (.cons rfl .nil)<|AF<|oc [] [Bn.length=Bn.length,Bn.length+1<=maxLen,(Bn.length+1)*216<=140737488355328] .nil (.cons rfl (.cons au4 (.cons au4 .nil)))<|A0<|AF<|Al (A6 226 (Ar (Af 20 Az.c Bn) (A1 20 Az.c ([Az.mk (b.Rules.getD v16.toNat default).Name (b.Rules.getD v16.toNat default).Priority (b.Rules.getD v16.toNat default).What (Z6K b v16) (Z6L b v16) (b.Rules.getD v16.toNat default).Value]:List Az))))<|rg ⟨[(1,tP 3001 0),(2,tP 3002 0),(3,tP 3003 0),(16,tI (W64 (v16+1)))],[(226,Z6M Bn b v16),(3001,.cells (AC.c b) 62),(3002,Z6H),(3003,Z6N v Bn b v16)]⟩ ?_
  (try rw [(show W64 (v16+1)=v16+1 from Ap (by omega) au8)])
  refine AF ?_
  refine ⟨(n0,Bn++[Az.mk (b.Rules.getD v16.toNat default).Name (b.Rules.getD v16.toNat default).Priority (b.Rules.getD v16.toNat default).What (Z6K b v16) (Z6L b v16) (b.Rules.getD v16.toNat default).Value],v16+1),⟨?_,?_,(by rw [<- hF0];simp only [Fj,h1,cond_true,cond_false])⟩,Nat.lt_succ_self _,Cv.trans (CM (⟨[(1,tP 3001 0),(2,tP 3002 0),(3,tP 3003 0),(16,tI (v16+1))],[(2000,Z6M Bn b v16),(3001,.cells (AC.c b) 62),(3002,Z6H),(3003,.cells [.val (v 0),.val (v 1),.val (v 2),.val (v 3),.val (v 4),.val (v 5),.val (v 6),.val (v 7),.val (v 8),.val (v 9),.val (v 10),.val (v 11),.own 2000 20 (Bn++[Az.mk (b.Rules.getD v16.toNat default).Name (b.Rules.getD v16.toNat default).Priority (b.Rules.getD v16.toNat default).What (Z6K b v16) (Z6L b v16) (b.Rules.getD v16.toNat default).Value]).length,.val (v 13),.val (v 14)] 62)]⟩) 226 2000 (K:=[3003,3001,3002]) hP rfl rfl kr kr) (BG kr)⟩
  ·show ((b.Rules.length:Int)-(v16+1)).toNat<n0;omega
  exact ⟨ax0,ax0,ax0⟩
 have g1:=oF h1
 refine BH<|A7<|A7<|BI ?_
 exact ⟨_,Cv.trans (CG [1,2,3] [2000,3001,3002,3003] (⟨[(1,tP 3001 0),(2,tP 3002 0),(3,tP 3003 0)],[(2000,Z6I Bn),(3001,.cells (AC.c b) 62),(3002,Z6H),(3003,Z6J v Bn)]⟩) kr) (Cv.trans (CM (⟨[(1,tP 3001 0),(2,tP 3002 0),(3,tP 3003 0)],[(3114,Z6I Bn),(3001,.cells (AC.c b) 62),(3002,Z6H),(3003,Z6O v Bn)]⟩) 2000 3114 (K:=[3003,3001,3002]) hP rfl rfl kr kr) (CG [1,2,3] [3003,3001,3002,3114] (⟨[(1,tP 3001 0),(2,tP 3002 0),(3,tP 3003 0)],[(3003,Z6O v Bn),(3001,.cells (AC.c b) 62),(3002,Z6H),(3114,Z6I Bn)]⟩) kr)),rfl,(),trivial,congrArg (Sh b v) (show Bn=_ from (by rw [<- hF0];first | (simp only [Fj,h1,cond_true,cond_false] <;> rfl)))⟩
end
section
open Go.RowKit
def Z6P:Blk:=.cells GX 62
variable (b:AC)
abbrev G7:=Bx b.Outline
abbrev L8:Cl:=.own 26 7 b.Parts.length
abbrev FU (t_:List Cl):List Cl:=(.i b.Layers)::(.i (G7 b).Kind)::(lst 7 AG.c (G7 b).Edges)::(.i (G7 b).R)::(L8 b)::t_
abbrev YW:List Cl:=[vN,vN,.own 30 8 b.Vias.length,vN,vN,vN,vN,vN,.own 34 3 b.Waivers.length,vN]
abbrev RJ:List Cl:=(FU b (YW b))
def Z6Q:Blk:=.cells (RJ b) 62
abbrev Hf:=AV AU.c b.Parts
def Z6R:Blk:=.row 7 b.Parts.length (Hf b) 115
abbrev Hc:=AV BW.c b.Vias
def Z6S:Blk:=.row 8 b.Vias.length (Hc b) 129
abbrev Hg:=AV An.c b.Waivers
def Z6T:Blk:=.row 3 b.Waivers.length (Hg b) 141
abbrev YZ:List Cl:=[.own 3100 2 (Aq b).length,vN,.own 30 8 b.Vias.length,vN,vN,vN,vN,vN,.own 34 3 b.Waivers.length,vN]
abbrev Ul:List Cl:=(FU b (YZ b))
def Z6U:Blk:=.cells (Ul b) 62
abbrev IL:=AV A9.c (Aq b)
def Z6V:Blk:=.row 2 (Aq b).length (IL b) 69
abbrev L9:Cl:=.own 3100 2 (Aq b).length
abbrev IC:Cl:=.own 3102 6 (AK b).length
abbrev Co (t_:List Cl):List Cl:=(.i b.Layers)::(.i (G7 b).Kind)::(lst 7 AG.c (G7 b).Edges)::(.i (G7 b).R)::(L8 b)::(L9 b)::(IC b)::(.own 30 8 b.Vias.length)::t_
abbrev UA:List Cl:=[vN,vN,vN,vN,vN,.own 34 3 b.Waivers.length,vN]
abbrev Uo:List Cl:=(Co b (UA b))
def Z6W:Blk:=.cells (Uo b) 62
abbrev II:=AV AO.c (AK b)
def Z6X:Blk:=.row 6 (AK b).length (II b) 81
abbrev Nq:Cl:=.own 3104 8 (Aw b).length
abbrev QY:Cl:=.own 34 3 b.Waivers.length
abbrev Qj (t_:List Cl):List Cl:=(Nq b)::vN::vN::vN::vN::(QY b)::t_
def Z6Y:Blk:=.cells (Co b (Qj b [vN])) 62
def Z6Z:Blk:=.row 8 (Aw b).length (AV A4.c (Aw b)) 132
abbrev JC:Cl:=.own 3106 5 (Ay b).length
abbrev Qk (t_:List Cl):List Cl:=(Nq b)::(JC b)::vN::vN::vN::(QY b)::t_
def Z70:Blk:=.cells (Co b (Qk b [vN])) 62
abbrev IM:=AV A5.c (Ay b)
def Z71:Blk:=.row 5 (Ay b).length (IM b) 135
abbrev KZ:Cl:=.own 3108 4 (A2 b).length
abbrev Fp (t_:List Cl):List Cl:=(Nq b)::(JC b)::(KZ b)::t_
abbrev Qb:List Cl:=Fp b [vN,vN,.own 34 3 b.Waivers.length,vN]
def Z72:Blk:=.cells (Co b (Qb b)) 62
abbrev IJ:=AV BC.c (A2 b)
def Z73:Blk:=.row 4 (A2 b).length (IJ b) 137
abbrev JB:Cl:=.own 3110 2 (Ae b).length
abbrev Ns (t_:List Cl):List Cl:=(JB b)::vN::(QY b)::t_
def Z74:Blk:=.cells (Co b (Fp b (Ns b [vN]))) 62
abbrev He:=AV BE.c (Ae b)
def Z75:Blk:=.row 2 (Ae b).length (He b) 139
abbrev Qa:List Cl:=Fp b (Ns b [.own 3112 3 (AZ b).length])
def Z76:Blk:=.cells (Co b (Qa b)) 62
abbrev Hd:=AV AN.c (AZ b)
def Z77:Blk:=.row 3 (AZ b).length (Hd b) 78
abbrev Qh (t_:List Cl):List Cl:=(JB b)::(.own 3114 20 (Ab b).length)::(QY b)::t_
abbrev T9:List Cl:=(Co b (Fp b (Qh b [.own 3112 3 (AZ b).length])))
abbrev UO:=Bx b.Outline
abbrev Ql (t_:List Cl):List Cl:=(.i b.Layers)::(.i (UO b).Kind)::(lst 7 AG.c (UO b).Edges)::(.i (UO b).R)::(L8 b)::t_
abbrev Qf (t_:List Cl):List Cl:=(L9 b)::(IC b)::t_
def Z78:Blk:=.cells (T9 b) 62
abbrev IK:=AV Az.c (Ab b)
def Z79:Blk:=.row 20 (Ab b).length (IK b) 146
def vCpA (b:AC):Tv:=.av (.agg (T9 b))
def hCpA (b:AC):List (Nat×Blk):=[(26,.row 7 b.Parts.length (AV AU.c b.Parts) 115),(3100,.row 2 (Aq b).length (AV A9.c (Aq b)) 69),(3102,.row 6 (AK b).length (AV AO.c (AK b)) 81),(30,.row 8 b.Vias.length (AV BW.c b.Vias) 129),(3104,.row 8 (Aw b).length (AV A4.c (Aw b)) 132),(3106,.row 5 (Ay b).length (AV A5.c (Ay b)) 135),(3108,.row 4 (A2 b).length (AV BC.c (A2 b)) 137),(3110,.row 2 (Ae b).length (AV BE.c (Ae b)) 139),(3114,.row 20 (Ab b).length (AV Az.c (Ab b)) 146),(34,.row 3 b.Waivers.length (AV An.c b.Waivers) 141),(3112,.row 3 (AZ b).length (AV AN.c (AZ b)) 78)]
abbrev V8:List Cl:=(Ql b (YW b))
abbrev ZA:List Cl:=(Ql b (Qf b [.own 30 8 b.Vias.length,vN,vN,vN,vN,vN,.own 34 3 b.Waivers.length,vN]))
abbrev Yw:List Cl:=(Ql b (YZ b))
abbrev C7 (t_:List (Nat×Tv)):List (Nat×Tv):=(1,tP 1 0)::(2,tP 2 0)::(3,tP 3 0)::t_
abbrev MR:List (Nat×Tv):=(C7 [(4,tI 0)])
abbrev RD:List (Nat×Tv):=(Fq [(3,tP 3003 0),(11,tI 0)])
abbrev RB:List (Nat×Tv):=(Fq [(3,tP 3003 0),(13,tI 0)])
abbrev Q9:List (Nat×Tv):=(Fq [(3,tP 3003 0),(14,tI 0)])
abbrev Q8:List (Nat×Tv):=(Fq [(3,tP 3003 0),(16,tI 0)])
abbrev Q7:List (Nat×Tv):=(Fq [(3,tP 3003 0),(4,tI 0)])
abbrev Q6:List (Nat×Tv):=(Fq [(3,tP 3003 0),(5,tI 0)])
abbrev Q5:List (Nat×Tv):=(Fq [(3,tP 3003 0),(7,tI 0)])
abbrev Q4:List (Nat×Tv):=(Fq [(3,tP 3003 0),(9,tI 0)])
abbrev JH (t_:List (Nat×Blk)):List (Nat×Blk):=(26,Z6R b)::(30,Z6S b)::(34,Z6T b)::(B7 b)::(3002,Z6P)::t_
abbrev ZS:List (Nat×Blk):=(JH b [(3003,Z76 b),(3100,Z6V b),(3102,Z6X b),(3104,Z6Z b),(3106,Z71 b),(3108,Z73 b),(3110,Z75 b),(3112,Z77 b)])
abbrev ZN:List (Nat×Blk):=(JH b [(3003,Z74 b),(3100,Z6V b),(3102,Z6X b),(3104,Z6Z b),(3106,Z71 b),(3108,Z73 b),(3110,Z75 b)])
abbrev ZE:List (Nat×Blk):=(JH b [(3003,Z72 b),(3100,Z6V b),(3102,Z6X b),(3104,Z6Z b),(3106,Z71 b),(3108,Z73 b)])
abbrev Qy:Nat×Blk:=(3114,.row 20 (Ab b).length (IK b) 146)
abbrev Qx:Nat×Blk:=(3106,.row 5 (Ay b).length (IM b) 135)
abbrev Qw:Nat×Blk:=(3108,.row 4 (A2 b).length (IJ b) 137)
abbrev Qv:Nat×Blk:=(3110,.row 2 (Ae b).length (He b) 139)
abbrev Qt:Nat×Blk:=(3102,.row 6 (AK b).length (II b) 81)
abbrev Qs:Nat×Blk:=(3112,.row 3 (AZ b).length (Hd b) 78)
abbrev Y9:List (Nat×Blk):=(JH b [(3003,Z70 b),(3100,Z6V b),(3102,Z6X b),(3104,Z6Z b),(3106,Z71 b)])
abbrev Y5:List (Nat×Blk):=(JH b [(3003,Z6Y b),(3100,Z6V b),(3102,Z6X b),(3104,Z6Z b)])
abbrev Yz:List (Nat×Blk):=(JH b [(3003,Z6W b),(3100,Z6V b),(3102,Z6X b)])
abbrev UJ:Nat×Blk:=(3100,.row 2 (Aq b).length (AV A9.c (Aq b)) 69)
abbrev Ym:List (Nat×Blk):=(JH b [(3003,Z6U b),(3100,Z6V b)])
abbrev Qo:Cl:=.own 3114 20 (Ab b).length
abbrev Ep (t_:List Cl):List Cl:=(.i b.Layers)::(.i (Bx b.Outline).Kind)::(lst 7 AG.c (Bx b.Outline).Edges)::(.i (Bx b.Outline).R)::(L8 b)::(L9 b)::(IC b)::(.own 30 8 b.Vias.length)::t_
theorem au28 {p:Prop} (h:p:=by first | (with_reducible exact hc.out) | with_reducible assumption | omega | decide | (simp only [List.length_cons,List.length_nil,List.length_append];omega) | assumption):p:=h
set_option maxHeartbeats 4000000 in
theorem qCpA (b:AC) (hc:Ce b):Frs Try.prog 59 [.agg (AC.c b)] (fun _:Unit=>True) (fun _=>vCpA b) (fun _=>hCpA b):=by
 refine J5 Try.func59 rfl kr kr kr fun W0 M0 X hP hFl => ?_
 have h0:=hc.lParts
 have h1:=hc.lNets
 have h2:=hc.lTracks
 have h3:=hc.lVias
 have h4:=hc.lPours
 have h5:=hc.lKeeps
 have h6:=hc.lSlots
 have h7:=hc.lClasses
 have h8:=hc.lWaivers
 have h9:=hc.lMatches
 have h10:=hc.lRules
 have hr:=hc.rok
 refine AA<|on<|AA<|od [23,27,31] [(22,B5 b.Outline)] [As (B5 b.Outline).2.1,0=0,0+b.Parts.length<=maxLen,(0+b.Parts.length)*72<=140737488355328,0=0,0+b.Vias.length<=maxLen,(0+b.Vias.length)*72<=140737488355328,0=0,0+b.Waivers.length<=maxLen,(0+b.Waivers.length)*32<=140737488355328] (.cons (D2 b.Outline au28) .nil) (.cons rfl (.cons rfl (.cons au4 (.cons au4 (.cons rfl (.cons au4 (.cons au4 (.cons rfl (.cons au4 (.cons au4 .nil))))))))))<|AF<|Al (Cv.trans (A6 26 (Ar (A1 7 AU.c (([]:List AU):List AU)) (Af 7 AU.c b.Parts))) (Cv.trans (A6 30 (Ar (A1 8 BW.c (([]:List BW):List BW)) (Af 8 BW.c b.Vias))) (A6 34 (Ar (A1 3 An.c (([]:List An):List An)) (Af 3 An.c b.Waivers)))))<|AA<|AA<|rn ⟨MR,[(1,.cells (AC.c b) 62),(2,Z6P),(3,Z6Q b),(26,Z6R b),(30,Z6S b),(34,Z6T b)]⟩<|Al (Cv.trans (vr 3 3003 (K:=[]) hP) (Cv.trans (vr 1 3001 (K:=[]) hP) (wr (⟨Q7,[(B7 b),(3002,Z6P),(3003,Z6Q b),(26,Z6R b),(30,Z6S b),(34,Z6T b)]⟩) 2 3002 (K:=[]) hP))) ?_
 refine CH (ι:=Unit) (I:=fun _=>True) 3003 (V8 b) 62 (mkB 15 5) [1,2,3,4] [3001,3002] (fun _=>Bf) (fun _=>lEB 15 5 (L9 b)) (fun _=>[(B7 b),CI,(UJ b)]) (fun _=>⟨Bf,[(3003,Z6U b),(B7 b),(3002,Z6P),(3100,Z6V b),(26,Z6R b),(30,Z6S b),(34,Z6T b)]⟩) hP hFl (R3 b hc kr) (fun _ _ => ?_)
 refine AF<|Al (ck (⟨Bf,(Ym b)⟩))<|AA<|AA<|rn ⟨Q6,(Ym b)⟩<|CH (ι:=Unit) (I:=fun _=>True) 3003 (Yw b) 62 (mkB 15 6) [1,2,3,5] [3001,3002] (fun _=>Bf) (fun _=>lEB 15 6 (IC b)) (fun _=>[(B7 b),CI,(Qt b)]) (fun _=>⟨Bf,[(3003,Z6W b),(B7 b),(3002,Z6P),(3102,Z6X b),(26,Z6R b),(30,Z6S b),(34,Z6T b),(3100,Z6V b)]⟩) hP hFl (J4 b hc kr) (fun _ _ => ?_)
 refine AF<|Al (ck (⟨Bf,(Yz b)⟩))<|AA<|AA<|rn ⟨Q5,(Yz b)⟩<|CH (ι:=Unit) (I:=fun _=>True) 3003 (ZA b) 62 (mkB 15 8) [1,2,3,7] [3001,3002] (fun _=>Bf) (fun _=>lEB 15 8 (Nq b)) (fun _=>[(B7 b),CI,(3104,.row 8 (Aw b).length (AV A4.c (Aw b)) 132)]) (fun _=>⟨Bf,[(3003,Z6Y b),(B7 b),(3002,Z6P),(3104,Z6Z b),(26,Z6R b),(30,Z6S b),(34,Z6T b),(3100,Z6V b),(3102,Z6X b)]⟩) hP hFl (Tk b hc kr) (fun _ _ => ?_)
 refine AF<|Al (ck (⟨Bf,(Y5 b)⟩))<|AA<|AA<|rn ⟨Q4,(Y5 b)⟩<|CH (ι:=Unit) (I:=fun _=>True) 3003 (Ep b (Qj b [vN])) 62 (mkB 15 9) [1,2,3,9] [3001,3002] (fun _=>Bf) (fun _=>lEB 15 9 (JC b)) (fun _=>[(B7 b),CI,(Qx b)]) (fun _=>⟨Bf,[(3003,Z70 b),(B7 b),(3002,Z6P),(3106,Z71 b),(26,Z6R b),(30,Z6S b),(34,Z6T b),(3100,Z6V b),(3102,Z6X b),(3104,Z6Z b)]⟩) hP hFl (Lm b hc kr) (fun _ _ => ?_)
 refine AF<|Al (ck (⟨Bf,(Y9 b)⟩))<|AA<|AA<|rn ⟨RD,(Y9 b)⟩<|CH (ι:=Unit) (I:=fun _=>True) 3003 (Ep b (Qk b [vN])) 62 (mkB 15 10) [1,2,3,11] [3001,3002] (fun _=>Bf) (fun _=>lEB 15 10 (KZ b)) (fun _=>[(B7 b),CI,(Qw b)]) (fun _=>⟨Bf,[(3003,Z72 b),(B7 b),(3002,Z6P),(3108,Z73 b),(26,Z6R b),(30,Z6S b),(34,Z6T b),(3100,Z6V b),(3102,Z6X b),(3104,Z6Z b),(3106,Z71 b)]⟩) hP hFl (Lk b hc kr) (fun _ _ => ?_)
 refine AF<|Al (ck (⟨Bf,(ZE b)⟩))<|AA<|AA<|rn ⟨RB,(ZE b)⟩<|CH (ι:=Unit) (I:=fun _=>True) 3003 (Ep b (Qb b)) 62 (mkB 15 11) [1,2,3,13] [3001,3002] (fun _=>Bf) (fun _=>lEB 15 11 (JB b)) (fun _=>[(B7 b),CI,(Qv b)]) (fun _=>⟨Bf,[(3003,Z74 b),(B7 b),(3002,Z6P),(3110,Z75 b),(26,Z6R b),(30,Z6S b),(34,Z6T b),(3100,Z6V b),(3102,Z6X b),(3104,Z6Z b),(3106,Z71 b),(3108,Z73 b)]⟩) hP hFl (Ik b hc kr) (fun _ _ => ?_)
 refine AF<|Al (ck (⟨Bf,(ZN b)⟩))<|AA<|AA<|rn ⟨Q9,(ZN b)⟩<|CH (ι:=Unit) (I:=fun _=>True) 3003 (Ep b (Fp b (Ns b [vN]))) 62 (mkB 15 14) [1,2,3,14] [3001,3002] (fun _=>Bf) (fun _=>lEB 15 14 (.own 3112 3 (AZ b).length)) (fun _=>[(B7 b),CI,(Qs b)]) (fun _=>⟨Bf,[(3003,Z76 b),(B7 b),(3002,Z6P),(3112,Z77 b),(26,Z6R b),(30,Z6S b),(34,Z6T b),(3100,Z6V b),(3102,Z6X b),(3104,Z6Z b),(3106,Z71 b),(3108,Z73 b),(3110,Z75 b)]⟩) hP hFl (Ij b hc kr) (fun _ _ => ?_)
 refine AF<|Al (ck (⟨Bf,(ZS b)⟩))<|AA<|AA<|rn ⟨Q8,(ZS b)⟩<|CH (ι:=Unit) (I:=fun _=>True) 3003 (Ep b (Qa b)) 62 (mkB 15 12) [1,2,3,16] [3001,3002] (fun _=>Bf) (fun _=>lEB 15 12 (Qo b)) (fun _=>[(B7 b),CI,(Qy b)]) (fun _=>⟨Bf,[(3003,Z78 b),(B7 b),(3002,Z6P),(3114,Z79 b),(26,Z6R b),(30,Z6S b),(34,Z6T b),(3100,Z6V b),(3102,Z6X b),(3104,Z6Z b),(3106,Z71 b),(3108,Z73 b),(3110,Z75 b),(3112,Z77 b)]⟩) hP hFl (Ll b hc kr) (fun _ _ => ?_)
 refine AF<|Al (ck (⟨Bf,(JH b [(3003,Z78 b),(3100,Z6V b),(3102,Z6X b),(3104,Z6Z b),(3106,Z71 b),(3108,Z73 b),(3110,Z75 b),(3112,Z77 b),(3114,Z79 b)])⟩))<|AA<|rn ⟨[(2,tP 3002 0)],[(26,Z6R b),(30,Z6S b),(34,Z6T b),(3002,Z78 b),(3100,Z6V b),(3102,Z6X b),(3104,Z6Z b),(3106,Z71 b),(3108,Z73 b),(3110,Z75 b),(3112,Z77 b),(3114,Z79 b)]⟩<|AR ?_
 refine ⟨_,Cv.trans (ck (⟨[(2,tP 3002 0)],[(26,Z6R b),(3100,Z6V b),(3102,Z6X b),(30,Z6S b),(3104,Z6Z b),(3106,Z71 b),(3108,Z73 b),(3110,Z75 b),(3114,Z79 b),(34,Z6T b),(3112,Z77 b),(3002,Z78 b)]⟩)) (Cv.refl _),.inl rfl,vCpA b,by kernel_rfl,iI (m:=[(3002,.cells (T9 b) 62)]) kr⟩
end
end Go.Proofs.Ytgmhnkoifdpemaa
