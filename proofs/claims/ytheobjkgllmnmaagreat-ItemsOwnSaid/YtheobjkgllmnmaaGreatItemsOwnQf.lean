/-
  No statement is proved in this text. It holds a part of what the proof of ItemsOwn needs.
-/
import Derived.Test.YtheobjkgllmnmaaGreatItemsOwnQe
namespace Go.Proofs.YtheobjkgllmnmaaGreat
set_option maxRecDepth 100000
set_option linter.unusedVariables false
set_option linter.unusedSimpArgs false
open Go.RowKit
section
open Go.RowKit
theorem O2 {v a:Int} {d:AD} {n:Int} (h:v<W64 (a+(AA d n).1)) (h0:0<n) (h1:n<=1000000) (ha:0<=a) (hb:a<=1000000):v<a+n-1:=by
 have:=DO d n h0 (by omega)
 rw [Ae (by omega) (by omega)] at h
 omega
theorem IL {p q:Prop} [Decidable p] [Decidable q] {r:Bool} (h:(bif bif decide p then decide q else false then r else (bif bif decide p then decide q else false then false else false))=true):q:=by
 by_cases hp:p
 ·rw [decide_eq_true hp] at h
  by_cases hq:q
  ·exact hq
  rw [decide_eq_false hq] at h;cases h
 rw [decide_eq_false hp] at h;cases h
theorem Xq {n:Nat} (h:(0:Int)<(n:Int)):0<n:=by omega
theorem Qn {c2 c1:Bool} {a b c:A7} {L:List A7} (hL:L=bif c2 then [a,b] else bif c1 then [c] else []):L.length<=2:=by
 subst hL;cases c2 <;> cases c1 <;> simp
theorem X7 {c2 c1:Bool} {a b c:A7} {L:List A7} {k:Int} (hk:0<=k/\k<2) (ha:a.Legs.length=2) (hc:c.Legs.length=2) (hL:L=bif c2 then [a,b] else bif c1 then [c] else []) (h:(0:Int)<(L.length:Int)):0<=k/\k<(((L.getD 0 default).Legs.length:Nat):Int):=by
 subst hL
 cases c2 with
 | true=>show 0<=k/\k<((a.Legs.length:Nat):Int);rw [ha];exact hk
 | false =>
  cases c1 with
  | true=>show 0<=k/\k<((c.Legs.length:Nat):Int);rw [hc];exact hk
  | false=>exact absurd h (by simp)
theorem gB {α:Type} {L:List α} (h:L.length<=2):L.length+1<=maxLen:=by unfold maxLen;omega
theorem gC {α:Type} {L:List α} (h:L.length<=2):(L.length+1)*32<=140737488355328:=by omega
def Z4b:Blk:=.cells N8 82
variable (l:List Int) (r:Ad) (name:ByteArray) (v6_1:List BH) (v8:Int) (x0:AC) (radius:Int) (v5:AD) (x1:AC)
abbrev JF:=AA (AD.mk l 0) 5
def Z4c:CT:=(42,Kc.map (Bo 1000 14),wrI 14 (.cells [lst 1 eIn l,.i 0] 117) (tI (JF l).1) (.cells (AD.c (JF l).2) 117))
def Z4d:Tv:=tI (W64 (2+(JF l).1))
def Z4e:Blk:=.cells (AD.c (JF l).2) 117
abbrev Hr:Bool:=(decide (((W64 (2+(JF l).1)):Int)<4))
def Z4f:Tv:=tB (Hr l)
abbrev MD:Av:=.one (.ptr 14 0)
def Z4g:Tv:=.grd ((Hr l)=true) MD
abbrev Hs:Bool:=(decide ((4:Int)<=(W64 (2+(JF l).1))))
def Z4i:Tv:=tB (Hs l)
def Z4j:Tv:=.grd ((Hs l)=true) MD
def Z4m:Blk:=.cells [.s name,.own 2000 7 v6_1.length,vN] 82
def Z4n:Blk:=.row 7 v6_1.length (AP BH.c v6_1) 102
abbrev MH:Blk:=.cells (AD.c (AA v5 2).2) 117
abbrev MC:Blk:=.cells (AD.c v5) 117
def Z4o:CT:=(42,(Hq:List Av).map (Bo 1000 14),wrI 14 (MC v5) (tI (AA v5 2).1) (MH v5))
def Z4p:Blk:=.cells [.s (Af v8),.i 0,vN,.i 0,.i (W64 (30*v8)),.i (W64 (10*(AA v5 2).1)),.i 0] 102
def Z4q:Blk:=.cells [.i (W64 (30*v8)),.i (W64 (10*(AA v5 2).1))] 66
abbrev Ga:=AA (AA v5 2).2 3
def Z4r:CT:=(42,(E9:List Av).map (Bo 1000 14),wrI 14 (MH v5) (tI (Ga v5).1) (.cells (AD.c (Ga v5).2) 117))
def Z4s:Blk:=.cells (AD.c (Ga v5).2) 117
def Z4t:AO:=HP (Ad.mk (W64 ((W64 (30*v8))-6)) (W64 ((W64 (10*(AA v5 2).1))-6)) (W64 ((W64 (30*v8))+6)) (W64 ((W64 (10*(AA v5 2).1))+6)))
def Z4u:CT:=(42,(E9:List Av).map (Bo 1000 14),wrI 14 (.cells (AD.c (Ga v5).2) 117) (tI (AA (Ga v5).2 3).1) (.cells (AD.c (AA (Ga v5).2 3).2) 117))
abbrev Z4v:AD:=(AA (AA (AA v5 2).2 3).2 3).2
def Z4w:AO:=Pq (AC.mk (W64 (30*v8)) (W64 (10*(AA v5 2).1))) (W64 (4+(AA (AA (AA v5 2).2 3).2 3).1))
abbrev Z4x:AD:=bif decide (((AA (AA v5 2).2 3).1:Int)=0) then (AA (AA v5 2).2 3).2 else (bif decide (((AA (AA v5 2).2 3).1:Int)=1) then (Z4v v5) else (AA (AA v5 2).2 3).2)
def Z4y (v5:AD) (v8:Int):(List AK):=bif decide (((AA (AA v5 2).2 3).1:Int)=0) then (Z4t v8 v5).Edges else (bif decide (((AA (AA v5 2).2 3).1:Int)=1) then (Z4w v8 v5).Edges else [AK.mk 1 (AC.mk (W64 ((W64 (30*v8))-2)) (W64 (10*(AA v5 2).1))) (AC.mk (W64 ((W64 (30*v8))+2)) (W64 (10*(AA v5 2).1))) (AC.mk 0 0)])
def Z4z:CT:=(42,Hj.map (Bo 1000 14),wrI 14 (.cells (AD.c (Z4x v5)) 117) (tI (AA (Z4x v5) 4).1) (.cells (AD.c (AA (Z4x v5) 4).2) 117))
def Z4A:CT:=(42,(Hq:List Av).map (Bo 1000 14),wrI 14 (.cells (AD.c (AA (Z4x v5) 4).2) 117) (tI (AA (AA (Z4x v5) 4).2 2).1) (.cells (AD.c (AA (AA (Z4x v5) 4).2 2).2) 117))
abbrev Z4B:AD:=(AA (AA (Z4x v5) 4).2 2).2
def Z4C:CT:=(42,(E9:List Av).map (Bo 1000 14),wrI 14 (MC v5) (tI (AA v5 3).1) (.cells (AD.c (AA v5 3).2) 117))
abbrev Z4D:AD:=bif decide (((W64 (2+(AA (AD.mk l 0) 5).1)):Int)<4) then (AA v5 3).2 else v5
def Z4E:CT:=(42,(Hq:List Av).map (Bo 1000 14),wrI 14 (.cells (AD.c (Z4D l v5)) 117) (tI (AA (Z4D l v5) 2).1) (.cells (AD.c (AA (Z4D l v5) 2).2) 117))
def Z4F:Blk:=.cells (AD.c (AA (Z4D l v5) 2).2) 117
abbrev VH:=[A7.mk 0 [Bk.mk (Af 0) 1,Bk.mk (Af 1) (AA (Z4D l v5) 2).1]]
def Z4G:Blk:=.row 2 ((VH l v5).length) (AP A7.c (VH l v5)) 180
abbrev Z4H:AD:=bif bif decide (((W64 (2+(AA (AD.mk l 0) 5).1)):Int)<4) then (bif decide (((W64 (2+(AA (AD.mk l 0) 5).1)):Int)<4) then decide ((0:Int)<(AA v5 3).1) else false) else (bif decide (((W64 (2+(AA (AD.mk l 0) 5).1)):Int)<4) then false else false) then (AA (Z4D l v5) 2).2 else (Z4D l v5)
def Z4I:(List A7):=bif bif decide (((W64 (2+(AA (AD.mk l 0) 5).1)):Int)<4) then (bif decide (((W64 (2+(AA (AD.mk l 0) 5).1)):Int)<4) then decide ((0:Int)<(AA v5 3).1) else false) else (bif decide (((W64 (2+(AA (AD.mk l 0) 5).1)):Int)<4) then false else false) then [A7.mk 0 [Bk.mk (Af 0) 1,Bk.mk (Af 1) (AA (Z4D l v5) 2).1]] else ([]:List A7)
def Z4J:CT:=(42,(E9:List Av).map (Bo 1000 14),wrI 14 (.cells (AD.c (Z4H l v5)) 117) (tI (AA (Z4H l v5) 3).1) (.cells (AD.c (AA (Z4H l v5) 3).2) 117))
def Z4K:Blk:=.row 2 (Z4I l v5).length (AP A7.c (Z4I l v5)) 180
abbrev Z4L:AD:=bif decide ((4:Int)<=(W64 (2+(AA (AD.mk l 0) 5).1))) then (AA (Z4H l v5) 3).2 else (Z4H l v5)
abbrev GZ:=AA (Z4L l v5) 2
def Z4M:CT:=(42,(Hq:List Av).map (Bo 1000 14),wrI 14 (.cells (AD.c (Z4L l v5)) 117) (tI (GZ l v5).1) (.cells (AD.c (GZ l v5).2) 117))
def Z4N:Blk:=.cells (AD.c (GZ l v5).2) 117
abbrev VV:=[A7.mk 1 [Bk.mk (Af 0) (GZ l v5).1,Bk.mk (Af 1) (GZ l v5).1],A7.mk 1 [Bk.mk (Af 2) (GZ l v5).1,Bk.mk (Af 3) (GZ l v5).1]]
def Z4O:Blk:=.row 2 ((VV l v5).length) (AP A7.c (VV l v5)) 180
abbrev Z4P:AD:=bif bif decide ((4:Int)<=(W64 (2+(AA (AD.mk l 0) 5).1))) then (bif decide ((4:Int)<=(W64 (2+(AA (AD.mk l 0) 5).1))) then decide ((0:Int)<(AA (Z4H l v5) 3).1) else false) else (bif decide ((4:Int)<=(W64 (2+(AA (AD.mk l 0) 5).1))) then false else false) then (AA (Z4L l v5) 2).2 else (Z4L l v5)
def Z4Q:(List A7):=bif bif decide ((4:Int)<=(W64 (2+(AA (AD.mk l 0) 5).1))) then (bif decide ((4:Int)<=(W64 (2+(AA (AD.mk l 0) 5).1))) then decide ((0:Int)<(AA (Z4H l v5) 3).1) else false) else (bif decide ((4:Int)<=(W64 (2+(AA (AD.mk l 0) 5).1))) then false else false) then [A7.mk 1 [Bk.mk (Af 0) (AA (Z4L l v5) 2).1,Bk.mk (Af 1) (AA (Z4L l v5) 2).1],A7.mk 1 [Bk.mk (Af 2) (AA (Z4L l v5) 2).1,Bk.mk (Af 3) (AA (Z4L l v5) 2).1]] else (Z4I l v5)
def Z4R:CT:=(42,(Hq:List Av).map (Bo 1000 14),wrI 14 (.cells (AD.c (Z4P l v5)) 117) (tI (AA (Z4P l v5) 2).1) (.cells (AD.c (AA (Z4P l v5) 2).2) 117))
def Z4S:Blk:=.row 2 (Z4Q l v5).length (AP A7.c (Z4Q l v5)) 180
abbrev Z4T:AD:=bif bif decide (((W64 (2+(AA (AD.mk l 0) 5).1)):Int)=6) then decide ((0:Int)<(((Z4Q l v5).length:Nat):Int)) else false then (AA (Z4P l v5) 2).2 else (Z4P l v5)
def Z4U:CT:=(42,(E9:List Av).map (Bo 1000 14),wrI 14 (.cells (AD.c (Z4T l v5)) 117) (tI (AA (Z4T l v5) 3).1) (.cells (AD.c (AA (Z4T l v5) 3).2) 117))
abbrev Z8:=[A7.mk (AA (Z4T l v5) 3).1 [Bk.mk (Af 5) (((Z4Q l v5).getD 0 default).Legs.getD 0 default).Group,Bk.mk (Af 4) (((Z4Q l v5).getD 0 default).Legs.getD 1 default).Group]]
def Z4V:Blk:=.row 2 ((Z4Q l v5)++(Z8 l v5)).length (AP A7.c ((Z4Q l v5)++(Z8 l v5))) 180
def Z4W:(List A7):=bif bif bif decide (((W64 (2+(AA (AD.mk l 0) 5).1)):Int)=6) then decide ((0:Int)<(((Z4Q l v5).length:Nat):Int)) else false then (bif bif decide (((W64 (2+(AA (AD.mk l 0) 5).1)):Int)=6) then decide ((0:Int)<(((Z4Q l v5).length:Nat):Int)) else false then decide (((AA (Z4P l v5) 2).1:Int)=1) else false) else (bif bif decide (((W64 (2+(AA (AD.mk l 0) 5).1)):Int)=6) then decide ((0:Int)<(((Z4Q l v5).length:Nat):Int)) else false then false else false) then ((Z4Q l v5)++[A7.mk (AA (Z4T l v5) 3).1 [Bk.mk (Af 5) (((Z4Q l v5).getD 0 default).Legs.getD 0 default).Group,Bk.mk (Af 4) (((Z4Q l v5).getD 0 default).Legs.getD 1 default).Group]]) else (Z4Q l v5)
def Z4Z (name:ByteArray) (v6_1:List BH) (l:(List Int)) (v5:AD):Blk:=.cells [.s name,.own 2000 7 v6_1.length,.own 2001 2 (Z4I l v5).length] 82
def Z50 (name:ByteArray) (v6_1:List BH) (l:(List Int)) (v5:AD):Blk:=.cells [.s name,.own 2000 7 v6_1.length,.own 2002 2 ((VV l v5).length)] 82
def Z51 (name:ByteArray) (v6_1:List BH) (l:(List Int)) (v5:AD):Blk:=.cells [.s name,.own 2000 7 v6_1.length,.own 2002 2 (Z4Q l v5).length] 82
def Z52 (name:ByteArray) (v6_1:List BH) (l:(List Int)) (v5:AD):Blk:=.cells [.s name,.own 2000 7 v6_1.length,.own 2003 2 ((Z4Q l v5)++(Z8 l v5)).length] 82
def C1 (l:(List Int)) (name:ByteArray):Nat->List BH->AD->Int->AN
 | 0,_,_,_=>default
 | n0+1,v6_1,v5,v8=>bif decide ((v8:Int)<(W64 (2+(AA (AD.mk l 0) 5).1))) then ((C1 l name n0) (v6_1++[BH.mk (Af v8) (AO.mk (bif decide (((AA (AA v5 2).2 3).1:Int)=0) then (Z4t v8 v5).Kind else (bif decide (((AA (AA v5 2).2 3).1:Int)=1) then (Z4w v8 v5).Kind else 1)) (Z4y v5 v8) (bif decide (((AA (AA v5 2).2 3).1:Int)=0) then (Z4t v8 v5).R else (bif decide (((AA (AA v5 2).2 3).1:Int)=1) then (Z4w v8 v5).R else 4))) (AC.mk (W64 (30*v8)) (W64 (10*(AA v5 2).1))) (W64 ((W64 (2*(AA (Z4x v5) 4).1))*(AA (AA (Z4x v5) 4).2 2).1))]) (Z4B v5) (v8+1)) else (AN.mk name v6_1 (Z4W l v5))
def BB (l:(List Int)) (name:ByteArray):AN:=C1 l name (((W64 (2+(AA (AD.mk l 0) 5).1))-0).toNat+1) ([]:List BH) (AA (AD.mk l 0) 5).2 0
def Nu:CT:=(39,[.one (lst 1 eIn l),.one (.s name)],.val [] (.av (.agg (AN.c (BB l name)))))
abbrev Gk:Bool:=(decide (((W64 (2+(JF l).1)):Int)=6))
abbrev B8 (t_:List (Nat×Tv)):List (Nat×Tv):=(4,tP 4 0)::(5,tP 14 0)::(6,tP 6 0)::t_
abbrev LI:List (Nat×Tv):=(B8 [(7,Z4d l)])
abbrev Kl:Nat×Blk:=(2000,.row 7 v6_1.length (AP BH.c v6_1) 102)
abbrev Rk:List (Nat×Tv):=(B8 [(7,Z4d l),(8,tI v8),(9,tP 9 0)])
abbrev Rf:List (Nat×Blk):=[(4,Z4b),(6,Z4m name v6_1),(14,.cells (AD.c v5) 117),(2000,Z4n v6_1)]
abbrev OC:List (Nat×Tv):=[(4,tP 4 0),(6,tP 6 0)]
abbrev N7:Nat×Tv:=(7,tI (W64 (2+(JF l).1)))
theorem au17 {p:Prop} (h:p:=by first | (simp;done) | (simp;omega)):p:=h
set_option maxHeartbeats 2000000 in
theorem kZ (l:(List Int)) (name:ByteArray) (hl:(l.length:Int)<=9223372036854775807):PuP 39 (Nu l name).2.1 (.av (.agg (AN.c (BB l name)))):=by
 refine pwf Tryz.func39 fun W0 M0 => ?_
 have hd0:=CV hl
 refine AB<|on<|AB<|on<|AB<|on<|AB<|rb 18 (Z4c l) (.cells [lst 1 eIn l,.i 0] 117) ⟨(LI l),[(4,Z4b),(6,.cells [.s name,vN,vN] 82),(14,Z4e l)]⟩ (cWr (BR (AD.mk l 0) 5 au7 au9))<|AE<|AB<|AB<|rn ⟨(B8 [(7,Z4d l),(8,tI 0)]),[(4,Z4b),(6,.cells [.s name,vN,vN] 82),(14,Z4e l)]⟩<|AM<|BE (Cv.trans (vg 2000 7 (fun _ _=>default) 102 [] [(6,[1])] hk0) (Cv.trans (A5 2000 (B9 7 (fun _ _=>default) BH.c)) (ck (⟨(B8 [(7,Z4d l),(8,tI 0)]),[(4,Z4b),(6,.cells [.s name,.own 2000 7 ([]:List BH).length,vN] 82),(14,Z4e l),(2000,.row 7 ([]:List BH).length (AP BH.c ([]:List BH)) 102)]⟩)))) ?_
 refine lpC (κ:=List BH×AD×Int) (fun x=>⟨(B8 [(7,Z4d l),(8,tI x.2.2.2)]),[(4,Z4b),(6,.cells [.s name,.own 2000 7 x.2.1.length,vN] 82),(14,.cells (AD.c x.2.2.1) 117),(2000,.row 7 x.2.1.length (AP BH.c x.2.1) 102)]⟩) (fun x=>((W64 (2+(AA (AD.mk l 0) 5).1))-x.2.2.2).toNat) (fun x=>(CJ x.2.2.1/\0<=x.2.2.2/\(x.2.2.2<=(W64 (2+(AA (AD.mk l 0) 5).1))\/x.2.2.2=0)/\(x.2.1.length:Int)<=0+1*(x.2.2.2-0))/\C1 l name x.1 x.2.1 x.2.2.1 x.2.2.2=BB l name) ?_ (((W64 (2+(AA (AD.mk l 0) 5).1))-0).toNat+1,([]:List BH),(AA (AD.mk l 0) 5).2,0) ⟨Nat.lt_succ_self _,⟨(by dsimp only;repeat (first | with_reducible assumption | exact CV (DV hll _) | with_reducible refine BO ?_ | with_reducible refine Ek ?_ | with_reducible refine Dk ?_ | with_reducible refine DH ?_  | with_reducible refine Cr ?_ ?_)),ax0,ax0,ax0⟩,(by simp only [BB,cond_true,cond_false])⟩
 rintro n0 ⟨v6_1,v5,v8⟩ hm0 ⟨hinv0,hF0⟩
 try dsimp only at hm0 hinv0 hF0
 have hi0_0:=hinv0.1
 refine AB<|AB<|on<|kb (decide ((v8:Int)<(W64 (2+(AA (AD.mk l 0) 5).1)))) (fun h1 => ?_) (fun h1 => ?_)
 ·have g1:=oT h1
  have k1:=SL g1 (by decide) (by decide) (by decide) (by decide)
  have kk1:=O2 g1 (by decide) (by decide) (by decide) (by decide)
  refine AQ<|AE<|AB<|AM<|AB<|oo [(26,Cs v8),(30,(Z4o v5))] [none,none,Br (MC v5)] (.cons (Ea v8 au10) (.cons (cWr (BR v5 2 au7 au9)) .nil)) (H1 rfl)<|AE<|AB<|on<|AB<|AB<|rb 37 (Z4r v5) (MH v5) ⟨(B8 [(7,Z4d l),(8,tI v8),(9,tP 9 0),(10,tP 10 0),(37,tI (Ga v5).1)]),[(4,Z4b),(6,Z4m name v6_1),(9,Z4p v8 v5),(10,Z4q v8 v5),(14,Z4s v5),(2000,Z4n v6_1)]⟩ (cWr (BR (AA v5 2).2 3 au7 au9))<|AE<|Bd (⟨(B8 [(N7 l),(8,tI v8),(9,tP 9 0)]),[GK,(6,.cells [.s name,.own 2000 7 v6_1.length,vN] 82),(9,.cells [.s (Af v8),.i (bif decide (((Ga v5).1:Int)=0) then (Z4t v8 v5).Kind else (bif decide (((Ga v5).1:Int)=1) then (Z4w v8 v5).Kind else 1)),lst 7 AK.c (Z4y v5 v8),.i (bif decide (((Ga v5).1:Int)=0) then (Z4t v8 v5).R else (bif decide (((Ga v5).1:Int)=1) then (Z4w v8 v5).R else 4)),.i (W64 (30*v8)),.i (W64 (10*(AA v5 2).1)),.i 0] 102),(14,.cells (AD.c (Z4x v5)) 117),(Kl v6_1)]⟩) ?_ ?_
  ·refine AM<|AB<|on<|kb (decide (((AA (AA v5 2).2 3).1:Int)=0)) (fun h2 => ?_) (fun h2 => ?_)
   ·refine rs 69 _ ⟨(Rk l v8),[(4,Z4b),(6,Z4m name v6_1),(9,.cells [.s (Af v8),.i (Z4t v8 v5).Kind,lst 7 AK.c (Z4t v8 v5).Edges,.i (Z4t v8 v5).R,.i (W64 (30*v8)),.i (W64 (10*(AA v5 2).1)),.i 0] 102),(14,Z4s v5),(2000,Z4n v6_1)]⟩ (SD (Ad.mk (W64 ((W64 (30*v8))-6)) (W64 ((W64 (10*(AA v5 2).1))-6)) (W64 ((W64 (30*v8))+6)) (W64 ((W64 (10*(AA v5 2).1))+6))))<|A3<|AE<|Al ?_
    first | rfl | (simp only [h2,Z4x,Z4y,cond_true,cond_false] <;> rfl)
   have g2:=oF h2
   refine AB<|on<|kb (decide (((AA (AA v5 2).2 3).1:Int)=1)) (fun h3 => ?_) (fun h3 => ?_)
   ·have g3:=oT h3
    refine dO [] [(75,(Z4u v5)),(77,Wn (AC.mk (W64 (30*v8)) (W64 (10*(AA v5 2).1))) (W64 (4+(AA (Ga v5).2 3).1)))] [none,Br (.cells (AD.c (AA (AA v5 2).2 3).2) 117),none] ⟨(Rk l v8),[(4,Z4b),(6,Z4m name v6_1),(9,.cells [.s (Af v8),.i (Z4w v8 v5).Kind,lst 7 AK.c (Z4w v8 v5).Edges,.i (Z4w v8 v5).R,.i (W64 (30*v8)),.i (W64 (10*(AA v5 2).1)),.i 0] 102),(14,.cells (AD.c (Z4v v5)) 117),(2000,Z4n v6_1)]⟩ (.cons (cWr (BR (AA (AA v5 2).2 3).2 3 au7 au9)) (.cons (lL (AC.mk (W64 (30*v8)) (W64 (10*(AA v5 2).1))) (W64 (4+(AA (AA (AA v5 2).2 3).2 3).1))) .nil)) (H1 rfl)<|A3<|AE<|Al ?_
    first | rfl | (simp only [h2,h3,Z4x,Z4y,cond_true,cond_false] <;> rfl)
   refine rg ⟨(Rk l v8),[(4,Z4b),(6,Z4m name v6_1),(9,.cells [.s (Af v8),.i 1,.list true 7 1 (BG 7 1 [.i 1,.i (W64 ((W64 (30*v8))-2)),.i (W64 (10*(AA v5 2).1)),.i (W64 ((W64 (30*v8))+2)),.i (W64 (10*(AA v5 2).1)),.i 0,.i 0]),.i 4,.i (W64 (30*v8)),.i (W64 (10*(AA v5 2).1)),.i 0] 102),(14,Z4s v5),(2000,Z4n v6_1)]⟩<|A3<|AE<|Cv.trans (Es (⟨(Rk l v8),[(4,Z4b),(6,Z4m name v6_1),(9,.cells [.s (Af v8),.i 1,lst 7 AK.c [AK.mk 1 (AC.mk (W64 ((W64 (30*v8))-2)) (W64 (10*(AA v5 2).1))) (AC.mk (W64 ((W64 (30*v8))+2)) (W64 (10*(AA v5 2).1))) (AC.mk 0 0)],.i 4,.i (W64 (30*v8)),.i (W64 (10*(AA v5 2).1)),.i 0] 102),(14,Z4s v5),(2000,Z4n v6_1)]⟩) lr (rz (rz (.cons ⟨rfl,.cells _ (rr2 (.cons (BW true (Ba (c:=AK.c) (xs:=([AK.mk 1 (AC.mk (W64 ((W64 (30*v8))-2)) (W64 (10*(AA v5 2).1))) (AC.mk (W64 ((W64 (30*v8))+2)) (W64 (10*(AA v5 2).1))) (AC.mk 0 0)]:List AK)) rfl kr)) (rr (rr (rr (rr .nil))))))⟩ lr)))) (Al ?_)
   first | rfl | (simp only [h2,h3,Z4x,Z4y,cond_true,cond_false] <;> rfl)
  refine AB<|oo [(80,(Z4z v5)),(83,(Z4A v5))] [none,Br (.cells (AD.c (Z4x v5)) 117),none,Br (.cells (AD.c (AA (Z4x v5) 4).2) 117)] (.cons (cWr (BR (Z4x v5) 4 au7 au9)) (.cons (cWr (BR (AA (Z4x v5) 4).2 2 au7 au9)) .nil)) (H2 rfl rfl)<|AE<|oc [] [v6_1.length=v6_1.length,v6_1.length+1<=maxLen,(v6_1.length+1)*80<=140737488355328] .nil (H3 rfl au2 au2)<|A3<|AE<|BE (A5 90 (BF (A1 7 BH.c v6_1) (BC 7 BH.c ([BH.mk (Af v8) (AO.mk (bif decide (((AA (AA v5 2).2 3).1:Int)=0) then (Z4t v8 v5).Kind else (bif decide (((AA (AA v5 2).2 3).1:Int)=1) then (Z4w v8 v5).Kind else 1)) (Z4y v5 v8) (bif decide (((AA (AA v5 2).2 3).1:Int)=0) then (Z4t v8 v5).R else (bif decide (((AA (AA v5 2).2 3).1:Int)=1) then (Z4w v8 v5).R else 4))) (AC.mk (W64 (30*v8)) (W64 (10*(AA v5 2).1))) (W64 ((W64 (2*(AA (Z4x v5) 4).1))*(AA (AA (Z4x v5) 4).2 2).1))]:List BH)))) ?_
  refine rg ⟨(B8 [(7,Z4d l),(8,tI (W64 (v8+1)))]),[(4,Z4b),(6,.cells [.s name,.own 90 7 (v6_1++[BH.mk (Af v8) (AO.mk (bif decide (((Ga v5).1:Int)=0) then (Z4t v8 v5).Kind else (bif decide (((Ga v5).1:Int)=1) then (Z4w v8 v5).Kind else 1)) (Z4y v5 v8) (bif decide (((Ga v5).1:Int)=0) then (Z4t v8 v5).R else (bif decide (((Ga v5).1:Int)=1) then (Z4w v8 v5).R else 4))) (AC.mk (W64 (30*v8)) (W64 (10*(AA v5 2).1))) (W64 ((W64 (2*(AA (Z4x v5) 4).1))*(AA (AA (Z4x v5) 4).2 2).1))]).length,vN] 82),(14,.cells (AD.c (Z4B v5)) 117),(90,.row 7 (v6_1++[BH.mk (Af v8) (AO.mk (bif decide (((Ga v5).1:Int)=0) then (Z4t v8 v5).Kind else (bif decide (((Ga v5).1:Int)=1) then (Z4w v8 v5).Kind else 1)) (Z4y v5 v8) (bif decide (((Ga v5).1:Int)=0) then (Z4t v8 v5).R else (bif decide (((Ga v5).1:Int)=1) then (Z4w v8 v5).R else 4))) (AC.mk (W64 (30*v8)) (W64 (10*(AA v5 2).1))) (W64 ((W64 (2*(AA (Z4x v5) 4).1))*(AA (AA (Z4x v5) 4).2 2).1))]).length (AP BH.c (v6_1++[BH.mk (Af v8) (AO.mk (bif decide (((Ga v5).1:Int)=0) then (Z4t v8 v5).Kind else (bif decide (((Ga v5).1:Int)=1) then (Z4w v8 v5).Kind else 1)) (Z4y v5 v8) (bif decide (((Ga v5).1:Int)=0) then (Z4t v8 v5).R else (bif decide (((Ga v5).1:Int)=1) then (Z4w v8 v5).R else 4))) (AC.mk (W64 (30*v8)) (W64 (10*(AA v5 2).1))) (W64 ((W64 (2*(AA (Z4x v5) 4).1))*(AA (AA (Z4x v5) 4).2 2).1))])) 102)]⟩ ?_
  (try rw [(show W64 (v8+1)=v8+1 from Ae oM au3)])
  refine AE ?_
  refine ⟨(n0,v6_1++[BH.mk (Af v8) (AO.mk (bif decide (((AA (AA v5 2).2 3).1:Int)=0) then (Z4t v8 v5).Kind else (bif decide (((AA (AA v5 2).2 3).1:Int)=1) then (Z4w v8 v5).Kind else 1)) (Z4y v5 v8) (bif decide (((AA (AA v5 2).2 3).1:Int)=0) then (Z4t v8 v5).R else (bif decide (((AA (AA v5 2).2 3).1:Int)=1) then (Z4w v8 v5).R else 4))) (AC.mk (W64 (30*v8)) (W64 (10*(AA v5 2).1))) (W64 ((W64 (2*(AA (Z4x v5) 4).1))*(AA (AA (Z4x v5) 4).2 2).1))],Z4B v5,v8+1),⟨?_,?_,(by rw [<- hF0];simp only [C1,h1,cond_true,cond_false])⟩,Nat.lt_succ_self _,Cv.trans (vr 90 2000 hk0) (Al kr)⟩
  ·dsimp only;omega
  exact ⟨(by dsimp only;repeat (first | with_reducible assumption | exact CV (DV hll _) | with_reducible refine BO ?_ | with_reducible refine Ek ?_ | with_reducible refine Dk ?_ | with_reducible refine DH ?_  | with_reducible refine Cr ?_ ?_)),ax0,ax0,ax0⟩
 have g1:=oF h1
 have k1:=SU g1 (by decide) (by decide) (by decide) (by decide)
 refine An<|Ai<|Ai<|Ao<|AE<|AB<|AB<|Bd (⟨(B8 [(N7 l),(98,tB (bif decide (((W64 (2+(AA (AD.mk l 0) 5).1)):Int)<4) then (bif decide (((W64 (2+(AA (AD.mk l 0) 5).1)):Int)<4) then decide ((0:Int)<(AA v5 3).1) else false) else (bif decide (((W64 (2+(AA (AD.mk l 0) 5).1)):Int)<4) then false else false)))]),[GK,(6,.cells [.s name,.own 2000 7 v6_1.length,vN] 82),(14,.cells (AD.c (Z4D l v5)) 117),(Kl v6_1)]⟩) ?_ ?_
 ·refine Uo (Hr l) (fun h2 => ?_) (fun h2 => ?_)
  ·have g2:=oT h2
   refine De<|GF Cq 4 [] [] [] [4,5,6,7,94,95] [4,6,14,2000] [] ⟨(B8 [(7,Z4d l),(94,Z4f l),(95,Z4g l)]),(Rf name v6_1 v5)⟩ .nil kr .nil<|PZ Cq 2 true ((Hr l)=true) [] [(96,(Z4C v5))] [((Hr l)=true)->((Hr l)=true),CD (Z4C v5).2.1,Br (MC v5)] ⟨(B8 [(7,Z4d l),(94,Z4f l),(95,Z4g l),(96,tI (AA v5 3).1)]),[(4,Z4b),(6,Z4m name v6_1),(14,.cells (AD.c (AA v5 3).2) 117),(2000,Z4n v6_1)]⟩ rfl kr h2 (.cons (cWr (BR v5 3 au7 au9)) .nil) kr (.cons id (.cons rfl (.cons rfl .nil)))<|Ev Cq [] [] [] [4,5,6,7,98] [4,6,14,2000] [(Hr l)=true->((Hr l)=true)] ⟨(B8 [(7,Z4d l),(98,tB (bif decide (((W64 (2+(JF l).1)):Int)<4) then decide ((0:Int)<(AA v5 3).1) else false))]),[(4,Z4b),(6,Z4m name v6_1),(14,.cells (AD.c (AA v5 3).2) 117),(2000,Z4n v6_1)]⟩ .nil kr (.cons id .nil)<|AE<|Al ?_
   first | rfl | (simp only [h2,Z4D,cond_true,cond_false] <;> rfl)
  have g2:=oF h2
  refine De<|GF Cq 4 [] [] [] [4,5,6,7,94,95] [4,6,14,2000] [] ⟨(B8 [(7,Z4d l),(94,Z4f l),(95,Z4g l)]),(Rf name v6_1 v5)⟩ .nil kr .nil<|HM 2 true ((Hr l)=true) ⟨(B8 [(7,Z4d l),(94,Z4f l),(95,Z4g l),(96,.grd ((Hr l)=true) (.one (.b false)))]),(Rf name v6_1 v5)⟩ rfl kr (fun e=>by rw [h2] at e;cases e) kr kr<|Ev Cq [] [] [] [4,5,6,7,98] [4,6,14,2000] [¬ ((Hr l)=true),(Hr l)=true->((Hr l)=true)] ⟨(B8 [(7,Z4d l),(98,tB (bif decide (((W64 (2+(JF l).1)):Int)<4) then false else false))]),(Rf name v6_1 v5)⟩ .nil kr (.cons (fun e=>by rw [h2] at e;cases e) (.cons id .nil))<|AE<|Al ?_
  first | rfl | (simp only [h2,Z4D,cond_true,cond_false] <;> rfl)
 refine Bd (⟨(B8 [(N7 l)]),[GK,(6,.cells [.s name,.own 2000 7 v6_1.length,.own 2001 2 (Z4I l v5).length] 82),(14,.cells (AD.c (Z4H l v5)) 117),(Kl v6_1),(2001,.row 2 (Z4I l v5).length (AP A7.c (Z4I l v5)) 180)]⟩) ?_ ?_
 ·refine Ap (bif decide (((W64 (2+(AA (AD.mk l 0) 5).1)):Int)<4) then (bif decide (((W64 (2+(AA (AD.mk l 0) 5).1)):Int)<4) then decide ((0:Int)<(AA v5 3).1) else false) else (bif decide (((W64 (2+(AA (AD.mk l 0) 5).1)):Int)<4) then false else false)) kr (fun h2 => ?_) (fun h2 => ?_)
  ·refine DR Cq [107] [] [(99,Cs 0),(101,Cs 1),(103,(Z4E l v5))] [4,5,6,7] [4,6,14,107,2000] [CD (Cs 0).2.1,CD (Cs 1).2.1,CD (Z4E l v5).2.1,Br (.cells (AD.c (Z4D l v5)) 117)] ⟨(LI l),[(4,Z4b),(6,.cells [.s name,.own 2000 7 v6_1.length,.own 107 2 1] 82),(14,Z4F l v5),(107,.row 2 1 (BG 2 1 [.i 0,.list true 2 2 (BG 2 2 [.s (Af 0),.i 1,.s (Af 1),.i (AA (Z4D l v5) 2).1])]) 180),(2000,Z4n v6_1)]⟩ (.cons (Ea 0 au10) (.cons (Ea 1 au10) (.cons (cWr (BR (Z4D l v5) 2 au7 au9)) .nil))) kr (.cons rfl (.cons rfl (.cons rfl (.cons rfl .nil))))<|AE ?_
   refine Cv.trans (Es (⟨(LI l),[(4,Z4b),(6,.cells [.s name,.own 2000 7 v6_1.length,.own 107 2 ([A7.mk 0 [Bk.mk (Af 0) 1,Bk.mk (Af 1) (AA (Z4D l v5) 2).1]].length)] 82),(14,Z4F l v5),(107,Z4G l v5),(2000,Z4n v6_1)]⟩) lr (rz (.cons ⟨rfl,.cells _ (rr2 (.cons (.own _ _ au17) .nil))⟩ (rz (.cons ⟨rfl,FU 180 (Fu (c:=A7.c) (xs:=([A7.mk 0 [Bk.mk (Af 0) 1,Bk.mk (Af 1) (AA (Z4D l v5) 2).1]]:List A7)) (y:=[[.i 0,.list true 2 2 (BG 2 2 [.s (Af 0),.i 1,.s (Af 1),.i (AA (Z4D l v5) 2).1])]]) (z:=[[.i 0,lst 2 Bk.c [Bk.mk (Af 0) 1,Bk.mk (Af 1) (AA (Z4D l v5) 2).1]]]) rfl kr kr (.cons (rr (.cons (BW true (Ba (c:=Bk.c) (xs:=([Bk.mk (Af 0) 1,Bk.mk (Af 1) (AA (Z4D l v5) 2).1]:List Bk)) rfl kr)) .nil)) .nil))⟩ lr))))) (Cv.trans (vr 107 2001 hk0) (Cv.trans (ck (⟨(LI l),[(4,Z4b),(6,.cells [.s name,.own 2000 7 v6_1.length,.own 2001 2 ((VH l v5).length)] 82),(14,Z4F l v5),(2000,Z4n v6_1),(2001,Z4G l v5)]⟩)) (Al ?_)))
   first | rfl | (simp only [h2,Z4H,Z4I,cond_true,cond_false] <;> rfl)
  refine AQ<|AE<|Cv.trans (vk [4,5,6,7] [4,6,14,2000]) (Cv.trans (vg 2001 2 (fun _ _=>default) 180 [] [(6,[2])] hk0) (Cv.trans (A5 2001 (B9 2 (fun _ _=>default) A7.c)) (Cv.trans (ck (⟨(LI l),[(4,Z4b),(6,.cells [.s name,.own 2000 7 v6_1.length,.own 2001 2 ([]:List A7).length] 82),(14,.cells (AD.c (Z4D l v5)) 117),(2000,Z4n v6_1),(2001,.row 2 ([]:List A7).length (AP A7.c ([]:List A7)) 180)]⟩)) (Al ?_))))
  first | rfl | (simp only [h2,Z4H,Z4I,cond_true,cond_false] <;> rfl)
 refine AB<|AB<|Bd (⟨(B8 [(N7 l),(115,tB (bif decide ((4:Int)<=(W64 (2+(AA (AD.mk l 0) 5).1))) then (bif decide ((4:Int)<=(W64 (2+(AA (AD.mk l 0) 5).1))) then decide ((0:Int)<(AA (Z4H l v5) 3).1) else false) else (bif decide ((4:Int)<=(W64 (2+(AA (AD.mk l 0) 5).1))) then false else false)))]),[GK,(6,.cells [.s name,.own 2000 7 v6_1.length,.own 2001 2 (Z4I l v5).length] 82),(14,.cells (AD.c (Z4L l v5)) 117),(Kl v6_1),(2001,.row 2 (Z4I l v5).length (AP A7.c (Z4I l v5)) 180)]⟩) ?_ ?_
 ·refine Uo (Hs l) (fun h2 => ?_) (fun h2 => ?_)
  ·have g2:=oT h2
   refine De<|GF Cq 4 [] [] [] [4,5,6,7,111,112] [4,6,14,2000,2001] [] ⟨(B8 [(7,Z4d l),(111,Z4i l),(112,Z4j l)]),[(4,Z4b),(6,Z4Z name v6_1 l v5),(14,.cells (AD.c (Z4H l v5)) 117),(2000,Z4n v6_1),(2001,Z4K l v5)]⟩ .nil kr .nil<|PZ Cq 2 true ((Hs l)=true) [] [(113,(Z4J l v5))] [((Hs l)=true)->((Hs l)=true),CD (Z4J l v5).2.1,Br (.cells (AD.c (Z4H l v5)) 117)] ⟨(B8 [(7,Z4d l),(111,Z4i l),(112,Z4j l),(113,tI (AA (Z4H l v5) 3).1)]),[(4,Z4b),(6,Z4Z name v6_1 l v5),(14,.cells (AD.c (AA (Z4H l v5) 3).2) 117),(2000,Z4n v6_1),(2001,Z4K l v5)]⟩ rfl kr h2 (.cons (cWr (BR (Z4H l v5) 3 au7 au9)) .nil) kr (.cons id (.cons rfl (.cons rfl .nil)))<|Ev Cq [] [] [] [4,5,6,7,115] [4,6,14,2000,2001] [(Hs l)=true->((Hs l)=true)] ⟨(B8 [(7,Z4d l),(115,tB (bif decide ((4:Int)<=(W64 (2+(JF l).1))) then decide ((0:Int)<(AA (Z4H l v5) 3).1) else false))]),[(4,Z4b),(6,Z4Z name v6_1 l v5),(14,.cells (AD.c (AA (Z4H l v5) 3).2) 117),(2000,Z4n v6_1),(2001,Z4K l v5)]⟩ .nil kr (.cons id .nil)<|AE<|Al ?_
   first | rfl | (simp only [h2,Z4L,cond_true,cond_false] <;> rfl)
  have g2:=oF h2
  refine De<|GF Cq 4 [] [] [] [4,5,6,7,111,112] [4,6,14,2000,2001] [] ⟨(B8 [(7,Z4d l),(111,Z4i l),(112,Z4j l)]),[(4,Z4b),(6,Z4Z name v6_1 l v5),(14,.cells (AD.c (Z4H l v5)) 117),(2000,Z4n v6_1),(2001,Z4K l v5)]⟩ .nil kr .nil<|HM 2 true ((Hs l)=true) ⟨(B8 [(7,Z4d l),(111,Z4i l),(112,Z4j l),(113,.grd ((Hs l)=true) (.one (.b false)))]),[(4,Z4b),(6,Z4Z name v6_1 l v5),(14,.cells (AD.c (Z4H l v5)) 117),(2000,Z4n v6_1),(2001,Z4K l v5)]⟩ rfl kr (fun e=>by rw [h2] at e;cases e) kr kr<|Ev Cq [] [] [] [4,5,6,7,115] [4,6,14,2000,2001] [¬ ((Hs l)=true),(Hs l)=true->((Hs l)=true)] ⟨(B8 [(7,Z4d l),(115,tB (bif decide ((4:Int)<=(W64 (2+(JF l).1))) then false else false))]),[(4,Z4b),(6,Z4Z name v6_1 l v5),(14,.cells (AD.c (Z4H l v5)) 117),(2000,Z4n v6_1),(2001,Z4K l v5)]⟩ .nil kr (.cons (fun e=>by rw [h2] at e;cases e) (.cons id .nil))<|AE<|Al ?_
  first | rfl | (simp only [h2,Z4L,cond_true,cond_false] <;> rfl)
 refine Bd (⟨(B8 [(N7 l)]),[GK,(6,.cells [.s name,.own 2000 7 v6_1.length,.own 2002 2 (Z4Q l v5).length] 82),(14,.cells (AD.c (Z4P l v5)) 117),(Kl v6_1),(2002,.row 2 (Z4Q l v5).length (AP A7.c (Z4Q l v5)) 180)]⟩) ?_ ?_
 ·refine Ap (bif decide ((4:Int)<=(W64 (2+(AA (AD.mk l 0) 5).1))) then (bif decide ((4:Int)<=(W64 (2+(AA (AD.mk l 0) 5).1))) then decide ((0:Int)<(AA (Z4H l v5) 3).1) else false) else (bif decide ((4:Int)<=(W64 (2+(AA (AD.mk l 0) 5).1))) then false else false)) kr (fun h2 => ?_) (fun h2 => ?_)
  ·refine AB<|rb 117 (Z4M l v5) (.cells (AD.c (Z4L l v5)) 117) ⟨(B8 [(7,Z4d l),(11,tI (AA (Z4L l v5) 2).1)]),[(4,Z4b),(6,Z4Z name v6_1 l v5),(14,Z4N l v5),(2000,Z4n v6_1),(2001,Z4K l v5)]⟩ (cWr (BR (Z4L l v5) 2 au7 au9))<|AE<|DR Cq [134] [] [(118,Cs 0),(121,Cs 1),(126,Cs 2),(129,Cs 3)] [4,5,6,7] [4,6,14,134,2000] [CD (Cs 0).2.1,CD (Cs 1).2.1,CD (Cs 2).2.1,CD (Cs 3).2.1] ⟨(LI l),[(4,Z4b),(6,.cells [.s name,.own 2000 7 v6_1.length,.own 134 2 2] 82),(14,Z4N l v5),(134,.row 2 2 (BG 2 2 [.i 1,.list true 2 2 (BG 2 2 [.s (Af 0),.i (AA (Z4L l v5) 2).1,.s (Af 1),.i (AA (Z4L l v5) 2).1]),.i 1,.list true 2 2 (BG 2 2 [.s (Af 2),.i (AA (Z4L l v5) 2).1,.s (Af 3),.i (AA (Z4L l v5) 2).1])]) 180),(2000,Z4n v6_1)]⟩ (.cons (Ea 0 au10) (.cons (Ea 1 au10) (.cons (Ea 2 au10) (.cons (Ea 3 au10) .nil)))) kr (.cons rfl (.cons rfl (.cons rfl (.cons rfl .nil))))<|AE ?_
   refine Cv.trans (Es (⟨(LI l),[(4,Z4b),(6,.cells [.s name,.own 2000 7 v6_1.length,.own 134 2 ([A7.mk 1 [Bk.mk (Af 0) (AA (Z4L l v5) 2).1,Bk.mk (Af 1) (AA (Z4L l v5) 2).1],A7.mk 1 [Bk.mk (Af 2) (AA (Z4L l v5) 2).1,Bk.mk (Af 3) (AA (Z4L l v5) 2).1]].length)] 82),(14,Z4N l v5),(134,Z4O l v5),(2000,Z4n v6_1)]⟩) lr (rz (.cons ⟨rfl,.cells _ (rr2 (.cons (.own _ _ au17) .nil))⟩ (rz (.cons ⟨rfl,FU 180 (Fu (c:=A7.c) (xs:=([A7.mk 1 [Bk.mk (Af 0) (AA (Z4L l v5) 2).1,Bk.mk (Af 1) (AA (Z4L l v5) 2).1],A7.mk 1 [Bk.mk (Af 2) (AA (Z4L l v5) 2).1,Bk.mk (Af 3) (AA (Z4L l v5) 2).1]]:List A7)) (y:=[[.i 1,.list true 2 2 (BG 2 2 [.s (Af 0),.i (AA (Z4L l v5) 2).1,.s (Af 1),.i (AA (Z4L l v5) 2).1])],[.i 1,.list true 2 2 (BG 2 2 [.s (Af 2),.i (AA (Z4L l v5) 2).1,.s (Af 3),.i (AA (Z4L l v5) 2).1])]]) (z:=[[.i 1,lst 2 Bk.c [Bk.mk (Af 0) (AA (Z4L l v5) 2).1,Bk.mk (Af 1) (AA (Z4L l v5) 2).1]],[.i 1,lst 2 Bk.c [Bk.mk (Af 2) (AA (Z4L l v5) 2).1,Bk.mk (Af 3) (AA (Z4L l v5) 2).1]]]) rfl kr kr (.cons (rr (.cons (BW true (Ba (c:=Bk.c) (xs:=([Bk.mk (Af 0) (AA (Z4L l v5) 2).1,Bk.mk (Af 1) (AA (Z4L l v5) 2).1]:List Bk)) rfl kr)) .nil)) (.cons (rr (.cons (BW true (Ba (c:=Bk.c) (xs:=([Bk.mk (Af 2) (AA (Z4L l v5) 2).1,Bk.mk (Af 3) (AA (Z4L l v5) 2).1]:List Bk)) rfl kr)) .nil)) .nil)))⟩ lr))))) (Cv.trans (vr 134 2002 hk0) (Cv.trans (ck (⟨(LI l),[(4,Z4b),(6,Z50 name v6_1 l v5),(14,Z4N l v5),(2000,Z4n v6_1),(2002,Z4O l v5)]⟩)) (Al ?_)))
   first | rfl | (simp only [h2,Z4P,Z4Q,cond_true,cond_false] <;> rfl)
  refine AQ<|AE<|Cv.trans (vk [4,5,6,7] [4,6,14,2000,2001]) (Cv.trans (wr (⟨(LI l),[(4,Z4b),(6,.cells [.s name,.own 2000 7 v6_1.length,.own 2002 2 (Z4I l v5).length] 82),(14,.cells (AD.c (Z4L l v5)) 117),(2000,Z4n v6_1),(2002,Z4K l v5)]⟩) 2001 2002 hk0) (Al ?_))
  first | rfl | (simp only [h2,Z4P,Z4Q,cond_true,cond_false] <;> rfl)
 refine AB<|AB<|Bd (⟨(B8 [(148,tB (bif bif decide (((W64 (2+(AA (AD.mk l 0) 5).1)):Int)=6) then decide ((0:Int)<(((Z4Q l v5).length:Nat):Int)) else false then (bif bif decide (((W64 (2+(AA (AD.mk l 0) 5).1)):Int)=6) then decide ((0:Int)<(((Z4Q l v5).length:Nat):Int)) else false then decide (((AA (Z4P l v5) 2).1:Int)=1) else false) else (bif bif decide (((W64 (2+(AA (AD.mk l 0) 5).1)):Int)=6) then decide ((0:Int)<(((Z4Q l v5).length:Nat):Int)) else false then false else false)))]),[GK,(6,.cells [.s name,.own 2000 7 v6_1.length,.own 2002 2 (Z4Q l v5).length] 82),(14,.cells (AD.c (Z4T l v5)) 117),(Kl v6_1),(2002,.row 2 (Z4Q l v5).length (AP A7.c (Z4Q l v5)) 180)]⟩) ?_ ?_
 ·refine Uo (bif decide (((W64 (2+(AA (AD.mk l 0) 5).1)):Int)=6) then decide ((0:Int)<(((Z4Q l v5).length:Nat):Int)) else false) (fun h2 => ?_) (fun h2 => ?_)
  ·have g2:=Nw h2
   refine De<|GF Cq 10 [] [] [] [4,5,6,144,145] [4,6,14,2000,2002] [((Gk l)=true)->((Gk l)=true),((Gk l)=true)->((Gk l)=true),((Gk l)=true)->((Gk l)=true),(Gk l)=true->((Gk l)=true)] ⟨(B8 [(144,tB (bif decide (((W64 (2+(JF l).1)):Int)=6) then decide ((0:Int)<(((Z4Q l v5).length:Nat):Int)) else false)),(145,.grd ((bif decide (((W64 (2+(JF l).1)):Int)=6) then decide ((0:Int)<(((Z4Q l v5).length:Nat):Int)) else false)=true) MD)]),[(4,Z4b),(6,Z51 name v6_1 l v5),(14,.cells (AD.c (Z4P l v5)) 117),(2000,Z4n v6_1),(2002,Z4S l v5)]⟩ .nil kr (.cons id (.cons id (.cons id (.cons id .nil)))) ?_
   refine PZ Cq 8 true ((bif decide (((W64 (2+(AA (AD.mk l 0) 5).1)):Int)=6) then decide ((0:Int)<(((Z4Q l v5).length:Nat):Int)) else false)=true) [] [(146,(Z4R l v5))] [((bif decide (((W64 (2+(AA (AD.mk l 0) 5).1)):Int)=6) then decide ((0:Int)<(((Z4Q l v5).length:Nat):Int)) else false)=true)->((bif decide (((W64 (2+(AA (AD.mk l 0) 5).1)):Int)=6) then decide ((0:Int)<(((Z4Q l v5).length:Nat):Int)) else false)=true),CD (Z4R l v5).2.1,Br (.cells (AD.c (Z4P l v5)) 117)] ⟨(B8 [(144,tB (bif decide (((W64 (2+(JF l).1)):Int)=6) then decide ((0:Int)<(((Z4Q l v5).length:Nat):Int)) else false)),(145,.grd ((bif decide (((W64 (2+(JF l).1)):Int)=6) then decide ((0:Int)<(((Z4Q l v5).length:Nat):Int)) else false)=true) MD),(146,tI (AA (Z4P l v5) 2).1)]),[(4,Z4b),(6,Z51 name v6_1 l v5),(14,.cells (AD.c (AA (Z4P l v5) 2).2) 117),(2000,Z4n v6_1),(2002,Z4S l v5)]⟩ rfl kr h2 (.cons (cWr (BR (Z4P l v5) 2 au7 au9)) .nil) kr (.cons id (.cons rfl (.cons rfl .nil))) ?_
   refine Ev Cq [] [] [] [4,5,6,148] [4,6,14,2000,2002] [(bif decide (((W64 (2+(AA (AD.mk l 0) 5).1)):Int)=6) then decide ((0:Int)<(((Z4Q l v5).length:Nat):Int)) else false)=true->((bif decide (((W64 (2+(AA (AD.mk l 0) 5).1)):Int)=6) then decide ((0:Int)<(((Z4Q l v5).length:Nat):Int)) else false)=true)] ⟨(B8 [(148,tB (bif bif decide (((W64 (2+(JF l).1)):Int)=6) then decide ((0:Int)<(((Z4Q l v5).length:Nat):Int)) else false then decide (((AA (Z4P l v5) 2).1:Int)=1) else false))]),[(4,Z4b),(6,Z51 name v6_1 l v5),(14,.cells (AD.c (AA (Z4P l v5) 2).2) 117),(2000,Z4n v6_1),(2002,Z4S l v5)]⟩ .nil kr (.cons id .nil)<|AE<|Al ?_
   first | rfl | (simp only [h2,Z4T,cond_true,cond_false] <;> rfl)
  refine De<|GF Cq 10 [] [] [] [4,5,6,144,145] [4,6,14,2000,2002] [((Gk l)=true)->((Gk l)=true),((Gk l)=true)->((Gk l)=true),((Gk l)=true)->((Gk l)=true),(Gk l)=true->((Gk l)=true)] ⟨(B8 [(144,tB (bif decide (((W64 (2+(JF l).1)):Int)=6) then decide ((0:Int)<(((Z4Q l v5).length:Nat):Int)) else false)),(145,.grd ((bif decide (((W64 (2+(JF l).1)):Int)=6) then decide ((0:Int)<(((Z4Q l v5).length:Nat):Int)) else false)=true) MD)]),[(4,Z4b),(6,Z51 name v6_1 l v5),(14,.cells (AD.c (Z4P l v5)) 117),(2000,Z4n v6_1),(2002,Z4S l v5)]⟩ .nil kr (.cons id (.cons id (.cons id (.cons id .nil)))) ?_
  refine HM 8 true ((bif decide (((W64 (2+(AA (AD.mk l 0) 5).1)):Int)=6) then decide ((0:Int)<(((Z4Q l v5).length:Nat):Int)) else false)=true) ⟨(B8 [(144,tB (bif decide (((W64 (2+(JF l).1)):Int)=6) then decide ((0:Int)<(((Z4Q l v5).length:Nat):Int)) else false)),(145,.grd ((bif decide (((W64 (2+(JF l).1)):Int)=6) then decide ((0:Int)<(((Z4Q l v5).length:Nat):Int)) else false)=true) MD),(146,.grd ((bif decide (((W64 (2+(JF l).1)):Int)=6) then decide ((0:Int)<(((Z4Q l v5).length:Nat):Int)) else false)=true) (.one (.b false)))]),[(4,Z4b),(6,Z51 name v6_1 l v5),(14,.cells (AD.c (Z4P l v5)) 117),(2000,Z4n v6_1),(2002,Z4S l v5)]⟩ rfl kr (fun e=>by rw [h2] at e;cases e) kr kr ?_
  refine Ev Cq [] [] [] [4,5,6,148] [4,6,14,2000,2002] [¬ ((bif decide (((W64 (2+(AA (AD.mk l 0) 5).1)):Int)=6) then decide ((0:Int)<(((Z4Q l v5).length:Nat):Int)) else false)=true),(bif decide (((W64 (2+(AA (AD.mk l 0) 5).1)):Int)=6) then decide ((0:Int)<(((Z4Q l v5).length:Nat):Int)) else false)=true->((bif decide (((W64 (2+(AA (AD.mk l 0) 5).1)):Int)=6) then decide ((0:Int)<(((Z4Q l v5).length:Nat):Int)) else false)=true)] ⟨(B8 [(148,tB (bif bif decide (((W64 (2+(JF l).1)):Int)=6) then decide ((0:Int)<(((Z4Q l v5).length:Nat):Int)) else false then false else false))]),[(4,Z4b),(6,Z51 name v6_1 l v5),(14,.cells (AD.c (Z4P l v5)) 117),(2000,Z4n v6_1),(2002,Z4S l v5)]⟩ .nil kr (.cons (fun e=>by rw [h2] at e;cases e) (.cons id .nil))<|AE<|Al ?_
  first | rfl | (simp only [h2,Z4T,cond_true,cond_false] <;> rfl)
 refine Bd (⟨OC,[GK,(6,.cells [.s name,.own 2000 7 v6_1.length,.own 2003 2 (Z4W l v5).length] 82),(Kl v6_1),(2003,.row 2 (Z4W l v5).length (AP A7.c (Z4W l v5)) 180)]⟩) ?_ ?_
 ·refine Ap (bif bif decide (((W64 (2+(AA (AD.mk l 0) 5).1)):Int)=6) then decide ((0:Int)<(((Z4Q l v5).length:Nat):Int)) else false then (bif bif decide (((W64 (2+(AA (AD.mk l 0) 5).1)):Int)=6) then decide ((0:Int)<(((Z4Q l v5).length:Nat):Int)) else false then decide (((AA (Z4P l v5) 2).1:Int)=1) else false) else (bif bif decide (((W64 (2+(AA (AD.mk l 0) 5).1)):Int)=6) then decide ((0:Int)<(((Z4Q l v5).length:Nat):Int)) else false then false else false)) kr (fun h2 => ?_) (fun h2 => ?_)
  ·refine dO [] [(152,(Z4U l v5)),(153,Cs 5),(163,Cs 4)] [none,Br (.cells (AD.c (Z4T l v5)) 117),none,0<=(0:Int)/\(0:Int)<(((Z4Q l v5).length:Nat):Int),0<(Z4Q l v5).length,0<=(0:Int)/\(0:Int)<((((Z4Q l v5).getD 0 default).Legs.length:Nat):Int),none,0<=(0:Int)/\(0:Int)<(((Z4Q l v5).length:Nat):Int),0<(Z4Q l v5).length,0<=(1:Int)/\(1:Int)<((((Z4Q l v5).getD 0 default).Legs.length:Nat):Int),(Z4Q l v5).length=(Z4Q l v5).length,(Z4Q l v5).length+1<=maxLen,((Z4Q l v5).length+1)*32<=140737488355328] ⟨OC,[(4,Z4b),(6,.cells [.s name,.own 2000 7 v6_1.length,.own 176 2 ((Z4Q l v5).length+1)] 82),(176,.row 2 ((Z4Q l v5).length+1) (fun i_ j_=>if i_<(Z4Q l v5).length then (AP A7.c (Z4Q l v5)) i_ j_ else (BG 2 1 [.i (AA (Z4T l v5) 3).1,.list true 2 2 (BG 2 2 [.s (Af 5),.i (((Z4Q l v5).getD 0 default).Legs.getD 0 default).Group,.s (Af 4),.i (((Z4Q l v5).getD 0 default).Legs.getD 1 default).Group])]) (i_-(Z4Q l v5).length) j_) 180),(2000,Z4n v6_1)]⟩ (.cons (cWr (BR (Z4T l v5) 3 au7 au9)) (.cons (Ea 5 au10) (.cons (Ea 4 au10) .nil))) (.cons rfl (.cons ⟨by decide,(IL (by with_reducible assumption))⟩ (.cons (Xq (IL (by with_reducible assumption))) (.cons (X7 (by decide) rfl rfl rfl (IL (by with_reducible assumption))) (.cons ⟨by decide,(IL (by with_reducible assumption))⟩ (.cons (Xq (IL (by with_reducible assumption))) (.cons (X7 (by decide) rfl rfl rfl (IL (by with_reducible assumption))) (.cons rfl (.cons (gB (Qn rfl)) (.cons (gC (Qn rfl)) .nil))))))))))<|AE ?_
   refine Cv.trans (Es (⟨OC,[(4,Z4b),(6,.cells [.s name,.own 2000 7 v6_1.length,.own 176 2 ((Z4Q l v5)++[A7.mk (AA (Z4T l v5) 3).1 [Bk.mk (Af 5) (((Z4Q l v5).getD 0 default).Legs.getD 0 default).Group,Bk.mk (Af 4) (((Z4Q l v5).getD 0 default).Legs.getD 1 default).Group]]).length] 82),(176,Z4V l v5),(2000,Z4n v6_1)]⟩) lr (rz (.cons ⟨rfl,.cells _ (rr2 (.cons (.own _ _ au17) .nil))⟩ (.cons ⟨rfl,FU 180 (BF (A1 2 A7.c (Z4Q l v5)) (Fu (c:=A7.c) (xs:=([A7.mk (AA (Z4T l v5) 3).1 [Bk.mk (Af 5) (((Z4Q l v5).getD 0 default).Legs.getD 0 default).Group,Bk.mk (Af 4) (((Z4Q l v5).getD 0 default).Legs.getD 1 default).Group]]:List A7)) (y:=[[.i (AA (Z4T l v5) 3).1,.list true 2 2 (BG 2 2 [.s (Af 5),.i (((Z4Q l v5).getD 0 default).Legs.getD 0 default).Group,.s (Af 4),.i (((Z4Q l v5).getD 0 default).Legs.getD 1 default).Group])]]) (z:=[[.i (AA (Z4T l v5) 3).1,lst 2 Bk.c [Bk.mk (Af 5) (((Z4Q l v5).getD 0 default).Legs.getD 0 default).Group,Bk.mk (Af 4) (((Z4Q l v5).getD 0 default).Legs.getD 1 default).Group]]]) rfl kr kr (.cons (rr (.cons (BW true (Ba (c:=Bk.c) (xs:=([Bk.mk (Af 5) (((Z4Q l v5).getD 0 default).Legs.getD 0 default).Group,Bk.mk (Af 4) (((Z4Q l v5).getD 0 default).Legs.getD 1 default).Group]:List Bk)) rfl kr)) .nil)) .nil)))⟩ lr)))) (Cv.trans (vr 176 2003 hk0) (Cv.trans (ck (⟨OC,[(4,Z4b),(6,Z52 name v6_1 l v5),(2000,Z4n v6_1),(2003,Z4V l v5)]⟩)) (Al ?_)))
   first | rfl | (simp only [h2,Z4W,cond_true,cond_false] <;> rfl)
  refine AQ<|AE<|Cv.trans (vk [4,6] [4,6,2000,2002]) (Cv.trans (wr (⟨OC,[(4,Z4b),(6,.cells [.s name,.own 2000 7 v6_1.length,.own 2003 2 (Z4Q l v5).length] 82),(2000,Z4n v6_1),(2003,Z4S l v5)]⟩) 2002 2003 hk0) (Al ?_))
  first | rfl | (simp only [h2,Z4W,cond_true,cond_false] <;> rfl)
 exact AB<|on<|AW<|zy (Cv.trans (vf 2000 hk0) (vf 2003 hk0)) (by rw [<- hF0];simp only [C1,h1,cond_true,cond_false] <;> kernel_rfl)
theorem T3 (l:(List Int)) (name:ByteArray) (hl:(l.length:Int)<=9223372036854775807):OKc (Nu l name):=cPu<|kZ l name hl
def KH (x0:AC) (x1:AC):AK:=AK.mk 1 x0 x1 (AC.mk 0 0)
def YG:CT:=(94,[.agg (AC.c x0),.agg (AC.c x1)],.val [] (.av (.agg (AK.c (KH x0 x1)))))
theorem kQ (x0:AC) (x1:AC):PuP 94 (YG x0 x1).2.1 (.av (.agg (AK.c (KH x0 x1)))):=by
 refine pwf Tryz.func94 fun W0 M0 => ?_
 exact AB<|on<|AB<|on<|AW<|zl
theorem LS (x0:AC) (x1:AC):OKc (YG x0 x1):=cPu<|kQ x0 x1
def Z53:Blk:=.cells [.i 0,vN,.i 0] 28
def Z54:Blk:=.cells [.i 2,vN,.i 0] 28
def Z55:Blk:=.cells [.i (W64 (r.X1-radius)),.i (W64 (r.Y0+radius)),.i (W64 (r.X1-radius)),.i (W64 (r.Y1-radius)),.i (W64 (r.X0+radius)),.i (W64 (r.Y1-radius)),.i (W64 (r.X0+radius)),.i (W64 (r.Y0+radius))] 199
def Z56:AK:=FD (AC.mk (W64 (r.X1-radius)) (W64 (r.Y0+radius))) radius 3 2
def Z57:AK:=FD (AC.mk (W64 (r.X1-radius)) (W64 (r.Y1-radius))) radius 4 2
def Z59:AK:=KH (Z56 r radius).B (Z57 r radius).A
def Z5b:Blk:=.row 7 ([Z56 r radius,Z59 r radius].length) (AP AK.c [Z56 r radius,Z59 r radius]) 68
def Z5d:AK:=FD (AC.mk (W64 (r.X0+radius)) (W64 (r.Y1-radius))) radius 5 2
def Z5f:AK:=KH (Z57 r radius).B (Z5d r radius).A
def Z5h:Blk:=.row 7 ([Z56 r radius,Z59 r radius]++[Z57 r radius,Z5f r radius]).length (AP AK.c ([Z56 r radius,Z59 r radius]++[Z57 r radius,Z5f r radius])) 68
def Z5j:AK:=FD (AC.mk (W64 (r.X0+radius)) (W64 (r.Y0+radius))) radius 6 2
def Z5l:AK:=KH (Z5d r radius).B (Z5j r radius).A
def Z5m:Blk:=.cells [.i 2,.own 77 7 (([Z56 r radius,Z59 r radius]++[Z57 r radius,Z5f r radius])++[Z5d r radius,Z5l r radius]).length,.i 0] 28
def Z5n:Blk:=.row 7 (([Z56 r radius,Z59 r radius]++[Z57 r radius,Z5f r radius])++[Z5d r radius,Z5l r radius]).length (AP AK.c (([Z56 r radius,Z59 r radius]++[Z57 r radius,Z5f r radius])++[Z5d r radius,Z5l r radius])) 68
def Z5o:Blk:=.cells [.i 2,.own 2002 7 (([Z56 r radius,Z59 r radius]++[Z57 r radius,Z5f r radius])++[Z5d r radius,Z5l r radius]).length,.i 0] 28
def Z5p:AK:=FD (AC.mk (W64 (r.X1-radius)) (W64 (r.Y0+radius))) radius 7 2
def Z5q:AK:=KH (Z5j r radius).B (Z5p r radius).A
def Z5r:Blk:=.cells [.i 2,.own 77 7 ((([Z56 r radius,Z59 r radius]++[Z57 r radius,Z5f r radius])++[Z5d r radius,Z5l r radius])++[Z5j r radius,Z5q r radius]).length,.i 0] 28
def Z5s:Blk:=.row 7 ((([Z56 r radius,Z59 r radius]++[Z57 r radius,Z5f r radius])++[Z5d r radius,Z5l r radius])++[Z5j r radius,Z5q r radius]).length (AP AK.c ((([Z56 r radius,Z59 r radius]++[Z57 r radius,Z5f r radius])++[Z5d r radius,Z5l r radius])++[Z5j r radius,Z5q r radius])) 68
def Z5t:Blk:=.cells [.i 2,.own 2003 7 ((([Z56 r radius,Z59 r radius]++[Z57 r radius,Z5f r radius])++[Z5d r radius,Z5l r radius])++[Z5j r radius,Z5q r radius]).length,.i 0] 28
def G1 (r:Ad) (radius:Int):AO:=AO.mk 2 ((([Z56 r radius,Z59 r radius]++[Z57 r radius,Z5f r radius])++[Z5d r radius,Z5l r radius])++[Z5j r radius,Z5q r radius]) 0
def Q6:CT:=(43,[.agg (Ad.c r),.one (.i radius)],.val [] (.av (.agg (AO.c (G1 r radius)))))
abbrev IW (t_:List (Nat×Tv)):List (Nat×Tv):=(1,tI radius)::(4,tP 4 0)::(5,tP 5 0)::(6,tP 6 0)::t_
theorem ZI (r:Ad) (radius:Int):PuP 43 (Q6 r radius).2.1 (.av (.agg (AO.c (G1 r radius)))):=by
 refine pwf Tryz.func43 fun W0 M0 => ?_
 refine AB<|on<|AB<|on<|AB<|on<|AB<|AB<|rn ⟨(IW radius [(7,tI 0)]),[(4,Z53),(5,Z54),(6,Z55 r radius)]⟩<|AM<|EF 5<|CA<|AB<|AB<|on<|Cg kr<|AQ<|AE<|AB<|AM<|AB<|oo _ [0<=(0:Int)/\(0:Int)<(4:Int),none] (J1 58 (D5 (AC.mk (W64 (r.X1-radius)) (W64 (r.Y0+radius))) radius 3 2)) (H1 (by decide))<|AE<|AB<|oo _ [(4:Int)≠0,0<=(1:Int)/\(1:Int)<(4:Int),none] (J1 67 (D5 (AC.mk (W64 (r.X1-radius)) (W64 (r.Y1-radius))) radius 4 2)) (H2 au15 (by decide))<|AE<|oe [] _ [none,2<=maxLen,2*56<=140737488355328] (J1 75 (LS (Z56 r radius).B (Z57 r radius).A)) (H2 au2 au2)<|A3<|AE<|BE (A5 77 (BC 7 AK.c ([Z56 r radius,Z59 r radius]:List AK)))<|rn ⟨(IW radius [(7,tI 1)]),[(4,Z53),(5,.cells [.i 2,.own 77 7 ([Z56 r radius,Z59 r radius].length),.i 0] 28),(6,Z55 r radius),(77,Z5b r radius)]⟩<|CA<|BE (wr (⟨(IW radius [(7,tI 1)]),[(4,Z53),(5,.cells [.i 2,.own 2000 7 ([Z56 r radius,Z59 r radius].length),.i 0] 28),(6,Z55 r radius),(2000,Z5b r radius)]⟩) 77 2000 hk0)<|AB<|AB<|on<|Cg kr<|AQ<|AE<|AB<|AM<|AB ?_
 refine oo _ [0<=(1:Int)/\(1:Int)<(4:Int),none] (J1 58 (D5 (AC.mk (W64 (r.X1-radius)) (W64 (r.Y1-radius))) radius 4 2)) (H1 (by decide))<|AE<|AB<|oo _ [(4:Int)≠0,0<=(2:Int)/\(2:Int)<(4:Int),none] (J1 67 (D5 (AC.mk (W64 (r.X0+radius)) (W64 (r.Y1-radius))) radius 5 2)) (H2 au15 (by decide))<|AE<|oe [] _ [none,[Z56 r radius,Z59 r radius].length=[Z56 r radius,Z59 r radius].length,([Z56 r radius,Z59 r radius].length)+2<=maxLen,(([Z56 r radius,Z59 r radius].length)+2)*56<=140737488355328] (J1 75 (LS (Z57 r radius).B (Z5d r radius).A)) (H3 rfl au2 au2)<|A3<|AE<|BE (A5 77 (BF (A1 7 AK.c [Z56 r radius,Z59 r radius]) (BC 7 AK.c ([Z57 r radius,Z5f r radius]:List AK))))<|rn ⟨(IW radius [(7,tI 2)]),[(4,Z53),(5,.cells [.i 2,.own 77 7 ([Z56 r radius,Z59 r radius]++[Z57 r radius,Z5f r radius]).length,.i 0] 28),(6,Z55 r radius),(77,Z5h r radius)]⟩<|CA<|BE (wr (⟨(IW radius [(7,tI 2)]),[(4,Z53),(5,.cells [.i 2,.own 2001 7 ([Z56 r radius,Z59 r radius]++[Z57 r radius,Z5f r radius]).length,.i 0] 28),(6,Z55 r radius),(2001,Z5h r radius)]⟩) 77 2001 hk0)<|AB<|AB<|on<|Cg kr<|AQ<|AE<|AB<|AM<|AB ?_
 refine oo _ [0<=(2:Int)/\(2:Int)<(4:Int),none] (J1 58 (D5 (AC.mk (W64 (r.X0+radius)) (W64 (r.Y1-radius))) radius 5 2)) (H1 (by decide))<|AE<|AB<|oo _ [(4:Int)≠0,0<=(3:Int)/\(3:Int)<(4:Int),none] (J1 67 (D5 (AC.mk (W64 (r.X0+radius)) (W64 (r.Y0+radius))) radius 6 2)) (H2 au15 (by decide))<|AE<|oe [] _ [none,([Z56 r radius,Z59 r radius]++[Z57 r radius,Z5f r radius]).length=([Z56 r radius,Z59 r radius]++[Z57 r radius,Z5f r radius]).length,([Z56 r radius,Z59 r radius]++[Z57 r radius,Z5f r radius]).length+2<=maxLen,(([Z56 r radius,Z59 r radius]++[Z57 r radius,Z5f r radius]).length+2)*56<=140737488355328] (J1 75 (LS (Z5d r radius).B (Z5j r radius).A)) (H3 rfl au2 au2)<|A3<|AE<|BE (A5 77 (BF (A1 7 AK.c ([Z56 r radius,Z59 r radius]++[Z57 r radius,Z5f r radius])) (BC 7 AK.c ([Z5d r radius,Z5l r radius]:List AK))))<|rn ⟨(IW radius [(7,tI 3)]),[(4,Z53),(5,Z5m r radius),(6,Z55 r radius),(77,Z5n r radius)]⟩<|CA<|BE (wr (⟨(IW radius [(7,tI 3)]),[(4,Z53),(5,Z5o r radius),(6,Z55 r radius),(2002,Z5n r radius)]⟩) 77 2002 hk0)<|AB<|AB<|on<|Cg kr<|AQ<|AE<|AB<|AM<|AB ?_
 refine oo _ [0<=(3:Int)/\(3:Int)<(4:Int),none] (J1 58 (D5 (AC.mk (W64 (r.X0+radius)) (W64 (r.Y0+radius))) radius 6 2)) (H1 (by decide))<|AE<|AB<|oo _ [(4:Int)≠0,0<=(0:Int)/\(0:Int)<(4:Int),none] (J1 67 (D5 (AC.mk (W64 (r.X1-radius)) (W64 (r.Y0+radius))) radius 7 2)) (H2 au15 (by decide))<|AE<|oe [] _ [none,(([Z56 r radius,Z59 r radius]++[Z57 r radius,Z5f r radius])++[Z5d r radius,Z5l r radius]).length=(([Z56 r radius,Z59 r radius]++[Z57 r radius,Z5f r radius])++[Z5d r radius,Z5l r radius]).length,(([Z56 r radius,Z59 r radius]++[Z57 r radius,Z5f r radius])++[Z5d r radius,Z5l r radius]).length+2<=maxLen,((([Z56 r radius,Z59 r radius]++[Z57 r radius,Z5f r radius])++[Z5d r radius,Z5l r radius]).length+2)*56<=140737488355328] (J1 75 (LS (Z5j r radius).B (Z5p r radius).A)) (H3 rfl au2 au2)<|A3<|AE<|BE (A5 77 (BF (A1 7 AK.c (([Z56 r radius,Z59 r radius]++[Z57 r radius,Z5f r radius])++[Z5d r radius,Z5l r radius])) (BC 7 AK.c ([Z5j r radius,Z5q r radius]:List AK))))<|rn ⟨(IW radius [(7,tI 4)]),[(4,Z53),(5,Z5r r radius),(6,Z55 r radius),(77,Z5s r radius)]⟩<|CA ?_
 exact BE (wr (⟨(IW radius [(7,tI 4)]),[(4,Z53),(5,Z5t r radius),(6,Z55 r radius),(2003,Z5s r radius)]⟩) 77 2003 hk0)<|AB<|AB<|on<|DS kr<|An<|Ai<|Ai<|Ao<|AE<|AB<|on<|AW<|zy (vf 2003 hk0)
theorem WE (r:Ad) (radius:Int):OKc (Q6 r radius):=cPu<|ZI r radius
end
section
open Go.RowKit
theorem QY (l:List Int) (name:ByteArray):∀ (n:Nat) (v:List BH) (d:AD) (k:Int),0<=k->k<=W64 (2+(AA (AD.mk l 0) 5).1)->((W64 (2+(AA (AD.mk l 0) 5).1))-k).toNat<n ->
  (C1 l name n v d k).Name=name/\((C1 l name n v d k).Pads.length:Int)=v.length+(W64 (2+(AA (AD.mk l 0) 5).1)-k)
 | 0,v,d,k,_,_,h=>absurd h (Nat.not_lt_zero _)
 | n+1,v,d,k,h0,h1,h2=>by
  unfold C1
  by_cases h:k<W64 (2+(AA (AD.mk l 0) 5).1)
  ·simp only [h,decide_true,cond_true]
   obtain ⟨e1,e2⟩:=QY l name n (v++[_]) _ (k+1) (by omega) (by omega) (by omega)
   refine ⟨e1,e2.trans ?_⟩
   simp only [List.length_append,List.length_cons,List.length_nil]
   omega
  simp only [h,decide_false,cond_false]
  refine ⟨by first | trivial | rfl,?_⟩
  show (v.length:Int)=_
  omega
theorem Fx (l:List Int) (name:ByteArray):(BB l name).Name=name/\2<=((BB l name).Pads.length:Int)/\((BB l name).Pads.length:Int)<=6:=by
 have hn:=DO (AD.mk l 0) 5 (by decide) (by decide)
 have hw:W64 (2+(AA (AD.mk l 0) 5).1)=2+(AA (AD.mk l 0) 5).1:=Ae (by omega) (by omega)
 obtain ⟨e1,e2⟩:=QY l name (((W64 (2+(AA (AD.mk l 0) 5).1))-0).toNat+1) [] (AA (AD.mk l 0) 5).2 0 (by omega) (by omega) (by omega)
 refine ⟨e1,?_⟩
 unfold BB
 rw [e2,hw]
 simp only [List.length_nil]
 omega
theorem Qm {a c:AN}:Bn [a,c] a.Name=(a,true):=by
 unfold Bn Dx
 simp [Z1c]
theorem Ql {a c:AN} (h:¬ a.Name.toList=c.Name.toList):Bn [a,c] c.Name=(c,true):=by
 have hb:(a.Name.toList==c.Name.toList)=false:=by simp [h]
 unfold Bn Dx
 simp [Dx,Z1c,hb]
def Ur (types:List AN) (xs:List AF):Prop:=∀ k:Int,0<=k->k<(xs.length:Int)->1<=((Bn types (xs.getD k.toNat default).Type').1.Pads.length:Int)/\((Bn types (xs.getD k.toNat default).Type').1.Pads.length:Int)<=6
theorem XU {types:List AN}:Ur types ([]:List AF):=fun k h0 h1=>absurd h1 (by simp only [List.length_nil];omega)
theorem XV {types:List AN} {xs:List AF} {p:AF} (h:Ur types xs) (hp:1<=((Bn types p.Type').1.Pads.length:Int)/\((Bn types p.Type').1.Pads.length:Int)<=6):Ur types (xs++[p]):=by
 intro k h0 h1
 simp only [List.length_append,List.length_cons,List.length_nil] at h1
 by_cases hk:k.toNat<xs.length
 ·rw [List.getD_eq_getElem?_getD,List.getElem?_append_left hk,<- List.getD_eq_getElem?_getD]
  exact h k h0 oM
 rw [List.getD_eq_getElem?_getD,List.getElem?_append_right oM,show k.toNat-xs.length=0 by omega]
 exact hp
theorem P8 (a c:List Int) (i:Int) (hi:0<=i/\i<2):1<=((Bn [BB a { data := #[82] },BB c { data := #[81] }] (([BB a { data := #[82] },BB c { data := #[81] }]:List AN).getD i.toNat default).Name).1.Pads.length:Int)/\((Bn [BB a { data := #[82] },BB c { data := #[81] }] (([BB a { data := #[82] },BB c { data := #[81] }]:List AN).getD i.toNat default).Name).1.Pads.length:Int)<=6:=by
 have ha:=Fx a { data := #[82] }
 have hc:=Fx c { data := #[81] }
 have h01:i=0\/i=1:=by omega
 rcases h01 with rfl | rfl
 ·show 1<=((Bn [BB a { data := #[82] },BB c { data := #[81] }] (BB a { data := #[82] }).Name).1.Pads.length:Int)/\((Bn [BB a { data := #[82] },BB c { data := #[81] }] (BB a { data := #[82] }).Name).1.Pads.length:Int)<=6
  rw [Qm]
  exact ⟨by show 1<=((BB a { data := #[82] }).Pads.length:Int);omega,ha.2.2⟩
 show 1<=((Bn [BB a { data := #[82] },BB c { data := #[81] }] (BB c { data := #[81] }).Name).1.Pads.length:Int)/\((Bn [BB a { data := #[82] },BB c { data := #[81] }] (BB c { data := #[81] }).Name).1.Pads.length:Int)<=6
 rw [Ql (by rw [ha.1,hc.1];decide +kernel)]
 exact ⟨by show 1<=((BB c { data := #[81] }).Pads.length:Int);omega,hc.2.2⟩
theorem ZT {d:AD} (h:(AA d 5).1<3) (h0:¬ (AA d 5).1=0) (h1:¬ (AA d 5).1=1):(AA d 5).1=2:=by
 have:=DO d 5 (by decide) (by decide)
 omega
theorem dH {b:AG} {types:List AN} (h:Ur types b.Parts):Nx b types:=fun k h0 h1=>(h k h0 h1).1
def DC (v:List Ab) (m:Int):Prop:=(v.length:Int)<=m
theorem Ex {α:Type} {c:Bool} {a b:List α} {m:Int} (ha:(a.length:Int)<=m) (hb:(b.length:Int)<=m):((bif c then a else b).length:Int)<=m:=by cases c <;> assumption
theorem Ey {α:Type} {a:List α} {x:α} {m:Int} (h:(a.length:Int)+1<=m):((a++[x]).length:Int)<=m:=by simp only [List.length_append,List.length_cons,List.length_nil];omega
theorem pG {d:AD} {a c:AN}:0<=(AA d 2).1/\(AA d 2).1<((([a,c]:List AN).length:Nat):Int):=DO d 2 (by decide) (by decide)
theorem bW {v:Int} {a b c:ByteArray} (h0:0<=v) (h:v<3):0<=v/\v<((([a,b,c]:List ByteArray).length:Nat):Int):=⟨h0,h⟩
theorem qV {b B:AG} (h:Lp b B) (hb:(b.Parts.length:Int)<=1000000):(B.Parts.length:Int)<=1000000:=by rw [h.par];exact hb
theorem lD {b B:AG} (h:Lp b B) (hb:1<=(b.Parts.length:Int)):1<=(B.Parts.length:Int):=by rw [h.par];exact hb
theorem qS {b B:AG} (h:Lp b B):(B.Tracks.length:Int)<=1000000:=by have:=h.trk;omega
theorem qR {b B:AG} (h:Lp b B):(B.Vias.length:Int)<=1000000:=by have:=h.via;omega
theorem qU {b B:AG} (h:Lp b B):(B.Pours.length:Int)<=1000000:=by have:=h.pou;omega
theorem qW {b B:AG} (h:Lp b B):(B.Keeps.length:Int)<=1000000:=by have:=h.kee;omega
theorem qT {b B:AG} (h:Lp b B):(B.Slots.length:Int)<=1000000:=by have:=h.slo;omega
variable (v6_4:List AF) (v5'':AD) (v31_1':List Ab) (v10:Int) (l:List (List Int)) (v31_1 v31_3' v31_3:List Ab) (v8:Int) (v31_5':List Ab) (v13:Int) (v31_5:List Ab) (v5:AD)
def Z5u:Tv:=.av (oL l)
abbrev VM:List Cl:=[.i 0,.i 0,vN,.i 0,vN,vN,vN,vN,vN,vN,vN,vN,vN,vN,vN]
def Z5v:Blk:=.cells VM 41
def Z5w:AN:=BB (AY l 0) ({ data := #[82] }:ByteArray)
def Z5x:AN:=BB (AY l 1) ({ data := #[81] }:ByteArray)
def Z5y:Tv:=.av (.one (lst 3 AN.c [Z5w l,Z5x l]))
def Z5z:Blk:=.cells [lst 1 eIn (AY l 2),.i 0] 117
abbrev Ki:=Ad.mk 0 0 400 400
def Z5A:Blk:=.cells [.i 2,.i (HP Ki).Kind,lst 7 AK.c (HP Ki).Edges,.i (HP Ki).R,vN,.own 31 2 3,vN,vN,vN,vN,vN,vN,vN,vN,vN] 41
def Z5B:Blk:=.rowx 2 3 (fun _ _=>default) 120 [(0,[.s ({ data := #[78,49] }:ByteArray),vN]),(1,[.s ({ data := #[78,50] }:ByteArray),vN]),(2,[.s ({ data := #[71,78,68] }:ByteArray),vN])]
abbrev Fq:=AA (AD.mk (AY l 2) 0) 3
def Z5C:CT:=(42,(E9:List Av).map (Bo 1000 25),wrI 25 (.cells [lst 1 eIn (AY l 2),.i 0] 117) (tI (Fq l).1) (.cells (AD.c (Fq l).2) 117))
def Z5E:AO:=bif decide (((AA (AD.mk (AY l 2) 0) 3).1:Int)=0) then (G1 (Ad.mk 0 0 400 400) 50) else (HP (Ad.mk 0 0 400 400))
def Z5F:CT:=(42,(E9:List Av).map (Bo 1000 25),wrI 25 (.cells (AD.c (Fq l).2) 117) (tI (AA (Fq l).2 3).1) (.cells (AD.c (AA (Fq l).2 3).2) 117))
abbrev Z5G:AD:=(AA (AA (AD.mk (AY l 2) 0) 3).2 3).2
def Z5H:Tv:=tI (W64 (1+(AA (Fq l).2 3).1))
abbrev IX (t_:List Cl):List Cl:=(.i 2)::(.i (Z5E l).Kind)::(lst 7 AK.c (Z5E l).Edges)::(.i (Z5E l).R)::t_
def Z5I:Blk:=.cells (IX l [vN,.own 31 2 3,vN,vN,vN,vN,vN,vN,vN,vN,vN]) 41
def Z5J:Blk:=.cells [lst 1 eIn (AY l 3),.i 0] 117
def Z5L:Blk:=.cells (IX l [.own 2000 7 ([]:List AF).length,.own 31 2 3,vN,vN,vN,vN,vN,vN,vN,vN,vN]) 41
def Z5M (l:(List (List Int))) (v6_4:List AF):Blk:=.cells (IX l [.own 2000 7 v6_4.length,.own 31 2 3,vN,vN,vN,vN,vN,vN,vN,vN,vN]) 41
def Z5N:Blk:=.row 7 v6_4.length (AP AF.c v6_4) 78
def Z5O:CT:=(42,(Hq:List Av).map (Bo 1000 25),wrI 25 (MC v5) (tI (AA v5 2).1) (MH v5))
abbrev JO:=AA (AA v5 2).2 4
def Z5P:CT:=(42,Hj.map (Bo 1000 25),wrI 25 (MH v5) (tI (JO v5).1) (.cells (AD.c (JO v5).2) 117))
def Z5Q:CT:=(42,(E9:List Av).map (Bo 1000 25),wrI 25 (.cells (AD.c (JO v5).2) 117) (tI (AA (JO v5).2 3).1) (.cells (AD.c (AA (JO v5).2 3).2) 117))
abbrev Z5R:AD:=(AA (AA (AA v5 2).2 4).2 3).2
def Z5S:CT:=(42,Kc.map (Bo 1000 25),wrI 25 (.cells (AD.c (Z5R v5)) 117) (tI (AA (Z5R v5) 5).1) (.cells (AD.c (AA (Z5R v5) 5).2) 117))
def Z5T:CT:=(42,(E9:List Av).map (Bo 1000 25),wrI 25 (.cells (AD.c (AA (Z5R v5) 5).2) 117) (tI (AA (AA (Z5R v5) 5).2 3).1) (.cells (AD.c (AA (AA (Z5R v5) 5).2 3).2) 117))
abbrev Z5U:AD:=(AA (AA (Z5R v5) 5).2 3).2
def Z5V:CT:=(42,(E9:List Av).map (Bo 1000 25),wrI 25 (.cells (AD.c (Z5U v5)) 117) (tI (AA (Z5U v5) 3).1) (.cells (AD.c (AA (Z5U v5) 3).2) 117))
def Z5W:Blk:=.cells (AD.c (AA (Z5U v5) 3).2) 117
abbrev Z9:=AC.mk (W64 ((W64 (80+(W64 (100*v8))))+(W64 (5*(AA (Z5R v5) 5).1)))) (W64 ((W64 (100+(W64 (80*(AA (AA (Z5R v5) 5).2 3).1))))+(W64 (5*(AA (Z5U v5) 3).1))))
abbrev OQ:Bool:=(decide (((AA (JO v5).2 3).1:Int)=0))
def Z5X (l:(List (List Int))) (v6_4:List AF) (v8:Int) (v5:AD):Blk:=.cells (IX l [.own 86 7 (v6_4++[AF.mk (W64 (1+v8)) (([({ data := #[82,49] }:ByteArray),({ data := #[82,50] }:ByteArray),({ data := #[120,47,82,49] }:ByteArray)]:List ByteArray).getD v8.toNat ⟨#[]⟩) ([Z5w l,Z5x l].getD (AA v5 2).1.toNat default).Name (Z9 v8 v5) (JO v5).1 (OQ v5)]).length,.own 31 2 3,vN,vN,vN,vN,vN,vN,vN,vN,vN]) 41
def Z5Y (v6_4:List AF) (v8:Int) (l:(List (List Int))) (v5:AD):Blk:=.row 7 (v6_4++[AF.mk (W64 (1+v8)) (([({ data := #[82,49] }:ByteArray),({ data := #[82,50] }:ByteArray),({ data := #[120,47,82,49] }:ByteArray)]:List ByteArray).getD v8.toNat ⟨#[]⟩) ([Z5w l,Z5x l].getD (AA v5 2).1.toNat default).Name (Z9 v8 v5) (JO v5).1 (OQ v5)]).length (AP AF.c (v6_4++[AF.mk (W64 (1+v8)) (([({ data := #[82,49] }:ByteArray),({ data := #[82,50] }:ByteArray),({ data := #[120,47,82,49] }:ByteArray)]:List ByteArray).getD v8.toNat ⟨#[]⟩) ([Z5w l,Z5x l].getD (AA v5 2).1.toNat default).Name (Z9 v8 v5) (JO v5).1 (OQ v5)])) 78
def Z5Z:Blk:=.row 2 ([]:List Ab).length (AP Ab.c ([]:List Ab)) 106
def Z60:Blk:=.row 2 v31_1.length (AP Ab.c v31_1) 106
def Z61:Blk:=.row 2 v31_3.length (AP Ab.c v31_3) 106
def Z62:Blk:=.row 2 v31_5.length (AP Ab.c v31_5) 106
def Z63 (l:(List (List Int))) (v6_4:List AF):Blk:=.cells (IX l [lst 7 AF.c v6_4,.own 31 2 3,vN,vN,vN,vN,vN,vN,vN,vN,vN]) 41
def Z65 (l:(List (List Int))) (v6_4:List AF) (v10:Int):AN:=(Bn [Z5w l,Z5x l] (v6_4.getD v10.toNat default).Type').1
def Z67:Blk:=.row 2 v31_1'.length (AP Ab.c v31_1') 106
def Z68:Blk:=.row 2 v31_3'.length (AP Ab.c v31_3') 106
def Z69:Blk:=.row 2 v31_5'.length (AP Ab.c v31_5') 106
def Z6a:CT:=(42,Kc.map (Bo 1000 91),wrI 91 (.cells (AD.c v5'') 117) (tI (AA v5'' 5).1) (.cells (AD.c (AA v5'' 5).2) 117))
abbrev JB:=[Ab.mk (v6_4.getD v10.toNat default).Ref ((Z65 l v6_4 v10).Pads.getD v13.toNat default).Name]
def Z6c (v31_3':List Ab) (v6_4:List AF) (v10:Int) (l:(List (List Int))) (v13:Int):Blk:=.row 2 (v31_3'++(JB v6_4 v10 l v13)).length (AP Ab.c (v31_3'++(JB v6_4 v10 l v13))) 106
def Z6d (v31_5':List Ab) (v6_4:List AF) (v10:Int) (l:(List (List Int))) (v13:Int):Blk:=.row 2 (v31_5'++(JB v6_4 v10 l v13)).length (AP Ab.c (v31_5'++(JB v6_4 v10 l v13))) 106
def Z6e (v5'':AD) (v31_1':List Ab) (v6_4:List AF) (v10:Int) (l:(List (List Int))) (v13:Int):(List Ab):=bif decide (((AA v5'' 5).1:Int)<3) then (bif decide (((AA v5'' 5).1:Int)=0) then (v31_1'++[Ab.mk (v6_4.getD v10.toNat default).Ref ((Z65 l v6_4 v10).Pads.getD v13.toNat default).Name]) else v31_1') else v31_1'
def Z6f (v5'':AD) (v31_3':List Ab) (v6_4:List AF) (v10:Int) (l:(List (List Int))) (v13:Int):(List Ab):=bif decide (((AA v5'' 5).1:Int)<3) then (bif decide (((AA v5'' 5).1:Int)=0) then v31_3' else (bif decide (((AA v5'' 5).1:Int)=1) then (v31_3'++[Ab.mk (v6_4.getD v10.toNat default).Ref ((Z65 l v6_4 v10).Pads.getD v13.toNat default).Name]) else v31_3')) else v31_3'
def Z6g (v5'':AD) (v31_5':List Ab) (v6_4:List AF) (v10:Int) (l:(List (List Int))) (v13:Int):(List Ab):=bif decide (((AA v5'' 5).1:Int)<3) then (bif decide (((AA v5'' 5).1:Int)=0) then v31_5' else (bif decide (((AA v5'' 5).1:Int)=1) then v31_5' else (v31_5'++[Ab.mk (v6_4.getD v10.toNat default).Ref ((Z65 l v6_4 v10).Pads.getD v13.toNat default).Name]))) else v31_5'
def Z6h (v5'':AD) (v31_1':List Ab) (v6_4:List AF) (v10:Int) (l:(List (List Int))) (v13:Int):Blk:=.row 2 (Z6e v5'' v31_1' v6_4 v10 l v13).length (AP Ab.c (Z6e v5'' v31_1' v6_4 v10 l v13)) 106
def Z6i (v5'':AD) (v31_3':List Ab) (v6_4:List AF) (v10:Int) (l:(List (List Int))) (v13:Int):Blk:=.row 2 (Z6f v5'' v31_3' v6_4 v10 l v13).length (AP Ab.c (Z6f v5'' v31_3' v6_4 v10 l v13)) 106
def Z6j (v5'':AD) (v31_5':List Ab) (v6_4:List AF) (v10:Int) (l:(List (List Int))) (v13:Int):Blk:=.row 2 (Z6g v5'' v31_5' v6_4 v10 l v13).length (AP Ab.c (Z6g v5'' v31_5' v6_4 v10 l v13)) 106
def Z6k (l:(List (List Int))) (v6_4:List AF) (v31_1:List Ab) (v31_3:List Ab) (v31_5:List Ab):AG:=Bl (AG.mk 2 (Z5E l) v6_4 [Bz.mk ({ data := #[78,49] }:ByteArray) v31_1,Bz.mk ({ data := #[78,50] }:ByteArray) v31_3,Bz.mk ({ data := #[71,78,68] }:ByteArray) v31_5] [] [] [] [] [] [] [] [] []) [Z5w l,Z5x l] l
abbrev XE (l:List (List Int)) (v6_4:List AF) (v31_1:List Ab) (v31_3:List Ab) (v31_5:List Ab):List Cl:=[.i (Z6k l v6_4 v31_1 v31_3 v31_5).Layers,.i (Z6k l v6_4 v31_1 v31_3 v31_5).Outline.Kind,lst 7 AK.c (Z6k l v6_4 v31_1 v31_3 v31_5).Outline.Edges,.i (Z6k l v6_4 v31_1 v31_3 v31_5).Outline.R,lst 7 AF.c (Z6k l v6_4 v31_1 v31_3 v31_5).Parts,lst 2 Bz.c (Z6k l v6_4 v31_1 v31_3 v31_5).Nets,lst 6 AV.c (Z6k l v6_4 v31_1 v31_3 v31_5).Tracks,lst 8 Aw.c (Z6k l v6_4 v31_1 v31_3 v31_5).Vias,lst 8 BZ.c (Z6k l v6_4 v31_1 v31_3 v31_5).Pours,lst 5 C4.c (Z6k l v6_4 v31_1 v31_3 v31_5).Keeps,lst 4 Aj.c (Z6k l v6_4 v31_1 v31_3 v31_5).Slots,vN,vN,vN,vN]
def Z6l (l:(List (List Int))) (v6_4:List AF) (v31_1:List Ab) (v31_3:List Ab) (v31_5:List Ab):CT:=(44,([.one (.ptr 1000 0),.one (lst 3 AN.c [Z5w l,Z5x l]),.one (lst 1 (fun x=>[lst 1 eIn x]) l)]:List Av).map (Bo 1000 6),wrI 6 (.cells (IX l [lst 7 AF.c v6_4,lst 2 Bz.c [Bz.mk ({ data := #[78,49] }:ByteArray) v31_1,Bz.mk ({ data := #[78,50] }:ByteArray) v31_3,Bz.mk ({ data := #[71,78,68] }:ByteArray) v31_5],vN,vN,vN,vN,vN,vN,vN,vN,vN]) 41) (.tup []) (.cells (XE l v6_4 v31_1 v31_3 v31_5) 41))
def Z6m (l:(List (List Int))) (v6_4:List AF) (v31_1:List Ab) (v31_3:List Ab) (v31_5:List Ab):AG×AD:=C5 (AG.mk (Z6k l v6_4 v31_1 v31_3 v31_5).Layers (Z6k l v6_4 v31_1 v31_3 v31_5).Outline (Z6k l v6_4 v31_1 v31_3 v31_5).Parts (Z6k l v6_4 v31_1 v31_3 v31_5).Nets (Z6k l v6_4 v31_1 v31_3 v31_5).Tracks (Z6k l v6_4 v31_1 v31_3 v31_5).Vias (Z6k l v6_4 v31_1 v31_3 v31_5).Pours (Z6k l v6_4 v31_1 v31_3 v31_5).Keeps (Z6k l v6_4 v31_1 v31_3 v31_5).Slots [] [] [] []) (AD.mk (AY l 7) 0)
def Z6n (l:(List (List Int))) (v6_4:List AF) (v31_1:List Ab) (v31_3:List Ab) (v31_5:List Ab):CT:=(45,(OM:List Av).map (Fo 1000 6 1001 151),pE 6 151 (.cells (XE l v6_4 v31_1 v31_3 v31_5) 41) (.cells [lst 1 eIn (AY l 7),.i 0] 117) (.tup []) (.cells (AG.c (Z6m l v6_4 v31_1 v31_3 v31_5).1) 41) (.cells (AD.c (Z6m l v6_4 v31_1 v31_3 v31_5).2) 117))
def Z6o:Blk:=.rowx 2 3 (fun _ _=>default) 120 [(0,[.s ({ data := #[78,49] }:ByteArray),.own 2001 2 ([]:List Ab).length]),(1,[.s ({ data := #[78,50] }:ByteArray),.own 2002 2 ([]:List Ab).length]),(2,[.s ({ data := #[71,78,68] }:ByteArray),.own 2003 2 ([]:List Ab).length])]
def Z6p:Blk:=.rowx 2 3 (fun _ _=>default) 120 [(0,[.s ({ data := #[78,49] }:ByteArray),.own 2001 2 v31_1.length]),(1,[.s ({ data := #[78,50] }:ByteArray),.own 2002 2 v31_3.length]),(2,[.s ({ data := #[71,78,68] }:ByteArray),.own 2003 2 v31_5.length])]
def Z6q:Blk:=.rowx 2 3 (fun _ _=>default) 120 [(0,[.s ({ data := #[78,49] }:ByteArray),.own 2001 2 v31_1'.length]),(1,[.s ({ data := #[78,50] }:ByteArray),.own 2002 2 v31_3'.length]),(2,[.s ({ data := #[71,78,68] }:ByteArray),.own 2003 2 v31_5'.length])]
def Z6r (v31_1':List Ab) (v6_4:List AF) (v10:Int) (l:(List (List Int))) (v13:Int) (v31_3':List Ab) (v31_5':List Ab):Blk:=.rowx 2 3 (fun _ _=>default) 120 [(0,[.s ({ data := #[78,49] }:ByteArray),.own 2004 2 (v31_1'++(JB v6_4 v10 l v13)).length]),(1,[.s ({ data := #[78,50] }:ByteArray),.own 2005 2 v31_3'.length]),(2,[.s ({ data := #[71,78,68] }:ByteArray),.own 2006 2 v31_5'.length])]
def Z6s (v31_1':List Ab) (v31_3':List Ab) (v6_4:List AF) (v10:Int) (l:(List (List Int))) (v13:Int) (v31_5':List Ab):Blk:=.rowx 2 3 (fun _ _=>default) 120 [(0,[.s ({ data := #[78,49] }:ByteArray),.own 2004 2 v31_1'.length]),(1,[.s ({ data := #[78,50] }:ByteArray),.own 2005 2 (v31_3'++(JB v6_4 v10 l v13)).length]),(2,[.s ({ data := #[71,78,68] }:ByteArray),.own 2006 2 v31_5'.length])]
def Z6t (v31_1':List Ab) (v31_3':List Ab) (v31_5':List Ab) (v6_4:List AF) (v10:Int) (l:(List (List Int))) (v13:Int):Blk:=.rowx 2 3 (fun _ _=>default) 120 [(0,[.s ({ data := #[78,49] }:ByteArray),.own 2004 2 v31_1'.length]),(1,[.s ({ data := #[78,50] }:ByteArray),.own 2005 2 v31_3'.length]),(2,[.s ({ data := #[71,78,68] }:ByteArray),.own 2006 2 (v31_5'++(JB v6_4 v10 l v13)).length])]
def D9 (l:(List (List Int))) (v6_4:List AF) (v5:AD) (v8:Int) (v31_1:List Ab) (v31_3:List Ab) (v31_5:List Ab) (v5':AD) (v10:Int) (K0:List AF->AD->Int->(AG×(List AN))) (K1:List Ab->List Ab->List Ab->AD->Int->(AG×(List AN))):Nat->List Ab->List Ab->List Ab->AD->Int->(AG×(List AN))
 | 0,_,_,_,_,_=>default
 | n2+1,v31_1',v31_3',v31_5',v5'',v13=>bif decide ((v13:Int)<((Z65 l v6_4 v10).Pads.length:Int)) then ((D9 l v6_4 v5 v8 v31_1 v31_3 v31_5 v5' v10 K0 K1 n2) (Z6e v5'' v31_1' v6_4 v10 l v13) (Z6f v5'' v31_3' v6_4 v10 l v13) (Z6g v5'' v31_5' v6_4 v10 l v13) (AA v5'' 5).2 (v13+1)) else (K1 v31_1' v31_3' v31_5' v5'' (v10+1))
def Dj (l:(List (List Int))) (v6_4:List AF) (v5:AD) (v8:Int) (K0:List AF->AD->Int->(AG×(List AN))):Nat->List Ab->List Ab->List Ab->AD->Int->(AG×(List AN))
 | 0,_,_,_,_,_=>default
 | n1+1,v31_1,v31_3,v31_5,v5',v10=>bif decide ((v10:Int)<(W64 (1+(AA (AA (AD.mk (AY l 2) 0) 3).2 3).1))) then (D9 l v6_4 v5 v8 v31_1 v31_3 v31_5 v5' v10 K0 (Dj l v6_4 v5 v8 K0 n1) ((((Z65 l v6_4 v10).Pads.length:Int)-0).toNat+1) v31_1 v31_3 v31_5 v5' 0) else ((Z6m l v6_4 v31_1 v31_3 v31_5).1,[Z5w l,Z5x l])
def Ci (l:(List (List Int))):Nat->List AF->AD->Int->(AG×(List AN))
 | 0,_,_,_=>default
 | n0+1,v6_4,v5,v8=>bif decide ((v8:Int)<(W64 (1+(AA (AA (AD.mk (AY l 2) 0) 3).2 3).1))) then ((Ci l n0) (v6_4++[AF.mk (W64 (1+v8)) (([({ data := #[82,49] }:ByteArray),({ data := #[82,50] }:ByteArray),({ data := #[120,47,82,49] }:ByteArray)]:List ByteArray).getD v8.toNat ⟨#[]⟩) ([Z5w l,Z5x l].getD (AA v5 2).1.toNat default).Name (AC.mk (W64 ((W64 (80+(W64 (100*v8))))+(W64 (5*(AA (Z5R v5) 5).1)))) (W64 ((W64 (100+(W64 (80*(AA (AA (Z5R v5) 5).2 3).1))))+(W64 (5*(AA (Z5U v5) 3).1))))) (AA (AA v5 2).2 4).1 (decide (((AA (AA (AA v5 2).2 4).2 3).1:Int)=0))]) (AA (Z5U v5) 3).2 (v8+1)) else (Dj l v6_4 v5 v8 (Ci l n0) (((W64 (1+(AA (AA (AD.mk (AY l 2) 0) 3).2 3).1))-0).toNat+1) ([]:List Ab) ([]:List Ab) ([]:List Ab) (AD.mk (AY l 3) 0) 0)
def Ar (l:(List (List Int))):(AG×(List AN)):=Ci l (((W64 (1+(AA (AA (AD.mk (AY l 2) 0) 3).2 3).1))-0).toNat+1) ([]:List AF) (Z5G l) 0
def YN:CT:=(10,[.one (lst 1 (fun x=>[lst 1 eIn x]) l)],.val [] (.tup [.agg (AG.c (Ar l).1),.one (lst 3 AN.c (Ar l).2)]))
abbrev GY (t_:List (Nat×Tv)):List (Nat×Tv):=(0,Z5u l)::(2,tP 2 0)::(4,Z5y l)::(5,tP 91 0)::(6,tP 6 0)::(7,Z5H l)::t_
abbrev KT (l:List (List Int)) (v10:Int) (v13:Int):List (Nat×Tv):=(GY l [(10,tI v10),(11,tP 11 0),(13,tI v13)])
abbrev Hp:Nat×Blk:=(91,.cells (AD.c (AA v5'' 5).2) 117)
abbrev Rs (l:List (List Int)) (v10:Int):List (Nat×Tv):=(GY l [(10,tI v10),(94,tB (decide ((v10:Int)<(W64 (1+(AA (Fq l).2 3).1)))))])
abbrev Hi (t_:List (Nat×Tv)):List (Nat×Tv):=(0,Z5u l)::(2,tP 2 0)::(4,Z5y l)::(5,tP 25 0)::(6,tP 6 0)::t_
abbrev sQ:List (Nat×Tv):=(Hi l [])
abbrev VK:=BG 2 1 [.s (v6_4.getD v10.toNat default).Ref,.s ((Z65 l v6_4 v10).Pads.getD v13.toNat default).Name]
abbrev FL (l:List (List Int)) (v6_4:List AF) (v10:Int) (t_:List (Nat×Blk)):List (Nat×Blk):=(2,Z5v)::(6,Z5M l v6_4)::(11,.cells (AN.c (Z65 l v6_4 v10)) 82)::t_
theorem au12 {p:Prop} (h:p:=by first | (with_reducible exact DV hll _) | with_reducible assumption | omega | decide | (simp only [List.length_cons,List.length_nil,List.length_append];omega) | (exact dH (by assumption)) | ((refine And.intro ?_ ?_ <;> simp;done)) | ((simp only;exact qV (HZ _ _ _) (by show (v6_4.length:Int)≤_;omega))) | ((simp only;exact lD (HZ _ _ _) (by show 1≤(v6_4.length:Int);omega))) | ((simp only;exact qS (HZ _ _ _))) | ((simp only;exact qR (HZ _ _ _))) | ((simp only;exact qU (HZ _ _ _))) | ((simp only;exact qW (HZ _ _ _))) | ((simp only;exact qT (HZ _ _ _))) | assumption):p:=h
theorem au13 {p:Prop} (h:p:=by first | exact J7 _ _ _ (by decide) (by decide) (by decide) | exact pG | exact bW (by omega) (by omega) | decide | omega):p:=h
theorem au18 {p:Prop} (h:p:=by first | (unfold DC at *;unfold maxLen;omega) | (unfold DC at *;omega) | (unfold maxLen;omega) | omega | (simp only [lR,lQ,lP,WI];omega)):p:=h
set_option maxHeartbeats 4000000 in
theorem kY (l:(List (List Int))) (hl:(l.length:Int)<=9223372036854775807) (hll:∀ x∈l,(x.length:Int)<=9223372036854775807):PuP 10 (YN l).2.1 (.tup [.agg (AG.c (Ar l).1),.one (lst 3 AN.c (Ar l).2)]):=by
 refine pwf Tryz.func10 fun W0 M0 => ?_
 have hmany:1<=W64 (1+(AA (AA (AD.mk (AY l 2) 0) 3).2 3).1):=by have:=DO (AA (AD.mk (AY l 2) 0) 3).2 3 (by decide) (by decide);rw [Ae oM oM];omega
 refine AB<|rn ⟨[(0,Z5u l),(2,tP 2 0)],[(2,Z5v)]⟩<|AB<|ro [(16,Lj l 0),(17,Nu (AY l 0) ({ data := #[82] }:ByteArray)),(19,Lj l 1),(20,Nu (AY l 1) ({ data := #[81] }:ByteArray))] [none,none,none,none] ⟨[(0,Z5u l),(2,tP 2 0),(4,.av (.one (.list true 3 2 (BG 3 2 [.s (Z5w l).Name,lst 7 BH.c (Z5w l).Pads,lst 2 A7.c (Z5w l).Gates,.s (Z5x l).Name,lst 7 BH.c (Z5x l).Pads,lst 2 A7.c (Z5x l).Gates]))))],[(2,Z5v)]⟩ (.cons (GM l 0 au12) (.cons (T3 (AY l 0) ({ data := #[82] }:ByteArray) au12) (.cons (GM l 1 au12) (.cons (T3 (AY l 1) ({ data := #[81] }:ByteArray) au12) .nil)))) .nil<|AE<|BE (Es (⟨[(0,Z5u l),(2,tP 2 0),(4,Z5y l)],[(2,Z5v)]⟩) (rz (rz (.cons ⟨rfl,.av (.one (BW true (Ba (c:=AN.c) (xs:=([Z5w l,Z5x l]:List AN)) rfl kr)))⟩ .nil))) lr)<|AB<|rs 23 _ ⟨[(0,Z5u l),(2,tP 2 0),(4,Z5y l),(5,tP 25 0)],[(2,Z5v),(25,Z5z l)]⟩ (GM l 2 au12)<|AE<|AB ?_
 refine DR Cq [31] [] [(27,PY Ki)] [0,2,4,5,6] [2,6,25,31] [CD (PY (Ad.mk 0 0 400 400)).2.1] ⟨(sQ l),[(2,Z5v),(6,Z5A),(25,Z5z l),(31,.row 2 3 (BG 2 3 [.s ({ data := #[78,49] }:ByteArray),vN,.s ({ data := #[78,50] }:ByteArray),vN,.s ({ data := #[71,78,68] }:ByteArray),vN]) 120)]⟩ (.cons (SD (Ad.mk 0 0 400 400)) .nil) kr (.cons rfl .nil)<|AE<|BE (gT (⟨(sQ l),[(2,Z5v),(6,Z5A),(25,Z5z l),(31,Z5B)]⟩) 31 2 3 (BG 2 3 [.s ({ data := #[78,49] }:ByteArray),vN,.s ({ data := #[78,50] }:ByteArray),vN,.s ({ data := #[71,78,68] }:ByteArray),vN]) 120 kr kr kr)<|AB<|AB<|rb 34 (Z5C l) (.cells [lst 1 eIn (AY l 2),.i 0] 117) ⟨(Hi l [(35,tB (decide (((Fq l).1:Int)=0)))]),[(2,Z5v),(6,Z5A),(25,.cells (AD.c (Fq l).2) 117),(31,Z5B)]⟩ (cWr (BR (AD.mk (AY l 2) 0) 3 au7 au9))<|AE ?_
 refine Bd (⟨[(0,.av (oL l)),(2,tP 2 0),(4,tO (lst 3 AN.c [Z5w l,Z5x l])),(5,tP 25 0),(6,tP 6 0)],[(2,.cells VM 41),(6,.cells [.i 2,.i (Z5E l).Kind,lst 7 AK.c (Z5E l).Edges,.i (Z5E l).R,vN,.own 31 2 3,vN,vN,vN,vN,vN,vN,vN,vN,vN] 41),(25,.cells (AD.c (Fq l).2) 117),(31,.rowx 2 3 (fun _ _=>default) 120 [(0,[.s ({ data := #[78,49] }:ByteArray),vN]),(1,[.s ({ data := #[78,50] }:ByteArray),vN]),(2,[.s ({ data := #[71,78,68] }:ByteArray),vN])])]⟩) ?_ ?_
 ·refine Ap _ rfl (fun h1 => ?_) (fun h1 => ?_)
  ·refine rs 37 _ ⟨(sQ l),[(2,Z5v),(6,.cells [.i 2,.i (G1 Ki 50).Kind,lst 7 AK.c (G1 Ki 50).Edges,.i (G1 Ki 50).R,vN,.own 31 2 3,vN,vN,vN,vN,vN,vN,vN,vN,vN] 41),(25,.cells (AD.c (Fq l).2) 117),(31,Z5B)]⟩ (WE (Ad.mk 0 0 400 400) 50)<|AE<|Al ?_
   first | rfl | (simp only [h1,Z5E,cond_true,cond_false] <;> rfl)
  refine AQ<|AE<|Cv.trans (ck (⟨(sQ l),[(2,Z5v),(6,Z5A),(25,.cells (AD.c (Fq l).2) 117),(31,Z5B)]⟩)) (Al ?_)
  first | rfl | (simp only [h1,Z5E,cond_true,cond_false] <;> rfl)
 refine AB<|rb 40 (Z5F l) (.cells (AD.c (AA (AD.mk (AY l 2) 0) 3).2) 117) ⟨(Hi l [(7,Z5H l)]),[(2,Z5v),(6,Z5I l),(25,.cells (AD.c (Z5G l)) 117),(31,Z5B)]⟩ (cWr (BR (AA (AD.mk (AY l 2) 0) 3).2 3 au7 au9))<|AE<|AB<|AB<|rn ⟨(Hi l [(7,Z5H l),(8,tI 0)]),[(2,Z5v),(6,Z5I l),(25,.cells (AD.c (Z5G l)) 117),(31,Z5B)]⟩<|AM<|BE (Cv.trans (vg 2000 7 (fun _ _=>default) 78 [] [(6,[4])] hk0) (Cv.trans (A5 2000 (B9 7 (fun _ _=>default) AF.c)) (ck (⟨(Hi l [(7,Z5H l),(8,tI 0)]),[(2,Z5v),(6,Z5L l),(25,.cells (AD.c (Z5G l)) 117),(31,Z5B),(2000,.row 7 ([]:List AF).length (AP AF.c ([]:List AF)) 78)]⟩)))) ?_
 refine lpC (κ:=List AF×AD×Int) (fun x=>⟨(Hi l [(7,Z5H l),(8,tI x.2.2.2)]),[(2,Z5v),(6,.cells [.i 2,.i (Z5E l).Kind,lst 7 AK.c (Z5E l).Edges,.i (Z5E l).R,.own 2000 7 x.2.1.length,.own 31 2 3,vN,vN,vN,vN,vN,vN,vN,vN,vN] 41),(25,.cells (AD.c x.2.2.1) 117),(31,Z5B),(2000,.row 7 x.2.1.length (AP AF.c x.2.1) 78)]⟩) (fun x=>((W64 (1+(AA (AA (AD.mk (AY l 2) 0) 3).2 3).1))-x.2.2.2).toNat) (fun x=>((x.2.1.length:Int)=x.2.2.2/\Ur [BB (AY l 0) ({ data := #[82] }:ByteArray),BB (AY l 1) ({ data := #[81] }:ByteArray)] x.2.1/\CJ x.2.2.1/\0<=x.2.2.2/\(x.2.2.2<=(W64 (1+(AA (AA (AD.mk (AY l 2) 0) 3).2 3).1))\/x.2.2.2=0)/\(x.2.1.length:Int)<=0+1*(x.2.2.2-0))/\Ci l x.1 x.2.1 x.2.2.1 x.2.2.2=Ar l) ?_ (((W64 (1+(AA (AA (AD.mk (AY l 2) 0) 3).2 3).1))-0).toNat+1,([]:List AF),Z5G l,0) ⟨Nat.lt_succ_self _,⟨ax0,(by dsimp only;first | exact XU | exact XV (by assumption) (P8 _ _ _ (DO _ 2 (by decide) (by decide))) | assumption),(by dsimp only;repeat (first | with_reducible assumption | exact CV (DV hll _) | with_reducible refine BO ?_ | with_reducible refine Ek ?_ | with_reducible refine Dk ?_ | with_reducible refine DH ?_  | with_reducible refine Cr ?_ ?_)),ax0,ax0,ax0⟩,(by simp only [Ar,cond_true,cond_false])⟩
 rintro n0 ⟨v6_4,v5,v8⟩ hm0 ⟨hinv0,hF0⟩
 try dsimp only at hm0 hinv0 hF0
 have hi0_1:=hinv0.2.1
 have hi0_2:=hinv0.2.2.1
 refine AB<|AB<|rn ⟨(Hi l [(7,Z5H l),(8,tI v8),(44,tB (decide ((v8:Int)<(W64 (1+(AA (AA (AD.mk (AY l 2) 0) 3).2 3).1)))))]),[(2,Z5v),(6,Z5M l v6_4),(25,.cells (AD.c v5) 117),(31,Z5B),(2000,Z5N v6_4)]⟩<|Ap (decide ((v8:Int)<(W64 (1+(AA (AA (AD.mk (AY l 2) 0) 3).2 3).1)))) kr (fun h1 => ?_) (fun h1 => ?_)
 ·have g1:=oT h1
  have k1:=SL g1 (by decide) (by decide) (by decide) (by decide)
  have kk1:=O2 g1 (by decide) (by decide) (by decide) (by decide)
  refine AQ<|AE<|AB<|AM<|AB<|dO [] [(55,(Z5O v5)),(60,(Z5P v5)),(62,(Z5Q v5))] [0<=(v8:Int)/\(v8:Int)<((3:Nat):Int),none,Br (MC v5),0<=((AA v5 2).1:Int)/\((AA v5 2).1:Int)<(([Z5w l,Z5x l].length:Nat):Int),none,Br (MH v5),none,Br (.cells (AD.c (AA (AA v5 2).2 4).2) 117)] ⟨(Hi l [(7,Z5H l),(8,tI v8),(9,tP 9 0)]),[(2,Z5v),(6,Z5M l v6_4),(9,.cells [.i (W64 (1+v8)),.s (([({ data := #[82,49] }:ByteArray),({ data := #[82,50] }:ByteArray),({ data := #[120,47,82,49] }:ByteArray)]:List ByteArray).getD v8.toNat ⟨#[]⟩),.s ([Z5w l,Z5x l].getD (AA v5 2).1.toNat default).Name,.i 0,.i 0,.i (JO v5).1,.b (OQ v5)] 78),(25,.cells (AD.c (Z5R v5)) 117),(31,Z5B),(2000,Z5N v6_4)]⟩ (.cons (cWr (BR v5 2 au7 au9)) (.cons (cWr (BR (AA v5 2).2 4 au7 au9)) (.cons (cWr (BR (AA (AA v5 2).2 4).2 3 au7 au9)) .nil))) (H5 au13 rfl au13 rfl rfl)<|AE<|AB ?_
  refine ro [(69,(Z5S v5)),(73,(Z5T v5)),(77,(Z5V v5))] [none,Br (.cells (AD.c (Z5R v5)) 117),none,Br (.cells (AD.c (AA (Z5R v5) 5).2) 117),none,Br (.cells (AD.c (Z5U v5)) 117)] ⟨(Hi l [(7,Z5H l),(8,tI v8),(9,tP 9 0)]),[(2,Z5v),(6,Z5M l v6_4),(9,.cells [.i (W64 (1+v8)),.s (([({ data := #[82,49] }:ByteArray),({ data := #[82,50] }:ByteArray),({ data := #[120,47,82,49] }:ByteArray)]:List ByteArray).getD v8.toNat ⟨#[]⟩),.s ([Z5w l,Z5x l].getD (AA v5 2).1.toNat default).Name,.i (W64 ((W64 (80+(W64 (100*v8))))+(W64 (5*(AA (Z5R v5) 5).1)))),.i (W64 ((W64 (100+(W64 (80*(AA (AA (Z5R v5) 5).2 3).1))))+(W64 (5*(AA (Z5U v5) 3).1)))),.i (JO v5).1,.b (OQ v5)] 78),(25,Z5W v5),(31,Z5B),(2000,Z5N v6_4)]⟩ (.cons (cWr (BR (Z5R v5) 5 au7 au9)) (.cons (cWr (BR (AA (Z5R v5) 5).2 3 au7 au9)) (.cons (cWr (BR (Z5U v5) 3 au7 au9)) .nil))) (H3 rfl rfl rfl)<|AE ?_
  refine rc [] [v6_4.length=v6_4.length,v6_4.length+1<=maxLen,(v6_4.length+1)*72<=140737488355328] ⟨(Hi l [(7,Z5H l),(8,tI v8)]),[(2,Z5v),(6,.cells [.i 2,.i (Z5E l).Kind,lst 7 AK.c (Z5E l).Edges,.i (Z5E l).R,.own 86 7 (v6_4.length+1),.own 31 2 3,vN,vN,vN,vN,vN,vN,vN,vN,vN] 41),(25,Z5W v5),(31,Z5B),(86,.row 7 (v6_4.length+1) (fun i_ j_=>if i_<v6_4.length then (AP AF.c v6_4) i_ j_ else (BG 7 1 [.i (W64 (1+v8)),.s (([({ data := #[82,49] }:ByteArray),({ data := #[82,50] }:ByteArray),({ data := #[120,47,82,49] }:ByteArray)]:List ByteArray).getD v8.toNat ⟨#[]⟩),.s ([Z5w l,Z5x l].getD (AA v5 2).1.toNat default).Name,.i (W64 ((W64 (80+(W64 (100*v8))))+(W64 (5*(AA (Z5R v5) 5).1)))),.i (W64 ((W64 (100+(W64 (80*(AA (AA (Z5R v5) 5).2 3).1))))+(W64 (5*(AA (Z5U v5) 3).1)))),.i (JO v5).1,.b (OQ v5)]) (i_-v6_4.length) j_) 78)]⟩ .nil (H3 rfl au18 au18)<|A3<|AE ?_
  refine BE (KD (⟨(Hi l [(7,Z5H l),(8,tI v8)]),[(2,Z5v),(6,Z5X l v6_4 v8 v5),(25,Z5W v5),(31,Z5B),(86,Z5Y v6_4 v8 l v5)]⟩) 86 (BF (A1 7 AF.c v6_4) (BC 7 AF.c ([AF.mk (W64 (1+v8)) (([({ data := #[82,49] }:ByteArray),({ data := #[82,50] }:ByteArray),({ data := #[120,47,82,49] }:ByteArray)]:List ByteArray).getD v8.toNat ⟨#[]⟩) ([Z5w l,Z5x l].getD (AA v5 2).1.toNat default).Name (AC.mk (W64 ((W64 (80+(W64 (100*v8))))+(W64 (5*(AA (Z5R v5) 5).1)))) (W64 ((W64 (100+(W64 (80*(AA (AA (Z5R v5) 5).2 3).1))))+(W64 (5*(AA (Z5U v5) 3).1))))) (AA (AA v5 2).2 4).1 (OQ v5)]:List AF))))<|rg ⟨(Hi l [(7,Z5H l),(8,tI (W64 (v8+1)))]),[(2,Z5v),(6,Z5X l v6_4 v8 v5),(25,Z5W v5),(31,Z5B),(86,Z5Y v6_4 v8 l v5)]⟩ ?_
  (try rw [(show W64 (v8+1)=v8+1 from Ae oM au3)])
  refine AE ?_
  refine ⟨(n0,v6_4++[AF.mk (W64 (1+v8)) (([({ data := #[82,49] }:ByteArray),({ data := #[82,50] }:ByteArray),({ data := #[120,47,82,49] }:ByteArray)]:List ByteArray).getD v8.toNat ⟨#[]⟩) ([Z5w l,Z5x l].getD (AA v5 2).1.toNat default).Name (AC.mk (W64 ((W64 (80+(W64 (100*v8))))+(W64 (5*(AA (Z5R v5) 5).1)))) (W64 ((W64 (100+(W64 (80*(AA (AA (Z5R v5) 5).2 3).1))))+(W64 (5*(AA (Z5U v5) 3).1))))) (AA (AA v5 2).2 4).1 (OQ v5)],(AA (Z5U v5) 3).2,v8+1),⟨?_,?_,(by rw [<- hF0];simp only [Ci,h1,cond_true,cond_false])⟩,Nat.lt_succ_self _,Cv.trans (vr 86 2000 hk0) (Al kr)⟩
  ·dsimp only;omega
  exact ⟨ax0,(by dsimp only;first | exact XU | exact XV (by assumption) (P8 _ _ _ (DO _ 2 (by decide) (by decide))) | assumption),(by dsimp only;repeat (first | with_reducible assumption | exact CV (DV hll _) | with_reducible refine BO ?_ | with_reducible refine Ek ?_ | with_reducible refine Dk ?_ | with_reducible refine DH ?_  | with_reducible refine Cr ?_ ?_)),ax0,ax0,ax0⟩
 have g1:=oF h1
 have k1:=SU g1 (by decide) (by decide) (by decide) (by decide)
 refine An<|Ai<|Ai<|Ao<|AE<|AB<|rs 89 _ ⟨(GY l []),[(2,Z5v),(6,Z5M l v6_4),(31,Z5B),(91,Z5J l),(2000,Z5N v6_4)]⟩ (GM l 3 au12)<|AE<|AB<|AB<|rn ⟨((GY l [(10,tI 0)])),[(2,Z5v),(6,Z5M l v6_4),(31,Z5B),(91,Z5J l),(2000,Z5N v6_4)]⟩<|AM ?_
 refine BE (Cv.trans (vg 2001 2 (fun _ _=>default) 106 [] [(31,[1])] hk0) (Cv.trans (vg 2002 2 (fun _ _=>default) 106 [] [(31,[3])] hk0) (Cv.trans (wg (⟨((GY l [(10,tI 0)])),[(2003,.row 2 0 (fun _ _=>default) 106),(2002,.row 2 0 (fun _ _=>default) 106),(2001,.row 2 0 (fun _ _=>default) 106),(2,Z5v),(6,Z5M l v6_4),(31,.rowx 2 3 (fun _ _=>default) 120 [(0,[.s ({ data := #[78,49] }:ByteArray),.own 2001 2 0]),(1,[.s ({ data := #[78,50] }:ByteArray),.own 2002 2 0]),(2,[.s ({ data := #[71,78,68] }:ByteArray),.own 2003 2 0])]),(91,Z5J l),(2000,Z5N v6_4)]⟩) 2003 2 (fun _ _=>default) 106 [] [(31,[5])] hk0) (Cv.trans (Es (⟨((GY l [(10,tI 0)])),[(2003,Z5Z),(2002,Z5Z),(2001,Z5Z),(2,Z5v),(6,Z5M l v6_4),(31,Z6o),(91,Z5J l),(2000,Z5N v6_4)]⟩) lr (.cons ⟨rfl,FU 106 (B9 2 (fun _ _=>default) Ab.c)⟩ (.cons ⟨rfl,FU 106 (B9 2 (fun _ _=>default) Ab.c)⟩ (.cons ⟨rfl,FU 106 (B9 2 (fun _ _=>default) Ab.c)⟩ (rz (rz (.cons ⟨rfl,.rowx _ _ _ _ (.cons ⟨rfl,(rr (.cons (.own _ _ au17) .nil))⟩ (.cons ⟨rfl,(rr (.cons (.own _ _ au17) .nil))⟩ (.cons ⟨rfl,(rr (.cons (.own _ _ au17) .nil))⟩ .nil)))⟩ lr))))))) (ck (⟨((GY l [(10,tI 0)])),[(2,Z5v),(6,Z5M l v6_4),(31,Z6o),(91,Z5J l),(2000,Z5N v6_4),(2001,Z5Z),(2002,Z5Z),(2003,Z5Z)]⟩)))))) ?_
 refine lpC (κ:=List Ab×List Ab×List Ab×AD×Int) (fun x=>⟨(GY l [(10,tI x.2.2.2.2.2)]),[(2,Z5v),(6,Z5M l v6_4),(31,.rowx 2 3 (fun _ _=>default) 120 [(0,[.s ({ data := #[78,49] }:ByteArray),.own 2001 2 x.2.1.length]),(1,[.s ({ data := #[78,50] }:ByteArray),.own 2002 2 x.2.2.1.length]),(2,[.s ({ data := #[71,78,68] }:ByteArray),.own 2003 2 x.2.2.2.1.length])]),(91,.cells (AD.c x.2.2.2.2.1) 117),(2000,Z5N v6_4),(2001,.row 2 x.2.1.length (AP Ab.c x.2.1) 106),(2002,.row 2 x.2.2.1.length (AP Ab.c x.2.2.1) 106),(2003,.row 2 x.2.2.2.1.length (AP Ab.c x.2.2.2.1) 106)]⟩) (fun x=>((W64 (1+(AA (AA (AD.mk (AY l 2) 0) 3).2 3).1))-x.2.2.2.2.2).toNat) (fun x=>(DC x.2.1 (6*x.2.2.2.2.2)/\DC x.2.2.1 (6*x.2.2.2.2.2)/\DC x.2.2.2.1 (6*x.2.2.2.2.2)/\CJ x.2.2.2.2.1/\0<=x.2.2.2.2.2/\(x.2.2.2.2.2<=(W64 (1+(AA (AA (AD.mk (AY l 2) 0) 3).2 3).1))\/x.2.2.2.2.2=0))/\Dj l v6_4 v5 v8 (Ci l n0) x.1 x.2.1 x.2.2.1 x.2.2.2.1 x.2.2.2.2.1 x.2.2.2.2.2=Ar l) ?_ (((W64 (1+(AA (AA (AD.mk (AY l 2) 0) 3).2 3).1))-0).toNat+1,([]:List Ab),([]:List Ab),([]:List Ab),AD.mk (AY l 3) 0,0) ⟨Nat.lt_succ_self _,⟨(by show DC ([]:List Ab) (6*0);unfold DC at *;repeat (first | omega | exact Ey oM | refine Ex ?_ ?_ | (simp;done))),(by show DC ([]:List Ab) (6*0);unfold DC at *;repeat (first | omega | exact Ey oM | refine Ex ?_ ?_ | (simp;done))),(by show DC ([]:List Ab) (6*0);unfold DC at *;repeat (first | omega | exact Ey oM | refine Ex ?_ ?_ | (simp;done))),(by dsimp only;repeat (first | with_reducible assumption | exact CV (DV hll _) | with_reducible refine BO ?_ | with_reducible refine Ek ?_ | with_reducible refine Dk ?_ | with_reducible refine DH ?_  | with_reducible refine Cr ?_ ?_)),ax0,ax0⟩,(by rw [<- hF0];simp only [Ci,h1,cond_true,cond_false])⟩
 rintro n1 ⟨v31_1,v31_3,v31_5,v5',v10⟩ hm1 ⟨hinv1,hF1⟩
 try dsimp only at hm1 hinv1 hF1
 have hi1_0:=hinv1.1
 have hi1_1:=hinv1.2.1
 have hi1_2:=hinv1.2.2.1
 have hi1_3:=hinv1.2.2.2.1
 refine AB<|AB<|rn ⟨(Rs l v10),[(2,Z5v),(6,Z5M l v6_4),(31,Z6p v31_1 v31_3 v31_5),(91,.cells (AD.c v5') 117),(2000,Z5N v6_4),(2001,Z60 v31_1),(2002,Z61 v31_3),(2003,Z62 v31_5)]⟩<|Ap (decide ((v10:Int)<(W64 (1+(AA (AA (AD.mk (AY l 2) 0) 3).2 3).1)))) kr (fun h2 => ?_) (fun h2 => ?_)
 ·have g2:=oT h2
  have k2:=SL g2 (by decide) (by decide) (by decide) (by decide)
  have kk2:=O2 g2 (by decide) (by decide) (by decide) (by decide)
  refine AQ<|AE<|AB<|AM<|AB<|ro _ [0<=(v10:Int)/\(v10:Int)<((v6_4.length:Nat):Int),v10.toNat<v6_4.length,none] ⟨(GY l [(10,tI v10),(11,tP 11 0)]),(FL l v6_4 v10 [(31,Z6p v31_1 v31_3 v31_5),(91,.cells (AD.c v5') 117),(2000,Z5N v6_4),(2001,Z60 v31_1),(2002,Z61 v31_3),(2003,Z62 v31_5)])⟩ (J1 105 (Xh [Z5w l,Z5x l] (v6_4.getD v10.toNat default).Type' au12)) (H2 au13 au13)<|AE<|AB<|rn ⟨(GY l [(10,tI v10),(11,tP 11 0),(13,tI 0)]),(FL l v6_4 v10 [(31,Z6p v31_1 v31_3 v31_5),(91,.cells (AD.c v5') 117),(2000,Z5N v6_4),(2001,Z60 v31_1),(2002,Z61 v31_3),(2003,Z62 v31_5)])⟩<|AM ?_
  refine lpC (κ:=List Ab×List Ab×List Ab×AD×Int) (fun x=>⟨(GY l [(10,tI v10),(11,tP 11 0),(13,tI x.2.2.2.2.2)]),(FL l v6_4 v10 [(31,.rowx 2 3 (fun _ _=>default) 120 [(0,[.s ({ data := #[78,49] }:ByteArray),.own 2001 2 x.2.1.length]),(1,[.s ({ data := #[78,50] }:ByteArray),.own 2002 2 x.2.2.1.length]),(2,[.s ({ data := #[71,78,68] }:ByteArray),.own 2003 2 x.2.2.2.1.length])]),(91,.cells (AD.c x.2.2.2.2.1) 117),(2000,Z5N v6_4),(2001,.row 2 x.2.1.length (AP Ab.c x.2.1) 106),(2002,.row 2 x.2.2.1.length (AP Ab.c x.2.2.1) 106),(2003,.row 2 x.2.2.2.1.length (AP Ab.c x.2.2.2.1) 106)])⟩) (fun x=>(((Z65 l v6_4 v10).Pads.length:Int)-x.2.2.2.2.2).toNat) (fun x=>(DC x.2.1 (6*v10+x.2.2.2.2.2)/\DC x.2.2.1 (6*v10+x.2.2.2.2.2)/\DC x.2.2.2.1 (6*v10+x.2.2.2.2.2)/\CJ x.2.2.2.2.1/\0<=x.2.2.2.2.2/\(x.2.2.2.2.2<=((Z65 l v6_4 v10).Pads.length:Int)\/x.2.2.2.2.2=0))/\D9 l v6_4 v5 v8 v31_1 v31_3 v31_5 v5' v10 (Ci l n0) (Dj l v6_4 v5 v8 (Ci l n0) n1) x.1 x.2.1 x.2.2.1 x.2.2.2.1 x.2.2.2.2.1 x.2.2.2.2.2=Ar l) ?_ ((((Z65 l v6_4 v10).Pads.length:Int)-0).toNat+1,v31_1,v31_3,v31_5,v5',0) ⟨Nat.lt_succ_self _,⟨(by show DC v31_1 (6*v10+0);unfold DC at *;repeat (first | omega | exact Ey oM | refine Ex ?_ ?_ | (simp;done))),(by show DC v31_3 (6*v10+0);unfold DC at *;repeat (first | omega | exact Ey oM | refine Ex ?_ ?_ | (simp;done))),(by show DC v31_5 (6*v10+0);unfold DC at *;repeat (first | omega | exact Ey oM | refine Ex ?_ ?_ | (simp;done))),(by dsimp only;repeat (first | with_reducible assumption | exact CV (DV hll _) | with_reducible refine BO ?_ | with_reducible refine Ek ?_ | with_reducible refine Dk ?_ | with_reducible refine DH ?_  | with_reducible refine Cr ?_ ?_)),ax0,ax0⟩,(by rw [<- hF1];simp only [Dj,h2,cond_true,cond_false])⟩
  rintro n2 ⟨v31_1',v31_3',v31_5',v5'',v13⟩ hm2 ⟨hinv2,hF2⟩
  try dsimp only at hm2 hinv2 hF2
  have hi2_0:=hinv2.1
  have hi2_1:=hinv2.2.1
  have hi2_2:=hinv2.2.2.1
  have hi2_3:=hinv2.2.2.2.1
  have hp6:((Z65 l v6_4 v10).Pads.length:Int)<=6:=(hi0_1 v10 oM oM).2
  refine AB<|AB<|rn ⟨(GY l [(10,tI v10),(11,tP 11 0),(13,tI v13),(112,tB (decide ((v13:Int)<((Z65 l v6_4 v10).Pads.length:Int))))]),(FL l v6_4 v10 [(31,Z6q v31_1' v31_3' v31_5'),(91,.cells (AD.c v5'') 117),(2000,Z5N v6_4),(2001,Z67 v31_1'),(2002,Z68 v31_3'),(2003,Z69 v31_5')])⟩<|Ap _ rfl (fun h3 => ?_) (fun h3 => ?_)
  ·have g3:=oT h3
   refine AQ<|AE<|AB<|Bd (⟨[(0,.av (oL l)),(2,tP 2 0),(4,tO (lst 3 AN.c [Z5w l,Z5x l])),(5,tP 91 0),(6,tP 6 0),(7,tI (W64 (1+(AA (Fq l).2 3).1))),(10,tI v10),(11,tP 11 0),(13,tI v13)],[(2,.cells VM 41),(6,.cells [.i 2,.i (Z5E l).Kind,lst 7 AK.c (Z5E l).Edges,.i (Z5E l).R,.own 2000 7 v6_4.length,.own 31 2 3,vN,vN,vN,vN,vN,vN,vN,vN,vN] 41),(11,.cells (AN.c (Z65 l v6_4 v10)) 82),(31,.rowx 2 3 (fun _ _=>default) 120 [(0,[.s ({ data := #[78,49] }:ByteArray),.own 2004 2 (Z6e v5'' v31_1' v6_4 v10 l v13).length]),(1,[.s ({ data := #[78,50] }:ByteArray),.own 2005 2 (Z6f v5'' v31_3' v6_4 v10 l v13).length]),(2,[.s ({ data := #[71,78,68] }:ByteArray),.own 2006 2 (Z6g v5'' v31_5' v6_4 v10 l v13).length])]),(Hp v5''),(2000,.row 7 v6_4.length (AP AF.c v6_4) 78),(2004,.row 2 (Z6e v5'' v31_1' v6_4 v10 l v13).length (AP Ab.c (Z6e v5'' v31_1' v6_4 v10 l v13)) 106),(2005,.row 2 (Z6f v5'' v31_3' v6_4 v10 l v13).length (AP Ab.c (Z6f v5'' v31_3' v6_4 v10 l v13)) 106),(2006,.row 2 (Z6g v5'' v31_5' v6_4 v10 l v13).length (AP Ab.c (Z6g v5'' v31_5' v6_4 v10 l v13)) 106)]⟩) ?_ ?_
   ·refine AM<|AB<|rb 116 (Z6a v5'') (.cells (AD.c v5'') 117) ⟨(GY l [(10,tI v10),(11,tP 11 0),(13,tI v13),(14,tI (AA v5'' 5).1)]),(FL l v6_4 v10 [(31,Z6q v31_1' v31_3' v31_5'),(Hp v5''),(2000,Z5N v6_4),(2001,Z67 v31_1'),(2002,Z68 v31_3'),(2003,Z69 v31_5')])⟩ (cWr (BR v5'' 5 au7 au9))<|AE<|AB<|rn ⟨(GY l [(10,tI v10),(11,tP 11 0),(13,tI v13),(14,tI (AA v5'' 5).1),(118,tB (decide (((AA v5'' 5).1:Int)<3)))]),(FL l v6_4 v10 [(31,Z6q v31_1' v31_3' v31_5'),(Hp v5''),(2000,Z5N v6_4),(2001,Z67 v31_1'),(2002,Z68 v31_3'),(2003,Z69 v31_5')])⟩<|Ap _ rfl (fun h4 => ?_) (fun h4 => ?_)
    ·have g4:=oT h4
     refine Uo (decide (((AA v5'' 5).1:Int)=0)) (fun h5 => ?_) (fun h5 => ?_)
     ·have g5:=oT h5
      (try rw [g5])
      refine dw [] [] [0<=(0:Int)/\(0:Int)<((3:Nat):Int),0<=(v10:Int)/\(v10:Int)<((v6_4.length:Nat):Int),v10.toNat<v6_4.length,0<=(v13:Int)/\(v13:Int)<(((Z65 l v6_4 v10).Pads.length:Nat):Int),v31_1'.length=v31_1'.length,v31_1'.length+1<=maxLen,(v31_1'.length+1)*32<=140737488355328,0<=(0:Int)/\(0:Int)<((3:Nat):Int)] ⟨(KT l v10 v13),(FL l v6_4 v10 [(31,.rowx 2 3 (fun _ _=>default) 120 [(0,[.s ({ data := #[78,49] }:ByteArray),.own 142 2 (v31_1'.length+1)]),(1,[.s ({ data := #[78,50] }:ByteArray),.own 2002 2 v31_3'.length]),(2,[.s ({ data := #[71,78,68] }:ByteArray),.own 2003 2 v31_5'.length])]),(Hp v5''),(142,.row 2 (v31_1'.length+1) (fun i_ j_=>if i_<v31_1'.length then (AP Ab.c v31_1') i_ j_ else (VK v6_4 v10 l v13) (i_-v31_1'.length) j_) 106),(2000,Z5N v6_4),(2002,Z68 v31_3'),(2003,Z69 v31_5')])⟩ .nil (H8 au13 au13 au13 au13 rfl au18 au18 au13)<|A3<|AE ?_
      refine Cv.trans (Es (⟨(KT l v10 v13),(FL l v6_4 v10 [(31,.rowx 2 3 (fun _ _=>default) 120 [(0,[.s ({ data := #[78,49] }:ByteArray),.own 142 2 (v31_1'++(JB v6_4 v10 l v13)).length]),(1,[.s ({ data := #[78,50] }:ByteArray),.own 2002 2 v31_3'.length]),(2,[.s ({ data := #[71,78,68] }:ByteArray),.own 2003 2 v31_5'.length])]),(Hp v5''),(142,.row 2 (v31_1'++(JB v6_4 v10 l v13)).length (AP Ab.c (v31_1'++(JB v6_4 v10 l v13))) 106),(2000,Z5N v6_4),(2002,Z68 v31_3'),(2003,Z69 v31_5')])⟩) lr (rz (rz (rz (.cons ⟨rfl,.rowx _ _ _ _ (.cons ⟨rfl,(rr (.cons (.own _ _ au17) .nil))⟩ (.cons ⟨rfl,(rr2 .nil)⟩ (.cons ⟨rfl,(rr2 .nil)⟩ .nil)))⟩ (rz (.cons ⟨rfl,FU 106 (BF (A1 2 Ab.c v31_1') (Ba (c:=Ab.c) (xs:=([Ab.mk (v6_4.getD v10.toNat default).Ref ((Z65 l v6_4 v10).Pads.getD v13.toNat default).Name]:List Ab)) rfl kr))⟩ lr))))))) (Cv.trans (vr 142 2004 hk0) (Cv.trans (vr 2002 2005 hk0) (Cv.trans (vr 2003 2006 hk0) (Cv.trans (ck (⟨(KT l v10 v13),(FL l v6_4 v10 [(31,Z6r v31_1' v6_4 v10 l v13 v31_3' v31_5'),(Hp v5''),(2000,Z5N v6_4),(2004,.row 2 (v31_1'++(JB v6_4 v10 l v13)).length (AP Ab.c (v31_1'++(JB v6_4 v10 l v13))) 106),(2005,Z68 v31_3'),(2006,Z69 v31_5')])⟩)) (Al ?_)))))
      first | rfl | (simp only [h4,h5,Z6e,Z6f,Z6g,cond_true,cond_false] <;> rfl)
     have g5:=oF h5
     refine Uo (decide (((AA v5'' 5).1:Int)=1)) (fun h6 => ?_) (fun h6 => ?_)
     ·have g6:=oT h6
      (try rw [g6])
      refine dw [] [] [0<=(1:Int)/\(1:Int)<((3:Nat):Int),0<=(v10:Int)/\(v10:Int)<((v6_4.length:Nat):Int),v10.toNat<v6_4.length,0<=(v13:Int)/\(v13:Int)<(((Z65 l v6_4 v10).Pads.length:Nat):Int),v31_3'.length=v31_3'.length,v31_3'.length+1<=maxLen,(v31_3'.length+1)*32<=140737488355328,0<=(1:Int)/\(1:Int)<((3:Nat):Int)] ⟨(KT l v10 v13),(FL l v6_4 v10 [(31,.rowx 2 3 (fun _ _=>default) 120 [(0,[.s ({ data := #[78,49] }:ByteArray),.own 2001 2 v31_1'.length]),(1,[.s ({ data := #[78,50] }:ByteArray),.own 142 2 (v31_3'.length+1)]),(2,[.s ({ data := #[71,78,68] }:ByteArray),.own 2003 2 v31_5'.length])]),(Hp v5''),(142,.row 2 (v31_3'.length+1) (fun i_ j_=>if i_<v31_3'.length then (AP Ab.c v31_3') i_ j_ else (VK v6_4 v10 l v13) (i_-v31_3'.length) j_) 106),(2000,Z5N v6_4),(2001,Z67 v31_1'),(2003,Z69 v31_5')])⟩ .nil (H8 au13 au13 au13 au13 rfl au18 au18 au13)<|A3<|AE ?_
      refine Cv.trans (Es (⟨(KT l v10 v13),(FL l v6_4 v10 [(31,.rowx 2 3 (fun _ _=>default) 120 [(0,[.s ({ data := #[78,49] }:ByteArray),.own 2001 2 v31_1'.length]),(1,[.s ({ data := #[78,50] }:ByteArray),.own 142 2 (v31_3'++(JB v6_4 v10 l v13)).length]),(2,[.s ({ data := #[71,78,68] }:ByteArray),.own 2003 2 v31_5'.length])]),(Hp v5''),(142,Z6c v31_3' v6_4 v10 l v13),(2000,Z5N v6_4),(2001,Z67 v31_1'),(2003,Z69 v31_5')])⟩) lr (rz (rz (rz (.cons ⟨rfl,.rowx _ _ _ _ (.cons ⟨rfl,(rr2 .nil)⟩ (.cons ⟨rfl,(rr (.cons (.own _ _ au17) .nil))⟩ (.cons ⟨rfl,(rr2 .nil)⟩ .nil)))⟩ (rz (.cons ⟨rfl,FU 106 (BF (A1 2 Ab.c v31_3') (Ba (c:=Ab.c) (xs:=([Ab.mk (v6_4.getD v10.toNat default).Ref ((Z65 l v6_4 v10).Pads.getD v13.toNat default).Name]:List Ab)) rfl kr))⟩ lr))))))) (Cv.trans (vr 2001 2004 hk0) (Cv.trans (vr 142 2005 hk0) (Cv.trans (vr 2003 2006 hk0) (Cv.trans (ck (⟨(KT l v10 v13),(FL l v6_4 v10 [(31,Z6s v31_1' v31_3' v6_4 v10 l v13 v31_5'),(Hp v5''),(2000,Z5N v6_4),(2004,Z67 v31_1'),(2005,Z6c v31_3' v6_4 v10 l v13),(2006,Z69 v31_5')])⟩)) (Al ?_)))))
      first | rfl | (simp only [h4,h5,h6,Z6e,Z6f,Z6g,cond_true,cond_false] <;> rfl)
     have g6:=oF h6
     have g7:((AA v5'' 5).1:Int)=2:=ZT (by with_reducible assumption) (by with_reducible assumption) (by with_reducible assumption)
     (try rw [g7])
     refine dw [] [] [0<=(2:Int)/\(2:Int)<((3:Nat):Int),0<=(v10:Int)/\(v10:Int)<((v6_4.length:Nat):Int),v10.toNat<v6_4.length,0<=(v13:Int)/\(v13:Int)<(((Z65 l v6_4 v10).Pads.length:Nat):Int),v31_5'.length=v31_5'.length,v31_5'.length+1<=maxLen,(v31_5'.length+1)*32<=140737488355328,0<=(2:Int)/\(2:Int)<((3:Nat):Int)] ⟨(KT l v10 v13),(FL l v6_4 v10 [(31,.rowx 2 3 (fun _ _=>default) 120 [(0,[.s ({ data := #[78,49] }:ByteArray),.own 2001 2 v31_1'.length]),(1,[.s ({ data := #[78,50] }:ByteArray),.own 2002 2 v31_3'.length]),(2,[.s ({ data := #[71,78,68] }:ByteArray),.own 142 2 (v31_5'.length+1)])]),(Hp v5''),(142,.row 2 (v31_5'.length+1) (fun i_ j_=>if i_<v31_5'.length then (AP Ab.c v31_5') i_ j_ else (VK v6_4 v10 l v13) (i_-v31_5'.length) j_) 106),(2000,Z5N v6_4),(2001,Z67 v31_1'),(2002,Z68 v31_3')])⟩ .nil (H8 au13 au13 au13 au13 rfl au18 au18 au13)<|A3<|AE ?_
     refine Cv.trans (Es (⟨(KT l v10 v13),(FL l v6_4 v10 [(31,.rowx 2 3 (fun _ _=>default) 120 [(0,[.s ({ data := #[78,49] }:ByteArray),.own 2001 2 v31_1'.length]),(1,[.s ({ data := #[78,50] }:ByteArray),.own 2002 2 v31_3'.length]),(2,[.s ({ data := #[71,78,68] }:ByteArray),.own 142 2 (v31_5'++(JB v6_4 v10 l v13)).length])]),(Hp v5''),(142,Z6d v31_5' v6_4 v10 l v13),(2000,Z5N v6_4),(2001,Z67 v31_1'),(2002,Z68 v31_3')])⟩) lr (rz (rz (rz (.cons ⟨rfl,.rowx _ _ _ _ (.cons ⟨rfl,(rr2 .nil)⟩ (.cons ⟨rfl,(rr2 .nil)⟩ (.cons ⟨rfl,(rr (.cons (.own _ _ au17) .nil))⟩ .nil)))⟩ (rz (.cons ⟨rfl,FU 106 (BF (A1 2 Ab.c v31_5') (Ba (c:=Ab.c) (xs:=([Ab.mk (v6_4.getD v10.toNat default).Ref ((Z65 l v6_4 v10).Pads.getD v13.toNat default).Name]:List Ab)) rfl kr))⟩ lr))))))) (Cv.trans (vr 2001 2004 hk0) (Cv.trans (vr 2002 2005 hk0) (Cv.trans (vr 142 2006 hk0) (Cv.trans (ck (⟨(KT l v10 v13),(FL l v6_4 v10 [(31,Z6t v31_1' v31_3' v31_5' v6_4 v10 l v13),(Hp v5''),(2000,Z5N v6_4),(2004,Z67 v31_1'),(2005,Z68 v31_3'),(2006,Z6d v31_5' v6_4 v10 l v13)])⟩)) (Al ?_)))))
     first | rfl | (simp only [h4,h5,h6,Z6e,Z6f,Z6g,cond_true,cond_false] <;> rfl)
    refine AQ<|A3<|AE<|Cv.trans (vk [0,2,4,5,6,7,10,11,13] [2,6,11,31,91,2000,2001,2002,2003]) (Cv.trans (vr 2001 2004 hk0) (Cv.trans (vr 2002 2005 hk0) (Cv.trans (wr (⟨(KT l v10 v13),(FL l v6_4 v10 [(31,.rowx 2 3 (fun _ _=>default) 120 [(0,[.s ({ data := #[78,49] }:ByteArray),.own 2004 2 v31_1'.length]),(1,[.s ({ data := #[78,50] }:ByteArray),.own 2005 2 v31_3'.length]),(2,[.s ({ data := #[71,78,68] }:ByteArray),.own 2006 2 v31_5'.length])]),(Hp v5''),(2000,Z5N v6_4),(2004,Z67 v31_1'),(2005,Z68 v31_3'),(2006,Z69 v31_5')])⟩) 2003 2006 hk0) (Al ?_))))
    first | rfl | (simp only [h4,Z6e,Z6f,Z6g,cond_true,cond_false] <;> rfl)
   refine rg ⟨(GY l [(10,tI v10),(11,tP 11 0),(13,tI (W64 (v13+1)))]),(FL l v6_4 v10 [(31,.rowx 2 3 (fun _ _=>default) 120 [(0,[.s ({ data := #[78,49] }:ByteArray),.own 2004 2 (Z6e v5'' v31_1' v6_4 v10 l v13).length]),(1,[.s ({ data := #[78,50] }:ByteArray),.own 2005 2 (Z6f v5'' v31_3' v6_4 v10 l v13).length]),(2,[.s ({ data := #[71,78,68] }:ByteArray),.own 2006 2 (Z6g v5'' v31_5' v6_4 v10 l v13).length])]),(Hp v5''),(2000,Z5N v6_4),(2004,Z6h v5'' v31_1' v6_4 v10 l v13),(2005,Z6i v5'' v31_3' v6_4 v10 l v13),(2006,Z6j v5'' v31_5' v6_4 v10 l v13)])⟩ ?_
   (try rw [(show W64 (v13+1)=v13+1 from Ae oM au3)])
   refine AE ?_
   refine ⟨(n2,Z6e v5'' v31_1' v6_4 v10 l v13,Z6f v5'' v31_3' v6_4 v10 l v13,Z6g v5'' v31_5' v6_4 v10 l v13,(AA v5'' 5).2,v13+1),⟨?_,?_,(by rw [<- hF2];simp only [D9,h3,cond_true,cond_false])⟩,Nat.lt_succ_self _,Cv.trans (vr 2004 2001 hk0) (Cv.trans (vr 2005 2002 hk0) (Cv.trans (vr 2006 2003 hk0) (Al kr)))⟩
   ·dsimp only;omega
   exact ⟨(by show DC (Z6e v5'' v31_1' v6_4 v10 l v13) (6*v10+(v13+1));unfold DC at *;repeat (first | omega | exact Ey oM | refine Ex ?_ ?_ | (simp;done))),(by show DC (Z6f v5'' v31_3' v6_4 v10 l v13) (6*v10+(v13+1));unfold DC at *;repeat (first | omega | exact Ey oM | refine Ex ?_ ?_ | (simp;done))),(by show DC (Z6g v5'' v31_5' v6_4 v10 l v13) (6*v10+(v13+1));unfold DC at *;repeat (first | omega | exact Ey oM | refine Ex ?_ ?_ | (simp;done))),(by dsimp only;repeat (first | with_reducible assumption | exact CV (DV hll _) | with_reducible refine BO ?_ | with_reducible refine Ek ?_ | with_reducible refine Dk ?_ | with_reducible refine DH ?_  | with_reducible refine Cr ?_ ?_)),ax0,ax0⟩
  have g3:=oF h3
  refine An<|Ai<|Ai<|Ao<|A3<|AE<|rg ⟨(GY l [(10,tI (W64 (v10+1)))]),[(2,Z5v),(6,Z5M l v6_4),(31,Z6q v31_1' v31_3' v31_5'),(91,.cells (AD.c v5'') 117),(2000,Z5N v6_4),(2001,Z67 v31_1'),(2002,Z68 v31_3'),(2003,Z69 v31_5')]⟩ ?_
  (try rw [(show W64 (v10+1)=v10+1 from Ae oM au3)])
  refine AE ?_
  refine ⟨(n1,v31_1',v31_3',v31_5',v5'',v10+1),⟨?_,?_,(by rw [<- hF2];simp only [D9,h3,cond_true,cond_false])⟩,Nat.lt_succ_self _,Al kr⟩
  ·dsimp only;omega
  exact ⟨(by show DC v31_1' (6*(v10+1));unfold DC at *;repeat (first | omega | exact Ey oM | refine Ex ?_ ?_ | (simp;done))),(by show DC v31_3' (6*(v10+1));unfold DC at *;repeat (first | omega | exact Ey oM | refine Ex ?_ ?_ | (simp;done))),(by show DC v31_5' (6*(v10+1));unfold DC at *;repeat (first | omega | exact Ey oM | refine Ex ?_ ?_ | (simp;done))),(by dsimp only;repeat (first | with_reducible assumption | exact CV (DV hll _) | with_reducible refine BO ?_ | with_reducible refine Ek ?_ | with_reducible refine Dk ?_ | with_reducible refine DH ?_  | with_reducible refine Cr ?_ ?_)),ax0,ax0⟩
 have g2:=oF h2
 have k2:=SU g2 (by decide) (by decide) (by decide) (by decide)
 refine An<|Ai<|Ai<|Ao<|AE<|AB<|BE (Q0 (⟨(Rs l v10),[(2,Z5v),(6,Z63 l v6_4),(31,Z6p v31_1 v31_3 v31_5),(91,.cells (AD.c v5') 117),(2001,Z60 v31_1),(2002,Z61 v31_3),(2003,Z62 v31_5)]⟩) 2000 hk0) ?_
 refine BE (Cv.trans (vf 2001 hk0) (Cv.trans (vf 2002 hk0) (Cv.trans (Q0 (⟨(Rs l v10),[(2,Z5v),(6,Z63 l v6_4),(31,.rowx 2 3 (fun _ _=>default) 120 [(0,[.s ({ data := #[78,49] }:ByteArray),lst 2 Ab.c v31_1]),(1,[.s ({ data := #[78,50] }:ByteArray),lst 2 Ab.c v31_3]),(2,[.s ({ data := #[71,78,68] }:ByteArray),lst 2 Ab.c v31_5])]),(91,.cells (AD.c v5') 117)]⟩) 2003 hk0) (Cv.trans (gW (⟨(Rs l v10),[(2,Z5v),(6,Z63 l v6_4),(31,.row 2 3 (BG 2 3 [.s ({ data := #[78,49] }:ByteArray),lst 2 Ab.c v31_1,.s ({ data := #[78,50] }:ByteArray),lst 2 Ab.c v31_3,.s ({ data := #[71,78,68] }:ByteArray),lst 2 Ab.c v31_5]) 120),(91,.cells (AD.c v5') 117)]⟩) 31 2 3 (fun _ _=>default) 120 [[.s ({ data := #[78,49] }:ByteArray),lst 2 Ab.c v31_1],[.s ({ data := #[78,50] }:ByteArray),lst 2 Ab.c v31_3],[.s ({ data := #[71,78,68] }:ByteArray),lst 2 Ab.c v31_5]] kr kr kr kr) (Cv.trans (A5 31 (BC 2 Bz.c ([Bz.mk ({ data := #[78,49] }:ByteArray) v31_1,Bz.mk ({ data := #[78,50] }:ByteArray) v31_3,Bz.mk ({ data := #[71,78,68] }:ByteArray) v31_5]:List Bz))) (Q0 (⟨(Rs l v10),[(2,Z5v),(6,.cells [.i 2,.i (Z5E l).Kind,lst 7 AK.c (Z5E l).Edges,.i (Z5E l).R,lst 7 AF.c v6_4,lst 2 Bz.c [Bz.mk ({ data := #[78,49] }:ByteArray) v31_1,Bz.mk ({ data := #[78,50] }:ByteArray) v31_3,Bz.mk ({ data := #[71,78,68] }:ByteArray) v31_5],vN,vN,vN,vN,vN,vN,vN,vN,vN] 41),(91,.cells (AD.c v5') 117)]⟩) 31 hk0)))))) ?_
 refine rb 147 (Z6l l v6_4 v31_1 v31_3 v31_5) (.cells [.i 2,.i (Z5E l).Kind,lst 7 AK.c (Z5E l).Edges,.i (Z5E l).R,lst 7 AF.c v6_4,lst 2 Bz.c [Bz.mk ({ data := #[78,49] }:ByteArray) v31_1,Bz.mk ({ data := #[78,50] }:ByteArray) v31_3,Bz.mk ({ data := #[71,78,68] }:ByteArray) v31_5],vN,vN,vN,vN,vN,vN,vN,vN,vN] 41) ⟨[(0,Z5u l),(2,tP 2 0),(4,Z5y l),(6,tP 6 0)],[(2,Z5v),(6,.cells (XE l v6_4 v31_1 v31_3 v31_5) 41)]⟩ (cWr (Vv (AG.mk 2 (Z5E l) v6_4 [Bz.mk ({ data := #[78,49] }:ByteArray) v31_1,Bz.mk ({ data := #[78,50] }:ByteArray) v31_3,Bz.mk ({ data := #[71,78,68] }:ByteArray) v31_5] [] [] [] [] [] [] [] [] []) [Z5w l,Z5x l] l au12 au12 au12 au12 au12 au12))<|AE<|AB ?_
 exact ro [(149,Lj l 7),(152,(Z6n l v6_4 v31_1 v31_3 v31_5))] [none,none,jA [.cells (XE l v6_4 v31_1 v31_3 v31_5) 41,.cells [lst 1 eIn (AY l 7),.i 0] 117]] ⟨[(2,tP 2 0),(4,Z5y l),(6,tP 6 0)],[(2,Z5v),(6,.cells (AG.c (Z6m l v6_4 v31_1 v31_3 v31_5).1) 41)]⟩ (.cons (GM l 7 au12) (.cons (Wl (fun _ _=>kr) kr rfl rfl kr kr (dA (AG.mk (Z6k l v6_4 v31_1 v31_3 v31_5).Layers (Z6k l v6_4 v31_1 v31_3 v31_5).Outline (Z6k l v6_4 v31_1 v31_3 v31_5).Parts (Z6k l v6_4 v31_1 v31_3 v31_5).Nets (Z6k l v6_4 v31_1 v31_3 v31_5).Tracks (Z6k l v6_4 v31_1 v31_3 v31_5).Vias (Z6k l v6_4 v31_1 v31_3 v31_5).Pours (Z6k l v6_4 v31_1 v31_3 v31_5).Keeps (Z6k l v6_4 v31_1 v31_3 v31_5).Slots [] [] [] []) (AD.mk (AY l 7) 0) au7 au12 au12 au12 au12 au12 au12 au12)) .nil)) (H1 rfl)<|AE<|AB<|rn ⟨[(2,tP 2 0),(3,Z5y l)],[(2,.cells (AG.c (Z6m l v6_4 v31_1 v31_3 v31_5).1) 41)]⟩<|AW<|xl (.tup [.agg (AG.c (Z6m l v6_4 v31_1 v31_3 v31_5).1),.one (lst 3 AN.c [Z5w l,Z5x l])]) (Ej (by rw [<- hF1];first | (simp only [Dj,h2,cond_true,cond_false] <;> rfl)))
theorem T0 (l:(List (List Int))) (hl:(l.length:Int)<=9223372036854775807) (hll:∀ x∈l,(x.length:Int)<=9223372036854775807):OKc (YN l):=cPu<|kY l hl hll
end
abbrev nN1:ByteArray:={ data := #[78,49] }
abbrev nN2:ByteArray:={ data := #[78,50] }
abbrev nGND:ByteArray:={ data := #[71,78,68] }
theorem Y3 (r:Ad):(HP r).Edges.length=4:=rfl
theorem Zn (p:AC) (r:Int):(Pq p r).Edges.length=1:=rfl
def Mp (n:Nat) (l:List A7):Prop:=l.length<=n/\∀ g∈l,LC g
theorem WV {n:Nat} {c:Bool} {a b:List A7} (ha:Mp n a) (hb:Mp n b):Mp n (bif c then a else b):=by cases c <;> assumption
theorem WU {n:Nat}:Mp n []:=⟨Nat.zero_le _,fun g hg=>by cases hg⟩
theorem SS {n:Nat} {g:A7} {l:List A7} (hg:LC g) (h:Mp n l):Mp (n+1) (g::l):=⟨Nat.succ_le_succ h.1,fun x hx=>(List.mem_cons.1 hx).elim (fun e=>e▸hg) (h.2 x)⟩
theorem rT {n:Nat} {g:A7} {l:List A7} (hg:LC g) (h:Mp n l):Mp (n+1) (l++[g]):=⟨by rw [List.length_append];exact Nat.succ_le_succ h.1,fun x hx=>(List.mem_append.1 hx).elim (h.2 x) (fun e=>by rw [List.mem_singleton.1 e];exact hg)⟩
theorem X8 {k:Int} {a c:Bk}:LC (A7.mk k [a,c]):=(by decide:((2:Nat):Int)<=1000000)
theorem gs_up {n m:Nat} {l:List A7} (h:Mp n l) (k:n<=m):Mp m l:=⟨Nat.le_trans h.1 k,h.2⟩
theorem ZZ (l:List Int) (d:AD):Mp 3 (Z4W l d):=by
 have h1:Mp 2 (Z4I l d):=WV (SS X8 WU) WU
 have h2:Mp 2 (Z4Q l d):=WV (SS X8 (SS X8 WU)) h1
 exact WV (rT X8 h2) (gs_up h2 (by decide))
theorem SJ (d:AD) (k:Int):((Z4y d k).length:Int)<=1000000:=by
 unfold Z4y Z4t Z4w
 cases decide ((AA (AA d 2).2 3).1=0) with
 | true=>rw [cond_true,Y3];decide
 | false =>
  rw [cond_false]
  cases decide ((AA (AA d 2).2 3).1=1) with
  | true=>rw [cond_true,Zn];decide
  | false=>exact (by decide:((1:Nat):Int)<=1000000)
theorem QX (l:List Int) (name:ByteArray):∀ (n:Nat) (v:List BH) (d:AD) (k:Int),(∀ p∈v,Us p)->(v.length:Int)<=1000000->((v.length:Int)+(W64 (2+(AA (AD.mk l 0) 5).1)-k)<=1000000)->((W64 (2+(AA (AD.mk l 0) 5).1))-k).toNat<n ->
  LB (C1 l name n v d k)
 | 0,v,d,k,_,_,_,h=>absurd h (Nat.not_lt_zero _)
 | n+1,v,d,k,hv,h0,h1,h2=>by
  unfold C1
  by_cases h:k<W64 (2+(AA (AD.mk l 0) 5).1)
  ·rw [decide_eq_true h,cond_true]
   refine QX l name n _ _ (k+1) (fun p hp => ?_) (by simp only [List.length_append,List.length_cons,List.length_nil];omega) (by simp only [List.length_append,List.length_cons,List.length_nil];omega) (by omega)
   rcases List.mem_append.1 hp with hp | hp
   ·exact hv p hp
   rw [List.mem_singleton.1 hp]
   exact SJ d k
  rw [decide_eq_false h,cond_false]
  have hg:=ZZ l d
  exact ⟨h0,by have:=hg.1;show ((Z4W l d).length:Int)<=1000000;omega,hv,hg.2⟩
theorem UG (l:List Int) (name:ByteArray):LB (BB l name):=by
 have hn:=DO (AD.mk l 0) 5 (by decide) (by decide)
 have hw:W64 (2+(AA (AD.mk l 0) 5).1)=2+(AA (AD.mk l 0) 5).1:=Ae (by omega) (by omega)
 unfold BB
 exact QX l name _ [] _ 0 (fun p hp=>by cases hp) (by decide) (by simp only [List.length_nil];omega) (by omega)
theorem Xt (l:List (List Int)) (v6_4:List AF) (v5:AD) (v8:Int) (a1 a3 a5:List Ab) (d1:AD) (v10:Int) (K0:List AF->AD->Int->(AG×(List AN))) (K1:List Ab->List Ab->List Ab->AD->Int->(AG×(List AN))) (hK:∀ a b c d,Bt (K1 a b c d (v10+1)).2):∀ (n:Nat) (x y z:List Ab) (d:AD) (k:Int),0<=k->(((Bn [BB (AY l 0) ({ data := #[82] }:ByteArray),BB (AY l 1) ({ data := #[81] }:ByteArray)] (v6_4.getD v10.toNat default).Type').1.Pads.length:Int)-k).toNat<n->Bt (D9 l v6_4 v5 v8 a1 a3 a5 d1 v10 K0 K1 n x y z d k).2
 | 0,x,y,z,d,k,_,h=>absurd h (Nat.not_lt_zero _)
 | n+1,x,y,z,d,k,k0,h=>by
  unfold D9
  show Bt (bif decide ((k:Int)<((Bn [BB (AY l 0) ({ data := #[82] }:ByteArray),BB (AY l 1) ({ data := #[81] }:ByteArray)] (v6_4.getD v10.toNat default).Type').1.Pads.length:Int)) then (_:AG×List AN) else _).2
  by_cases hc:(k:Int)<((Bn [BB (AY l 0) ({ data := #[82] }:ByteArray),BB (AY l 1) ({ data := #[81] }:ByteArray)] (v6_4.getD v10.toNat default).Type').1.Pads.length:Int)
  ·rw [decide_eq_true hc]
   exact Xt l v6_4 v5 v8 a1 a3 a5 d1 v10 K0 K1 hK n _ _ _ _ _ (by omega) (by omega)
  rw [decide_eq_false hc]
  exact hK _ _ _ _
theorem pF (a c:List Int) (x y:ByteArray):Bt [BB a x,BB c y]:=by
 refine ⟨(by decide:((2:Nat):Int)<=1000000),fun t ht => ?_⟩
 simp only [List.mem_cons,List.not_mem_nil,or_false] at ht
 rcases ht with rfl | rfl <;> exact UG _ _
theorem Xu (l:List (List Int)) (v6_4:List AF) (v5:AD) (v8:Int) (K0:List AF->AD->Int->(AG×(List AN))):∀ (n:Nat) (x y z:List Ab) (d:AD) (k:Int),0<=k->(W64 (1+(AA (AA (AD.mk (AY l 2) 0) 3).2 3).1)-k).toNat<n->Bt (Dj l v6_4 v5 v8 K0 n x y z d k).2
 | 0,x,y,z,d,k,_,h=>absurd h (Nat.not_lt_zero _)
 | n+1,x,y,z,d,k,k0,h=>by
  unfold Dj
  by_cases hc:k<W64 (1+(AA (AA (AD.mk (AY l 2) 0) 3).2 3).1)
  ·simp only [hc,decide_true,cond_true]
   exact Xt l v6_4 v5 v8 x y z d k K0 _ (fun a b c e=>Xu l v6_4 v5 v8 K0 n a b c e (k+1) (by omega) (by omega)) _ _ _ _ _ 0 (by omega) (Nat.lt_succ_self _)
  simp only [hc,decide_false,cond_false]
  exact pF _ _ _ _
theorem Xv (l:List (List Int)):∀ (n:Nat) (v:List AF) (d:AD) (k:Int),0<=k->(W64 (1+(AA (AA (AD.mk (AY l 2) 0) 3).2 3).1)-k).toNat<n->Bt (Ci l n v d k).2
 | 0,v,d,k,_,h=>absurd h (Nat.not_lt_zero _)
 | n+1,v,d,k,k0,h=>by
  unfold Ci
  by_cases hc:k<W64 (1+(AA (AA (AD.mk (AY l 2) 0) 3).2 3).1)
  ·simp only [hc,decide_true,cond_true]
   exact Xv l n _ _ _ (by omega) (by omega)
  simp only [hc,decide_false,cond_false]
  exact Xu l v d k _ _ _ _ _ _ 0 (by omega) (Nat.lt_succ_self _)
theorem O0 (l:List (List Int)):Bt (Ar l).2:=by
 unfold Ar
 exact Xv l _ _ _ 0 (by omega) (Nat.lt_succ_self _)
def Ix {α:Type} [Inhabited α] (P:Nat->α->Prop) (v:List α):Prop:=∀ k,k<v.length->P k (v.getD k default)
theorem SM {α:Type} [Inhabited α] {P:Nat->α->Prop}:Ix P ([]:List α):=fun k h=>absurd h (Nat.not_lt_zero _)
theorem SN {α:Type} [Inhabited α] {P:Nat->α->Prop} {v:List α} {x:α} (h:Ix P v) (hx:P v.length x):Ix P (v++[x]):=by
 intro k hk
 by_cases h1:k<v.length
 ·rw [List.getD_eq_getElem?_getD,List.getElem?_append_left h1,<- List.getD_eq_getElem?_getD];exact h k h1
 have e:k=v.length:=by simp only [List.length_append,List.length_cons,List.length_nil] at hk;omega
 subst e
 rw [List.getD_eq_getElem?_getD,List.getElem?_append_right (Nat.le_refl _),Nat.sub_self];exact hx
theorem O3 {α:Type} [Inhabited α] {P:Nat->α->Prop} {v:List α} {x:α} (h:Ix P v) (hx:x∈v):∃ k,k<v.length/\v.getD k default=x/\P k x:=by
 obtain ⟨k,hk,e⟩:=List.getElem_of_mem hx
 have e2:v.getD k default=x:=by rw [List.getD_eq_getElem?_getD,List.getElem?_eq_getElem hk];exact e
 exact ⟨k,hk,e2,e2▸h k hk⟩
structure jC (k:Nat) (p:BH):Prop where
 lt:k<6
 name:p.Name=Af k
 drill:0<=p.Drill/\p.Drill<=6
 shp:∃ y:Int,0<=y/\y<=10/\p.At=AC.mk (30*(k:Int)) y/\(p.Shape=HP (Ad.mk (30*(k:Int)-6) (y-6) (30*(k:Int)+6) (y+6))\/(∃ r:Int,4<=r/\r<=6/\p.Shape=Pq (AC.mk (30*(k:Int)) y) r)\/p.Shape=AO.mk 1 [AK.mk 1 (AC.mk (30*(k:Int)-2) y) (AC.mk (30*(k:Int)+2) y) (AC.mk 0 0)] 4)
theorem B5 {d:AD} {n:Int} (h0:0<n) (h1:n<=1000000):0<=(AA d n).1/\(AA d n).1<n:=DO d n h0 (by omega)
theorem QZ (l:List Int) (name:ByteArray):∀ (n:Nat) (v:List BH) (d:AD) (k:Int),Ix jC v->(v.length:Int)=k->k<=W64 (2+(AA (AD.mk l 0) 5).1)->(W64 (2+(AA (AD.mk l 0) 5).1)-k).toNat<n->Ix jC (C1 l name n v d k).Pads
 | 0,v,d,k,_,_,_,h=>absurd h (Nat.not_lt_zero _)
 | n+1,v,d,k,hv,hl,hk,h=>by
  have hn:=B5 (d:=AD.mk l 0) (n:=5) (by decide) (by decide)
  have hw:W64 (2+(AA (AD.mk l 0) 5).1)=2+(AA (AD.mk l 0) 5).1:=Ae (by omega) (by omega)
  unfold C1
  by_cases hc:k<W64 (2+(AA (AD.mk l 0) 5).1)
  ·rw [decide_eq_true hc,cond_true]
   refine QZ l name n _ _ _ (SN hv ?_) (by simp only [List.length_append,List.length_cons,List.length_nil];omega) (by omega) (by omega)
   have hk6:v.length<6:=by omega
   have hy:=B5 (d:=d) (n:=2) (by decide) (by decide)
   have hr:=B5 (d:=(AA (AA d 2).2 3).2) (n:=3) (by decide) (by decide)
   have h4:=B5 (d:=Z4x d) (n:=4) (by decide) (by decide)
   have h2:=B5 (d:=(AA (Z4x d) 4).2) (n:=2) (by decide) (by decide)
   have e1:W64 (30*k)=30*(v.length:Int):=by rw [Ae (by omega) (by omega)];omega
   have e2:W64 (10*(AA d 2).1)=10*(AA d 2).1:=Ae (by omega) (by omega)
   refine ⟨hk6,by rw [<- hl],?_,10*(AA d 2).1,by omega,by omega,by show AC.mk _ _=_;rw [e1,e2],?_⟩
   ·show 0<=W64 (W64 (2*(AA (Z4x d) 4).1)*(AA (AA (Z4x d) 4).2 2).1)/\W64 (W64 (2*(AA (Z4x d) 4).1)*(AA (AA (Z4x d) 4).2 2).1)<=6
    rw [Ae (x:=2*(AA (Z4x d) 4).1) (by omega) (by omega)]
    have h01:(AA (AA (Z4x d) 4).2 2).1=0\/(AA (AA (Z4x d) 4).2 2).1=1:=by omega
    rcases h01 with h01 | h01 <;> rw [h01] <;> rw [Ae (by omega) (by omega)] <;> omega
   show (AO.mk _ (Z4y d k) _=_)\/_
   unfold Z4y Z4t Z4w
   rw [e1,e2]
   cases decide ((AA (AA d 2).2 3).1=0) with
   | true =>
    simp only [cond_true]
    left
    rw [Ae (x:=30*(v.length:Int)-6) (by omega) (by omega),Ae (x:=10*(AA d 2).1-6) (by omega) (by omega),Ae (x:=30*(v.length:Int)+6) (by omega) (by omega),Ae (x:=10*(AA d 2).1+6) (by omega) (by omega)]
   | false =>
    simp only [cond_false]
    right
    cases decide ((AA (AA d 2).2 3).1=1) with
    | true =>
     simp only [cond_true]
     left
     exact ⟨W64 (4+(AA (AA (AA d 2).2 3).2 3).1),by rw [Ae (by omega) (by omega)];omega,by rw [Ae (by omega) (by omega)];omega,rfl⟩
    | false =>
     simp only [cond_false]
     right
     rw [Ae (x:=30*(v.length:Int)-2) (by omega) (by omega),Ae (x:=30*(v.length:Int)+2) (by omega) (by omega)]
  rw [decide_eq_false hc,cond_false]
  exact hv
theorem My (l:List Int) (name:ByteArray):Ix jC (BB l name).Pads:=by
 have hn:=B5 (d:=AD.mk l 0) (n:=5) (by decide) (by decide)
 have hw:W64 (2+(AA (AD.mk l 0) 5).1)=2+(AA (AD.mk l 0) 5).1:=Ae (by omega) (by omega)
 unfold BB
 exact QZ l name _ [] _ 0 SM rfl (by omega) (by omega)
abbrev nR:ByteArray:={ data := #[82] }
abbrev nQ:ByteArray:={ data := #[81] }
abbrev refs3:List ByteArray:=[({ data := #[82,49] }:ByteArray),({ data := #[82,50] }:ByteArray),({ data := #[120,47,82,49] }:ByteArray)]
structure RB (k:Nat) (p:AF):Prop where
 id:p.Id=1+(k:Int)
 ref:p.Ref=refs3.getD k ⟨#[]⟩
 typ:p.Type'=nR\/p.Type'=nQ
 turn:0<=p.Turn/\p.Turn<4
 x:80<=p.At.X/\p.At.X<=300
 y:100<=p.At.Y/\p.At.Y<=270
abbrev Kn (l:List (List Int)):List AN:=[Z5w l,Z5x l]
theorem Yn (l:List (List Int)) {i:Int} (hi:0<=i/\i<2):((Kn l).getD i.toNat default).Name=nR\/((Kn l).getD i.toNat default).Name=nQ:=by
 have h01:i=0\/i=1:=by omega
 rcases h01 with rfl | rfl
 ·exact .inl (Fx _ _).1
 exact .inr (Fx _ _).1
theorem OW (l:List (List Int)) {x:ByteArray} (h:x=nR\/x=nQ):∃ a,Bn (Kn l) x=(BB a x,true)/\BB a x∈Kn l:=by
 have h0:=(Fx (AY l 0) nR).1
 have h1:=(Fx (AY l 1) nQ).1
 rcases h with rfl | rfl
 ·refine ⟨AY l 0,?_,List.mem_cons_self ..⟩
  have:=Qm (a:=Z5w l) (c:=Z5x l)
  rw [show (Z5w l).Name=nR from h0] at this
  exact this
 refine ⟨AY l 1,?_,List.mem_cons_of_mem _ (List.mem_cons_self ..)⟩
 have:=Ql (a:=Z5w l) (c:=Z5x l) (by rw [show (Z5w l).Name=nR from h0,show (Z5x l).Name=nQ from h1];decide +kernel)
 rw [show (Z5x l).Name=nQ from h1] at this
 exact this
theorem UV (l:List (List Int)) {x:ByteArray} (h:x=nR\/x=nQ):((Bn (Kn l) x).1.Pads.length:Int)<=6:=by
 obtain ⟨a,e,_⟩:=OW l h
 rw [e]
 exact (Fx a x).2.2
theorem Ol (v5'':AD) (v:List Ab) (v6_4:List AF) (v10:Int) (l:List (List Int)) (v13:Int):(Z6e v5'' v v6_4 v10 l v13).length<=v.length+1/\(Z6f v5'' v v6_4 v10 l v13).length<=v.length+1/\(Z6g v5'' v v6_4 v10 l v13).length<=v.length+1:=by
 unfold Z6e Z6f Z6g
 cases decide ((AA v5'' 5).1<3) <;> cases decide ((AA v5'' 5).1=0) <;> cases decide ((AA v5'' 5).1=1) <;> simp
theorem Xw (l:List (List Int)) (v6_4:List AF) (v5:AD) (v8:Int) (a1 a3 a5:List Ab) (d1:AD) (v10:Int) (K0:List AF->AD->Int->(AG×(List AN))) (K1:List Ab->List Ab->List Ab->AD->Int->(AG×(List AN))) (Q:AG×List AN->Prop) (M:Nat) (hK:∀ a b c d,a.length<=M->b.length<=M->c.length<=M->Q (K1 a b c d (v10+1))) :
  ∀ (n:Nat) (x y z:List Ab) (d:AD) (k:Int),0<=k->(x.length:Int)+((Z65 l v6_4 v10).Pads.length-k)<=M->(y.length:Int)+((Z65 l v6_4 v10).Pads.length-k)<=M->(z.length:Int)+((Z65 l v6_4 v10).Pads.length-k)<=M->k<=(Z65 l v6_4 v10).Pads.length->(((Z65 l v6_4 v10).Pads.length:Int)-k).toNat<n->Q (D9 l v6_4 v5 v8 a1 a3 a5 d1 v10 K0 K1 n x y z d k)
 | 0,x,y,z,d,k,_,_,_,_,_,h=>absurd h (Nat.not_lt_zero _)
 | n+1,x,y,z,d,k,k0,hx,hy,hz,hk,h=>by
  unfold D9
  by_cases hc:(k:Int)<((Z65 l v6_4 v10).Pads.length:Int)
  ·rw [decide_eq_true hc,cond_true]
   have p1:=(Ol d x v6_4 v10 l k).1
   have p2:=(Ol d y v6_4 v10 l k).2.1
   have p3:=(Ol d z v6_4 v10 l k).2.2
   exact Xw l v6_4 v5 v8 a1 a3 a5 d1 v10 K0 K1 Q M hK n _ _ _ _ _ (by omega) (by omega) (by omega) (by omega) (by omega) (by omega)
  rw [decide_eq_false hc,cond_false]
  exact hK _ _ _ _ (by omega) (by omega) (by omega)
theorem Xx (l:List (List Int)) (v6_4:List AF) (v5:AD) (v8:Int) (K0:List AF->AD->Int->(AG×(List AN))) (Q:AG×List AN->Prop) (hp:Ix RB v6_4) (hm:(v6_4.length:Int)=W64 (1+(AA (AA (AD.mk (AY l 2) 0) 3).2 3).1)) (h3:v6_4.length<=3) (hQ:∀ x y z:List Ab,x.length<=18->y.length<=18->z.length<=18->Q ((Z6m l v6_4 x y z).1,Kn l)) :
  ∀ (n:Nat) (x y z:List Ab) (d:AD) (k:Int),0<=k->(x.length:Int)<=6*k->(y.length:Int)<=6*k->(z.length:Int)<=6*k->k<=(v6_4.length:Int)->((v6_4.length:Int)-k).toNat<n->Q (Dj l v6_4 v5 v8 K0 n x y z d k)
 | 0,x,y,z,d,k,_,_,_,_,_,h=>absurd h (Nat.not_lt_zero _)
 | n+1,x,y,z,d,k,k0,hx,hy,hz,hk,h=>by
  unfold Dj
  rw [<- hm]
  by_cases hc:k<(v6_4.length:Int)
  ·rw [decide_eq_true hc,cond_true]
   have hg:=UV l (hp k.toNat (by omega)).typ
   have hg:((Z65 l v6_4 k).Pads.length:Int)<=6:=hg
   exact Xw l v6_4 v5 v8 x y z d k K0 _ Q (6*(k+1)).toNat (fun a b c e ha hb hc'=>Xx l v6_4 v5 v8 K0 Q hp hm h3 hQ n a b c e (k+1) (by omega) (by omega) (by omega) (by omega) (by omega) (by omega)) _ _ _ _ _ 0 (by omega) (by omega) (by omega) (by omega) (by omega) (by omega)
  rw [decide_eq_false hc,cond_false]
  exact hQ _ _ _ (by omega) (by omega) (by omega)
theorem Xy (l:List (List Int)) (Q:AG×List AN->Prop) (hQ:∀ (v:List AF) (x y z:List Ab),Ix RB v->1<=v.length->v.length<=3->x.length<=18->y.length<=18->z.length<=18->Q ((Z6m l v x y z).1,Kn l)) :
  ∀ (n:Nat) (v:List AF) (d:AD) (k:Int),Ix RB v->(v.length:Int)=k->k<=W64 (1+(AA (AA (AD.mk (AY l 2) 0) 3).2 3).1)->(W64 (1+(AA (AA (AD.mk (AY l 2) 0) 3).2 3).1)-k).toNat<n->Q (Ci l n v d k)
 | 0,v,d,k,_,_,_,h=>absurd h (Nat.not_lt_zero _)
 | n+1,v,d,k,hv,hl,hk,h=>by
  have hn:=B5 (d:=(AA (AD.mk (AY l 2) 0) 3).2) (n:=3) (by decide) (by decide)
  have hw:W64 (1+(AA (AA (AD.mk (AY l 2) 0) 3).2 3).1)=1+(AA (AA (AD.mk (AY l 2) 0) 3).2 3).1:=Ae (by omega) (by omega)
  unfold Ci
  by_cases hc:k<W64 (1+(AA (AA (AD.mk (AY l 2) 0) 3).2 3).1)
  ·rw [decide_eq_true hc,cond_true]
   refine Xy l Q hQ n _ _ _ (SN hv ?_) (by simp only [List.length_append,List.length_cons,List.length_nil];omega) (by omega) (by omega)
   have h2:=B5 (d:=d) (n:=2) (by decide) (by decide)
   have h4:=B5 (d:=(AA d 2).2) (n:=4) (by decide) (by decide)
   have h5:=B5 (d:=Z5R d) (n:=5) (by decide) (by decide)
   have h6:=B5 (d:=(AA (Z5R d) 5).2) (n:=3) (by decide) (by decide)
   have h7:=B5 (d:=Z5U d) (n:=3) (by decide) (by decide)
   refine ⟨?_,by rw [<- hl];rfl,Yn l h2,h4,?_,?_⟩
   ·show W64 (1+k)=_
    rw [Ae (by omega) (by omega)];omega
   ·show 80<=W64 (W64 (80+W64 (100*k))+W64 (5*(AA (Z5R d) 5).1))/\W64 (W64 (80+W64 (100*k))+W64 (5*(AA (Z5R d) 5).1))<=300
    rw [Ae (x:=100*k) (by omega) (by omega),Ae (x:=80+100*k) (by omega) (by omega),Ae (x:=5*(AA (Z5R d) 5).1) (by omega) (by omega),Ae (by omega) (by omega)]
    omega
   show 100<=W64 (W64 (100+W64 (80*(AA (AA (Z5R d) 5).2 3).1))+W64 (5*(AA (Z5U d) 3).1))/\W64 (W64 (100+W64 (80*(AA (AA (Z5R d) 5).2 3).1))+W64 (5*(AA (Z5U d) 3).1))<=270
   rw [Ae (x:=80*(AA (AA (Z5R d) 5).2 3).1) (by omega) (by omega),Ae (x:=100+80*(AA (AA (Z5R d) 5).2 3).1) (by omega) (by omega),Ae (x:=5*(AA (Z5U d) 3).1) (by omega) (by omega),Ae (by omega) (by omega)]
   omega
  rw [decide_eq_false hc,cond_false]
  exact Xx l v d k _ Q hv (by omega) (by omega) (fun x y z hx hy hz=>hQ v x y z hv (by omega) (by omega) hx hy hz) _ [] [] [] _ 0 (by omega) (by simp) (by simp) (by simp) (by omega) (by omega)
theorem O1 (l:List (List Int)) (Q:AG×List AN->Prop) (hQ:∀ (v:List AF) (x y z:List Ab),Ix RB v->1<=v.length->v.length<=3->x.length<=18->y.length<=18->z.length<=18->Q ((Z6m l v x y z).1,Kn l)):Q (Ar l):=by
 have hn:=B5 (d:=(AA (AD.mk (AY l 2) 0) 3).2) (n:=3) (by decide) (by decide)
 have hw:W64 (1+(AA (AA (AD.mk (AY l 2) 0) 3).2 3).1)=1+(AA (AA (AD.mk (AY l 2) 0) 3).2 3).1:=Ae (by omega) (by omega)
 unfold Ar
 exact Xy l Q hQ _ [] _ 0 SM rfl (by omega) (by omega)
def PtB (p:AC):Prop:=(-900<=p.X/\p.X<=900) /\ -900<=p.Y/\p.Y<=900
theorem Oy {x:Int} (h : -500<=x/\x<=500) : -500<=W64 (0-x)/\W64 (0-x)<=500:=by rw [Ae (by omega) (by omega)];omega
theorem iZ {x y:Int} (h : -500<=x/\x<=500) (k : -400<=y/\y<=400) : -900<=W64 (x+y)/\W64 (x+y)<=900:=by rw [Ae (by omega) (by omega)];omega
theorem iU {m:AZ} {p:AC} (hp:(-500<=p.X/\p.X<=500) /\ -500<=p.Y/\p.Y<=500) (ha:(-400<=m.At.X/\m.At.X<=400) /\ -400<=m.At.Y/\m.At.Y<=400):PtB (Az m p):=by
 have h1:(-500<=(CB p m.Mirror).X/\(CB p m.Mirror).X<=500) /\ -500<=(CB p m.Mirror).Y/\(CB p m.Mirror).Y<=500:=by
  unfold CB
  cases m.Mirror with
  | true=>exact ⟨Oy hp.1,hp.2⟩
  | false=>exact hp
 have h2:∀ q:AC,((-500<=q.X/\q.X<=500) /\ -500<=q.Y/\q.Y<=500)->(-500<=(Bv q m.Turn).X/\(Bv q m.Turn).X<=500) /\ -500<=(Bv q m.Turn).Y/\(Bv q m.Turn).Y<=500:=fun q hq=>by
  unfold Bv
  cases decide (CP m.Turn=1) with
  | true=>exact ⟨Oy hq.2,hq.1⟩
  | false =>
   cases decide (CP m.Turn=2) with
   | true=>exact ⟨Oy hq.1,Oy hq.2⟩
   | false =>
    cases decide (CP m.Turn=3) with
    | true=>exact ⟨hq.2,Oy hq.1⟩
    | false=>exact hq
 have h3:=h2 _ h1
 exact ⟨iZ h3.1 ha.1,iZ h3.2 ha.2⟩
theorem jO (b:AG) (l:List (List Int)) (d:AD) (hP:Ix RB b.Parts):PtB (Bj b (Kn l) d).1:=by
 have h12:=B5 (d:=d) (n:=12) (by decide) (by decide)
 have h6:=B5 (d:=(AA d 12).2) (n:=6) (by decide) (by decide)
 unfold Bj
 cases hq:(bif decide ((AA d 12).1<8) then decide ((0:Int)<(b.Parts.length:Int)) else false) with
 | true =>
  have hi:=TG hq
  rw [cond_true]
  show PtB (Z1y b d (Kn l))
  have hp:=hP (Int.tmod (AA d 12).1 (b.Parts.length:Int)).toNat (by omega)
  obtain ⟨a,e,_⟩:=OW l hp.typ
  have hx:=hp.x
  have hy:=hp.y
  unfold Z1y
  refine iU ?_ (by show (-400<=(Z1w b d).At.X/\(Z1w b d).At.X<=400) /\ -400<=(Z1w b d).At.Y/\(Z1w b d).At.Y<=400;unfold Z1w;omega)
  unfold Z1x Z1w
  rw [e]
  generalize (Int.tmod (AA (AA d 12).2 6).1 _).toNat=k
  by_cases hk:k<(BB a (b.Parts.getD (Int.tmod (AA d 12).1 (b.Parts.length:Int)).toNat default).Type').Pads.length
  ·obtain ⟨h1,_,_,y,hy0,hy1,hat,_⟩:=My a _ k hk
   show (-500<=((BB a (b.Parts.getD (Int.tmod (AA d 12).1 (b.Parts.length:Int)).toNat default).Type').Pads.getD k default).At.X/\_)/\_
   rw [hat]
   simp only
   omega
  rw [List.getD_eq_getElem?_getD,List.getElem?_eq_none (by show (BB a (b.Parts.getD (Int.tmod (AA d 12).1 (b.Parts.length:Int)).toNat default).Type').Pads.length<=k;omega)]
  exact (by decide:(-500<=(0:Int)/\(0:Int)<=500) /\ -500<=(0:Int)/\(0:Int)<=500)
 | false =>
  rw [cond_false]
  show (-900<=W64 (30+Int.tmod (W64 (40*(AA d 12).1)) 360)/\W64 (30+Int.tmod (W64 (40*(AA d 12).1)) 360)<=900) /\ -900<=W64 (30+W64 (60*(AA (AA d 12).2 6).1))/\W64 (30+W64 (60*(AA (AA d 12).2 6).1))<=900
  rw [Ae (x:=40*(AA d 12).1) (by omega) (by omega),Int.tmod_eq_emod_of_nonneg (by omega),Ae (x:=60*(AA (AA d 12).2 6).1) (by omega) (by omega),Ae (by omega) (by omega),Ae (by omega) (by omega)]
  omega
structure Pb (k:Nat) (t:AV):Prop where
 id:t.Id=11+(k:Int)
 lay:1<=t.Layer/\t.Layer<=2
 kind:t.Shape.Kind=1
 r:3<=t.Shape.R/\t.Shape.R<=6
 edg:∃ a c d,PtB a/\PtB c/\t.Shape.Edges=(Cc a c d).1
structure nB (k:Nat) (v:Aw):Prop where
 id:v.Id=21+(k:Int)
 lay:v.From=1/\v.To=2
 r:6<=v.R/\v.R<=10
 at_:PtB v.At
 drill:4<=v.Drill/\v.Drill<=8
def pA (s:Aj):Prop:=∃ r p,3<=r/\r<=6/\PtB p/\s.Shape=AO.mk 1 [E5 p (AC.mk (W64 (p.X+25)) (W64 (p.Y+10)))] r
def Yc (p:BZ):Prop:=p.Rects.length<=2
def Yd (p:C4):Prop:=p.Shape.Edges.length=4
abbrev YY (b:AG) (types:List AN):Prop:=∀ d,PtB (Bj (AG.mk b.Layers b.Outline b.Parts [] [] [] [] [] [] [] [] [] []) types d).1
abbrev nD (b:AG) (Q:AG->Prop):Prop:=∀ (v1:List AV) (v2:List Aw) (v3:List BZ) (v4:List C4) (v5:List Aj),Ix Pb v1->v1.length<=5->Ix nB v2->v2.length<=2->v3.length<=2->v4.length<=1->v5.length<=1->(∀ s∈v5,pA s)->(∀ p∈v3,Yc p)->(∀ p∈v4,Yd p)->Q (AG.mk b.Layers b.Outline b.Parts b.Nets v1 v2 v3 v4 v5 [] [] [] [])
theorem eG (b:AG) (types:List AN) (l:List (List Int)) (v1:List AV) (v6:AD) (v7:ByteArray) (v9:Int) (v2:List Aw) (v6':AD) (v11:Int) (K0:List AV->AD->ByteArray->Int->AG) (K1:List Aw->AD->Int->AG) (Q:AG->Prop) (hs:YY b types) (hQ:nD b Q) (h1:Ix Pb v1) (h1l:v1.length<=5) (h2:Ix nB v2) (h2l:v2.length<=2) :
  ∀ (n:Nat) (v:List BZ) (d:AD) (k:Int),(∀ p∈v,Yc p)->0<=k->(v.length:Int)<=k->k<=(AA v6' 3).1->((AA v6' 3).1-k).toNat<n->Q (B2 b types l v1 v6 v7 v9 v2 v6' v11 K0 K1 n v d k)
 | 0,v,d,k,_,_,_,_,h=>absurd h (Nat.not_lt_zero _)
 | n+1,v,d,k,hv,k0,kv,kk,h=>by
  have hb:=B5 (d:=v6') (n:=3) (by decide) (by decide)
  unfold B2
  by_cases hc:k<(AA v6' 3).1
  ·rw [decide_eq_true hc,cond_true]
   exact eG b types l v1 v6 v7 v9 v2 v6' v11 K0 K1 Q hs hQ h1 h1l h2 h2l n _ _ _ (fun p hp=>by
    rcases List.mem_append.1 hp with hp | hp
    ·exact hv p hp
    rw [List.mem_singleton.1 hp]
    show (Z2U b d).length<=2
    unfold Z2U
    cases decide ((AA (AA (Z2M b d) 6).2 3).1=0) <;> simp) (by omega) (by simp only [List.length_append,List.length_cons,List.length_nil];omega) (by omega) (by omega)
  rw [decide_eq_false hc,cond_false]
  have h4:(Z1R l b types).length<=1:=by
   unfold Z1R
   cases decide ((AA (AD.mk (AY l 6) 0) 3).1=0) <;> simp
  have h4k:∀ p∈Z1R l b types,Yd p:=by
   unfold Z1R
   cases decide ((AA (AD.mk (AY l 6) 0) 3).1=0) with
   | true=>intro p hp;rw [cond_true] at hp;rw [List.mem_singleton.1 hp];rfl
   | false=>intro p hp;cases hp
  cases decide ((AA (Z1Q l b types) 3).1=0) with
  | true =>
   rw [cond_true]
   refine hQ _ _ _ _ _ h1 h1l h2 h2l (by omega) h4 (by simp) (fun s hm => ?_) hv h4k
   rw [List.mem_singleton.1 hm]
   have hr:=B5 (d:=Z1W b types l) (n:=4) (by decide) (by decide)
   exact ⟨W64 (3+(AA (Z1W b types l) 4).1),Z1X b types l,by rw [Ae (by omega) (by omega)];omega,by rw [Ae (by omega) (by omega)];omega,hs _,rfl⟩
  | false =>
   rw [cond_false]
   exact hQ _ _ _ _ _ h1 h1l h2 h2l (by omega) h4 (by simp) (fun s hm=>by cases hm) hv h4k
theorem eI (b:AG) (types:List AN) (l:List (List Int)) (v1:List AV) (v6:AD) (v7:ByteArray) (v9:Int) (K0:List AV->AD->ByteArray->Int->AG) (Q:AG->Prop) (hs:YY b types) (hQ:nD b Q) (h1:Ix Pb v1) (h1l:v1.length<=5) :
  ∀ (n:Nat) (v:List Aw) (d:AD) (k:Int),Ix nB v->(v.length:Int)=k->k<=(AA (AD.mk (AY l 5) 0) 3).1->((AA (AD.mk (AY l 5) 0) 3).1-k).toNat<n->Q (CC b types l v1 v6 v7 v9 K0 n v d k)
 | 0,v,d,k,_,_,_,h=>absurd h (Nat.not_lt_zero _)
 | n+1,v,d,k,hv,kv,kk,h=>by
  have hb:=B5 (d:=AD.mk (AY l 5) 0) (n:=3) (by decide) (by decide)
  unfold CC
  by_cases hc:k<(AA (AD.mk (AY l 5) 0) 3).1
  ·rw [decide_eq_true hc,cond_true]
   refine eI b types l v1 v6 v7 v9 K0 Q hs hQ h1 h1l n _ _ _ (SN hv ?_) (by simp only [List.length_append,List.length_cons,List.length_nil];omega) (by omega) (by omega)
   have h5:=B5 (d:=Z2r b types d) (n:=5) (by decide) (by decide)
   have h3:=B5 (d:=(AA (Z2r b types d) 5).2) (n:=3) (by decide) (by decide)
   refine ⟨?_,⟨rfl,rfl⟩,?_,hs _,?_⟩
   ·show W64 (21+k)=_
    rw [Ae (by omega) (by omega)];omega
   ·show 6<=W64 (6+_)/\W64 (6+_)<=10
    rw [Ae (by omega) (by omega)];omega
   show 4<=W64 (4+W64 (2*_))/\W64 (4+W64 (2*_))<=8
   rw [Ae (x:=2*_) (by omega) (by omega),Ae (by omega) (by omega)];omega
  rw [decide_eq_false hc,cond_false]
  have hd:=B5 (d:=d) (n:=3) (by decide) (by decide)
  exact eG b types l v1 v6 v7 v9 v d k K0 _ Q hs hQ h1 h1l hv (by omega) _ [] _ 0 (fun p hp=>by cases hp) (by omega) (by simp) (by omega) (by omega)
theorem eJ (b:AG) (types:List AN) (l:List (List Int)) (Q:AG->Prop) (hs:YY b types) (hQ:nD b Q) :
  ∀ (n:Nat) (v:List AV) (d:AD) (s:ByteArray) (k:Int),Ix Pb v->(v.length:Int)=k->k<=(AA (Z1C b l) 6).1->((AA (Z1C b l) 6).1-k).toNat<n->Q (Bu b types l n v d s k)
 | 0,v,d,s,k,_,_,_,h=>absurd h (Nat.not_lt_zero _)
 | n+1,v,d,s,k,hv,kv,kk,h=>by
  have hb:=B5 (d:=Z1C b l) (n:=6) (by decide) (by decide)
  unfold Bu
  by_cases hc:k<(AA (Z1C b l) 6).1
  ·rw [decide_eq_true hc,cond_true]
   refine eJ b types l Q hs hQ n _ _ _ _ (SN hv ?_) (by simp only [List.length_append,List.length_cons,List.length_nil];omega) (by omega) (by omega)
   have h2:=B5 (d:=d) (n:=2) (by decide) (by decide)
   have h4:=B5 (d:=(AA d 2).2) (n:=4) (by decide) (by decide)
   refine ⟨?_,?_,rfl,?_,_,_,_,?_,?_,rfl⟩
   ·show W64 (11+k)=_
    rw [Ae (by omega) (by omega)];omega
   ·show 1<=W64 (1+_)/\W64 (1+_)<=2
    rw [Ae (by omega) (by omega)];omega
   ·show 3<=W64 (3+_)/\W64 (3+_)<=6
    rw [Ae (by omega) (by omega)];omega
   ·exact hs _
   exact hs _
  rw [decide_eq_false hc,cond_false]
  exact eI b types l v d s k _ Q hs hQ hv (by omega) _ [] _ 0 SM rfl (by have:=B5 (d:=AD.mk (AY l 5) 0) (n:=3) (by decide) (by decide);omega) (by omega)
theorem lN (b:AG) (types:List AN) (l:List (List Int)) (Q:AG->Prop) (hs:YY b types) (hQ:nD b Q):Q (Bl b types l):=by
 have hb:=B5 (d:=Z1C b l) (n:=6) (by decide) (by decide)
 unfold Bl
 exact eJ b types l Q hs hQ _ [] _ _ 0 SM rfl (by omega) (by omega)
structure Fp (B:AG) (T:List AN) (l:List (List Int)):Prop where
 lay:B.Layers=2
 types:T=Kn l
 par:Ix RB B.Parts
 parl:1<=B.Parts.length/\B.Parts.length<=3
 net:∃ p q r,B.Nets=[Bz.mk nN1 p,Bz.mk nN2 q,Bz.mk nGND r]/\p.length<=18/\q.length<=18/\r.length<=18
 trk:Ix Pb B.Tracks
 trkl:B.Tracks.length<=5
 via:Ix nB B.Vias
 vial:B.Vias.length<=2
 slot:∀ s∈B.Slots,pA s
 slotl:B.Slots.length<=1
 poul:B.Pours.length<=2
 keel:B.Keeps.length<=1
 pour:∀ p∈B.Pours,Yc p
 keep:∀ p∈B.Keeps,Yd p
theorem rD {α:Type} {c:Bool} {a b:AG×α} {T:List AN} {l:List (List Int)} (h:Fp a.1 T l) (k:Fp b.1 T l):Fp (bif c then a else b).1 T l:=by cases c <;> assumption
theorem SH (l:List (List Int)):Fp (Ar l).1 (Ar l).2 l:=by
 refine O1 l (fun x=>Fp x.1 x.2 l) fun v x y z hv h1 h3 hx hy hz => ?_
 show Fp (Z6m l v x y z).1 (Kn l) l
 unfold Z6m
 have ho:=lN (AG.mk 2 (Z5E l) v [Bz.mk nN1 x,Bz.mk nN2 y,Bz.mk nGND z] [] [] [] [] [] [] [] [] []) (Kn l) l
  (fun B=>Fp B (Kn l) l) (fun d=>jO _ l d hv) (fun v1 v2 v3 v4 v5 a b c e f g h i j k=>⟨rfl,rfl,hv,⟨h1,h3⟩,⟨x,y,z,rfl,hx,hy,hz⟩,a,b,c,e,i,h,f,g,j,k⟩)
 have ho:Fp (Z6k l v x y z) (Kn l) l:=ho
 obtain ⟨a1,a2,a3,a4,a5,a6,a7,a8,a9,a10,a11,a12,a13,a14,a15⟩:=ho
 unfold C5
 exact rD ⟨a1,a2,a3,a4,a5,a6,a7,a8,a9,a10,a11,a12,a13,a14,a15⟩ ⟨a1,a2,a3,a4,a5,a6,a7,a8,a9,a10,a11,a12,a13,a14,a15⟩
def C27 (x:Int):Prop := -67108864<=x/\x<=67108864
def RP (p:AC):Prop:=C27 p.X/\C27 p.Y
instance (x:Int):Decidable (C27 x):=by unfold C27;infer_instance
instance (p:AC):Decidable (RP p):=by unfold RP;infer_instance
def Odd (e:AK):Prop:=¬ (e.A.X-e.C.X=0↔e.A.Y-e.C.Y=0)
def QL (e:AK):Prop:=Odd e/\e.B.X-e.C.X = -(e.A.Y-e.C.Y)/\e.B.Y-e.C.Y=e.A.X-e.C.X
def QR (e:AK):Prop:=Odd e/\e.B.X-e.C.X=e.A.Y-e.C.Y/\e.B.Y-e.C.Y = -(e.A.X-e.C.X)
def Wt (e:AK):Prop:=RP e.A/\RP e.B/\RP e.C
def sL (e:AK):Prop:=(e.Kind=1/\e.C.X=0/\e.C.Y=0)\/(e.Kind=2/\QL e)\/(e.Kind=3/\QR e)
def OkE (e:AK):Prop:=Wt e/\sL e
instance (e:AK):Decidable (QL e):=by unfold QL Odd;infer_instance
instance (e:AK):Decidable (QR e):=by unfold QR Odd;infer_instance
instance (e:AK):Decidable (Wt e):=by unfold Wt;infer_instance
instance (e:AK):Decidable (sL e):=by unfold sL;infer_instance
instance (e:AK):Decidable (OkE e):=by unfold OkE;infer_instance
def cr (a b p:AC):Int:=(b.X-a.X)*(p.Y-a.Y)-(b.Y-a.Y)*(p.X-a.X)
def d2 (p c:AC):Int:=(p.X-c.X)*(p.X-c.X)+(p.Y-c.Y)*(p.Y-c.Y)
def InB (e:AK) (p:AC):Prop:=(min e.A.X e.B.X<=p.X/\p.X<=max e.A.X e.B.X)/\min e.A.Y e.B.Y<=p.Y/\p.Y<=max e.A.Y e.B.Y
instance (e:AK) (p:AC):Decidable (InB e p):=by unfold InB;infer_instance
def Ml (e:AK):Prop:=e.C.X<e.A.X\/e.C.X<e.B.X
instance (e:AK):Decidable (Ml e):=by unfold Ml;infer_instance
def Bey (e:AK) (p:AC):Prop:=if e.Kind=1 then (if e.A.Y<e.B.Y then 0<cr e.A e.B p else cr e.A e.B p<0) else if Ml e then d2 p e.C<d2 e.A e.C else d2 e.A e.C<d2 p e.C
instance (e:AK) (p:AC):Decidable (Bey e p):=by unfold Bey;infer_instance
def InR (e:AK) (p:AC):Prop:=(min e.A.Y e.B.Y<=p.Y/\p.Y<max e.A.Y e.B.Y)/\p.X<max e.A.X e.B.X
instance (e:AK) (p:AC):Decidable (InR e p):=by unfold InR;infer_instance
theorem T8 (s:AO) (m:AZ):∀ (n k:Nat) (l:List AK),k<=s.Edges.length->s.Edges.length-k<n->l=(s.Edges.take k).map (fun e=>D1 e m)++s.Edges.drop k->Eh s m n l (k:Int)=⟨s.Kind,s.Edges.map (fun e=>D1 e m),s.R⟩
 | 0,k,l,hk,hn,_=>by omega
 | n+1,k,l,hk,hn,hl=>by
  unfold Eh
  by_cases hlt:k<s.Edges.length
  ·rw [decide_eq_true (show (k:Int)<((s.Edges.length:Nat):Int) by omega)]
   simp only [cond_true,Int.toNat_natCast]
   rw [show ((k:Int)+1)=((k+1:Nat):Int) by omega]
   refine T8 s m n (k+1) _ (by omega) (by omega) ?_
   subst hl
   have hlen:((s.Edges.take k).map (fun e=>D1 e m)).length=k:=by simp;omega
   have hd:s.Edges.drop k=s.Edges[k]::s.Edges.drop (k+1):=List.drop_eq_getElem_cons hlt
   rw [hd]
   have h1:((s.Edges.take k).map (fun e=>D1 e m)++s.Edges[k]::s.Edges.drop (k+1)).getD k default=s.Edges[k]:=by
    rw [List.getD_eq_getElem?_getD,List.getElem?_append_right (by omega),hlen,Nat.sub_self];rfl
   rw [h1,List.set_append_right _ _ (by omega),hlen,Nat.sub_self,List.set_cons_zero,List.take_succ_eq_append_getElem hlt,List.map_append,List.append_assoc]
   rfl
  rw [decide_eq_false (show ¬ (k:Int)<((s.Edges.length:Nat):Int) by omega)]
  subst hl
  rw [List.drop_of_length_le (by omega),List.take_of_length_le (by omega),List.append_nil]
  rfl
theorem eX (s:AO) (m:AZ):Em s m=⟨s.Kind,s.Edges.map (fun e=>D1 e m),s.R⟩:=by
 unfold Em
 have:=T8 s m ((((s.Edges.length:Nat):Int)-0).toNat+1) 0 s.Edges (by omega) (by omega) (by simp)
 exact this
theorem ZU (s:AO) (m:AZ):(Em s m).Edges.length=s.Edges.length:=by rw [eX];simp
structure Mat where
 a:Int
 b:Int
 c:Int
 d:Int
def Mat.ok (M:Mat) (s:Int):Prop:=(M.a=0/\M.d=0/\(M.b=1\/M.b = -1)/\M.c = -s*M.b)\/(M.b=0/\M.c=0/\(M.a=1\/M.a = -1)/\M.d=s*M.a)
theorem J5 {α:Type} [Inhabited α] (lt:α->α->Bool) (l:List α) (h:∀ k,k+1<l.length->lt (l.getD (k+1) default) (l.getD k default)=false):CS lt l=l:=by
 have key:∀ n,n<=l.length->CS lt (l.take n)=l.take n:=by
  intro n
  induction n with
  | zero=>intro _;rfl
  | succ n ih =>
   intro hn
   have e:l.take (n+1)=l.take n++[l.getD n default]:=by
    rw [List.take_succ_eq_append_getElem (by omega),List.getD_eq_getElem?_getD,List.getElem?_eq_getElem (by omega)];rfl
   rw [e,M9,ih (by omega)]
   have hl:(l.take n).length=n:=by rw [List.length_take];omega
   have hp:Ih (lt (l.getD n default)) (l.take n) (l.take n).length=n:=by
    rw [hl]
    cases n with
    | zero=>rfl
    | succ m =>
     unfold Ih
     rw [show (l.take (m+1)).getD m default=l.getD m default by rw [List.getD_eq_getElem?_getD,List.getElem?_take_of_lt (by omega),<- List.getD_eq_getElem?_getD],h m (by omega)]
     rfl
   unfold UL
   rw [hp,List.take_of_length_le (by omega),List.drop_eq_nil_of_le (by omega)]
 have:=key l.length (Nat.le_refl _)
 rwa [List.take_length] at this
theorem Sb {x y:Int} (h:y<=x):decide (Cd x y<0)=false:=by
 unfold Cd I4
 by_cases h2:y<x
 ·simp [show ¬ x<y by omega,h2]
 simp [show ¬ x<y by omega,h2]
theorem WN {B:AG} {T:List AN} {l:List (List Int)} (h:Fp B T l):CK B.Parts=B.Parts:=by
 rw [jJ]
 exact J5 _ _ fun k hk=>Sb (by rw [(h.par k (by omega)).id,(h.par (k+1) hk).id];omega)
theorem fA {B:AG} {T:List AN} {l:List (List Int)} (h:Fp B T l) {p:AF} (hp:p∈B.Parts):∃ a,BA T p.Type'=(BB a p.Type',true):=by
 obtain ⟨k,_,_,hm⟩:=O3 h.par hp
 obtain ⟨a,e,_⟩:=OW l hm.typ
 rw [<- RW,h.types]
 exact ⟨a,e⟩
theorem ZX {B:AG} {T:List AN} {l:List (List Int)} (h:Fp B T l) {x:AF×BH} (hx:x∈B.Parts.flatMap (D4 T)):x.1∈B.Parts/\∃ k,jC k x.2:=by
 obtain ⟨p,hp,hx⟩:=List.mem_flatMap.1 hx
 obtain ⟨a,e⟩:=fA h hp
 unfold D4 at hx
 rw [e] at hx
 obtain ⟨q,hq,rfl⟩:=List.mem_map.1 hx
 obtain ⟨k,_,_,hm⟩:=O3 (My a p.Type') hq
 exact ⟨hp,k,hm⟩
theorem Yz (r:Ad):(HP r).Edges.length=4:=rfl
theorem dM {k:Nat} {p:BH} (h:jC k p):(p.Shape.Edges.length:Int)<=1000000:=by
 obtain ⟨y,_,_,_,h1 | ⟨r,_,_,h1⟩ | h1⟩:=h.shp <;> rw [h1]
 ·rw [Yz];decide
 ·show ((1:Nat):Int)<=1000000;decide
 show ((1:Nat):Int)<=1000000;decide
theorem LW (l:List (List Int)):HV (Ar l).1:=by
 have h:=SH l
 obtain ⟨p,q,r,e,h1,h2,h3⟩:=h.net
 refine ⟨by have:=h.parl;omega,by have:=h.trkl;omega,by have:=h.vial;omega,by have:=h.slotl;omega,?_,?_,?_,?_⟩
 ·rw [e];show ((3:Nat):Int)<=1000000;decide
 ·rw [e]
  intro n hn
  simp only [List.mem_cons,List.not_mem_nil,or_false] at hn
  rcases hn with rfl | rfl | rfl <;> (simp only;omega)
 ·intro t ht
  obtain ⟨k,hk,_,hm⟩:=O3 h.trk ht
  obtain ⟨a,c,d,_,_,e2⟩:=hm.edg
  rw [e2]
  have:=Ma a c d
  omega
 intro s hs
 obtain ⟨r,p,_,_,_,e2⟩:=h.slot s hs
 rw [e2]
 show ((1:Nat):Int)<=1000000
 decide
def pI (t:AV):AL:=AL.mk t.Id ⟨#[]⟩ 2 t.Net t.Layer t.Layer (GG t.Shape)
def bT (v:Aw):AL:=AL.mk v.Id ⟨#[]⟩ 3 v.Net v.From v.To (Bs v.At v.R)
theorem Yh (b:AG) (types:List AN):DJ b types=Du b types++(BJ b).map pI++(BV b).map bT:=by
 have h1:∀ out v16 K0 ,GJ b types out v16 K0 (((((BV b).length:Nat):Int)-0).toNat+1) out 0=out++(BV b).map bT:=fun out v16 K0=>by
  have:=Ky (BV b) (fun acc v=>acc++[bT v]) (GJ b types out v16 K0) (fun acc _=>acc) (fun m acc v=>by rw [GJ];unfold Z0D;rw [Int.toNat_natCast];rfl) (BV b).length 0 (((((BV b).length:Nat):Int)-0).toNat+1) out rfl (Nat.zero_le _) (by omega)
  rw [List.drop_zero,Gw] at this
  exact this
 have:=Ky (BJ b) (fun acc t=>acc++[pI t]) (E1 b types) (fun acc _=>acc++(BV b).map bT) (fun m acc v=>by rw [E1,h1];unfold Z0E;rw [Int.toNat_natCast];rfl) (BJ b).length 0 (((((BJ b).length:Nat):Int)-0).toNat+1) (Du b types) rfl (Nat.zero_le _) (by omega)
 rw [List.drop_zero,Gw] at this
 exact this
theorem UE {B:AG} {T:List AN} {l:List (List Int)} (h:Fp B T l):BJ B=B.Tracks:=by
 rw [LD]
 exact J5 _ _ fun k hk=>by
  show decide (Cd (B.Tracks.getD (k+1) default).Id (B.Tracks.getD k default).Id<0)=false
  exact Sb (by rw [(h.trk k (by omega)).id,(h.trk (k+1) hk).id];omega)
theorem QW {B:AG} {T:List AN} {l:List (List Int)} (h:Fp B T l):BV B=B.Vias:=by
 rw [Ut]
 exact J5 _ _ fun k hk=>by
  show decide (Cd (B.Vias.getD (k+1) default).Id (B.Vias.getD k default).Id<0)=false
  exact Sb (by rw [(h.via k (by omega)).id,(h.via (k+1) hk).id];omega)
theorem fB {B:AG} {T:List AN} {l:List (List Int)} (h:Fp B T l):DJ B T=(B.Parts.flatMap (D4 T)).map (O6 B (eV B))++B.Tracks.map pI++B.Vias.map bT:=by
 rw [Yh,Pp,UE h,QW h]
 unfold AU
 rw [WN h]
theorem mA {B:AG} {T:List AN} {l:List (List Int)} (h:Fp B T l) (hb:HV B):∀ x∈DJ B T,(x.Shape.Edges.length:Int)<=1000000:=by
 intro x hx
 rw [fB h] at hx
 rcases List.mem_append.1 hx with hx | hx
 ·rcases List.mem_append.1 hx with hx | hx
  ·obtain ⟨y,hy,rfl⟩:=List.mem_map.1 hx
   obtain ⟨_,k,hm⟩:=ZX h hy
   show ((Em y.2.Shape _).Edges.length:Int)<=_
   rw [ZU]
   exact dM hm
  obtain ⟨y,hy,rfl⟩:=List.mem_map.1 hx
  exact hb.ted y hy
 obtain ⟨y,hy,rfl⟩:=List.mem_map.1 hx
 show ((1:Nat):Int)<=1000000;decide
theorem UJ (l:List (List Int)):∀ k,(((DJ (Ar l).1 (Ar l).2).getD k default).Shape.Edges.length:Int)<=1000000:=Eb (p:=fun x:AL=>(x.Shape.Edges.length:Int)<=1000000) (by decide) (mA (SH l) (LW l))
theorem YT (l:List (List Int)):((DJ (Ar l).1 (Ar l).2).length:Int)<=100000000:=by
 have h:=LW l
 have h1:=Gt h.parts (O0 l)
 have h2:=h.tracks
 have h3:=h.vias
 rw [Yh]
 simp only [List.length_append,List.length_map,RN,Js,KF]
 omega
section
open Go.RowKit
def DY (op:Int) (tx:ByteArray) (n:Int) (bx:Ad):Bool:=true
variable (op:Int) (tx:ByteArray) (b:AG) (n xop:Int) (xtx:ByteArray) (bx:Ad) (xn yop:Int) (xbx:Ad) (ytx:ByteArray) (l:List Ad) (yn i:Int) (r:A0) (v10 v11 v15 v17 v5 v6 v7 v8:Int) (ybx:Ad)
abbrev P7:Bool:=decide (bx.X0=bx.X0)&&(decide (bx.Y0=bx.Y0)&&(decide (bx.X1=bx.X1)&&(decide (bx.Y1=bx.Y1)&&true)))
abbrev W5:=tx.toList==tx.toList
abbrev JT:=(bif bif bif !decide ((op:Int)=op) then true else !(W5 tx) then true else !decide ((n:Int)=n) then true else !(P7 bx))
abbrev Rr:List (Nat×Tv):=[(2,tP 2 0),(3,tP 3 0),(40,tB (bif bif bif bif !decide ((op:Int)=op) then true else !(W5 tx) then true else !decide ((n:Int)=n) then true else !(P7 bx) then true else false))]
abbrev Rp:=(bif bif !decide ((op:Int)=op) then true else !(W5 tx) then true else !decide ((n:Int)=n))
abbrev Rg:=(bif !decide ((op:Int)=op) then true else !(W5 tx))
abbrev GX (t_:List Cl):List Cl:=(.i op)::(.s tx)::(.i n)::(.i bx.X0)::(.i bx.Y0)::(.i bx.X1)::(.i bx.Y1)::t_
theorem Rz  (op:Int) (tx:ByteArray) (n:Int) (bx:Ad):FV Tryz.prog 128 [.agg [.i op,.s tx,.i n,.i bx.X0,.i bx.Y0,.i bx.X1,.i bx.Y1,vN],.agg [.i op,.s tx,.i n,.i bx.X0,.i bx.Y0,.i bx.X1,.i bx.Y1,vN]] (tO (.b (DY op tx n bx))):=by
 refine pwf Tryz.func128 fun W0 M0 => ?_
 refine AB<|on<|AB<|AB<|rc [] (i5 (!decide ((op:Int)=op)) (i5 (Rg op tx) (i5 (Rp op tx n) (i2 (JT op tx n bx) (i5 (JT op tx n bx) []))))) ⟨(Rr op tx n bx),[(2,.cells ((GX op tx n bx [vN])) 145),(3,.cells ((GX op tx n bx [vN])) 145)]⟩ .nil (c5 (c5 (c5 (c2 (c5 .nil)))))<|AE ?_
 have h1:(bif bif bif bif !decide ((op:Int)=op) then true else !(tx.toList==tx.toList) then true else !decide ((n:Int)=n) then true else !(P7 bx) then true else false)=false:=(by simp)
 refine Ap _ rfl (fun h=>absurd (h1.symm.trans h) (by decide)) (fun _ => ?_)
 exact AQ<|AE<|AB<|AB<|rn ⟨MJ,[(2,.cells ((GX op tx n bx [vN])) 145),(3,.cells ((GX op tx n bx [vN])) 145)]⟩<|AM<|EF 1<|CA<|AB<|AB<|on<|DS kr<|An<|Ai<|Ai<|Ao<|AE<|AB<|on<|AW<|zl (by simp only [DY,h1,cond_true,cond_false] <;> kernel_rfl)
abbrev JG (t_:List Cl):List Cl:=(.i xop)::(.s xtx)::(.i xn)::(.i xbx.X0)::(.i xbx.Y0)::(.i xbx.X1)::(.i xbx.Y1)::t_
def Z6u:CT:=(128,[.agg ((JG xop xtx xn xbx [vN])),.agg ((JG xop xtx xn xbx [vN]))],.val [] (tB (DY xop xtx xn xbx)))
def Yg (xop:Int) (xtx:ByteArray) (xn:Int) (xbx:Ad) (op:Int) (tx:ByteArray) (n:Int) (bx:Ad):Bool:=true
abbrev XD (op:Int) (tx:ByteArray) (n:Int) (bx:Ad) (xop:Int) (xtx:ByteArray) (xn:Int) (xbx:Ad):List (Nat×Blk):=[(2,.cells (GX op tx n bx [.list false 8 1 (BG 8 1 ((JG xop xtx xn xbx [vN])))]) 145),(3,.cells (GX op tx n bx [.list false 8 1 (BG 8 1 ((JG xop xtx xn xbx [vN])))]) 145)]
theorem kL  (xop:Int) (xtx:ByteArray) (xn:Int) (xbx:Ad) (op:Int) (tx:ByteArray) (n:Int) (bx:Ad):FV Tryz.prog 128 [.agg [.i op,.s tx,.i n,.i bx.X0,.i bx.Y0,.i bx.X1,.i bx.Y1,.list false 8 1 (BG 8 1 [.i xop,.s xtx,.i xn,.i xbx.X0,.i xbx.Y0,.i xbx.X1,.i xbx.Y1,vN])],.agg [.i op,.s tx,.i n,.i bx.X0,.i bx.Y0,.i bx.X1,.i bx.Y1,.list false 8 1 (BG 8 1 [.i xop,.s xtx,.i xn,.i xbx.X0,.i xbx.Y0,.i xbx.X1,.i xbx.Y1,vN])]] (tO (.b (Yg xop xtx xn xbx op tx n bx))):=by
 refine pwf Tryz.func128 fun W0 M0 => ?_
 refine AB<|on<|AB<|AB<|rc [] (i5 (!decide ((op:Int)=op)) (i5 (Rg op tx) (i5 (Rp op tx n) (i2 (JT op tx n bx) (i5 (JT op tx n bx) []))))) ⟨(Rr op tx n bx),(XD op tx n bx xop xtx xn xbx)⟩ .nil (c5 (c5 (c5 (c2 (c5 .nil)))))<|AE ?_
 have h1:(bif bif bif bif !decide ((op:Int)=op) then true else !(tx.toList==tx.toList) then true else !decide ((n:Int)=n) then true else !(P7 bx) then true else false)=false:=(by simp [DY])
 refine Ap _ rfl (fun h=>absurd (h1.symm.trans h) (by decide)) (fun _ => ?_)
 refine AQ<|AE<|AB<|AB<|rn ⟨MJ,(XD op tx n bx xop xtx xn xbx)⟩<|AM<|EF 2<|CA<|AB<|AB<|on<|Cg kr<|AQ<|AE<|AB<|AM<|AB<|dO [] [(58,(Z6u xop xtx xn xbx))] [0<=(0:Int)/\(0:Int)<((1:Nat):Int),0<=(0:Int)/\(0:Int)<((1:Nat):Int),none] ⟨[(2,tP 2 0),(3,tP 3 0),(5,tI 0),(59,tB (!(DY xop xtx xn xbx)))],(XD op tx n bx xop xtx xn xbx)⟩ (.cons (cPu<|Rz xop xtx xn xbx) .nil) (H2 au0 au0)<|AE ?_
 have h2:(!(DY xop xtx xn xbx))=false:=(by simp [DY])
 refine Ap _ rfl (fun h=>absurd (h2.symm.trans h) (by decide)) (fun _ => ?_)
 exact AQ<|A3<|AE<|rn ⟨[(2,tP 2 0),(3,tP 3 0),(5,tI 1)],(XD op tx n bx xop xtx xn xbx)⟩<|CA<|AB<|AB<|on<|DS kr<|An<|Ai<|Ai<|Ao<|AE<|AB<|on<|AW<|zl (by simp only [Yg,h1,h2,cond_true,cond_false] <;> kernel_rfl)
def Z6v:CT:=(128,[.agg ((JG xop xtx xn xbx [vN])),.agg ((JG xop xtx xn xbx [vN]))],.val [] (tB (DY xop xtx xn xbx)))
def Z6w:CT:=(128,[.agg [.i yop,.s ytx,.i yn,.i ybx.X0,.i ybx.Y0,.i ybx.X1,.i ybx.Y1,vN],.agg [.i yop,.s ytx,.i yn,.i ybx.X0,.i ybx.Y0,.i ybx.X1,.i ybx.Y1,vN]],.val [] (tB (DY yop ytx yn ybx)))
def Yf (xop:Int) (xtx:ByteArray) (xn:Int) (xbx:Ad) (yop:Int) (ytx:ByteArray) (yn:Int) (ybx:Ad) (op:Int) (tx:ByteArray) (n:Int) (bx:Ad):Bool:=true
abbrev Yi (op:Int) (tx:ByteArray) (n:Int) (bx:Ad) (xop:Int) (xtx:ByteArray) (xn:Int) (xbx:Ad) (yop:Int) (ytx:ByteArray) (yn:Int) (ybx:Ad):List (Nat×Blk):=[(2,.cells (GX op tx n bx [.list false 8 2 (BG 8 2 (JG xop xtx xn xbx [vN,.i yop,.s ytx,.i yn,.i ybx.X0,.i ybx.Y0,.i ybx.X1,.i ybx.Y1,vN]))]) 145),(3,.cells (GX op tx n bx [.list false 8 2 (BG 8 2 (JG xop xtx xn xbx [vN,.i yop,.s ytx,.i yn,.i ybx.X0,.i ybx.Y0,.i ybx.X1,.i ybx.Y1,vN]))]) 145)]
theorem kK  (xop:Int) (xtx:ByteArray) (xn:Int) (xbx:Ad) (yop:Int) (ytx:ByteArray) (yn:Int) (ybx:Ad) (op:Int) (tx:ByteArray) (n:Int) (bx:Ad):FV Tryz.prog 128 [.agg [.i op,.s tx,.i n,.i bx.X0,.i bx.Y0,.i bx.X1,.i bx.Y1,.list false 8 2 (BG 8 2 [.i xop,.s xtx,.i xn,.i xbx.X0,.i xbx.Y0,.i xbx.X1,.i xbx.Y1,vN,.i yop,.s ytx,.i yn,.i ybx.X0,.i ybx.Y0,.i ybx.X1,.i ybx.Y1,vN])],.agg [.i op,.s tx,.i n,.i bx.X0,.i bx.Y0,.i bx.X1,.i bx.Y1,.list false 8 2 (BG 8 2 [.i xop,.s xtx,.i xn,.i xbx.X0,.i xbx.Y0,.i xbx.X1,.i xbx.Y1,vN,.i yop,.s ytx,.i yn,.i ybx.X0,.i ybx.Y0,.i ybx.X1,.i ybx.Y1,vN])]] (tO (.b (Yf xop xtx xn xbx yop ytx yn ybx op tx n bx))):=by
 refine pwf Tryz.func128 fun W0 M0 => ?_
 refine AB<|on<|AB<|AB<|rc [] (i5 (!decide ((op:Int)=op)) (i5 (Rg op tx) (i5 (Rp op tx n) (i2 (JT op tx n bx) (i5 (JT op tx n bx) []))))) ⟨(Rr op tx n bx),(Yi op tx n bx xop xtx xn xbx yop ytx yn ybx)⟩ .nil (c5 (c5 (c5 (c2 (c5 .nil)))))<|AE ?_
 have h1:(bif bif bif bif !decide ((op:Int)=op) then true else !(tx.toList==tx.toList) then true else !decide ((n:Int)=n) then true else !(P7 bx) then true else false)=false:=(by simp [DY])
 refine Ap _ rfl (fun h=>absurd (h1.symm.trans h) (by decide)) (fun _ => ?_)
 refine AQ<|AE<|AB<|AB<|rn ⟨MJ,(Yi op tx n bx xop xtx xn xbx yop ytx yn ybx)⟩<|AM<|EF 3<|CA<|AB<|AB<|on<|Cg kr<|AQ<|AE<|AB<|AM<|AB<|dO [] [(58,(Z6v xop xtx xn xbx))] [0<=(0:Int)/\(0:Int)<((2:Nat):Int),0<=(0:Int)/\(0:Int)<((2:Nat):Int),none] ⟨[(2,tP 2 0),(3,tP 3 0),(5,tI 0),(59,tB (!(DY xop xtx xn xbx)))],(Yi op tx n bx xop xtx xn xbx yop ytx yn ybx)⟩ (.cons (cPu<|Rz xop xtx xn xbx) .nil) (H2 au0 au0)<|AE ?_
 have h2:(!(DY xop xtx xn xbx))=false:=(by simp [DY])
 refine Ap _ rfl (fun h=>absurd (h2.symm.trans h) (by decide)) (fun _ => ?_)
 refine AQ<|A3<|AE<|rn ⟨[(2,tP 2 0),(3,tP 3 0),(5,tI 1)],(Yi op tx n bx xop xtx xn xbx yop ytx yn ybx)⟩<|CA<|AB<|AB<|on<|Cg kr<|AQ<|AE<|AB<|AM<|AB<|dO [] [(58,(Z6w yop ytx yn ybx))] [0<=(1:Int)/\(1:Int)<((2:Nat):Int),0<=(1:Int)/\(1:Int)<((2:Nat):Int),none] ⟨[(2,tP 2 0),(3,tP 3 0),(5,tI 1),(59,tB (!(DY yop ytx yn ybx)))],(Yi op tx n bx xop xtx xn xbx yop ytx yn ybx)⟩ (.cons (cPu<|Rz yop ytx yn ybx) .nil) (H2 au0 au0)<|AE ?_
 have h3:(!(DY yop ytx yn ybx))=false:=(by simp [DY])
 refine Ap _ rfl (fun h=>absurd (h3.symm.trans h) (by decide)) (fun _ => ?_)
 exact AQ<|A3<|AE<|rn ⟨[(2,tP 2 0),(3,tP 3 0),(5,tI 2)],(Yi op tx n bx xop xtx xn xbx yop ytx yn ybx)⟩<|CA<|AB<|AB<|on<|DS kr<|An<|Ai<|Ai<|Ao<|AE<|AB<|on<|AW<|zl (by simp only [Yf,h1,h2,h3,cond_true,cond_false] <;> kernel_rfl)
def Ye (f:Nat->Nat->Cl) (op:Int) (tx:ByteArray) (n:Int) (bx:Ad):Bool:=true
theorem kJ  (f:Nat->Nat->Cl) (op:Int) (tx:ByteArray) (n:Int) (bx:Ad):FV Tryz.prog 128 [.agg [.i op,.s tx,.i n,.i bx.X0,.i bx.Y0,.i bx.X1,.i bx.Y1,.list false 8 0 f],.agg [.i op,.s tx,.i n,.i bx.X0,.i bx.Y0,.i bx.X1,.i bx.Y1,.list false 8 0 f]] (tO (.b (Ye f op tx n bx))):=by
 refine pwf Tryz.func128 fun W0 M0 => ?_
 refine AB<|on<|AB<|AB<|rc [] (i5 (!decide ((op:Int)=op)) (i5 (Rg op tx) (i5 (Rp op tx n) (i2 (JT op tx n bx) (i5 (JT op tx n bx) []))))) ⟨(Rr op tx n bx),[(2,.cells ((GX op tx n bx [.list false 8 0 f])) 145),(3,.cells ((GX op tx n bx [.list false 8 0 f])) 145)]⟩ .nil (c5 (c5 (c5 (c2 (c5 .nil)))))<|AE ?_
 have h1:(bif bif bif bif !decide ((op:Int)=op) then true else !(tx.toList==tx.toList) then true else !decide ((n:Int)=n) then true else !(P7 bx) then true else false)=false:=(by simp [DY])
 refine Ap _ rfl (fun h=>absurd (h1.symm.trans h) (by decide)) (fun _ => ?_)
 exact AQ<|AE<|AB<|AB<|rn ⟨MJ,[(2,.cells ((GX op tx n bx [.list false 8 0 f])) 145),(3,.cells ((GX op tx n bx [.list false 8 0 f])) 145)]⟩<|AM<|EF 1<|CA<|AB<|AB<|on<|DS kr<|An<|Ai<|Ai<|Ao<|AE<|AB<|on<|AW<|zl (by simp only [Ye,h1,cond_true,cond_false] <;> kernel_rfl)
def BX (c:DW):Prop:=(∃ f,c.L=OpL.mk 0 f)\/(∃ (xop:Int) (xtx:ByteArray) (xn:Int) (xbx:Ad),c.L=OpL.mk 1 (BG 8 1 [.i xop,.s xtx,.i xn,.i xbx.X0,.i xbx.Y0,.i xbx.X1,.i xbx.Y1,vN]))\/∃ (xop:Int) (xtx:ByteArray) (xn:Int) (xbx:Ad) (yop:Int) (ytx:ByteArray) (yn:Int) (ybx:Ad),c.L=OpL.mk 2 (BG 8 2 [.i xop,.s xtx,.i xn,.i xbx.X0,.i xbx.Y0,.i xbx.X1,.i xbx.Y1,vN,.i yop,.s ytx,.i yn,.i ybx.X0,.i ybx.Y0,.i ybx.X1,.i ybx.Y1,vN])
abbrev Kj:Tv:=.av (.one (.b true))
def Gx (c:DW):CT:=(128,[.agg (DW.c c),.agg (DW.c c)],.val [] Kj)
theorem ZA (c:DW) (h:BX c):PuP 128 (Gx c).2.1 (tO (.b true)):=by
 obtain ⟨op,tx,n,bx,l⟩:=c
 rcases h with ⟨f,e⟩ | ⟨xop,xtx,xn,xbx,e⟩ | ⟨xop,xtx,xn,xbx,yop,ytx,yn,ybx,e⟩
 ·have e:l=OpL.mk 0 f:=e
  subst e
  exact kJ f op tx n bx
 ·have e:l=OpL.mk 1 _:=e
  subst e
  exact kL xop xtx xn xbx op tx n bx
 have e:l=OpL.mk 2 _:=e
 subst e
 exact kK xop xtx xn xbx yop ytx yn ybx op tx n bx
theorem Mw (c:DW) (h:BX c):OKc (Gx c):=cPu<|ZA c h
def Si (b:AG):Prop:=∀ r∈b.Rules,BX r.A/\BX r.B
theorem TR {b:AG} (h:Si b) (k:Nat):BX (b.Rules.getD k default).A/\BX (b.Rules.getD k default).B:=Eb (p:=fun r:A0=>BX r.A/\BX r.B) ⟨.inl ⟨_,rfl⟩,.inl ⟨_,rfl⟩⟩ h k
def KG (r:A0):Bool:=bif bif bif bif bif (r.Name.toList==r.Name.toList) then decide ((r.Priority:Int)=r.Priority) else false then decide ((r.What:Int)=r.What) else false then decide ((r.Value:Int)=r.Value) else false then true else false then true else false
def MY:CT:=(73,[.agg (A0.c r),.agg (A0.c r)],.val [] (.av (.one (.b (KG r)))))
abbrev OG:=r.Name.toList==r.Name.toList
abbrev aG:=(bif bif bif bif (OG r) then decide ((r.Priority:Int)=r.Priority) else false then decide ((r.What:Int)=r.What) else false then decide ((r.Value:Int)=r.Value) else false then true else false)
abbrev aF:=(bif bif bif (OG r) then decide ((r.Priority:Int)=r.Priority) else false then decide ((r.What:Int)=r.What) else false then decide ((r.Value:Int)=r.Value) else false)
theorem Y8 (r:A0) (hA:BX r.A) (hB:BX r.B):PuP 73 (MY r).2.1 (tO (.b (KG r))):=by
 refine pwf Tryz.func73 fun W0 M0 => ?_
 exact AB<|on<|AB<|oc [(36,Gx r.A),(43,Gx r.B)] (t5 (OG r) (t5 (bif (OG r) then decide ((r.Priority:Int)=r.Priority) else false) (t5 (bif bif (OG r) then decide ((r.Priority:Int)=r.Priority) else false then decide ((r.What:Int)=r.What) else false) (t4 (aF r) ((gk (aF r) (CD (Gx r.A).2.1))::(gt (aF r))::(t4 (aG r) [gk (aG r) (CD (Gx r.B).2.1),gt (aG r)])))))) (.cons (Mw r.A (by first | exact hA | exact hB)) (.cons (Mw r.B (by first | exact hA | exact hB)) .nil)) (c5 (c5 (c5 (c4 (.cons (fun _=>rfl) (ci (c4 (.cons (fun _=>rfl) (ci .nil)))))))))<|AE<|AW<|zl
theorem WA (r:A0) (hA:BX r.A) (hB:BX r.B):OKc (MY r):=cPu<|Y8 r hA hB
theorem Rt (r:A0) (hA:BX r.A) (hB:BX r.B):KG r=true:=by
 simp [KG]
def Zk (r:A0):CT:=(73,[.agg (A0.c r),.agg (A0.c r)],.val [] Kj)
theorem Tu (r:A0) (hA:BX r.A) (hB:BX r.B):OKc (Zk r):=by
 have h:=WA r hA hB
 unfold MY at h
 rw [Rt r hA hB] at h
 exact h
theorem Ce (a:AO):El a a=true:=by
 have key:∀ n k:Nat,a.Edges.length-k<n->FE a a n (k:Int)=true:=by
  intro n
  induction n with
  | zero=>intro k h;omega
  | succ n ih =>
   intro k h
   rw [FE]
   by_cases hc:(k:Int)<(a.Edges.length:Int)
   ·rw [decide_eq_true hc,cond_true]
    have:=ih (k+1) (by omega)
    rw [show ((k+1:Nat):Int)=(k:Int)+1 by omega] at this
    simp only [decide_true,Bool.and_true,Bool.not_true,cond_false]
    exact this
   rw [decide_eq_false hc,cond_false]
 unfold El
 simp only [decide_true,Bool.not_true,cond_false]
 exact key _ 0 (by omega)
theorem Gv {g:Nat->Int->Bool} (len:Nat) (h:∀ n v,g (n+1) v=bif decide (v<(len:Int)) then g n (v+1) else true):∀ (n:Nat) (v:Int),((len:Int)-v).toNat<n->g n v=true
 | 0,v,hn=>absurd hn (Nat.not_lt_zero _)
 | n+1,v,hn=>by
  rw [h]
  by_cases hc:v<(len:Int)
  ·rw [decide_eq_true hc,cond_true];exact Gv len h n (v+1) (by omega)
  rw [decide_eq_false hc,cond_false]
def Z6x (l:(List Ab)) (i:Int):Bool := !(((l.getD i.toNat default).Ref.toList==(l.getD i.toNat default).Ref.toList)&&(((l.getD i.toNat default).Pad.toList==(l.getD i.toNat default).Pad.toList)&&true))
def D7 (l:(List Ab)):Nat->Int->Bool
 | 0,_=>default
 | n0+1,i=>bif decide ((i:Int)<(l.length:Int)) then ((D7 l n0) (i+1)) else true
def G0 (l:(List Ab)):Bool:=D7 l (((l.length:Int)-0).toNat+1) 0
def MZ (l:(List Ab)):CT:=(71,[.one (lst 2 Ab.c l),.one (lst 2 Ab.c l)],.val [] (.av (.one (.b (G0 l)))))
theorem Y9 (l:(List Ab)) (hl:(l.length:Int)<=1000000):PuP 71 (MZ l).2.1 (tO (.b (G0 l))):=by
 refine pwf Tryz.func71 fun W0 M0 => ?_
 refine AB<|on<|AB<|AB<|rn ⟨[(0,tO (lst 2 Ab.c l)),(1,tO (lst 2 Ab.c l)),(10,tB (!decide (((l.length:Int):Int)=(l.length:Int))))],[]⟩ ?_
 have h1:(!decide (((l.length:Int):Int)=(l.length:Int)))=false:=(by simp)
 have g1:=BN h1
 refine Ap _ rfl (fun h=>absurd (h1.symm.trans h) (by decide)) (fun _ => ?_)
 refine AQ<|AE<|AB<|AB<|rn ⟨[(0,tO (lst 2 Ab.c l)),(1,tO (lst 2 Ab.c l)),(5,tI 0)],[]⟩<|AM<|lpC (κ:=Int) (fun x=>⟨[(0,tO (lst 2 Ab.c l)),(1,tO (lst 2 Ab.c l)),(5,tI x.2)],[]⟩) (fun x=>((l.length:Int)-x.2).toNat) (fun x=>(0<=x.2/\(x.2<=(l.length:Int)\/x.2=0))/\D7 l x.1 x.2=G0 l) ?_ (((l.length:Int)-0).toNat+1,0) ⟨Nat.lt_succ_self _,⟨ax0,ax0⟩,(by simp only [G0,h1,cond_true,cond_false])⟩
 rintro n0 i hm0 ⟨hinv0,hF0⟩
 try dsimp only at hm0 hinv0 hF0
 refine AB<|AB<|on<|kb (decide ((i:Int)<(l.length:Int))) (fun h2 => ?_) (fun h2 => ?_)
 ·have g2:=oT h2
  refine AQ<|AE<|AB<|AM<|AB<|dw [] [] [0<=(i:Int)/\(i:Int)<((l.length:Nat):Int),0<=(i:Int)/\(i:Int)<((l.length:Nat):Int)] ⟨[(0,tO (lst 2 Ab.c l)),(1,tO (lst 2 Ab.c l)),(5,tI i),(25,tB (Z6x l i))],[]⟩ .nil (H2 au0 au0)<|AE ?_
  have h3:(Z6x l i)=false:=(by simp [Z6x])
  refine Ap _ rfl (fun h=>absurd (h3.symm.trans h) (by decide)) (fun _ => ?_)
  refine AQ<|A3<|AE<|rg ⟨[(0,tO (lst 2 Ab.c l)),(1,tO (lst 2 Ab.c l)),(5,tI (W64 (i+1)))],[]⟩ ?_
  (try rw [(show W64 (i+1)=i+1 from Ae oM au3)])
  refine AE ?_
  refine ⟨(n0,i+1),⟨?_,?_,(by rw [<- hF0];simp only [D7,h2,h3,cond_true,cond_false])⟩,Nat.lt_succ_self _,Al kr⟩
  ·dsimp only;omega
  exact ⟨ax0,ax0⟩
 exact An<|Ai<|Ai<|Ao<|AE<|AB<|on<|AW<|zl (by rw [<- hF0];simp only [D7,h2,cond_true,cond_false] <;> kernel_rfl)
theorem WB (l:(List Ab)) (hl:(l.length:Int)<=1000000):OKc (MZ l):=cPu<|Y9 l hl
theorem Ru (l:(List Ab)) (hl:(l.length:Int)<=1000000):G0 l=true:=by
 unfold G0
 exact Gv (g:=D7 l) l.length (fun n v=>by rw [D7]) _ _ (by omega)
def Qt (l:(List Ab)):CT:=(71,[.one (lst 2 Ab.c l),.one (lst 2 Ab.c l)],.val [] Kj)
theorem Tw (l:(List Ab)) (hl:(l.length:Int)<=1000000):OKc (Qt l):=by
 have h:=WB l hl
 unfold MZ at h
 rw [Ru l hl] at h
 exact h
def Df (l:(List Ad)):Nat->Int->Bool
 | 0,_=>default
 | n0+1,i=>bif decide ((i:Int)<(l.length:Int)) then ((Df l n0) (i+1)) else true
def F4 (l:(List Ad)):Bool:=Df l (((l.length:Int)-0).toNat+1) 0
def K7:CT:=(127,[.one (lst 4 Ad.c l),.one (lst 4 Ad.c l)],.val [] (.av (.one (.b (F4 l)))))
abbrev JL:=l.getD i.toNat default
abbrev aI:Bool := !(decide ((JL l i).X0=(JL l i).X0)&&(decide ((JL l i).Y0=(JL l i).Y0)&&(decide ((JL l i).X1=(JL l i).X1)&&(decide ((JL l i).Y1=(JL l i).Y1)&&true))))
theorem Vo (l:(List Ad)) (hl:(l.length:Int)<=1000000):PuP 127 (K7 l).2.1 (tO (.b (F4 l))):=by
 refine pwf Tryz.func127 fun W0 M0 => ?_
 refine AB<|on<|AB<|AB<|rn ⟨[(0,tO (lst 4 Ad.c l)),(1,tO (lst 4 Ad.c l)),(10,tB (!decide (((l.length:Int):Int)=(l.length:Int))))],[]⟩ ?_
 have h1:(!decide (((l.length:Int):Int)=(l.length:Int)))=false:=(by simp)
 have g1:=BN h1
 refine Ap _ rfl (fun h=>absurd (h1.symm.trans h) (by decide)) (fun _ => ?_)
 refine AQ<|AE<|AB<|AB<|rn ⟨[(0,tO (lst 4 Ad.c l)),(1,tO (lst 4 Ad.c l)),(5,tI 0)],[]⟩<|AM<|lpC (κ:=Int) (fun x=>⟨[(0,tO (lst 4 Ad.c l)),(1,tO (lst 4 Ad.c l)),(5,tI x.2)],[]⟩) (fun x=>((l.length:Int)-x.2).toNat) (fun x=>(0<=x.2/\(x.2<=(l.length:Int)\/x.2=0))/\Df l x.1 x.2=F4 l) ?_ (((l.length:Int)-0).toNat+1,0) ⟨Nat.lt_succ_self _,⟨ax0,ax0⟩,(by simp only [F4,h1,cond_true,cond_false])⟩
 rintro n0 i hm0 ⟨hinv0,hF0⟩
 try dsimp only at hm0 hinv0 hF0
 refine AB<|AB<|on<|kb (decide ((i:Int)<(l.length:Int))) (fun h2 => ?_) (fun h2 => ?_)
 ·have g2:=oT h2
  refine AQ<|AE<|AB<|AM<|AB<|dw [] [] [0<=(i:Int)/\(i:Int)<((l.length:Nat):Int),0<=(i:Int)/\(i:Int)<((l.length:Nat):Int)] ⟨[(0,tO (lst 4 Ad.c l)),(1,tO (lst 4 Ad.c l)),(5,tI i),(25,tB (aI l i))],[]⟩ .nil (H2 au0 au0)<|AE ?_
  have h3:(aI l i)=false:=(by simp)
  refine Ap (aI l i) kr (fun h=>absurd (h3.symm.trans h) (by decide)) (fun _ => ?_)
  refine AQ<|A3<|AE<|rg ⟨[(0,tO (lst 4 Ad.c l)),(1,tO (lst 4 Ad.c l)),(5,tI (W64 (i+1)))],[]⟩ ?_
  (try rw [(show W64 (i+1)=i+1 from Ae oM au3)])
  refine AE ?_
  refine ⟨(n0,i+1),⟨?_,?_,(by rw [<- hF0];simp only [Df,h2,h3,cond_true,cond_false])⟩,Nat.lt_succ_self _,Al kr⟩
  ·dsimp only;omega
  exact ⟨ax0,ax0⟩
 exact An<|Ai<|Ai<|Ao<|AE<|AB<|on<|AW<|zl (by rw [<- hF0];simp only [Df,h2,cond_true,cond_false] <;> kernel_rfl)
theorem Tk (l:(List Ad)) (hl:(l.length:Int)<=1000000):OKc (K7 l):=cPu<|Vo l hl
theorem Pt (l:(List Ad)) (hl:(l.length:Int)<=1000000):F4 l=true:=by
 unfold F4
 exact Gv (g:=Df l) l.length (fun n v=>by rw [Df]) _ _ (by omega)
def Wb (l:(List Ad)):CT:=(127,[.one (lst 4 Ad.c l),.one (lst 4 Ad.c l)],.val [] Kj)
theorem SC (l:(List Ad)) (hl:(l.length:Int)<=1000000):OKc (Wb l):=by
 have h:=Tk l hl
 unfold K7 at h
 rw [Pt l hl] at h
 exact h
def Z6y (l:(List ByteArray)) (k:Int):Bool := !((l.getD k.toNat default).toList==(l.getD k.toNat default).toList)
def Dg (l:(List ByteArray)):Nat->Int->Bool
 | 0,_=>default
 | n0+1,k=>bif decide ((k:Int)<(l.length:Int)) then ((Dg l n0) (k+1)) else true
def F5 (l:(List ByteArray)):Bool:=Dg l (((l.length:Int)-0).toNat+1) 0
def K8 (l:(List ByteArray)):CT:=(72,[.one (lst 1 (fun x=>[.s x]) l),.one (lst 1 (fun x=>[.s x]) l)],.val [] (.av (.one (.b (F5 l)))))
theorem Vp (l:(List ByteArray)) (hl:(l.length:Int)<=1000000):PuP 72 (K8 l).2.1 (tO (.b (F5 l))):=by
 refine pwf Tryz.func72 fun W0 M0 => ?_
 refine AB<|on<|AB<|AB<|rn ⟨[(0,tO (lst 1 (fun x=>[.s x]) l)),(1,tO (lst 1 (fun x=>[.s x]) l)),(10,tB (!decide (((l.length:Int):Int)=(l.length:Int))))],[]⟩ ?_
 have h1:(!decide (((l.length:Int):Int)=(l.length:Int)))=false:=(by simp)
 have g1:=BN h1
 refine Ap _ rfl (fun h=>absurd (h1.symm.trans h) (by decide)) (fun _ => ?_)
 refine AQ<|AE<|AB<|AB<|rn ⟨[(0,tO (lst 1 (fun x=>[.s x]) l)),(1,tO (lst 1 (fun x=>[.s x]) l)),(5,tI 0)],[]⟩<|AM<|lpC (κ:=Int) (fun x=>⟨[(0,tO (lst 1 (fun x=>[.s x]) l)),(1,tO (lst 1 (fun x=>[.s x]) l)),(5,tI x.2)],[]⟩) (fun x=>((l.length:Int)-x.2).toNat) (fun x=>(0<=x.2/\(x.2<=(l.length:Int)\/x.2=0))/\Dg l x.1 x.2=F5 l) ?_ (((l.length:Int)-0).toNat+1,0) ⟨Nat.lt_succ_self _,⟨ax0,ax0⟩,(by simp only [F5,h1,cond_true,cond_false])⟩
 rintro n0 k hm0 ⟨hinv0,hF0⟩
 try dsimp only at hm0 hinv0 hF0
 refine AB<|AB<|on<|kb (decide ((k:Int)<(l.length:Int))) (fun h2 => ?_) (fun h2 => ?_)
 ·have g2:=oT h2
  refine AQ<|AE<|AB<|AM<|AB<|dw [] [] [0<=(k:Int)/\(k:Int)<((l.length:Nat):Int),0<=(k:Int)/\(k:Int)<((l.length:Nat):Int)] ⟨[(0,tO (lst 1 (fun x=>[.s x]) l)),(1,tO (lst 1 (fun x=>[.s x]) l)),(5,tI k),(25,tB (Z6y l k))],[]⟩ .nil (H2 au0 au0)<|AE ?_
  have h3:(Z6y l k)=false:=(by simp [Z6y])
  refine Ap _ rfl (fun h=>absurd (h3.symm.trans h) (by decide)) (fun _ => ?_)
  refine AQ<|A3<|AE<|rg ⟨[(0,tO (lst 1 (fun x=>[.s x]) l)),(1,tO (lst 1 (fun x=>[.s x]) l)),(5,tI (W64 (k+1)))],[]⟩ ?_
  (try rw [(show W64 (k+1)=k+1 from Ae oM au3)])
  refine AE ?_
  refine ⟨(n0,k+1),⟨?_,?_,(by rw [<- hF0];simp only [Dg,h2,h3,cond_true,cond_false])⟩,Nat.lt_succ_self _,Al kr⟩
  ·dsimp only;omega
  exact ⟨ax0,ax0⟩
 exact An<|Ai<|Ai<|Ao<|AE<|AB<|on<|AW<|zl (by rw [<- hF0];simp only [Dg,h2,cond_true,cond_false] <;> kernel_rfl)
theorem Tl (l:(List ByteArray)) (hl:(l.length:Int)<=1000000):OKc (K8 l):=cPu<|Vp l hl
theorem Pu (l:(List ByteArray)) (hl:(l.length:Int)<=1000000):F5 l=true:=by
 unfold F5
 exact Gv (g:=Dg l) l.length (fun n v=>by rw [Dg]) _ _ (by omega)
def Ip (l:(List ByteArray)):CT:=(72,[.one (lst 1 (fun x=>[.s x]) l),.one (lst 1 (fun x=>[.s x]) l)],.val [] Kj)
theorem LT (l:(List ByteArray)) (hl:(l.length:Int)<=1000000):OKc (Ip l):=by
 have h:=Tl l hl
 unfold K8 at h
 rw [Pu l hl] at h
 exact h
structure I6 (b:AG):Prop where
 lParts:(b.Parts.length:Int)<=1000000
 lNets:(b.Nets.length:Int)<=1000000
 lTracks:(b.Tracks.length:Int)<=1000000
 lVias:(b.Vias.length:Int)<=1000000
 lPours:(b.Pours.length:Int)<=1000000
 lKeeps:(b.Keeps.length:Int)<=1000000
 lSlots:(b.Slots.length:Int)<=1000000
 lClasses:(b.Classes.length:Int)<=1000000
 lWaivers:(b.Waivers.length:Int)<=1000000
 lMatches:(b.Matches.length:Int)<=1000000
 lRules:(b.Rules.length:Int)<=1000000
 out:(b.Outline.Edges.length:Int)<=1000000
 pin:∀ k,((b.Nets.getD k default).Pins.length:Int)<=1000000
 ted:∀ k,((b.Tracks.getD k default).Shape.Edges.length:Int)<=1000000
 rec':∀ k,((b.Pours.getD k default).Rects.length:Int)<=1000000
 ked:∀ k,((b.Keeps.getD k default).Shape.Edges.length:Int)<=1000000
 sed:∀ k,((b.Slots.getD k default).Shape.Edges.length:Int)<=1000000
 cnt:∀ k,((b.Classes.getD k default).Nets.length:Int)<=1000000
 mnt:∀ k,((b.Matches.getD k default).Nets.length:Int)<=1000000
 rok:Si b
theorem Cz {g:Nat->Int->Bool} (R:Nat->Int->Bool) (len:Nat) (hR:∀ n v,R n v=true) (h:∀ n v,g (n+1) v=bif decide (v<(len:Int)) then g n (v+1) else R n v):∀ (n:Nat) (v:Int),((len:Int)-v).toNat<n->g n v=true
 | 0,v,hn=>absurd hn (Nat.not_lt_zero _)
 | n+1,v,hn=>by
  rw [h]
  by_cases hc:v<(len:Int)
  ·rw [decide_eq_true hc,cond_true];exact Cz R len hR h n (v+1) (by omega)
  rw [decide_eq_false hc,cond_false];exact hR n v
def Z6z:Bool:=El (b.Slots.getD v17.toNat default).Shape (b.Slots.getD v17.toNat default).Shape
def Z6A:Bool:=El (b.Keeps.getD v15.toNat default).Shape (b.Keeps.getD v15.toNat default).Shape
def Z6B:Bool:=El (b.Tracks.getD v7.toNat default).Shape (b.Tracks.getD v7.toNat default).Shape
def DX (b:AG) (v5:Int) (v6:Int) (v7:Int) (v11:Int) (v15:Int) (K0:Int->Bool) (K1:Int->Bool) (K2:Int->Bool) (K3:Int->Bool) (K4:Int->Bool):Nat->Int->Bool
 | 0,_=>default
 | n5+1,v17=>bif decide ((v17:Int)<(b.Slots.length:Int)) then ((DX b v5 v6 v7 v11 v15 K0 K1 K2 K3 K4 n5) (v17+1)) else true
def CO (b:AG) (v5:Int) (v6:Int) (v7:Int) (v11:Int) (K0:Int->Bool) (K1:Int->Bool) (K2:Int->Bool) (K3:Int->Bool):Nat->Int->Bool
 | 0,_=>default
 | n4+1,v15=>bif decide ((v15:Int)<(b.Keeps.length:Int)) then ((CO b v5 v6 v7 v11 K0 K1 K2 K3 n4) (v15+1)) else (DX b v5 v6 v7 v11 v15 K0 K1 K2 K3 (CO b v5 v6 v7 v11 K0 K1 K2 K3 n4) (((b.Slots.length:Int)-0).toNat+1) 0)
def B6 (b:AG) (v5:Int) (v6:Int) (v7:Int) (K0:Int->Bool) (K1:Int->Bool) (K2:Int->Bool):Nat->Int->Bool
 | 0,_=>default
 | n3+1,v11=>bif decide ((v11:Int)<(b.Pours.length:Int)) then ((B6 b v5 v6 v7 K0 K1 K2 n3) (v11+1)) else (CO b v5 v6 v7 v11 K0 K1 K2 (B6 b v5 v6 v7 K0 K1 K2 n3) (((b.Keeps.length:Int)-0).toNat+1) 0)
def Bi (b:AG) (v5:Int) (v6:Int) (K0:Int->Bool) (K1:Int->Bool):Nat->Int->Bool
 | 0,_=>default
 | n2+1,v7=>bif decide ((v7:Int)<(b.Tracks.length:Int)) then ((Bi b v5 v6 K0 K1 n2) (v7+1)) else (B6 b v5 v6 v7 K0 K1 (Bi b v5 v6 K0 K1 n2) (((b.Pours.length:Int)-0).toNat+1) 0)
def BL (b:AG) (v5:Int) (K0:Int->Bool):Nat->Int->Bool
 | 0,_=>default
 | n1+1,v6=>bif decide ((v6:Int)<(b.Vias.length:Int)) then ((BL b v5 K0 n1) (v6+1)) else (Bi b v5 v6 K0 (BL b v5 K0 n1) (((b.Tracks.length:Int)-0).toNat+1) 0)
def Ak (b:AG):Nat->Int->Bool
 | 0,_=>default
 | n0+1,v5=>bif decide ((v5:Int)<(b.Parts.length:Int)) then ((Ak b n0) (v5+1)) else (BL b v5 (Ak b n0) (((b.Vias.length:Int)-0).toNat+1) 0)
def EV (b:AG):Bool:=Ak b (((b.Parts.length:Int)-0).toNat+1) 0
abbrev Re:List Av:=[.agg (AG.c b),.agg (AG.c b)]
def PN:CT:=(70,(Re b),.val [] (.av (.one (.b (EV b)))))
abbrev DN:List (Nat×Blk):=[(2,.cells (AG.c b) 41),(3,.cells (AG.c b) 41)]
abbrev BQ:=b.Pours.getD v11.toNat default
abbrev bH:Bool := !(decide ((D2 b v6).Id=(D2 b v6).Id)&&(((D2 b v6).Net.toList==(D2 b v6).Net.toList)&&(decide ((D2 b v6).At.X=(D2 b v6).At.X)&&(decide ((D2 b v6).At.Y=(D2 b v6).At.Y)&&(decide ((D2 b v6).R=(D2 b v6).R)&&(decide ((D2 b v6).Drill=(D2 b v6).Drill)&&(decide ((D2 b v6).From=(D2 b v6).From)&&(decide ((D2 b v6).To=(D2 b v6).To)&&true))))))))
abbrev FN:=b.Parts.getD v5.toNat default
abbrev bC:Bool := !(decide ((FN b v5).Id=(FN b v5).Id)&&(((FN b v5).Ref.toList==(FN b v5).Ref.toList)&&(((FN b v5).Type'.toList==(FN b v5).Type'.toList)&&(decide ((FN b v5).At.X=(FN b v5).At.X)&&(decide ((FN b v5).At.Y=(FN b v5).At.Y)&&(decide ((FN b v5).Turn=(FN b v5).Turn)&&(((FN b v5).Under==(FN b v5).Under)&&true)))))))
abbrev nS:=(bif bif bif bif !decide (((b.Parts.length:Int):Int)=(b.Parts.length:Int)) then true else !decide (((b.Tracks.length:Int):Int)=(b.Tracks.length:Int)) then true else !decide (((b.Vias.length:Int):Int)=(b.Vias.length:Int)) then true else !decide (((b.Pours.length:Int):Int)=(b.Pours.length:Int)) then true else !decide (((b.Keeps.length:Int):Int)=(b.Keeps.length:Int)))
abbrev Fh:=b.Tracks.getD v7.toNat default
abbrev KO:=b.Keeps.getD v15.toNat default
abbrev nO:=(bif bif bif !decide (((b.Parts.length:Int):Int)=(b.Parts.length:Int)) then true else !decide (((b.Tracks.length:Int):Int)=(b.Tracks.length:Int)) then true else !decide (((b.Vias.length:Int):Int)=(b.Vias.length:Int)) then true else !decide (((b.Pours.length:Int):Int)=(b.Pours.length:Int)))
abbrev bN:=(bif bif !decide (((b.Parts.length:Int):Int)=(b.Parts.length:Int)) then true else !decide (((b.Tracks.length:Int):Int)=(b.Tracks.length:Int)) then true else !decide (((b.Vias.length:Int):Int)=(b.Vias.length:Int)))
abbrev bG:=(bif !decide (((b.Parts.length:Int):Int)=(b.Parts.length:Int)) then true else !decide (((b.Tracks.length:Int):Int)=(b.Tracks.length:Int)))
abbrev OJ:Bool:=(!decide (((KO b v15).Id:Int)=(KO b v15).Id))
theorem au16 {p:Prop} (h:p:=by first | (with_reducible exact hc.ted _) | (with_reducible exact hc.ked _) | (with_reducible exact hc.sed _) | (with_reducible exact hc.pin _) | (with_reducible exact hc.rec' _) | (with_reducible exact hc.cnt _) | (with_reducible exact hc.mnt _) | (with_reducible exact hc.out) | (with_reducible exact hc) | with_reducible assumption | omega | decide | (simp only [List.length_cons,List.length_nil,List.length_append];omega) | assumption):p:=h
theorem cZ (b:AG) (hc:I6 b):PuP 70 (PN b).2.1 (tO (.b (EV b))):=by
 refine pwf Tryz.func70 fun W0 M0 => ?_
 have ⟨p0,p1,p2,p3,p4,p5,p6,p7,p8,p9,p10,_,_,_,_,_,_,_,_,_⟩:=hc
 have hr:=hc.rok
 refine AB<|on<|AB<|AB<|rc [] (i2 (!decide (((b.Parts.length:Int):Int)=(b.Parts.length:Int))) (i5 (!decide (((b.Parts.length:Int):Int)=(b.Parts.length:Int))) (i2 (bG b) (i5 (bG b) (i2 (bN b) (i5 (bN b) (i2 (nO b) (i5 (nO b) (i2 (nS b) (i5 (nS b) [])))))))))) ⟨[(2,tP 2 0),(3,tP 3 0),(70,tB (bif bif bif bif bif !decide (((b.Parts.length:Int):Int)=(b.Parts.length:Int)) then true else !decide (((b.Tracks.length:Int):Int)=(b.Tracks.length:Int)) then true else !decide (((b.Vias.length:Int):Int)=(b.Vias.length:Int)) then true else !decide (((b.Pours.length:Int):Int)=(b.Pours.length:Int)) then true else !decide (((b.Keeps.length:Int):Int)=(b.Keeps.length:Int)) then true else !decide (((b.Slots.length:Int):Int)=(b.Slots.length:Int))))],(DN b)⟩ .nil (c2 (c5 (c2 (c5 (c2 (c5 (c2 (c5 (c2 (c5 .nil))))))))))<|AE ?_
 have h1:(bif bif bif bif bif !decide (((b.Parts.length:Int):Int)=(b.Parts.length:Int)) then true else !decide (((b.Tracks.length:Int):Int)=(b.Tracks.length:Int)) then true else !decide (((b.Vias.length:Int):Int)=(b.Vias.length:Int)) then true else !decide (((b.Pours.length:Int):Int)=(b.Pours.length:Int)) then true else !decide (((b.Keeps.length:Int):Int)=(b.Keeps.length:Int)) then true else !decide (((b.Slots.length:Int):Int)=(b.Slots.length:Int)))=false:=(by simp [Ce])
 refine Ap _ rfl (fun h=>absurd (h1.symm.trans h) (by decide)) (fun _ => ?_)
 refine AQ<|AE<|AB<|AB<|rn ⟨MJ,(DN b)⟩<|AM<|lpC (κ:=Int) (fun x=>⟨[(2,tP 2 0),(3,tP 3 0),(5,tI x.2)],(DN b)⟩) (fun x=>((b.Parts.length:Int)-x.2).toNat) (fun x=>(0<=x.2/\(x.2<=(b.Parts.length:Int)\/x.2=0))/\Ak b x.1 x.2=EV b) ?_ (((b.Parts.length:Int)-0).toNat+1,0) ⟨Nat.lt_succ_self _,⟨ax0,ax0⟩,(by simp only [EV,h1,cond_true,cond_false])⟩
 rintro n0 v5 hm0 ⟨hinv0,hF0⟩
 try dsimp only at hm0 hinv0 hF0
 refine AB<|AB<|on<|kb (decide ((v5:Int)<(b.Parts.length:Int))) (fun h2 => ?_) (fun h2 => ?_)
 ·have g2:=oT h2
  refine AQ<|AE<|AB<|AM<|AB<|dw [] [] [0<=(v5:Int)/\(v5:Int)<((b.Parts.length:Nat):Int),0<=(v5:Int)/\(v5:Int)<((b.Parts.length:Nat):Int)] ⟨[(2,tP 2 0),(3,tP 3 0),(5,tI v5),(88,tB (bC b v5))],(DN b)⟩ .nil (H2 au0 au0)<|AE ?_
  have h3:(bC b v5)=false:=(by simp [Ce])
  refine Ap (bC b v5) kr (fun h=>absurd (h3.symm.trans h) (by decide)) (fun _ => ?_)
  refine AQ<|A3<|AE<|rg ⟨[(2,tP 2 0),(3,tP 3 0),(5,tI (W64 (v5+1)))],(DN b)⟩ ?_
  (try rw [(show W64 (v5+1)=v5+1 from Ae oM au3)])
  refine AE ?_
  refine ⟨(n0,v5+1),⟨?_,?_,(by rw [<- hF0];simp only [Ak,h2,h3,cond_true,cond_false])⟩,Nat.lt_succ_self _,Al kr⟩
  ·dsimp only;omega
  exact ⟨ax0,ax0⟩
 have g2:=oF h2
 refine An<|Ai<|Ai<|Ao<|AE<|AB<|AB<|rn ⟨[(2,tP 2 0),(3,tP 3 0),(6,tI 0)],(DN b)⟩<|AM<|lpC (κ:=Int) (fun x=>⟨[(2,tP 2 0),(3,tP 3 0),(6,tI x.2)],(DN b)⟩) (fun x=>((b.Vias.length:Int)-x.2).toNat) (fun x=>(0<=x.2/\(x.2<=(b.Vias.length:Int)\/x.2=0))/\BL b v5 (Ak b n0) x.1 x.2=EV b) ?_ (((b.Vias.length:Int)-0).toNat+1,0) ⟨Nat.lt_succ_self _,⟨ax0,ax0⟩,(by rw [<- hF0];simp only [Ak,h2,cond_true,cond_false])⟩
 rintro n1 v6 hm1 ⟨hinv1,hF1⟩
 try dsimp only at hm1 hinv1 hF1
 refine AB<|AB<|on<|kb (decide ((v6:Int)<(b.Vias.length:Int))) (fun h3 => ?_) (fun h3 => ?_)
 ·have g3:=oT h3
  refine AQ<|AE<|AB<|AM<|AB<|dw [] [] [0<=(v6:Int)/\(v6:Int)<((b.Vias.length:Nat):Int),0<=(v6:Int)/\(v6:Int)<((b.Vias.length:Nat):Int)] ⟨[(2,tP 2 0),(3,tP 3 0),(6,tI v6),(106,tB (bH b v6))],(DN b)⟩ .nil (H2 au0 au0)<|AE ?_
  have h4:(bH b v6)=false:=(by simp [Ce])
  refine Ap (bH b v6) kr (fun h=>absurd (h4.symm.trans h) (by decide)) (fun _ => ?_)
  refine AQ<|A3<|AE<|rg ⟨[(2,tP 2 0),(3,tP 3 0),(6,tI (W64 (v6+1)))],(DN b)⟩ ?_
  (try rw [(show W64 (v6+1)=v6+1 from Ae oM au3)])
  refine AE ?_
  refine ⟨(n1,v6+1),⟨?_,?_,(by rw [<- hF1];simp only [BL,h3,h4,cond_true,cond_false])⟩,Nat.lt_succ_self _,Al kr⟩
  ·dsimp only;omega
  exact ⟨ax0,ax0⟩
 have g3:=oF h3
 refine An<|Ai<|Ai<|Ao<|AE<|AB<|AB<|rn ⟨[(2,tP 2 0),(3,tP 3 0),(7,tI 0)],(DN b)⟩<|AM<|lpC (κ:=Int) (fun x=>⟨[(2,tP 2 0),(3,tP 3 0),(7,tI x.2)],(DN b)⟩) (fun x=>((b.Tracks.length:Int)-x.2).toNat) (fun x=>(0<=x.2/\(x.2<=(b.Tracks.length:Int)\/x.2=0))/\Bi b v5 v6 (Ak b n0) (BL b v5 (Ak b n0) n1) x.1 x.2=EV b) ?_ (((b.Tracks.length:Int)-0).toNat+1,0) ⟨Nat.lt_succ_self _,⟨ax0,ax0⟩,(by rw [<- hF1];simp only [BL,h3,cond_true,cond_false])⟩
 rintro n2 v7 hm2 ⟨hinv2,hF2⟩
 try dsimp only at hm2 hinv2 hF2
 refine AB<|AB<|on<|kb (decide ((v7:Int)<(b.Tracks.length:Int))) (fun h4 => ?_) (fun h4 => ?_)
 ·have g4:=oT h4
  refine AQ<|AE<|AB<|AM<|AB<|od [] [] [0<=(v7:Int)/\(v7:Int)<((b.Tracks.length:Nat):Int),0<=(v7:Int)/\(v7:Int)<((b.Tracks.length:Nat):Int)] .nil (H2 au0 au0)<|AE<|AB<|oq 128 _ (J0 (b.Tracks.getD v7.toNat default).Shape (b.Tracks.getD v7.toNat default).Shape au16 au16)<|AE<|AB<|rc [] (i5 (!decide (((Fh b v7).Id:Int)=(Fh b v7).Id)) (i5 (bif !decide (((Fh b v7).Id:Int)=(Fh b v7).Id) then true else !((Fh b v7).Net.toList==(Fh b v7).Net.toList)) (i2 (bif bif !decide (((Fh b v7).Id:Int)=(Fh b v7).Id) then true else !((Fh b v7).Net.toList==(Fh b v7).Net.toList) then true else !decide (((Fh b v7).Layer:Int)=(Fh b v7).Layer)) []))) ⟨[(2,tP 2 0),(3,tP 3 0),(7,tI v7),(151,tB (bif bif bif !decide (((Fh b v7).Id:Int)=(Fh b v7).Id) then true else !((Fh b v7).Net.toList==(Fh b v7).Net.toList) then true else !decide (((Fh b v7).Layer:Int)=(Fh b v7).Layer) then true else !(Z6B b v7)))],(DN b)⟩ .nil (c5 (c5 (c2 .nil)))<|AE ?_
  have h5:(bif bif bif !decide (((b.Tracks.getD v7.toNat default).Id:Int)=(b.Tracks.getD v7.toNat default).Id) then true else !((b.Tracks.getD v7.toNat default).Net.toList==(b.Tracks.getD v7.toNat default).Net.toList) then true else !decide (((b.Tracks.getD v7.toNat default).Layer:Int)=(b.Tracks.getD v7.toNat default).Layer) then true else !(Z6B b v7))=false:=(by simp [Ce,Z6B])
  refine Ap _ rfl (fun h=>absurd (h5.symm.trans h) (by decide)) (fun _ => ?_)
  refine AQ<|A3<|AE<|rg ⟨[(2,tP 2 0),(3,tP 3 0),(7,tI (W64 (v7+1)))],(DN b)⟩ ?_
  (try rw [(show W64 (v7+1)=v7+1 from Ae oM au3)])
  refine AE ?_
  refine ⟨(n2,v7+1),⟨?_,?_,(by rw [<- hF2];simp only [Bi,h4,h5,cond_true,cond_false])⟩,Nat.lt_succ_self _,Al kr⟩
  ·dsimp only;omega
  exact ⟨ax0,ax0⟩
 have g4:=oF h4
 refine An<|Ai<|Ai<|Ao<|AE<|AB<|AB<|rn ⟨[(2,tP 2 0),(3,tP 3 0),(11,tI 0)],(DN b)⟩<|AM<|lpC (κ:=Int) (fun x=>⟨[(2,tP 2 0),(3,tP 3 0),(11,tI x.2)],(DN b)⟩) (fun x=>((b.Pours.length:Int)-x.2).toNat) (fun x=>(0<=x.2/\(x.2<=(b.Pours.length:Int)\/x.2=0))/\B6 b v5 v6 v7 (Ak b n0) (BL b v5 (Ak b n0) n1) (Bi b v5 v6 (Ak b n0) (BL b v5 (Ak b n0) n1) n2) x.1 x.2=EV b) ?_ (((b.Pours.length:Int)-0).toNat+1,0) ⟨Nat.lt_succ_self _,⟨ax0,ax0⟩,(by rw [<- hF2];simp only [Bi,h4,cond_true,cond_false])⟩
 rintro n3 v11 hm3 ⟨hinv3,hF3⟩
 try dsimp only at hm3 hinv3 hF3
 refine AB<|AB<|on<|kb (decide ((v11:Int)<(b.Pours.length:Int))) (fun h5 => ?_) (fun h5 => ?_)
 ·have g5:=oT h5
  refine AQ<|AE<|AB<|AM<|AB<|od [] [] [0<=(v11:Int)/\(v11:Int)<((b.Pours.length:Nat):Int),0<=(v11:Int)/\(v11:Int)<((b.Pours.length:Nat):Int)] .nil (H2 au0 au0)<|AE<|AB<|oq 173 _ (SC (b.Pours.getD v11.toNat default).Rects au16)<|AE<|AB ?_
  refine rc [] (i5 (!decide (((BQ b v11).Id:Int)=(BQ b v11).Id)) (i5 (bif !decide (((BQ b v11).Id:Int)=(BQ b v11).Id) then true else !((BQ b v11).Net.toList==(BQ b v11).Net.toList)) (i5 (bif bif !decide (((BQ b v11).Id:Int)=(BQ b v11).Id) then true else !((BQ b v11).Net.toList==(BQ b v11).Net.toList) then true else !decide (((BQ b v11).Layer:Int)=(BQ b v11).Layer)) (i5 (bif bif bif !decide (((BQ b v11).Id:Int)=(BQ b v11).Id) then true else !((BQ b v11).Net.toList==(BQ b v11).Net.toList) then true else !decide (((BQ b v11).Layer:Int)=(BQ b v11).Layer) then true else !decide (((BQ b v11).Pitch:Int)=(BQ b v11).Pitch)) (i5 (bif bif bif bif !decide (((BQ b v11).Id:Int)=(BQ b v11).Id) then true else !((BQ b v11).Net.toList==(BQ b v11).Net.toList) then true else !decide (((BQ b v11).Layer:Int)=(BQ b v11).Layer) then true else !decide (((BQ b v11).Pitch:Int)=(BQ b v11).Pitch) then true else !decide (((BQ b v11).Priority:Int)=(BQ b v11).Priority)) (i5 (bif bif bif bif bif !decide (((BQ b v11).Id:Int)=(BQ b v11).Id) then true else !((BQ b v11).Net.toList==(BQ b v11).Net.toList) then true else !decide (((BQ b v11).Layer:Int)=(BQ b v11).Layer) then true else !decide (((BQ b v11).Pitch:Int)=(BQ b v11).Pitch) then true else !decide (((BQ b v11).Priority:Int)=(BQ b v11).Priority) then true else !decide (((BQ b v11).Relief:Int)=(BQ b v11).Relief)) (i2 (bif bif bif bif bif bif !decide (((BQ b v11).Id:Int)=(BQ b v11).Id) then true else !((BQ b v11).Net.toList==(BQ b v11).Net.toList) then true else !decide (((BQ b v11).Layer:Int)=(BQ b v11).Layer) then true else !decide (((BQ b v11).Pitch:Int)=(BQ b v11).Pitch) then true else !decide (((BQ b v11).Priority:Int)=(BQ b v11).Priority) then true else !decide (((BQ b v11).Relief:Int)=(BQ b v11).Relief) then true else !decide (((BQ b v11).Spoke:Int)=(BQ b v11).Spoke)) []))))))) ⟨[(2,tP 2 0),(3,tP 3 0),(11,tI v11),(224,tB (bif bif bif bif bif bif bif !decide (((BQ b v11).Id:Int)=(BQ b v11).Id) then true else !((BQ b v11).Net.toList==(BQ b v11).Net.toList) then true else !decide (((BQ b v11).Layer:Int)=(BQ b v11).Layer) then true else !decide (((BQ b v11).Pitch:Int)=(BQ b v11).Pitch) then true else !decide (((BQ b v11).Priority:Int)=(BQ b v11).Priority) then true else !decide (((BQ b v11).Relief:Int)=(BQ b v11).Relief) then true else !decide (((BQ b v11).Spoke:Int)=(BQ b v11).Spoke) then true else false))],(DN b)⟩ .nil (c5 (c5 (c5 (c5 (c5 (c5 (c2 .nil)))))))<|AE ?_
  have h6:(bif bif bif bif bif bif bif !decide (((b.Pours.getD v11.toNat default).Id:Int)=(b.Pours.getD v11.toNat default).Id) then true else !((b.Pours.getD v11.toNat default).Net.toList==(b.Pours.getD v11.toNat default).Net.toList) then true else !decide (((b.Pours.getD v11.toNat default).Layer:Int)=(b.Pours.getD v11.toNat default).Layer) then true else !decide (((b.Pours.getD v11.toNat default).Pitch:Int)=(b.Pours.getD v11.toNat default).Pitch) then true else !decide (((b.Pours.getD v11.toNat default).Priority:Int)=(b.Pours.getD v11.toNat default).Priority) then true else !decide (((b.Pours.getD v11.toNat default).Relief:Int)=(b.Pours.getD v11.toNat default).Relief) then true else !decide (((b.Pours.getD v11.toNat default).Spoke:Int)=(b.Pours.getD v11.toNat default).Spoke) then true else false)=false:=(by simp [Ce])
  refine Ap _ rfl (fun h=>absurd (h6.symm.trans h) (by decide)) (fun _ => ?_)
  refine AQ<|A3<|AE<|rg ⟨[(2,tP 2 0),(3,tP 3 0),(11,tI (W64 (v11+1)))],(DN b)⟩ ?_
  (try rw [(show W64 (v11+1)=v11+1 from Ae oM au3)])
  refine AE ?_
  refine ⟨(n3,v11+1),⟨?_,?_,(by rw [<- hF3];simp only [B6,h5,h6,cond_true,cond_false])⟩,Nat.lt_succ_self _,Al kr⟩
  ·dsimp only;omega
  exact ⟨ax0,ax0⟩
 have g5:=oF h5
 refine An<|Ai<|Ai<|Ao<|AE<|AB<|AB<|rn ⟨[(2,tP 2 0),(3,tP 3 0),(15,tI 0)],(DN b)⟩<|AM<|lpC (κ:=Int) (fun x=>⟨[(2,tP 2 0),(3,tP 3 0),(15,tI x.2)],(DN b)⟩) (fun x=>((b.Keeps.length:Int)-x.2).toNat) (fun x=>(0<=x.2/\(x.2<=(b.Keeps.length:Int)\/x.2=0))/\CO b v5 v6 v7 v11 (Ak b n0) (BL b v5 (Ak b n0) n1) (Bi b v5 v6 (Ak b n0) (BL b v5 (Ak b n0) n1) n2) (B6 b v5 v6 v7 (Ak b n0) (BL b v5 (Ak b n0) n1) (Bi b v5 v6 (Ak b n0) (BL b v5 (Ak b n0) n1) n2) n3) x.1 x.2=EV b) ?_ (((b.Keeps.length:Int)-0).toNat+1,0) ⟨Nat.lt_succ_self _,⟨ax0,ax0⟩,(by rw [<- hF3];simp only [B6,h5,cond_true,cond_false])⟩
 rintro n4 v15 hm4 ⟨hinv4,hF4⟩
 try dsimp only at hm4 hinv4 hF4
 refine AB<|AB<|on<|kb (decide ((v15:Int)<(b.Keeps.length:Int))) (fun h6 => ?_) (fun h6 => ?_)
 ·have g6:=oT h6
  refine AQ<|AE<|AB<|AM<|AB<|oe [] _ [0<=(v15:Int)/\(v15:Int)<((b.Keeps.length:Nat):Int),0<=(v15:Int)/\(v15:Int)<((b.Keeps.length:Nat):Int),none] (J1 244 (J0 (b.Keeps.getD v15.toNat default).Shape (b.Keeps.getD v15.toNat default).Shape au16 au16)) (H2 au0 au0)<|AE<|AB ?_
  refine dw [] [] ((0<=(v15:Int)/\(v15:Int)<((b.Keeps.length:Nat):Int))::(0<=(v15:Int)/\(v15:Int)<((b.Keeps.length:Nat):Int))::(i3 (OJ b v15) ((gj (OJ b v15) (0<=(v15:Int)/\(v15:Int)<((b.Keeps.length:Nat):Int)))::(i5 (OJ b v15) ((gj (OJ b v15) (0<=(v15:Int)/\(v15:Int)<((b.Keeps.length:Nat):Int)))::(i5 (OJ b v15) (i2 (bif !decide (((KO b v15).Id:Int)=(KO b v15).Id) then true else !decide (((KO b v15).Layer:Int)=(KO b v15).Layer)) []))))))) ⟨[(2,tP 2 0),(3,tP 3 0),(15,tI v15),(276,tB (bif bif !decide (((KO b v15).Id:Int)=(KO b v15).Id) then true else !decide (((KO b v15).Layer:Int)=(KO b v15).Layer) then true else !(Z6A b v15)))],(DN b)⟩ .nil (.cons au0 (.cons au0 (c3 (.cons (fun hG=>by first | exact au0 | (simp only [decide_eq_true_eq,decide_eq_false_iff_not,Bool.not_eq_true,Bool.and_eq_true] at hG <;> omega) | (simp at hG <;> omega) | (simp only [decide_eq_true_eq,decide_eq_false_iff_not] at hG;simp only [Bf];omega)) (c5 (.cons (fun hG=>by first | exact au0 | (simp only [decide_eq_true_eq,decide_eq_false_iff_not,Bool.not_eq_true,Bool.and_eq_true] at hG <;> omega) | (simp at hG <;> omega) | (simp only [decide_eq_true_eq,decide_eq_false_iff_not] at hG;simp only [Bf];omega)) (c5 (c2 .nil))))))))<|AE ?_
  have h7:(bif bif !decide (((b.Keeps.getD v15.toNat default).Id:Int)=(b.Keeps.getD v15.toNat default).Id) then true else !decide (((b.Keeps.getD v15.toNat default).Layer:Int)=(b.Keeps.getD v15.toNat default).Layer) then true else !(Z6A b v15))=false:=(by simp [Ce,Z6A])
  refine Ap _ rfl (fun h=>absurd (h7.symm.trans h) (by decide)) (fun _ => ?_)
  refine AQ<|A3<|AE<|rg ⟨[(2,tP 2 0),(3,tP 3 0),(15,tI (W64 (v15+1)))],(DN b)⟩ ?_
  (try rw [(show W64 (v15+1)=v15+1 from Ae oM au3)])
  refine AE ?_
  refine ⟨(n4,v15+1),⟨?_,?_,(by rw [<- hF4];simp only [CO,h6,h7,cond_true,cond_false])⟩,Nat.lt_succ_self _,Al kr⟩
  ·dsimp only;omega
  exact ⟨ax0,ax0⟩
 have g6:=oF h6
 refine An<|Ai<|Ai<|Ao<|AE<|AB<|AB<|rn ⟨[(2,tP 2 0),(3,tP 3 0),(17,tI 0)],(DN b)⟩<|AM<|lpC (κ:=Int) (fun x=>⟨[(2,tP 2 0),(3,tP 3 0),(17,tI x.2)],(DN b)⟩) (fun x=>((b.Slots.length:Int)-x.2).toNat) (fun x=>(0<=x.2/\(x.2<=(b.Slots.length:Int)\/x.2=0))/\DX b v5 v6 v7 v11 v15 (Ak b n0) (BL b v5 (Ak b n0) n1) (Bi b v5 v6 (Ak b n0) (BL b v5 (Ak b n0) n1) n2) (B6 b v5 v6 v7 (Ak b n0) (BL b v5 (Ak b n0) n1) (Bi b v5 v6 (Ak b n0) (BL b v5 (Ak b n0) n1) n2) n3) (CO b v5 v6 v7 v11 (Ak b n0) (BL b v5 (Ak b n0) n1) (Bi b v5 v6 (Ak b n0) (BL b v5 (Ak b n0) n1) n2) (B6 b v5 v6 v7 (Ak b n0) (BL b v5 (Ak b n0) n1) (Bi b v5 v6 (Ak b n0) (BL b v5 (Ak b n0) n1) n2) n3) n4) x.1 x.2=EV b) ?_ (((b.Slots.length:Int)-0).toNat+1,0) ⟨Nat.lt_succ_self _,⟨ax0,ax0⟩,(by rw [<- hF4];simp only [CO,h6,cond_true,cond_false])⟩
 rintro n5 v17 hm5 ⟨hinv5,hF5⟩
 try dsimp only at hm5 hinv5 hF5
 refine AB<|AB<|on<|kb (decide ((v17:Int)<(b.Slots.length:Int))) (fun h7 => ?_) (fun h7 => ?_)
 ·have g7:=oT h7
  refine AQ<|AE<|AB<|AM<|AB<|oe [] _ [0<=(v17:Int)/\(v17:Int)<((b.Slots.length:Nat):Int),0<=(v17:Int)/\(v17:Int)<((b.Slots.length:Nat):Int),none] (J1 296 (J0 (b.Slots.getD v17.toNat default).Shape (b.Slots.getD v17.toNat default).Shape au16 au16)) (H2 au0 au0)<|AE<|AB<|dw [] [] ((0<=(v17:Int)/\(v17:Int)<((b.Slots.length:Nat):Int))::(0<=(v17:Int)/\(v17:Int)<((b.Slots.length:Nat):Int))::(i2 (!decide (((b.Slots.getD v17.toNat default).Id:Int)=(b.Slots.getD v17.toNat default).Id)) [])) ⟨[(2,tP 2 0),(3,tP 3 0),(17,tI v17),(313,tB (bif !decide (((b.Slots.getD v17.toNat default).Id:Int)=(b.Slots.getD v17.toNat default).Id) then true else !(Z6z b v17)))],(DN b)⟩ .nil (.cons au0 (.cons au0 (c2 .nil)))<|AE ?_
  have h8:(bif !decide (((b.Slots.getD v17.toNat default).Id:Int)=(b.Slots.getD v17.toNat default).Id) then true else !(Z6z b v17))=false:=(by simp [Ce,Z6z])
  refine Ap _ rfl (fun h=>absurd (h8.symm.trans h) (by decide)) (fun _ => ?_)
  refine AQ<|A3<|AE<|rg ⟨[(2,tP 2 0),(3,tP 3 0),(17,tI (W64 (v17+1)))],(DN b)⟩ ?_
  (try rw [(show W64 (v17+1)=v17+1 from Ae oM au3)])
  refine AE ?_
  refine ⟨(n5,v17+1),⟨?_,?_,(by rw [<- hF5];simp only [DX,h7,h8,cond_true,cond_false])⟩,Nat.lt_succ_self _,Al kr⟩
  ·dsimp only;omega
  exact ⟨ax0,ax0⟩
 exact An<|Ai<|Ai<|Ao<|AE<|AB<|on<|AW<|zl (by rw [<- hF5];simp only [DX,h7,cond_true,cond_false] <;> kernel_rfl)
theorem ZN (b:AG) (hc:I6 b):OKc (PN b):=cPu<|cZ b hc
theorem S7 (b:AG) (v5:Int) (v6:Int) (v7:Int) (v11:Int) (v15:Int) (K0:Int->Bool) (K1:Int->Bool) (K2:Int->Bool) (K3:Int->Bool) (K4:Int->Bool):DX b v5 v6 v7 v11 v15 K0 K1 K2 K3 K4 (((b.Slots.length:Int)-0).toNat+1) 0=true:=Cz (g:=DX b v5 v6 v7 v11 v15 K0 K1 K2 K3 K4) (fun n5 v17=>true) b.Slots.length (fun _ _=>rfl) (fun n v=>by rw [DX]) _ _ (by omega)
theorem S8 (b:AG) (v5:Int) (v6:Int) (v7:Int) (v11:Int) (K0:Int->Bool) (K1:Int->Bool) (K2:Int->Bool) (K3:Int->Bool):CO b v5 v6 v7 v11 K0 K1 K2 K3 (((b.Keeps.length:Int)-0).toNat+1) 0=true:=Cz (g:=CO b v5 v6 v7 v11 K0 K1 K2 K3) (fun n4 v15=>(DX b v5 v6 v7 v11 v15 K0 K1 K2 K3 (CO b v5 v6 v7 v11 K0 K1 K2 K3 n4) (((b.Slots.length:Int)-0).toNat+1) 0)) b.Keeps.length (fun _ _=>S7 _ _ _ _ _ _ _ _ _ _ _) (fun n v=>by rw [CO]) _ _ (by omega)
theorem S9 (b:AG) (v5:Int) (v6:Int) (v7:Int) (K0:Int->Bool) (K1:Int->Bool) (K2:Int->Bool):B6 b v5 v6 v7 K0 K1 K2 (((b.Pours.length:Int)-0).toNat+1) 0=true:=Cz (g:=B6 b v5 v6 v7 K0 K1 K2) (fun n3 v11=>(CO b v5 v6 v7 v11 K0 K1 K2 (B6 b v5 v6 v7 K0 K1 K2 n3) (((b.Keeps.length:Int)-0).toNat+1) 0)) b.Pours.length (fun _ _=>S8 _ _ _ _ _ _ _ _ _) (fun n v=>by rw [B6]) _ _ (by omega)
theorem TA (b:AG) (v5:Int) (v6:Int) (K0:Int->Bool) (K1:Int->Bool):Bi b v5 v6 K0 K1 (((b.Tracks.length:Int)-0).toNat+1) 0=true:=Cz (g:=Bi b v5 v6 K0 K1) (fun n2 v7=>(B6 b v5 v6 v7 K0 K1 (Bi b v5 v6 K0 K1 n2) (((b.Pours.length:Int)-0).toNat+1) 0)) b.Tracks.length (fun _ _=>S9 _ _ _ _ _ _ _) (fun n v=>by rw [Bi]) _ _ (by omega)
theorem TB (b:AG) (v5:Int) (K0:Int->Bool):BL b v5 K0 (((b.Vias.length:Int)-0).toNat+1) 0=true:=Cz (g:=BL b v5 K0) (fun n1 v6=>(Bi b v5 v6 K0 (BL b v5 K0 n1) (((b.Tracks.length:Int)-0).toNat+1) 0)) b.Vias.length (fun _ _=>TA _ _ _ _ _) (fun n v=>by rw [BL]) _ _ (by omega)
theorem TC (b:AG):Ak b (((b.Parts.length:Int)-0).toNat+1) 0=true:=Cz (g:=Ak b) (fun n0 v5=>(BL b v5 (Ak b n0) (((b.Vias.length:Int)-0).toNat+1) 0)) b.Parts.length (fun _ _=>TB _ _ _) (fun n v=>by rw [Ak]) _ _ (by omega)
theorem S6 (b:AG) (hc:I6 b):EV b=true:=by
 unfold EV
 exact TC b
def PG (b:AG):CT:=(70,(Re b),.val [] Kj)
theorem WC (b:AG) (hc:I6 b):OKc (PG b):=by
 have h:=ZN b hc
 unfold PN at h
 rw [S6 b hc] at h
 exact h
def Z6C:Bool := !((b.Matches.getD v8.toNat default).Name.toList==(b.Matches.getD v8.toNat default).Name.toList)
def Z6D:Bool := !((b.Classes.getD v7.toNat default).Name.toList==(b.Classes.getD v7.toNat default).Name.toList)
def Z6E:Bool := !((b.Nets.getD v6.toNat default).Name.toList==(b.Nets.getD v6.toNat default).Name.toList)
def Ee (b:AG) (v6:Int) (v7:Int) (v8:Int) (v9:Int) (K0:Int->Bool) (K1:Int->Bool) (K2:Int->Bool) (K3:Int->Bool):Nat->Int->Bool
 | 0,_=>default
 | n4+1,v10=>bif decide ((v10:Int)<(b.Waivers.length:Int)) then ((Ee b v6 v7 v8 v9 K0 K1 K2 K3 n4) (v10+1)) else true
def DT (b:AG) (v6:Int) (v7:Int) (v8:Int) (K0:Int->Bool) (K1:Int->Bool) (K2:Int->Bool):Nat->Int->Bool
 | 0,_=>default
 | n3+1,v9=>bif decide ((v9:Int)<(b.Rules.length:Int)) then ((DT b v6 v7 v8 K0 K1 K2 n3) (v9+1)) else (Ee b v6 v7 v8 v9 K0 K1 K2 (DT b v6 v7 v8 K0 K1 K2 n3) (((b.Waivers.length:Int)-0).toNat+1) 0)
def Cy (b:AG) (v6:Int) (v7:Int) (K0:Int->Bool) (K1:Int->Bool):Nat->Int->Bool
 | 0,_=>default
 | n2+1,v8=>bif decide ((v8:Int)<(b.Matches.length:Int)) then ((Cy b v6 v7 K0 K1 n2) (v8+1)) else (DT b v6 v7 v8 K0 K1 (Cy b v6 v7 K0 K1 n2) (((b.Rules.length:Int)-0).toNat+1) 0)
def B7 (b:AG) (v6:Int) (K0:Int->Bool):Nat->Int->Bool
 | 0,_=>default
 | n1+1,v7=>bif decide ((v7:Int)<(b.Classes.length:Int)) then ((B7 b v6 K0 n1) (v7+1)) else (Cy b v6 v7 K0 (B7 b v6 K0 n1) (((b.Matches.length:Int)-0).toNat+1) 0)
def Bb (b:AG):Nat->Int->Bool
 | 0,_=>default
 | n0+1,v6=>bif decide ((v6:Int)<(b.Nets.length:Int)) then ((Bb b n0) (v6+1)) else (B7 b v6 (Bb b n0) (((b.Classes.length:Int)-0).toNat+1) 0)
def Hn (b:AG):Bool:=Bb b (((b.Nets.length:Int)-0).toNat+1) 0
def Wh:CT:=(24,(Re b),.val [] (.av (.one (.b (Hn b)))))
abbrev N9:=b.Matches.getD v8.toNat default
abbrev N0:=(bif Z6C b v8 then true else !decide (((N9 b v8).Within:Int)=(N9 b v8).Within))
abbrev MK:=El b.Outline b.Outline
abbrev nT:=(bif bif bif bif bif bif !decide ((b.Layers:Int)=b.Layers) then true else !(MK b) then true else false then true else !decide (((b.Nets.length:Int):Int)=(b.Nets.length:Int)) then true else !decide (((b.Classes.length:Int):Int)=(b.Classes.length:Int)) then true else !decide (((b.Matches.length:Int):Int)=(b.Matches.length:Int)) then true else !decide (((b.Rules.length:Int):Int)=(b.Rules.length:Int)))
abbrev nP:=(bif bif bif bif bif !decide ((b.Layers:Int)=b.Layers) then true else !(MK b) then true else false then true else !decide (((b.Nets.length:Int):Int)=(b.Nets.length:Int)) then true else !decide (((b.Classes.length:Int):Int)=(b.Classes.length:Int)) then true else !decide (((b.Matches.length:Int):Int)=(b.Matches.length:Int)))
abbrev bP:=(bif bif bif bif !decide ((b.Layers:Int)=b.Layers) then true else !(MK b) then true else false then true else !decide (((b.Nets.length:Int):Int)=(b.Nets.length:Int)) then true else !decide (((b.Classes.length:Int):Int)=(b.Classes.length:Int)))
abbrev MF:=b.Waivers.getD v10.toNat default
abbrev bO:Bool := !(decide ((MF b v10).A=(MF b v10).A)&&(decide ((MF b v10).B=(MF b v10).B)&&(((MF b v10).Rule.toList==(MF b v10).Rule.toList)&&true)))
abbrev bK:=(bif bif bif !decide ((b.Layers:Int)=b.Layers) then true else !(MK b) then true else false then true else !decide (((b.Nets.length:Int):Int)=(b.Nets.length:Int)))
abbrev U8:=(bif !decide ((b.Layers:Int)=b.Layers) then true else !(MK b))
abbrev aN:=(bif bif !decide ((b.Layers:Int)=b.Layers) then true else !(MK b) then true else false)
theorem pS (b:AG) (hc:I6 b):PuP 24 (Wh b).2.1 (tO (.b (Hn b))):=by
 refine pwf Tryz.func24 fun W0 M0 => ?_
 have ⟨p0,p1,p2,p3,p4,p5,p6,p7,p8,p9,p10,_,_,_,_,_,_,_,_,_⟩:=hc
 have hr:=hc.rok
 refine AB<|on<|AB<|oq 15 _ (J0 b.Outline b.Outline au16 au16)<|AE<|AB<|AB<|rc [(28,PG b)] (i2 (!decide ((b.Layers:Int)=b.Layers)) (i2 (U8 b) ((gj (U8 b) (CD (PG b).2.1))::(i2 (U8 b) (i2 (aN b) (i5 (aN b) (i2 (bK b) (i5 (bK b) (i2 (bP b) (i5 (bP b) (i2 (nP b) (i5 (nP b) (i2 (nT b) (i5 (nT b) [])))))))))))))) ⟨[(2,tP 2 0),(3,tP 3 0),(75,tB (bif bif bif bif bif bif bif !decide ((b.Layers:Int)=b.Layers) then true else !(MK b) then true else false then true else !decide (((b.Nets.length:Int):Int)=(b.Nets.length:Int)) then true else !decide (((b.Classes.length:Int):Int)=(b.Classes.length:Int)) then true else !decide (((b.Matches.length:Int):Int)=(b.Matches.length:Int)) then true else !decide (((b.Rules.length:Int):Int)=(b.Rules.length:Int)) then true else !decide (((b.Waivers.length:Int):Int)=(b.Waivers.length:Int))))],(DN b)⟩ (.cons (WC b au16) .nil) (c2 (c2 (.cons (fun _=>rfl) (c2 (c2 (c5 (c2 (c5 (c2 (c5 (c2 (c5 (c2 (c5 .nil))))))))))))))<|AE ?_
 have h1:(bif bif bif bif bif bif bif !decide ((b.Layers:Int)=b.Layers) then true else !(El b.Outline b.Outline) then true else false then true else !decide (((b.Nets.length:Int):Int)=(b.Nets.length:Int)) then true else !decide (((b.Classes.length:Int):Int)=(b.Classes.length:Int)) then true else !decide (((b.Matches.length:Int):Int)=(b.Matches.length:Int)) then true else !decide (((b.Rules.length:Int):Int)=(b.Rules.length:Int)) then true else !decide (((b.Waivers.length:Int):Int)=(b.Waivers.length:Int)))=false:=(by simp [Ce])
 refine Ap _ rfl (fun h=>absurd (h1.symm.trans h) (by decide)) (fun _ => ?_)
 refine AQ<|AE<|AB<|AB<|rn ⟨[(2,tP 2 0),(3,tP 3 0),(6,tI 0)],(DN b)⟩<|AM<|lpC (κ:=Int) (fun x=>⟨[(2,tP 2 0),(3,tP 3 0),(6,tI x.2)],(DN b)⟩) (fun x=>((b.Nets.length:Int)-x.2).toNat) (fun x=>(0<=x.2/\(x.2<=(b.Nets.length:Int)\/x.2=0))/\Bb b x.1 x.2=Hn b) ?_ (((b.Nets.length:Int)-0).toNat+1,0) ⟨Nat.lt_succ_self _,⟨ax0,ax0⟩,(by simp only [Hn,h1,cond_true,cond_false])⟩
 rintro n0 v6 hm0 ⟨hinv0,hF0⟩
 try dsimp only at hm0 hinv0 hF0
 refine AB<|AB<|on<|kb (decide ((v6:Int)<(b.Nets.length:Int))) (fun h2 => ?_) (fun h2 => ?_)
 ·have g2:=oT h2
  refine AQ<|AE<|AB<|AM<|AB ?_
  refine dw [] _ [0<=(v6:Int)/\(v6:Int)<((b.Nets.length:Nat):Int),0<=(v6:Int)/\(v6:Int)<((b.Nets.length:Nat):Int),gp ((Z6E b v6)=false),gp ((Z6E b v6)=false),gp ((Z6E b v6)=false),((Z6E b v6)=false)->(0<=(v6:Int)/\(v6:Int)<((b.Nets.length:Nat):Int)),gp ((Z6E b v6)=false),gp ((Z6E b v6)=false),gp ((Z6E b v6)=false),gp ((Z6E b v6)=false),gp ((Z6E b v6)=false),((Z6E b v6)=false)->(0<=(v6:Int)/\(v6:Int)<((b.Nets.length:Nat):Int)),gp ((Z6E b v6)=false),gp ((Z6E b v6)=false),gp ((Z6E b v6)=false),gp ((Z6E b v6)=false),((Z6E b v6)=false)->(CD (Qt (b.Nets.getD v6.toNat default).Pins).2.1),gp ((Z6E b v6)=false),gp ((Z6E b v6)=false)] ⟨[(2,tP 2 0),(3,tP 3 0),(6,tI v6),(111,tB (bif Z6E b v6 then true else false))],(DN b)⟩ (J1 109 (Tw (b.Nets.getD v6.toNat default).Pins au16)) (.cons au0 (.cons au0 (ci (ci (ci (.cons (fun hG=>by first | exact au0 | (simp only [decide_eq_true_eq,decide_eq_false_iff_not,Bool.not_eq_true,Bool.and_eq_true] at hG <;> omega) | (simp at hG <;> omega) | (simp only [decide_eq_true_eq,decide_eq_false_iff_not] at hG;simp only [Bf];omega)) (ci (ci (ci (ci (ci (.cons (fun hG=>by first | exact au0 | (simp only [decide_eq_true_eq,decide_eq_false_iff_not,Bool.not_eq_true,Bool.and_eq_true] at hG <;> omega) | (simp at hG <;> omega) | (simp only [decide_eq_true_eq,decide_eq_false_iff_not] at hG;simp only [Bf];omega)) (ci (ci (ci (ci (.cons (fun _=>rfl) (ci (ci .nil)))))))))))))))))))<|AE ?_
  have h3:(bif Z6E b v6 then true else false)=false:=(by simp [Ce,Z6E])
  refine Ap _ rfl (fun h=>absurd (h3.symm.trans h) (by decide)) (fun _ => ?_)
  refine AQ<|A3<|AE<|rg ⟨[(2,tP 2 0),(3,tP 3 0),(6,tI (W64 (v6+1)))],(DN b)⟩ ?_
  (try rw [(show W64 (v6+1)=v6+1 from Ae oM au3)])
  refine AE ?_
  refine ⟨(n0,v6+1),⟨?_,?_,(by rw [<- hF0];simp only [Bb,h2,h3,cond_true,cond_false])⟩,Nat.lt_succ_self _,Al kr⟩
  ·dsimp only;omega
  exact ⟨ax0,ax0⟩
 have g2:=oF h2
 refine An<|Ai<|Ai<|Ao<|AE<|AB<|AB<|rn ⟨[(2,tP 2 0),(3,tP 3 0),(7,tI 0)],(DN b)⟩<|AM<|lpC (κ:=Int) (fun x=>⟨[(2,tP 2 0),(3,tP 3 0),(7,tI x.2)],(DN b)⟩) (fun x=>((b.Classes.length:Int)-x.2).toNat) (fun x=>(0<=x.2/\(x.2<=(b.Classes.length:Int)\/x.2=0))/\B7 b v6 (Bb b n0) x.1 x.2=Hn b) ?_ (((b.Classes.length:Int)-0).toNat+1,0) ⟨Nat.lt_succ_self _,⟨ax0,ax0⟩,(by rw [<- hF0];simp only [Bb,h2,cond_true,cond_false])⟩
 rintro n1 v7 hm1 ⟨hinv1,hF1⟩
 try dsimp only at hm1 hinv1 hF1
 refine AB<|AB<|on<|kb (decide ((v7:Int)<(b.Classes.length:Int))) (fun h3 => ?_) (fun h3 => ?_)
 ·have g3:=oT h3
  refine AQ<|AE<|AB<|AM<|AB ?_
  refine dw [] _ [0<=(v7:Int)/\(v7:Int)<((b.Classes.length:Nat):Int),0<=(v7:Int)/\(v7:Int)<((b.Classes.length:Nat):Int),gp ((Z6D b v7)=false),gp ((Z6D b v7)=false),gp ((Z6D b v7)=false),((Z6D b v7)=false)->(0<=(v7:Int)/\(v7:Int)<((b.Classes.length:Nat):Int)),gp ((Z6D b v7)=false),gp ((Z6D b v7)=false),gp ((Z6D b v7)=false),gp ((Z6D b v7)=false),gp ((Z6D b v7)=false),((Z6D b v7)=false)->(0<=(v7:Int)/\(v7:Int)<((b.Classes.length:Nat):Int)),gp ((Z6D b v7)=false),gp ((Z6D b v7)=false),gp ((Z6D b v7)=false),gp ((Z6D b v7)=false),((Z6D b v7)=false)->(CD (Ip (b.Classes.getD v7.toNat default).Nets).2.1),gp ((Z6D b v7)=false),gp ((Z6D b v7)=false)] ⟨[(2,tP 2 0),(3,tP 3 0),(7,tI v7),(147,tB (bif Z6D b v7 then true else false))],(DN b)⟩ (J1 145 (LT (b.Classes.getD v7.toNat default).Nets au16)) (.cons au0 (.cons au0 (ci (ci (ci (.cons (fun hG=>by first | exact au0 | (simp only [decide_eq_true_eq,decide_eq_false_iff_not,Bool.not_eq_true,Bool.and_eq_true] at hG <;> omega) | (simp at hG <;> omega) | (simp only [decide_eq_true_eq,decide_eq_false_iff_not] at hG;simp only [Bf];omega)) (ci (ci (ci (ci (ci (.cons (fun hG=>by first | exact au0 | (simp only [decide_eq_true_eq,decide_eq_false_iff_not,Bool.not_eq_true,Bool.and_eq_true] at hG <;> omega) | (simp at hG <;> omega) | (simp only [decide_eq_true_eq,decide_eq_false_iff_not] at hG;simp only [Bf];omega)) (ci (ci (ci (ci (.cons (fun _=>rfl) (ci (ci .nil)))))))))))))))))))<|AE ?_
  have h4:(bif Z6D b v7 then true else false)=false:=(by simp [Ce,Z6D])
  refine Ap _ rfl (fun h=>absurd (h4.symm.trans h) (by decide)) (fun _ => ?_)
  refine AQ<|A3<|AE<|rg ⟨[(2,tP 2 0),(3,tP 3 0),(7,tI (W64 (v7+1)))],(DN b)⟩ ?_
  (try rw [(show W64 (v7+1)=v7+1 from Ae oM au3)])
  refine AE ?_
  refine ⟨(n1,v7+1),⟨?_,?_,(by rw [<- hF1];simp only [B7,h3,h4,cond_true,cond_false])⟩,Nat.lt_succ_self _,Al kr⟩
  ·dsimp only;omega
  exact ⟨ax0,ax0⟩
 have g3:=oF h3
 refine An<|Ai<|Ai<|Ao<|AE<|AB<|AB<|rn ⟨[(2,tP 2 0),(3,tP 3 0),(8,tI 0)],(DN b)⟩<|AM<|lpC (κ:=Int) (fun x=>⟨[(2,tP 2 0),(3,tP 3 0),(8,tI x.2)],(DN b)⟩) (fun x=>((b.Matches.length:Int)-x.2).toNat) (fun x=>(0<=x.2/\(x.2<=(b.Matches.length:Int)\/x.2=0))/\Cy b v6 v7 (Bb b n0) (B7 b v6 (Bb b n0) n1) x.1 x.2=Hn b) ?_ (((b.Matches.length:Int)-0).toNat+1,0) ⟨Nat.lt_succ_self _,⟨ax0,ax0⟩,(by rw [<- hF1];simp only [B7,h3,cond_true,cond_false])⟩
 rintro n2 v8 hm2 ⟨hinv2,hF2⟩
 try dsimp only at hm2 hinv2 hF2
 refine AB<|AB<|on<|kb (decide ((v8:Int)<(b.Matches.length:Int))) (fun h4 => ?_) (fun h4 => ?_)
 ·have g4:=oT h4
  refine AQ<|AE<|AB<|AM<|AB ?_
  refine dw [] [(196,Ip (N9 b v8).Nets)] ((0<=(v8:Int)/\(v8:Int)<((b.Matches.length:Nat):Int))::(0<=(v8:Int)/\(v8:Int)<((b.Matches.length:Nat):Int))::(gp ((Z6C b v8)=false))::(gp ((Z6C b v8)=false))::(gp ((Z6C b v8)=false))::(((Z6C b v8)=false)->(0<=(v8:Int)/\(v8:Int)<((b.Matches.length:Nat):Int)))::(gp ((Z6C b v8)=false))::(gp ((Z6C b v8)=false))::(gp ((Z6C b v8)=false))::(gp ((Z6C b v8)=false))::(gp ((Z6C b v8)=false))::(((Z6C b v8)=false)->(0<=(v8:Int)/\(v8:Int)<((b.Matches.length:Nat):Int)))::(gp ((Z6C b v8)=false))::(gp ((Z6C b v8)=false))::(gp ((Z6C b v8)=false))::(gp ((Z6C b v8)=false))::(gp ((Z6C b v8)=false))::(i3 (N0 b v8) ((gj (N0 b v8) (0<=(v8:Int)/\(v8:Int)<((b.Matches.length:Nat):Int)))::(i5 (N0 b v8) ((gj (N0 b v8) (0<=(v8:Int)/\(v8:Int)<((b.Matches.length:Nat):Int)))::(i4 (N0 b v8) ((gj (N0 b v8) (CD (Ip (b.Matches.getD v8.toNat default).Nets).2.1))::(i2 (N0 b v8) [])))))))) ⟨[(2,tP 2 0),(3,tP 3 0),(8,tI v8),(198,tB (bif bif Z6C b v8 then true else !decide (((N9 b v8).Within:Int)=(N9 b v8).Within) then true else false))],(DN b)⟩ (.cons (LT (b.Matches.getD v8.toNat default).Nets au16) .nil) (.cons au0 (.cons au0 (ci (ci (ci (.cons (fun hG=>by first | exact au0 | (simp only [decide_eq_true_eq,decide_eq_false_iff_not,Bool.not_eq_true,Bool.and_eq_true] at hG <;> omega) | (simp at hG <;> omega) | (simp only [decide_eq_true_eq,decide_eq_false_iff_not] at hG;simp only [Bf];omega)) (ci (ci (ci (ci (ci (.cons (fun hG=>by first | exact au0 | (simp only [decide_eq_true_eq,decide_eq_false_iff_not,Bool.not_eq_true,Bool.and_eq_true] at hG <;> omega) | (simp at hG <;> omega) | (simp only [decide_eq_true_eq,decide_eq_false_iff_not] at hG;simp only [Bf];omega)) (ci (ci (ci (ci (ci (c3 (.cons (fun hG=>by first | exact au0 | (simp only [decide_eq_true_eq,decide_eq_false_iff_not,Bool.not_eq_true,Bool.and_eq_true] at hG <;> omega) | (simp at hG <;> omega) | (simp only [decide_eq_true_eq,decide_eq_false_iff_not] at hG;simp only [Bf];omega)) (c5 (.cons (fun hG=>by first | exact au0 | (simp only [decide_eq_true_eq,decide_eq_false_iff_not,Bool.not_eq_true,Bool.and_eq_true] at hG <;> omega) | (simp at hG <;> omega) | (simp only [decide_eq_true_eq,decide_eq_false_iff_not] at hG;simp only [Bf];omega)) (c4 (.cons (fun _=>rfl) (c2 .nil))))))))))))))))))))))))<|AE ?_
  have h5:(bif bif Z6C b v8 then true else !decide (((b.Matches.getD v8.toNat default).Within:Int)=(b.Matches.getD v8.toNat default).Within) then true else false)=false:=(by simp [Ce,Z6C])
  refine Ap _ rfl (fun h=>absurd (h5.symm.trans h) (by decide)) (fun _ => ?_)
  refine AQ<|A3<|AE<|rg ⟨[(2,tP 2 0),(3,tP 3 0),(8,tI (W64 (v8+1)))],(DN b)⟩ ?_
  (try rw [(show W64 (v8+1)=v8+1 from Ae oM au3)])
  refine AE ?_
  refine ⟨(n2,v8+1),⟨?_,?_,(by rw [<- hF2];simp only [Cy,h4,h5,cond_true,cond_false])⟩,Nat.lt_succ_self _,Al kr⟩
  ·dsimp only;omega
  exact ⟨ax0,ax0⟩
 have g4:=oF h4
 refine An<|Ai<|Ai<|Ao<|AE<|AB<|AB<|rn ⟨[(2,tP 2 0),(3,tP 3 0),(9,tI 0)],(DN b)⟩<|AM<|lpC (κ:=Int) (fun x=>⟨[(2,tP 2 0),(3,tP 3 0),(9,tI x.2)],(DN b)⟩) (fun x=>((b.Rules.length:Int)-x.2).toNat) (fun x=>(0<=x.2/\(x.2<=(b.Rules.length:Int)\/x.2=0))/\DT b v6 v7 v8 (Bb b n0) (B7 b v6 (Bb b n0) n1) (Cy b v6 v7 (Bb b n0) (B7 b v6 (Bb b n0) n1) n2) x.1 x.2=Hn b) ?_ (((b.Rules.length:Int)-0).toNat+1,0) ⟨Nat.lt_succ_self _,⟨ax0,ax0⟩,(by rw [<- hF2];simp only [Cy,h4,cond_true,cond_false])⟩
 rintro n3 v9 hm3 ⟨hinv3,hF3⟩
 try dsimp only at hm3 hinv3 hF3
 refine AB<|AB<|on<|kb (decide ((v9:Int)<(b.Rules.length:Int))) (fun h5 => ?_) (fun h5 => ?_)
 ·have g5:=oT h5
  refine AQ<|AE<|AB<|AM<|AB<|oe [] _ [0<=(v9:Int)/\(v9:Int)<((b.Rules.length:Nat):Int),0<=(v9:Int)/\(v9:Int)<((b.Rules.length:Nat):Int),none] (J1 216 (Tu (b.Rules.getD v9.toNat default) (TR hr _).1 (TR hr _).2)) (H2 au0 au0)<|AE<|DS kr<|AQ<|A3<|AE<|rg ⟨[(2,tP 2 0),(3,tP 3 0),(9,tI (W64 (v9+1)))],(DN b)⟩ ?_
  (try rw [(show W64 (v9+1)=v9+1 from Ae oM au3)])
  refine AE ?_
  refine ⟨(n3,v9+1),⟨?_,?_,(by rw [<- hF3];simp only [DT,h5,cond_true,cond_false])⟩,Nat.lt_succ_self _,Al kr⟩
  ·dsimp only;omega
  exact ⟨ax0,ax0⟩
 have g5:=oF h5
 refine An<|Ai<|Ai<|Ao<|AE<|AB<|AB<|rn ⟨[(2,tP 2 0),(3,tP 3 0),(10,tI 0)],(DN b)⟩<|AM<|lpC (κ:=Int) (fun x=>⟨[(2,tP 2 0),(3,tP 3 0),(10,tI x.2)],(DN b)⟩) (fun x=>((b.Waivers.length:Int)-x.2).toNat) (fun x=>(0<=x.2/\(x.2<=(b.Waivers.length:Int)\/x.2=0))/\Ee b v6 v7 v8 v9 (Bb b n0) (B7 b v6 (Bb b n0) n1) (Cy b v6 v7 (Bb b n0) (B7 b v6 (Bb b n0) n1) n2) (DT b v6 v7 v8 (Bb b n0) (B7 b v6 (Bb b n0) n1) (Cy b v6 v7 (Bb b n0) (B7 b v6 (Bb b n0) n1) n2) n3) x.1 x.2=Hn b) ?_ (((b.Waivers.length:Int)-0).toNat+1,0) ⟨Nat.lt_succ_self _,⟨ax0,ax0⟩,(by rw [<- hF3];simp only [DT,h5,cond_true,cond_false])⟩
 rintro n4 v10 hm4 ⟨hinv4,hF4⟩
 try dsimp only at hm4 hinv4 hF4
 refine AB<|AB<|on<|kb (decide ((v10:Int)<(b.Waivers.length:Int))) (fun h6 => ?_) (fun h6 => ?_)
 ·have g6:=oT h6
  refine AQ<|AE<|AB<|AM<|AB<|dw [] [] [0<=(v10:Int)/\(v10:Int)<((b.Waivers.length:Nat):Int),0<=(v10:Int)/\(v10:Int)<((b.Waivers.length:Nat):Int)] ⟨[(2,tP 2 0),(3,tP 3 0),(10,tI v10),(235,tB (bO b v10))],(DN b)⟩ .nil (H2 au0 au0)<|AE ?_
  have h7:(bO b v10)=false:=(by simp [Ce])
  refine Ap _ rfl (fun h=>absurd (h7.symm.trans h) (by decide)) (fun _ => ?_)
  refine AQ<|A3<|AE<|rg ⟨[(2,tP 2 0),(3,tP 3 0),(10,tI (W64 (v10+1)))],(DN b)⟩ ?_
  (try rw [(show W64 (v10+1)=v10+1 from Ae oM au3)])
  refine AE ?_
  refine ⟨(n4,v10+1),⟨?_,?_,(by rw [<- hF4];simp only [Ee,h6,h7,cond_true,cond_false])⟩,Nat.lt_succ_self _,Al kr⟩
  ·dsimp only;omega
  exact ⟨ax0,ax0⟩
 exact An<|Ai<|Ai<|Ao<|AE<|AB<|on<|AW<|zl (by rw [<- hF4];simp only [Ee,h6,cond_true,cond_false] <;> kernel_rfl)
theorem lF (b:AG) (hc:I6 b):OKc (Wh b):=cPu<|pS b hc
theorem Yp (b:AG) (v6:Int) (v7:Int) (v8:Int) (v9:Int) (K0:Int->Bool) (K1:Int->Bool) (K2:Int->Bool) (K3:Int->Bool):Ee b v6 v7 v8 v9 K0 K1 K2 K3 (((b.Waivers.length:Int)-0).toNat+1) 0=true:=Cz (g:=Ee b v6 v7 v8 v9 K0 K1 K2 K3) (fun n4 v10=>true) b.Waivers.length (fun _ _=>rfl) (fun n v=>by rw [Ee]) _ _ (by omega)
theorem Yq (b:AG) (v6:Int) (v7:Int) (v8:Int) (K0:Int->Bool) (K1:Int->Bool) (K2:Int->Bool):DT b v6 v7 v8 K0 K1 K2 (((b.Rules.length:Int)-0).toNat+1) 0=true:=Cz (g:=DT b v6 v7 v8 K0 K1 K2) (fun n3 v9=>(Ee b v6 v7 v8 v9 K0 K1 K2 (DT b v6 v7 v8 K0 K1 K2 n3) (((b.Waivers.length:Int)-0).toNat+1) 0)) b.Rules.length (fun _ _=>Yp _ _ _ _ _ _ _ _ _) (fun n v=>by rw [DT]) _ _ (by omega)
theorem Yr (b:AG) (v6:Int) (v7:Int) (K0:Int->Bool) (K1:Int->Bool):Cy b v6 v7 K0 K1 (((b.Matches.length:Int)-0).toNat+1) 0=true:=Cz (g:=Cy b v6 v7 K0 K1) (fun n2 v8=>(DT b v6 v7 v8 K0 K1 (Cy b v6 v7 K0 K1 n2) (((b.Rules.length:Int)-0).toNat+1) 0)) b.Matches.length (fun _ _=>Yq _ _ _ _ _ _ _) (fun n v=>by rw [Cy]) _ _ (by omega)
theorem Ys (b:AG) (v6:Int) (K0:Int->Bool):B7 b v6 K0 (((b.Classes.length:Int)-0).toNat+1) 0=true:=Cz (g:=B7 b v6 K0) (fun n1 v7=>(Cy b v6 v7 K0 (B7 b v6 K0 n1) (((b.Matches.length:Int)-0).toNat+1) 0)) b.Classes.length (fun _ _=>Yr _ _ _ _ _) (fun n v=>by rw [B7]) _ _ (by omega)
theorem Yt (b:AG):Bb b (((b.Nets.length:Int)-0).toNat+1) 0=true:=Cz (g:=Bb b) (fun n0 v6=>(B7 b v6 (Bb b n0) (((b.Classes.length:Int)-0).toNat+1) 0)) b.Nets.length (fun _ _=>Ys _ _ _) (fun n v=>by rw [Bb]) _ _ (by omega)
theorem Yo (b:AG) (hc:I6 b):Hn b=true:=by
 unfold Hn
 exact Yt b
def gL (b:AG):CT:=(24,(Re b),.val [] Kj)
theorem dX (b:AG) (hc:I6 b):OKc (gL b):=by
 have h:=lF b hc
 unfold Wh at h
 rw [Yo b hc] at h
 exact h
end
def ZH (b:AG) (x:AF×BH):Aa:=Aa.mk (Bs (Aq (BS x.1) x.2.At) (W64 (Int.tdiv x.2.Drill 2))) 1 b.Layers true
def bU (v:Aw):Aa:=Aa.mk (Bs v.At (W64 (Int.tdiv v.Drill 2))) v.From v.To true
def Ob (b:AG) (s:Aj):Aa:=Aa.mk (GG s.Shape) 1 b.Layers false
def drl (x:AF×BH):Bool := !decide (x.2.Drill=0)
theorem PE {α β γ:Type} (p:β->Bool) (f:β->γ) (g:α->β):∀ (xs:List α) (acc:List γ),xs.foldl (fun acc x=>bif p (g x) then acc++[f (g x)] else acc) acc=acc++((xs.map g).filter p).map f
 | [],acc=>(List.append_nil acc).symm
 | x::xs,acc=>by
  rw [List.foldl_cons,PE p f g xs,List.map_cons]
  cases hq:p (g x) with
  | true=>rw [List.filter_cons_of_pos hq,List.map_cons];simp
  | false=>rw [List.filter_cons_of_neg (by rw [hq];decide)];rfl
theorem NB {α γ:Type} (f:α->List γ):∀ (xs:List α) (acc:List γ),xs.foldl (fun acc x=>acc++f x) acc=acc++xs.flatMap f
 | [],acc=>(List.append_nil acc).symm
 | x::xs,acc=>by rw [List.foldl_cons,NB f xs,List.flatMap_cons,List.append_assoc]
theorem RV (b:AG) (types:List AN):Fe b types=((((CI b).flatMap (D4 types)).filter drl).map (ZH b))++(BV b).map bU++(C9 b).map (Ob b):=by
 have h3:∀ o v o' w K0 K1,FH b types o v o' w K0 K1 (((((C9 b).length:Nat):Int)-0).toNat+1) o' 0=o'++(C9 b).map (Ob b):=fun o v o' w K0 K1=>by
  have:=Ky (C9 b) (fun acc s=>acc++[Ob b s]) (FH b types o v o' w K0 K1) (fun acc _=>acc) (fun m acc v=>by rw [FH,Int.toNat_natCast];rfl) (C9 b).length 0 (((((C9 b).length:Nat):Int)-0).toNat+1) o' rfl (Nat.zero_le _) (by omega)
  rw [List.drop_zero,Gw] at this
  exact this
 have h2:∀ o v K0,EH b types o v K0 (((((BV b).length:Nat):Int)-0).toNat+1) o 0=o++(BV b).map bU++(C9 b).map (Ob b):=fun o v K0=>by
  have:=Ky (BV b) (fun acc v=>acc++[bU v]) (EH b types o v K0) (fun acc _=>acc++(C9 b).map (Ob b)) (fun m acc w=>by rw [EH,h3,Int.toNat_natCast];rfl) (BV b).length 0 (((((BV b).length:Nat):Int)-0).toNat+1) o rfl (Nat.zero_le _) (by omega)
  rw [List.drop_zero,Gw] at this
  exact this
 have h1:∀ (o:List Aa) (k:Nat) K0,FI b types o (k:Int) K0 ((((BA types ((CI b).getD (k:Int).toNat default).Type').1.Pads.length:Int)-0).toNat+1) o 0=K0 (o++((D4 types ((CI b).getD k default)).filter drl).map (ZH b)) ((k:Int)+1):=fun o k K0=>by
  rw [Int.toNat_natCast]
  have:=Ky (BA types ((CI b).getD k default).Type').1.Pads (fun acc q=>bif drl ((CI b).getD k default,q) then acc++[ZH b ((CI b).getD k default,q)] else acc) (FI b types o (k:Int) K0) (fun acc _=>K0 acc ((k:Int)+1)) (fun m acc w=>by
   rw [FI,Int.toNat_natCast,Int.toNat_natCast]
   rfl) (BA types ((CI b).getD k default).Type').1.Pads.length 0 (((((((BA types ((CI b).getD k default).Type').1).Pads).length:Int))-0).toNat+1) o rfl (Nat.zero_le _) (by omega)
  rw [List.drop_zero,PE drl (ZH b) (fun q=>((CI b).getD k default,q))] at this
  exact this
 have:=Ky (CI b) (fun acc p=>acc++((D4 types p).filter drl).map (ZH b)) (Dw b types) (fun acc _=>acc++(BV b).map bU++(C9 b).map (Ob b)) (fun m acc v=>by rw [Dw,h1,h2]) (CI b).length 0 (((((CI b).length:Nat):Int)-0).toNat+1) [] rfl (Nat.zero_le _) (by omega)
 rw [List.drop_zero,NB,List.nil_append] at this
 refine this.trans ?_
 rw [List.filter_flatMap,List.map_flatMap]
theorem UF {B:AG} {T:List AN} {l:List (List Int)} (h:Fp B T l):CI B=B.Parts:=by
 rw [RE]
 exact J5 _ _ fun k hk=>by
  show decide (Cd (B.Parts.getD (k+1) default).Id (B.Parts.getD k default).Id<0)=false
  exact Sb (by rw [(h.par k (by omega)).id,(h.par (k+1) hk).id];omega)
theorem WO {B:AG} {T:List AN} {l:List (List Int)} (h:Fp B T l):Fe B T=(((B.Parts.flatMap (D4 T)).filter drl).map (ZH B))++B.Vias.map bU++(C9 B).map (Ob B):=by
 rw [RV,UF h,QW h]
theorem ZW {B:AG} {T:List AN} {l:List (List Int)} (h:Fp B T l):(B.Parts.flatMap (D4 T)).length<=18:=by
 have h3:=h.parl
 have key:∀ v:List AF,(∀ x∈v,x∈B.Parts)->(v.flatMap (D4 T)).length<=6*v.length:=by
  intro v
  induction v with
  | nil=>intro _;exact Nat.le_refl _
  | cons x v ih =>
   intro hx
   have:=ih fun y hy=>hx y (List.mem_cons_of_mem _ hy)
   obtain ⟨i,hi,e,hm⟩:=O3 h.par (hx x (List.mem_cons_self ..))
   have:=UV l hm.typ
   rw [<- h.types,RW] at this
   rw [List.flatMap_cons,List.length_append,Ic,List.length_cons]
   omega
 have:=key _ fun x hx=>hx
 omega
theorem Zf (l:List (List Int)):((Fe (Ar l).1 (Ar l).2).length:Int)<=100000000:=by
 have h:=SH l
 have h1:=ZW h
 have h2:=h.vial
 have h3:=h.slotl
 have h4:=List.length_filter_le drl ((Ar l).1.Parts.flatMap (D4 (Ar l).2))
 rw [WO h]
 simp only [List.length_append,List.length_map,LE]
 omega
theorem T9 (s:AO) (m:AZ):∀ (n:Nat) (x:List AK) (v:Int),F9 s m n x v=Eh s m n x v
 | 0,_,_=>rfl
 | n+1,x,v=>by rw [F9,Eh,T9 s m n]
theorem eY (s:AO) (m:AZ):Gh s m=Em s m:=T9 s m _ _ _
theorem fM (b:AG) (v:List (Ab×ByteArray)) (x:AF×BH):X4 b v x=O6 b v x:=by
 unfold X4 O6
 rw [eY]
theorem dL (b:AG) (types:List AN):C0 b types=Du b types:=by
 rw [RO,Pp]
 exact List.map_congr_left fun x _=>fM _ _ _
theorem YU (b:AG) (types:List AN) (o:List AL) (v:Int) (K K':List AL->Int->List AL):∀ (n:Nat) (x:List AL) (k:Int),HT b types o v K n x k=GJ b types o v K' n x k
 | 0,_,_=>rfl
 | n+1,x,k=>by rw [HT,GJ,YU b types o v K K' n];rfl
theorem YV (b:AG) (types:List AN):∀ (n:Nat) (x:List AL) (k:Int),Ff b types n x k=E1 b types n x k
 | 0,_,_=>rfl
 | n+1,x,k=>by rw [Ff,E1,YV b types n,YU b types x k _ (E1 b types n)];rfl
theorem YW (b:AG) (types:List AN):IV b types=DJ b types:=by
 unfold IV DJ
 rw [dL,YV]
 rfl
theorem Qf (b:AG) (types:List AN) (o:List Aa) (v:Int) (K:List Aa->Int->List Aa):∀ (n:Nat) (x:List Aa) (k:Int),HS b types o v K n x k=FI b types o v K n x k
 | 0,_,_=>rfl
 | n+1,x,k=>by rw [HS,FI,Qf b types o v K n];rfl
theorem Qd (b:AG) (types:List AN) (o:List Aa) (v:Int) (o1:List Aa) (v1:Int) (K K' K1 K1':List Aa->Int->List Aa):∀ (n:Nat) (x:List Aa) (k:Int),HR b types o v o1 v1 K K1 n x k=FH b types o v o1 v1 K' K1' n x k
 | 0,_,_=>rfl
 | n+1,x,k=>by rw [HR,FH,Qd b types o v o1 v1 K K' K1 K1' n];rfl
theorem Qe (b:AG) (types:List AN) (o:List Aa) (v:Int) (K K':List Aa->Int->List Aa):∀ (n:Nat) (x:List Aa) (k:Int),GB b types o v K n x k=EH b types o v K' n x k
 | 0,_,_=>rfl
 | n+1,x,k=>by rw [GB,EH,Qe b types o v K K' n,Qd b types o v x k K K' _ (EH b types o v K' n)];rfl
theorem Qg (b:AG) (types:List AN):∀ (n:Nat) (x:List Aa) (k:Int),E8 b types n x k=Dw b types n x k
 | 0,_,_=>rfl
 | n+1,x,k=>by
  have e:E8 b types n=Dw b types n:=funext fun x=>funext fun k=>Qg b types n x k
  rw [E8,Dw,e,Qf,Qe b types x k (Dw b types n) (Dw b types n)];rfl
theorem Qh (b:AG) (types:List AN):GH b types=Fe b types:=Qg b types _ _ _
theorem iY (l:List (List Int)):((IV (Ar l).1 (Ar l).2).length:Int)<=100000000:=by rw [YW];exact YT l
theorem mZ (l:List (List Int)) (k:Nat):(((IV (Ar l).1 (Ar l).2).getD k default).Shape.Edges.length:Int)<=1000000:=by rw [YW];exact UJ l k
theorem WT (l:List (List Int)):((GH (Ar l).1 (Ar l).2).length:Int)<=100000000:=by rw [Qh];exact Zf l
theorem Zg (l:List (List Int)) (k:Nat):(((GH (Ar l).1 (Ar l).2).getD k default).Shape.Edges.length:Int)<=1000000:=by
 refine Eb (p:=fun x:Aa=>(x.Shape.Edges.length:Int)<=1000000) (by decide) (fun x hx => ?_) k
 rw [Qh,RV] at hx
 rcases List.mem_append.1 hx with hx | hx
 ·rcases List.mem_append.1 hx with hx | hx
  ·obtain ⟨y,hy,rfl⟩:=List.mem_map.1 hx
   show ((1:Nat):Int)<=1000000;decide
  obtain ⟨y,hy,rfl⟩:=List.mem_map.1 hx
  show ((1:Nat):Int)<=1000000;decide
 obtain ⟨y,hy,rfl⟩:=List.mem_map.1 hx
 exact (LW l).sed y (Pg.1 hy)
theorem Wk {α:Type} {c:Bool} {a b:DW×α} (h:BX a.1) (k:BX b.1):BX (bif c then a else b).1:=by cases c <;> assumption
theorem Jp:BX AJ:=.inl ⟨_,rfl⟩
theorem YF (d:AD):BX (BD d).1:=by
 unfold BD
 repeat (first | exact .inl ⟨_,rfl⟩ | exact .inr (.inl ⟨_,_,_,⟨_,_,_,_⟩,rfl⟩) | exact .inr (.inr ⟨_,_,_,⟨_,_,_,_⟩,_,_,_,⟨_,_,_,_⟩,rfl⟩) | refine Wk ?_ ?_)
theorem QI {l m:List A0} (h:∀ r∈l,BX r.A/\BX r.B) (k:∀ r∈m,BX r.A/\BX r.B):∀ r∈l++m,BX r.A/\BX r.B:=fun r hr=>(List.mem_append.1 hr).elim (h r) (k r)
theorem QE {a b:A0} (h:BX a.A/\BX a.B) (k:BX b.A/\BX b.B):∀ r∈[a,b],BX r.A/\BX r.B:=fun r hr=>by
 simp only [List.mem_cons,List.not_mem_nil,or_false] at hr
 rcases hr with rfl | rfl <;> assumption
theorem Yx {a:A0} (h:BX a.A/\BX a.B):∀ r∈[a],BX r.A/\BX r.B:=fun r hr=>by
 rw [List.mem_singleton.1 hr];exact h
theorem QH {c:Bool} {l m:List A0} (h:∀ r∈l,BX r.A/\BX r.B) (k:∀ r∈m,BX r.A/\BX r.B):∀ r∈(bif c then l else m),BX r.A/\BX r.B:=by cases c <;> assumption
theorem TQ (d:AD):∀ r∈Z3D d,BX r.A/\BX r.B:=by
 unfold Z3D
 have h2:=fun x y=>QE (a:=A0.mk ({ data := #[99,49] }:ByteArray) 1 1 AJ AJ x) (b:=A0.mk ({ data := #[101,49] }:ByteArray) 1 3 AJ AJ y) ⟨Jp,Jp⟩ ⟨Jp,Jp⟩
 exact QH (QI (h2 _ _) (QE ⟨Jp,Jp⟩ ⟨Jp,Jp⟩)) (h2 _ _)
theorem QF (d:AD):∀ r∈Z3S d,BX r.A/\BX r.B:=by
 unfold Z3S
 exact QH (QI (TQ d) (Yx ⟨YF _,YF _⟩)) (TQ d)
theorem QG (d:AD):(Z3S d).length<=5:=by
 unfold Z3S Z3D
 cases decide ((AA (Z3C d) 2).1=1) <;> cases decide ((AA (AA (AA d 10).2 8).2 2).1=1) <;> simp
structure Zy (b:AG):Prop where
 rul:Si b
 rull:b.Rules.length<=5
 cla:b.Classes.length<=1
 clan:∀ c∈b.Classes,c.Nets.length<=1
 wai:b.Waivers.length<=1
 mat:b.Matches.length<=1
 matn:∀ c∈b.Matches,c.Nets.length<=2
theorem sA (d:AD):(Z3X d).length<=1/\∀ c∈Z3X d,c.Nets.length<=1:=by
 unfold Z3X
 cases decide ((AA (Z3R d) 3).1=0) with
 | true=>exact ⟨by simp,fun c hc=>by rw [cond_true] at hc;rw [List.mem_singleton.1 hc];exact Nat.le_refl 1⟩
 | false=>exact ⟨by simp,fun c hc=>by cases hc⟩
theorem bS (d:AD) (b:AG):(Z47 d b).length<=1:=by
 unfold Z47
 cases decide ((AA (AA (Z3R d) 3).2 4).1=0) <;> simp
theorem cM {α:Type} {c:Bool} {a b:AG×α} (h:Zy a.1) (k:Zy b.1):Zy (bif c then a else b).1:=by cases c <;> assumption
theorem jS (b:AG) (d:AD):Zy (C5 b d).1:=by
 unfold C5
 have hc:=sA d
 refine cM ⟨QF d,QG d,hc.1,hc.2,bS d b,?_,fun c h => ?_⟩ ⟨QF d,QG d,hc.1,hc.2,bS d b,?_,fun c h => ?_⟩
 ·exact Nat.le_refl 1
 ·rw [List.mem_singleton.1 h];exact Nat.le_refl 2
 ·exact Nat.zero_le 1
 cases h
theorem eZ (l:List (List Int)):Zy (Ar l).1:=O1 l (fun x=>Zy x.1) fun v x y z _ _ _ _ _ _=>jS _ _
theorem Im {α:Type} [Inhabited α] {l:List α} {f:α->Nat} (hd:f default<=1000000) (h:∀ x∈l,f x<=1000000) (k:Nat):((f (l.getD k default):Nat):Int)<=1000000:=by
 have:=Eb (p:=fun x=>f x<=1000000) hd h k
 omega
theorem jT (b:AG) (d:AD):(C5 b d).1.Outline=b.Outline:=by
 unfold C5
 cases decide ((AA (Z46 d b) 4).1=0) <;> rfl
theorem lC (l:List (List Int)):((Ar l).1.Outline.Edges.length:Int)<=1000000:=by
 refine O1 l (fun x=>(x.1.Outline.Edges.length:Int)<=1000000) fun v x y z _ _ _ _ _ _ => ?_
 show ((Z6m l v x y z).1.Outline.Edges.length:Int)<=1000000
 unfold Z6m
 rw [jT]
 show ((Z6k l v x y z).Outline.Edges.length:Int)<=1000000
 unfold Z6k
 rw [(HZ _ _ _).out]
 show ((Z5E l).Edges.length:Int)<=1000000
 unfold Z5E
 cases decide ((AA (AD.mk (AY l 2) 0) 3).1=0) with
 | true=>exact (by decide:((8:Nat):Int)<=1000000)
 | false=>exact (by decide:((4:Nat):Int)<=1000000)
theorem ZY (l:List (List Int)):I6 (Ar l).1:=by
 have h:=SH l
 have hr:=eZ l
 have h1:=h.parl
 have h2:=h.trkl
 have h3:=h.vial
 have h4:=h.slotl
 have h5:=h.poul
 have h6:=h.keel
 have r1:=hr.rull
 have r2:=hr.cla
 have r3:=hr.wai
 have r4:=hr.mat
 obtain ⟨p,q,r,e,n1,n2,n3⟩:=h.net
 refine ⟨by omega,by rw [e];show ((3:Nat):Int)<=1000000;decide,by omega,by omega,by omega,by omega,by omega,by omega,by omega,by omega,by omega,lC l,?_,?_,?_,?_,?_,?_,?_,hr.rul⟩
 ·refine Im (f:=fun n:Bz=>n.Pins.length) (by decide) fun n hn => ?_
  rw [e] at hn
  simp only [List.mem_cons,List.not_mem_nil,or_false] at hn
  rcases hn with rfl | rfl | rfl <;> (simp only;omega)
 ·refine Im (f:=fun t:AV=>t.Shape.Edges.length) (by decide) fun t ht => ?_
  obtain ⟨k,hk,_,hm⟩:=O3 h.trk ht
  obtain ⟨a,c,d,_,_,e2⟩:=hm.edg
  rw [e2]
  have:=Ma a c d
  omega
 ·refine Im (f:=fun t:BZ=>t.Rects.length) (by decide) fun t ht => ?_
  have:=h.pour t ht
  unfold Yc at this
  omega
 ·refine Im (f:=fun t:C4=>t.Shape.Edges.length) (by decide) fun t ht => ?_
  have:=h.keep t ht
  unfold Yd at this
  omega
 ·refine Im (f:=fun t:Aj=>t.Shape.Edges.length) (by decide) fun t ht => ?_
  obtain ⟨r,p,_,_,_,e2⟩:=h.slot t ht
  rw [e2]
  show 1<=1000000;decide
 ·refine Im (f:=fun t:Ch=>t.Nets.length) (by decide) fun t ht => ?_
  have:=hr.clan t ht
  omega
 refine Im (f:=fun t:Ds=>t.Nets.length) (by decide) fun t ht => ?_
 have:=hr.matn t ht
 omega
def Ly (a:AL) (b:AL):Bool:=bif bif bif bif bif bif decide ((a.Id:Int)=b.Id) then (a.Pad.toList==b.Pad.toList) else false then decide ((a.Kind:Int)=b.Kind) else false then (a.Net.toList==b.Net.toList) else false then decide ((a.From:Int)=b.From) else false then decide ((a.To:Int)=b.To) else false then El a.Shape b.Shape else false
def YL (a:AL) (b:AL):CT:=(50,[.agg (AL.c a),.agg (AL.c b)],.val [] (.av (.one (.b (Ly a b)))))
theorem kV (a:AL) (b:AL) (h0:(a.Shape.Edges.length:Int)<=1000000) (h1:(b.Shape.Edges.length:Int)<=1000000):PuP 50 (YL a b).2.1 (tO (.b (Ly a b))):=by
 refine pwf Tryz.func50 fun W0 M0 => ?_
 exact AB<|on<|AB<|oc [(50,Mg a.Shape b.Shape)] (t5 (decide ((a.Id:Int)=b.Id)) (t5 (bif decide ((a.Id:Int)=b.Id) then (OT a b) else false) (t5 (aZ a b) (t5 (bE a b) (t5 (bM a b) (t4 (P6 a b) [gk (P6 a b) (CD (Mg a.Shape b.Shape).2.1),gt (P6 a b)])))))) (.cons (J0 a.Shape b.Shape au10 au10) .nil) (c5 (c5 (c5 (c5 (c5 (c4 (.cons (fun _=>rfl) (ci .nil))))))))<|AE<|AW<|zl
theorem eB (a:AL) (b:AL) (h0:(a.Shape.Edges.length:Int)<=1000000) (h1:(b.Shape.Edges.length:Int)<=1000000):OKc (YL a b):=cPu<|kV a b h0 h1
def Z6F (a:(List AL)) (k:Int) (b:(List AL)):Bool:=Ly (a.getD k.toNat default) (b.getD k.toNat default)
def D0 (a:(List AL)) (b:(List AL)):Nat->Int->Bool
 | 0,_=>default
 | n0+1,k=>bif decide ((k:Int)<(a.length:Int)) then (bif !(Z6F a k b) then false else ((D0 a b n0) (k+1))) else true
def GW (a:(List AL)) (b:(List AL)):Bool:=bif !decide (((a.length:Int):Int)=(b.length:Int)) then false else (D0 a b (((a.length:Int)-0).toNat+1) 0)
def PW (a:(List AL)) (b:(List AL)):CT:=(13,[.one (lst 9 AL.c a),.one (lst 9 AL.c b)],.val [] (.av (.one (.b (GW a b)))))
theorem dN (a:(List AL)) (b:(List AL)) (h0:(a.length:Int)<=1000000000) (ha:∀ k,(((a.getD k default).Shape.Edges.length:Int)<=1000000)) (hbb:∀ k,(((b.getD k default).Shape.Edges.length:Int)<=1000000)):PuP 13 (PW a b).2.1 (tO (.b (GW a b))):=by
 refine pwf Tryz.func13 fun W0 M0 => ?_
 refine AB<|on<|AB<|AB<|on<|kb (!decide (((a.length:Int):Int)=(b.length:Int))) (fun h1 => ?_) (fun h1 => ?_)
 ·have g1:=Bq h1
  exact AB<|on<|AW<|Be<|zl (by simp only [GW,h1,cond_true,cond_false] <;> kernel_rfl)
 have g1:=BN h1
 refine AQ<|AE<|AB<|AB<|rn ⟨[(0,tO (lst 9 AL.c a)),(1,tO (lst 9 AL.c b)),(5,tI 0)],[]⟩<|AM<|lpC (κ:=Int) (fun x=>⟨[(0,tO (lst 9 AL.c a)),(1,tO (lst 9 AL.c b)),(5,tI x.2)],[]⟩) (fun x=>((a.length:Int)-x.2).toNat) (fun x=>(0<=x.2/\(x.2<=(a.length:Int)\/x.2=0))/\D0 a b x.1 x.2=GW a b) ?_ (((a.length:Int)-0).toNat+1,0) ⟨Nat.lt_succ_self _,⟨ax0,ax0⟩,(by simp only [GW,h1,cond_true,cond_false])⟩
 rintro n0 k hm0 ⟨hinv0,hF0⟩
 try dsimp only at hm0 hinv0 hF0
 refine AB<|AB<|on<|kb (decide ((k:Int)<(a.length:Int))) (fun h2 => ?_) (fun h2 => ?_)
 ·have g2:=oT h2
  refine AQ<|AE<|AB<|AM<|AB<|oe [] _ [0<=(k:Int)/\(k:Int)<((a.length:Nat):Int),0<=(k:Int)/\(k:Int)<((b.length:Nat):Int),none] (J1 25 (eB (a.getD k.toNat default) (b.getD k.toNat default) (by first | (exact ha _) | (exact hbb _) | with_reducible assumption | omega | decide | (simp only [List.length_cons,List.length_nil,List.length_append];omega) | assumption) (by first | (exact ha _) | (exact hbb _) | with_reducible assumption | omega | decide | (simp only [List.length_cons,List.length_nil,List.length_append];omega) | assumption))) (H2 au0 au0)<|AE<|kb (!(Z6F a k b)) (fun h3 => ?_) (fun h3 => ?_)
  ·exact AB<|on<|AW<|DB<|Be<|Be<|DB<|Be<|zl (by rw [<- hF0];simp only [D0,h2,h3,cond_true,cond_false] <;> kernel_rfl)
  refine AQ<|A3<|AE<|rg ⟨[(0,tO (lst 9 AL.c a)),(1,tO (lst 9 AL.c b)),(5,tI (W64 (k+1)))],[]⟩ ?_
  (try rw [(show W64 (k+1)=k+1 from Ae oM au3)])
  refine AE ?_
  refine ⟨(n0,k+1),⟨?_,?_,(by rw [<- hF0];simp only [D0,h2,h3,cond_true,cond_false])⟩,Nat.lt_succ_self _,Al kr⟩
  ·dsimp only;omega
  exact ⟨ax0,ax0⟩
 exact An<|Ai<|Ai<|Ao<|AE<|AB<|on<|AW<|zl (by rw [<- hF0];simp only [D0,h2,cond_true,cond_false] <;> kernel_rfl)
theorem ZP (a:(List AL)) (b:(List AL)) (h0:(a.length:Int)<=1000000000) (ha:∀ k,(((a.getD k default).Shape.Edges.length:Int)<=1000000)) (hbb:∀ k,(((b.getD k default).Shape.Edges.length:Int)<=1000000)):OKc (PW a b):=cPu<|dN a b h0 ha hbb
def Z6G (s:AO) (k:Int) (m:AZ):AK:=Dh (s.Edges.getD k.toNat default) m
def E7 (s:AO) (m:AZ):Nat->List AK->Int->AO
 | 0,_,_=>default
 | n0+1,out_1,k=>bif decide ((k:Int)<(s.Edges.length:Int)) then ((E7 s m n0) (out_1++[Z6G s k m]) (k+1)) else (AO.mk s.Kind out_1 s.R)
def Hg (s:AO) (m:AZ):AO:=E7 s m (((s.Edges.length:Int)-0).toNat+1) ([]:List AK) 0
def YM (s:AO) (m:AZ):CT:=(25,[.agg (AO.c s),.agg (AZ.c m)],.val [] (.av (.agg (AO.c (Hg s m)))))
theorem kW (s:AO) (m:AZ) (h0:(s.Edges.length:Int)<=1000000):PuP 25 (YM s m).2.1 (.av (.agg (AO.c (Hg s m)))):=by
 refine pwf Tryz.func25 fun W0 M0 => ?_
 refine AB<|on<|AB<|on<|AB<|AB<|rn ⟨(CR [(5,tP 5 0),(6,tI 0)]),[(2,.cells (AO.c s) 28),(Gi m),LH,(5,.cells [.i s.Kind,vN,.i s.R] 28)]⟩<|AM<|BE (Cv.trans (vg 2000 7 (fun _ _=>default) 68 [] [(5,[1])] hk0) (Cv.trans (A5 2000 (B9 7 (fun _ _=>default) AK.c)) (ck (⟨(CR [(5,tP 5 0),(6,tI 0)]),[(2,.cells (AO.c s) 28),(Gi m),LH,(5,.cells [.i s.Kind,.own 2000 7 ([]:List AK).length,.i s.R] 28),(2000,.row 7 ([]:List AK).length (AP AK.c ([]:List AK)) 68)]⟩))))<|lpC (κ:=List AK×Int) (fun x=>⟨(CR [(5,tP 5 0),(6,tI x.2.2)]),[(2,.cells (AO.c s) 28),(Gi m),LH,(5,.cells [.i s.Kind,.own 2000 7 x.2.1.length,.i s.R] 28),(2000,.row 7 x.2.1.length (AP AK.c x.2.1) 68)]⟩) (fun x=>((s.Edges.length:Int)-x.2.2).toNat) (fun x=>(0<=x.2.2/\(x.2.2<=(s.Edges.length:Int)\/x.2.2=0)/\(x.2.1.length:Int)<=0+1*(x.2.2-0))/\E7 s m x.1 x.2.1 x.2.2=Hg s m) ?_ (((s.Edges.length:Int)-0).toNat+1,([]:List AK),0) ⟨Nat.lt_succ_self _,⟨ax0,ax0,ax0⟩,(by simp only [Hg,cond_true,cond_false])⟩
 rintro n0 ⟨out_1,k⟩ hm0 ⟨hinv0,hF0⟩
 try dsimp only at hm0 hinv0 hF0
 refine AB<|AB<|on<|kb (decide ((k:Int)<(s.Edges.length:Int))) (fun h1 => ?_) (fun h1 => ?_)
 ·have g1:=oT h1
  refine AQ<|AE<|AB<|AM<|oe [] _ [0<=(k:Int)/\(k:Int)<((s.Edges.length:Nat):Int),none,out_1.length=out_1.length,out_1.length+1<=maxLen,(out_1.length+1)*56<=140737488355328] (J1 27 (Tn (s.Edges.getD k.toNat default) m)) (H4 au0 rfl au2 au2)<|A3<|AE<|BE (A5 29 (BF (A1 7 AK.c out_1) (BC 7 AK.c ([Z6G s k m]:List AK))))<|rg ⟨(CR [(5,tP 5 0),(6,tI (W64 (k+1)))]),[(2,.cells (AO.c s) 28),(Gi m),LH,(5,.cells [.i s.Kind,.own 29 7 (out_1++[Z6G s k m]).length,.i s.R] 28),(29,.row 7 (out_1++[Z6G s k m]).length (AP AK.c (out_1++[Z6G s k m])) 68)]⟩ ?_
  (try rw [(show W64 (k+1)=k+1 from Ae oM au3)])
  refine AE ?_
  refine ⟨(n0,out_1++[Z6G s k m],k+1),⟨?_,?_,(by rw [<- hF0];simp only [E7,h1,cond_true,cond_false])⟩,Nat.lt_succ_self _,Cv.trans (vr 29 2000 hk0) (Al kr)⟩
  ·dsimp only;omega
  exact ⟨ax0,ax0,ax0⟩
 exact An<|Ai<|Ai<|Ao<|AE<|AB<|on<|AW<|zy (vf 2000 hk0) (by rw [<- hF0];simp only [E7,h1,cond_true,cond_false] <;> kernel_rfl)
theorem eC (s:AO) (m:AZ) (h0:(s.Edges.length:Int)<=1000000):OKc (YM s m):=cPu<|kW s m h0
theorem QS (s:AO) (m:AZ):∀ (n k:Nat) (l:List AK),k<=s.Edges.length->s.Edges.length-k<n->E7 s m n l (k:Int)=⟨s.Kind,l++(s.Edges.drop k).map (fun e=>Dh e m),s.R⟩
 | 0,k,l,hk,hn=>by omega
 | n+1,k,l,hk,hn=>by
  unfold E7
  by_cases hlt:k<s.Edges.length
  ·rw [decide_eq_true (show (k:Int)<((s.Edges.length:Nat):Int) by omega)]
   simp only [cond_true]
   rw [show ((k:Int)+1)=((k+1:Nat):Int) by omega,QS s m n (k+1) _ (by omega) (by omega),List.drop_eq_getElem_cons hlt,List.map_cons]
   unfold Z6G
   rw [Int.toNat_natCast,List.getD_eq_getElem?_getD,List.getElem?_eq_getElem hlt,Option.getD_some,List.append_assoc]
   rfl
  rw [decide_eq_false (show ¬ (k:Int)<((s.Edges.length:Nat):Int) by omega)]
  rw [List.drop_of_length_le (by omega)]
  simp
theorem QT (s:AO) (m:AZ):Hg s m=⟨s.Kind,s.Edges.map (fun e=>Dh e m),s.R⟩:=by
 have:=QS s m ((((s.Edges.length:Nat):Int)-0).toNat+1) 0 [] (by omega) (by omega)
 exact this
theorem WK (s:AO) (m:AZ):(Hg s m).Edges.length=s.Edges.length:=by rw [QT,List.length_map]
theorem eU:∀ x:EA,∀ y∈EA.c x,NM y:=by
 intro x y hy
 simp only [EA.c,List.mem_cons,List.not_mem_nil,or_false] at hy
 rcases hy with rfl | rfl | rfl | rfl
 ·refine Bc fun x y hy => ?_
  rw [List.mem_singleton.1 hy]
  refine Bc fun x y hy => ?_
  rw [List.mem_singleton.1 hy]
  exact .val _
 all_goals exact .val _
theorem qQ (c:EA) (raw:AL):∀ x∈([.agg (EA.c c),.agg (AL.c raw)]:List Av),AvM x:=by
 intro x hx
 simp only [List.mem_cons,List.not_mem_nil,or_false] at hx
 rcases hx with rfl | rfl
 ·exact eU c
 exact HD raw
end Go.Proofs.YtheobjkgllmnmaaGreat
