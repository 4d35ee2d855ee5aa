/-
  No statement is proved in this text. It holds a part of what the proof of ItemsCount needs.
-/
import Derived.Test.YtheobjkgllmnmaaGreatItemsCountQf
namespace Go.Proofs.YtheobjkgllmnmaaGreat
set_option maxRecDepth 100000
set_option linter.unusedVariables false
set_option linter.unusedSimpArgs false
section
open Go.RowKit
theorem PC {v a:Int} {d:AD} {n:Int} (h:v<W64 (a+(AA d n).1)) (h0:0<n) (h1:n<=1000000) (ha:0<=a) (hb:a<=1000000):v<a+n-1:=by
 have:=C7 d n h0 (by omega)
 rw [An (by omega) (by omega)] at h
 omega
theorem H6 {p q:Prop} [Decidable p] [Decidable q] {r:Bool} (h:(bif bif decide p then decide q else false then r else (bif bif decide p then decide q else false then false else false))=true):q:=by
 by_cases hp:p
 ·rw [decide_eq_true hp] at h
  by_cases hq:q
  ·exact hq
  ·rw [decide_eq_false hq] at h;cases h
 ·rw [decide_eq_false hp] at h;cases h
theorem W5 {n:Nat} (h:(0:Int)<(n:Int)):0<n:=by omega
theorem Qg {c2 c1:Bool} {a b c:A4} {L:List A4} (hL:L=bif c2 then [a,b] else bif c1 then [c] else []):L.length<=2:=by
 subst hL;cases c2 <;> cases c1 <;> simp
theorem XT {c2 c1:Bool} {a b c:A4} {L:List A4} {k:Int} (hk:0<=k/\k<2) (ha:a.Legs.length=2) (hc:c.Legs.length=2) (hL:L=bif c2 then [a,b] else bif c1 then [c] else []) (h:(0:Int)<(L.length:Int)):0<=k/\k<(((L.getD 0 default).Legs.length:Nat):Int):=by
 subst hL
 cases c2 with
 | true=>show 0<=k/\k<((a.Legs.length:Nat):Int);rw [ha];exact hk
 | false =>
  cases c1 with
  | true=>show 0<=k/\k<((c.Legs.length:Nat):Int);rw [hc];exact hk
  | false=>exact absurd h (by simp)
theorem bZ {α:Type} {L:List α} (h:L.length<=2):L.length+1<=maxLen:=by unfold maxLen;omega
theorem cA {α:Type} {L:List α} (h:L.length<=2):(L.length+1)*32<=140737488355328:=by omega
def Z47:Blk:=.cells OJ 82
abbrev Dr (l:List Int):=AA (AD.mk l 0) 5
def Z48 (l:(List Int)):FuncId×List Av×Ef:=(42,(Kc:List Av).map (Bz 1000 14),wrI 14 (.cells [lst 1 (fun x=>[.i x]) l,.i 0] 117) (tI (Dr l).1) (.cells (AD.c (Dr l).2) 117))
def Z49 (l:(List Int)):Tv:=tI (W64 (2+(Dr l).1))
def Z4a (l:(List Int)):Blk:=.cells (AD.c (Dr l).2) 117
abbrev Hl (l:List Int):Bool:=(decide (((W64 (2+(AA (AD.mk l 0) 5).1)):Int)<4))
def Z4b (l:(List Int)):Tv:=tB (Hl l)
abbrev MN:Av:=.one (.ptr 14 0)
def Z4c (l:(List Int)):Tv:=.grd ((Hl l)=true) MN
def Z4d:Blk:=.row 2 ([]:List A4).length (AP A4.c ([]:List A4)) 180
abbrev Hm (l:List Int):Bool:=(decide ((4:Int)<=(W64 (2+(AA (AD.mk l 0) 5).1))))
def Z4e (l:(List Int)):Tv:=tB (Hm l)
def Z4f (l:(List Int)):Tv:=.grd ((Hm l)=true) MN
def Z4g:Blk:=.row 7 ([]:List BF).length (AP BF.c ([]:List BF)) 102
def Z4h (name:ByteArray):Blk:=.cells (Uo name) 82
def Z4i (name:ByteArray) (v6_1:List BF):Blk:=.cells [.s name,.own 100000 7 v6_1.length,vN] 82
def Z4j (v6_1:List BF):Blk:=.row 7 v6_1.length (AP BF.c v6_1) 102
abbrev MU (v5:AD):Blk:=.cells (AD.c (AA v5 2).2) 117
abbrev ME (v5:AD):Blk:=.cells (AD.c v5) 117
def Z4k (v5:AD):FuncId×List Av×Ef:=(42,(FS:List Av).map (Bz 1000 14),wrI 14 (ME v5) (tI (AA v5 2).1) (MU v5))
def Z4l (v8:Int) (v5:AD):Blk:=.cells [.s (Ah v8),.i 0,vN,.i 0,.i (W64 (30*v8)),.i (W64 (10*(AA v5 2).1)),.i 0] 102
def Z4m (v8:Int) (v5:AD):Blk:=.cells [.i (W64 (30*v8)),.i (W64 (10*(AA v5 2).1))] 66
abbrev Bq (v5:AD):=AA (AA v5 2).2 3
def Z4n (v5:AD):FuncId×List Av×Ef:=(42,(E2:List Av).map (Bz 1000 14),wrI 14 (MU v5) (tI (Bq v5).1) (.cells (AD.c (Bq v5).2) 117))
def Z4o (v5:AD):Blk:=.cells (AD.c (Bq v5).2) 117
def Z4p (v8:Int) (v5:AD):AQ:=Fk (Ad.mk (W64 ((W64 (30*v8))-6)) (W64 ((W64 (10*(AA v5 2).1))-6)) (W64 ((W64 (30*v8))+6)) (W64 ((W64 (10*(AA v5 2).1))+6)))
def Z4q (v5:AD):FuncId×List Av×Ef:=(42,(E2:List Av).map (Bz 1000 14),wrI 14 (.cells (AD.c (Bq v5).2) 117) (tI (AA (Bq v5).2 3).1) (.cells (AD.c (AA (Bq v5).2 3).2) 117))
abbrev Z4r (v5:AD):AD:=(AA (AA (AA v5 2).2 3).2 3).2
def Z4s (v8:Int) (v5:AD):AQ:=NK (AB.mk (W64 (30*v8)) (W64 (10*(AA v5 2).1))) (W64 (4+(AA (AA (AA v5 2).2 3).2 3).1))
abbrev Z4t (v5:AD):AD:=bif decide (((AA (AA v5 2).2 3).1:Int)=0) then (AA (AA v5 2).2 3).2 else (bif decide (((AA (AA v5 2).2 3).1:Int)=1) then (Z4r v5) else (AA (AA v5 2).2 3).2)
def Z4u (v5:AD) (v8:Int):(List AG):=bif decide (((AA (AA v5 2).2 3).1:Int)=0) then (Z4p v8 v5).Edges else (bif decide (((AA (AA v5 2).2 3).1:Int)=1) then (Z4s v8 v5).Edges else [AG.mk 1 (AB.mk (W64 ((W64 (30*v8))-2)) (W64 (10*(AA v5 2).1))) (AB.mk (W64 ((W64 (30*v8))+2)) (W64 (10*(AA v5 2).1))) (AB.mk 0 0)])
abbrev U8 (v5:AD):=AA (Z4t v5) 4
def Z4v (v5:AD):FuncId×List Av×Ef:=(42,(HY:List Av).map (Bz 1000 14),wrI 14 (.cells (AD.c (Z4t v5)) 117) (tI (U8 v5).1) (.cells (AD.c (U8 v5).2) 117))
abbrev pN (v5:AD):=AA (Z4t v5) 4
abbrev ZY (v5:AD):=AA (pN v5).2 2
def Z4w (v5:AD):FuncId×List Av×Ef:=(42,(FS:List Av).map (Bz 1000 14),wrI 14 (.cells (AD.c (U8 v5).2) 117) (tI (ZY v5).1) (.cells (AD.c (ZY v5).2) 117))
abbrev Z4x (v5:AD):AD:=(AA (AA (Z4t v5) 4).2 2).2
def Z4y (v5:AD):FuncId×List Av×Ef:=(42,(E2:List Av).map (Bz 1000 14),wrI 14 (ME v5) (tI (AA v5 3).1) (.cells (AD.c (AA v5 3).2) 117))
abbrev Z4z (l:(List Int)) (v5:AD):AD:=bif decide (((W64 (2+(AA (AD.mk l 0) 5).1)):Int)<4) then (AA v5 3).2 else v5
def Z4A (l:(List Int)) (v5:AD):FuncId×List Av×Ef:=(42,(FS:List Av).map (Bz 1000 14),wrI 14 (.cells (AD.c (Z4z l v5)) 117) (tI (AA (Z4z l v5) 2).1) (.cells (AD.c (AA (Z4z l v5) 2).2) 117))
def Z4B (l:(List Int)) (v5:AD):Blk:=.cells (AD.c (AA (Z4z l v5) 2).2) 117
abbrev U3 (l:List Int) (v5:AD):=[A4.mk 0 [Br.mk (Ah 0) 1,Br.mk (Ah 1) (AA (Z4z l v5) 2).1]]
def Z4C (l:(List Int)) (v5:AD):Blk:=.row 2 ((U3 l v5).length) (AP A4.c (U3 l v5)) 180
abbrev Z4D (l:(List Int)) (v5:AD):AD:=bif bif decide (((W64 (2+(AA (AD.mk l 0) 5).1)):Int)<4) then (bif decide (((W64 (2+(AA (AD.mk l 0) 5).1)):Int)<4) then decide ((0:Int)<(AA v5 3).1) else false) else (bif decide (((W64 (2+(AA (AD.mk l 0) 5).1)):Int)<4) then false else false) then (AA (Z4z l v5) 2).2 else (Z4z l v5)
def Z4E (l:(List Int)) (v5:AD):(List A4):=bif bif decide (((W64 (2+(AA (AD.mk l 0) 5).1)):Int)<4) then (bif decide (((W64 (2+(AA (AD.mk l 0) 5).1)):Int)<4) then decide ((0:Int)<(AA v5 3).1) else false) else (bif decide (((W64 (2+(AA (AD.mk l 0) 5).1)):Int)<4) then false else false) then [A4.mk 0 [Br.mk (Ah 0) 1,Br.mk (Ah 1) (AA (Z4z l v5) 2).1]] else ([]:List A4)
def Z4F (l:(List Int)) (v5:AD):FuncId×List Av×Ef:=(42,(E2:List Av).map (Bz 1000 14),wrI 14 (.cells (AD.c (Z4D l v5)) 117) (tI (AA (Z4D l v5) 3).1) (.cells (AD.c (AA (Z4D l v5) 3).2) 117))
def Z4G (l:(List Int)) (v5:AD):Blk:=.row 2 (Z4E l v5).length (AP A4.c (Z4E l v5)) 180
abbrev Z4H (l:(List Int)) (v5:AD):AD:=bif decide ((4:Int)<=(W64 (2+(AA (AD.mk l 0) 5).1))) then (AA (Z4D l v5) 3).2 else (Z4D l v5)
abbrev Uu (l:List Int) (v5:AD):=AA (Z4H l v5) 2
def Z4I (l:(List Int)) (v5:AD):FuncId×List Av×Ef:=(42,(FS:List Av).map (Bz 1000 14),wrI 14 (.cells (AD.c (Z4H l v5)) 117) (tI (Uu l v5).1) (.cells (AD.c (Uu l v5).2) 117))
def Z4J (l:(List Int)) (v5:AD):Blk:=.cells (AD.c (Uu l v5).2) 117
abbrev eM (l:List Int) (v5:AD):=[A4.mk 1 [Br.mk (Ah 0) (AA (Z4H l v5) 2).1,Br.mk (Ah 1) (AA (Z4H l v5) 2).1],A4.mk 1 [Br.mk (Ah 2) (AA (Z4H l v5) 2).1,Br.mk (Ah 3) (AA (Z4H l v5) 2).1]]
abbrev lO (l:List Int) (v5:AD):=(eM l v5)
abbrev lR (l:List Int) (v5:AD):=(lO l v5)
abbrev mD (l:List Int) (v5:AD):=(lR l v5)
abbrev mF (l:List Int) (v5:AD):=(mD l v5)
abbrev mU (l:List Int) (v5:AD):=(mF l v5)
abbrev mY (l:List Int) (v5:AD):=(mU l v5)
abbrev nN (l:List Int) (v5:AD):=(mY l v5)
abbrev nW (l:List Int) (v5:AD):=(nN l v5)
abbrev oK (l:List Int) (v5:AD):=(nW l v5)
abbrev oZ (l:List Int) (v5:AD):=(oK l v5)
abbrev pL (l:List Int) (v5:AD):=(oZ l v5)
abbrev pZ (l:List Int) (v5:AD):=(pL l v5)
abbrev Yz (l:List Int) (v5:AD):=(pZ l v5)
def Z4K (l:(List Int)) (v5:AD):Blk:=.row 2 ((Yz l v5).length) (AP A4.c (Yz l v5)) 180
abbrev Z4L (l:(List Int)) (v5:AD):AD:=bif bif decide ((4:Int)<=(W64 (2+(AA (AD.mk l 0) 5).1))) then (bif decide ((4:Int)<=(W64 (2+(AA (AD.mk l 0) 5).1))) then decide ((0:Int)<(AA (Z4D l v5) 3).1) else false) else (bif decide ((4:Int)<=(W64 (2+(AA (AD.mk l 0) 5).1))) then false else false) then (AA (Z4H l v5) 2).2 else (Z4H l v5)
def Z4M (l:(List Int)) (v5:AD):(List A4):=bif bif decide ((4:Int)<=(W64 (2+(AA (AD.mk l 0) 5).1))) then (bif decide ((4:Int)<=(W64 (2+(AA (AD.mk l 0) 5).1))) then decide ((0:Int)<(AA (Z4D l v5) 3).1) else false) else (bif decide ((4:Int)<=(W64 (2+(AA (AD.mk l 0) 5).1))) then false else false) then [A4.mk 1 [Br.mk (Ah 0) (AA (Z4H l v5) 2).1,Br.mk (Ah 1) (AA (Z4H l v5) 2).1],A4.mk 1 [Br.mk (Ah 2) (AA (Z4H l v5) 2).1,Br.mk (Ah 3) (AA (Z4H l v5) 2).1]] else (Z4E l v5)
def Z4N (l:(List Int)) (v5:AD):FuncId×List Av×Ef:=(42,(FS:List Av).map (Bz 1000 14),wrI 14 (.cells (AD.c (Z4L l v5)) 117) (tI (AA (Z4L l v5) 2).1) (.cells (AD.c (AA (Z4L l v5) 2).2) 117))
def Z4O (l:(List Int)) (v5:AD):Blk:=.row 2 (Z4M l v5).length (AP A4.c (Z4M l v5)) 180
abbrev Z4P (l:(List Int)) (v5:AD):AD:=bif bif decide (((W64 (2+(AA (AD.mk l 0) 5).1)):Int)=6) then decide ((0:Int)<(((Z4M l v5).length:Nat):Int)) else false then (AA (Z4L l v5) 2).2 else (Z4L l v5)
def Z4Q (l:(List Int)) (v5:AD):FuncId×List Av×Ef:=(42,(E2:List Av).map (Bz 1000 14),wrI 14 (.cells (AD.c (Z4P l v5)) 117) (tI (AA (Z4P l v5) 3).1) (.cells (AD.c (AA (Z4P l v5) 3).2) 117))
abbrev eQ (l:List Int) (v5:AD):=[A4.mk (AA (Z4P l v5) 3).1 [Br.mk (Ah 5) (((Z4M l v5).getD 0 default).Legs.getD 0 default).Group,Br.mk (Ah 4) (((Z4M l v5).getD 0 default).Legs.getD 1 default).Group]]
abbrev lH (l:List Int) (v5:AD):=(eQ l v5)
abbrev lV (l:List Int) (v5:AD):=(lH l v5)
abbrev lY (l:List Int) (v5:AD):=(lV l v5)
abbrev mI (l:List Int) (v5:AD):=(lY l v5)
abbrev mO (l:List Int) (v5:AD):=(mI l v5)
abbrev nA (l:List Int) (v5:AD):=(mO l v5)
abbrev nH (l:List Int) (v5:AD):=(nA l v5)
abbrev oA (l:List Int) (v5:AD):=(nH l v5)
abbrev oH (l:List Int) (v5:AD):=(oA l v5)
abbrev oU (l:List Int) (v5:AD):=(oH l v5)
abbrev pM (l:List Int) (v5:AD):=(oU l v5)
abbrev qA (l:List Int) (v5:AD):=(pM l v5)
abbrev Y4 (l:List Int) (v5:AD):=(qA l v5)
def Z4R (l:(List Int)) (v5:AD):Blk:=.row 2 ((Z4M l v5)++(Y4 l v5)).length (AP A4.c ((Z4M l v5)++(Y4 l v5))) 180
def Z4S (l:(List Int)) (v5:AD):(List A4):=bif bif bif decide (((W64 (2+(AA (AD.mk l 0) 5).1)):Int)=6) then decide ((0:Int)<(((Z4M l v5).length:Nat):Int)) else false then (bif bif decide (((W64 (2+(AA (AD.mk l 0) 5).1)):Int)=6) then decide ((0:Int)<(((Z4M l v5).length:Nat):Int)) else false then decide (((AA (Z4L l v5) 2).1:Int)=1) else false) else (bif bif decide (((W64 (2+(AA (AD.mk l 0) 5).1)):Int)=6) then decide ((0:Int)<(((Z4M l v5).length:Nat):Int)) else false then false else false) then ((Z4M l v5)++[A4.mk (AA (Z4P l v5) 3).1 [Br.mk (Ah 5) (((Z4M l v5).getD 0 default).Legs.getD 0 default).Group,Br.mk (Ah 4) (((Z4M l v5).getD 0 default).Legs.getD 1 default).Group]]) else (Z4M l v5)
def Z4T (l:(List Int)) (v5:AD):Blk:=.row 2 (Z4S l v5).length (AP A4.c (Z4S l v5)) 180
def Z4U (name:ByteArray) (v6_1:List BF) (l:(List Int)) (v5:AD):Blk:=.cells [.s name,.own 100000 7 v6_1.length,.own 100001 2 ((U3 l v5).length)] 82
def Z4V (name:ByteArray) (v6_1:List BF):Blk:=.cells [.s name,.own 100000 7 v6_1.length,.own 100001 2 ([]:List A4).length] 82
def Z4W (name:ByteArray) (v6_1:List BF) (l:(List Int)) (v5:AD):Blk:=.cells [.s name,.own 100000 7 v6_1.length,.own 100001 2 (Z4E l v5).length] 82
def Z4X (name:ByteArray) (v6_1:List BF) (l:(List Int)) (v5:AD):Blk:=.cells [.s name,.own 100000 7 v6_1.length,.own 100002 2 ((Yz l v5).length)] 82
def Z4Y (name:ByteArray) (v6_1:List BF) (l:(List Int)) (v5:AD):Blk:=.cells [.s name,.own 100000 7 v6_1.length,.own 100002 2 (Z4M l v5).length] 82
def Z4Z (name:ByteArray) (v6_1:List BF) (l:(List Int)) (v5:AD):Blk:=.cells [.s name,.own 100000 7 v6_1.length,.own 100003 2 ((Z4M l v5)++(Y4 l v5)).length] 82
def C2 (l:(List Int)) (name:ByteArray):Nat->List BF->AD->Int->AM
 | 0,_,_,_=>default
 | n0+1,v6_1,v5,v8=>bif decide ((v8:Int)<(W64 (2+(AA (AD.mk l 0) 5).1))) then ((C2 l name n0) (v6_1++[BF.mk (Ah v8) (AQ.mk (bif decide (((AA (AA v5 2).2 3).1:Int)=0) then (Z4p v8 v5).Kind else (bif decide (((AA (AA v5 2).2 3).1:Int)=1) then (Z4s v8 v5).Kind else 1)) (Z4u v5 v8) (bif decide (((AA (AA v5 2).2 3).1:Int)=0) then (Z4p v8 v5).R else (bif decide (((AA (AA v5 2).2 3).1:Int)=1) then (Z4s v8 v5).R else 4))) (AB.mk (W64 (30*v8)) (W64 (10*(AA v5 2).1))) (W64 ((W64 (2*(AA (Z4t v5) 4).1))*(AA (AA (Z4t v5) 4).2 2).1))]) (Z4x v5) (v8+1)) else (AM.mk name v6_1 (Z4S l v5))
def A5 (l:(List Int)) (name:ByteArray):AM:=C2 l name (((W64 (2+(AA (AD.mk l 0) 5).1))-0).toNat+1) ([]:List BF) (AA (AD.mk l 0) 5).2 0
def HL (l:(List Int)) (name:ByteArray):FuncId×List Av×Ef:=(39,[.one (lst 1 (fun x=>[.i x]) l),.one (.s name)],.val [] (.av (.agg (AM.c (A5 l name)))))
abbrev pI (l:List Int):Bool:=(decide (((W64 (2+(AA (AD.mk l 0) 5).1)):Int)=6))
abbrev GN (l:List Int):Bool:=(pI l)
abbrev Gi (l:List Int):List (Nat×Tv):=[(4,tP 4 0),(5,tP 14 0),(6,tP 6 0),(7,Z49 l)]
abbrev Hb (v8:Int) (v5:AD):=AB.mk (W64 (30*v8)) (W64 (10*(AA v5 2).1))
abbrev Mg (l:List Int) (v8:Int):List (Nat×Tv):=[(4,tP 4 0),(5,tP 14 0),(6,tP 6 0),(7,Z49 l),(8,tI v8),(9,tP 9 0)]
abbrev Kf (v6_1:List BF):Nat×Blk:=(100000,.row 7 v6_1.length (AP BF.c v6_1) 102)
abbrev Rj (l:List Int):List (Nat×Tv):=[(4,tP 4 0),(5,tP 14 0),(6,tP 6 0),(7,Z49 l),(8,tI 0)]
abbrev Ka:List (Nat×Tv):=[(4,tP 4 0),(6,tP 6 0)]
abbrev OO (v5:AD):Nat×Blk:=(14,.cells (AD.c (Z4x v5)) 117)
abbrev OI (l:List Int):Nat×Tv:=(7,tI (W64 (2+(Dr l).1)))
abbrev OG (v5:AD):Nat×Blk:=(14,.cells (AD.c v5) 117)
set_option maxHeartbeats 2000000 in
theorem fZ (l:(List Int)) (name:ByteArray) (hl:(l.length:Int)<=9223372036854775807):Bk Tryz.prog 39 (HL l name).2.1 (.av (.agg (AM.c (A5 l name)))):=by
 refine AV Tryz.func39 rfl kr kr fun W0 M0 => ?_
 have hd0:=Cn hl
 refine AC<|rn ⟨[(0,tO (lst 1 (fun x=>[.i x]) l)),(1,tO (.s name)),(4,tP 4 0)],[(4,Z47)]⟩<|AC ?_
 refine rn ⟨[(1,tO (.s name)),(4,tP 4 0),(5,tP 14 0)],[(4,Z47),(14,.cells [lst 1 (fun x=>[.i x]) l,.i 0] 117)]⟩<|AC ?_
 refine rn ⟨[(4,tP 4 0),(5,tP 14 0),(6,tP 6 0)],[(4,Z47),(6,.cells [.s name,vN,vN] 82),(14,.cells [lst 1 (fun x=>[.i x]) l,.i 0] 117)]⟩<|AC ?_
 refine rc [(18,(Z48 l))] [Ak (Z48 l).2.1,BJ (.cells [lst 1 (fun x=>[.i x]) l,.i 0] 117)] ⟨(Gi l),[(4,Z47),(6,.cells [.s name,vN,vN] 82),(14,Z4a l)]⟩ (.cons (Ae (fun _ _=>kr) kr kr (Bf (AD.mk l 0) 5 au7 au9)) .nil) (.cons rfl (.cons rfl .nil))<|AJ ?_
 refine AC<|AC ?_
 refine rn ⟨(Rj l),[(4,Z47),(6,.cells [.s name,vN,vN] 82),(14,Z4a l)]⟩<|AY ?_
 refine Ba (Cv.trans (Ca (⟨(Rj l),[(100000,.row 7 0 (fun _ _=>default) 102),(4,Z47),(6,.cells [.s name,.own 100000 7 0,vN] 82),(14,Z4a l)]⟩) 100000 7 (fun _ _=>default) 102 [] [(6,[1])] (K:=[]) (fun k x h=>by cases h) rfl kr kr) (Cv.trans (BT (⟨(Rj l),[(100000,Z4g),(4,Z47),(6,Z4h name),(14,Z4a l)]⟩) lr (.cons ⟨rfl,Ap 102 (CZ 7 (fun _ _=>default) BF.c)⟩ (.cons ⟨rfl,.refl _⟩ (.cons ⟨rfl,.cells _ (rr (.cons (.own _ _ au2) (rr .nil)))⟩ lr)))) (Cv.trans (BD [4,5,6,7,8] [4,6,14,100000] (⟨(Rj l),[(4,Z47),(6,Z4h name),(14,Z4a l),(100000,Z4g)]⟩) kr) (Cv.refl _)))) ?_
 refine BS (ι:=Nat×List BF×AD×Int) (fun x=>⟨[(4,tP 4 0),(5,tP 14 0),(6,tP 6 0),(7,Z49 l),(8,tI x.2.2.2)],[(4,Z47),(6,.cells [.s name,.own 100000 7 x.2.1.length,vN] 82),(14,.cells (AD.c x.2.2.1) 117),(100000,.row 7 x.2.1.length (AP BF.c x.2.1) 102)]⟩) (fun x=>((W64 (2+(AA (AD.mk l 0) 5).1))-x.2.2.2).toNat<x.1/\(Bo x.2.2.1/\0<=x.2.2.2/\(x.2.2.2<=(W64 (2+(AA (AD.mk l 0) 5).1))\/x.2.2.2=0)/\(x.2.1.length:Int)<=0+1*(x.2.2.2-0))/\C2 l name x.1 x.2.1 x.2.2.1 x.2.2.2=A5 l name) (fun x=>x.1) ?_ (((W64 (2+(AA (AD.mk l 0) 5).1))-0).toNat+1,([]:List BF),(AA (AD.mk l 0) 5).2,0) ⟨Nat.lt_succ_self _,⟨(by show Bo ((AA (AD.mk l 0) 5).2);repeat (first | with_reducible assumption | exact Cn (DV hll _) | with_reducible refine Bc ?_ | with_reducible refine Ee ?_ | with_reducible refine Dp ?_ | with_reducible refine DG ?_  | with_reducible refine Cu ?_ ?_)),ax0,ax0,ax0⟩,(by simp only [A5,cond_true,cond_false])⟩
 rintro ⟨n0,v6_1,v5,v8⟩ ⟨hn,hinv,hF⟩
 have hm0:=hn;have hinv0:=hinv;have hF0:=hF;try dsimp only at hm0 hinv0 hF0
 clear hn hinv hF
 cases n0 with
 | zero=>exact absurd hm0 (Nat.not_lt_zero _)
 | succ n0 =>
  have hi0_0:=hinv0.1
  refine AC<|AC ?_
  refine rn ⟨[(4,tP 4 0),(5,tP 14 0),(6,tP 6 0),(7,Z49 l),(8,tI v8),(22,tB (decide ((v8:Int)<(W64 (2+(AA (AD.mk l 0) 5).1)))))],[(4,Z47),(6,Z4i name v6_1),(OG v5),(100000,Z4j v6_1)]⟩ ?_
  refine Ab _ rfl (fun h1 => ?_) (fun h1 => ?_)
  ·have g1:=oT h1
   have k1:=SR g1 (by decide) (by decide) (by decide) (by decide)
   have kk1:=PC g1 (by decide) (by decide) (by decide) (by decide)
   refine Af<|AJ ?_
   refine AC<|AY<|AC ?_
   refine rc [(26,CL v8),(30,(Z4k v5))] [Ak (CL v8).2.1,Ak (Z4k v5).2.1,BJ (ME v5)] ⟨(Mg l v8),[(4,Z47),(6,Z4i name v6_1),(9,Z4l v8 v5),(14,.cells (AD.c (AA v5 2).2) 117),(100000,Z4j v6_1)]⟩ (.cons (EX v8 au10) (.cons (Ae (fun _ _=>kr) kr kr (Bf v5 2 au7 au9)) .nil)) (.cons rfl (.cons rfl (.cons rfl .nil)))<|AJ<|AC ?_
   refine rn ⟨[(4,tP 4 0),(5,tP 14 0),(6,tP 6 0),(7,Z49 l),(8,tI v8),(9,tP 9 0),(10,tP 10 0)],[(4,Z47),(6,Z4i name v6_1),(9,Z4l v8 v5),(10,Z4m v8 v5),(14,.cells (AD.c (AA v5 2).2) 117),(100000,Z4j v6_1)]⟩ ?_
   refine AC<|AC ?_
   refine rc [(37,(Z4n v5))] [Ak (Z4n v5).2.1,BJ (MU v5)] ⟨[(4,tP 4 0),(5,tP 14 0),(6,tP 6 0),(7,Z49 l),(8,tI v8),(9,tP 9 0),(10,tP 10 0),(37,tI (Bq v5).1)],[(4,Z47),(6,Z4i name v6_1),(9,Z4l v8 v5),(10,Z4m v8 v5),(14,Z4o v5),(100000,Z4j v6_1)]⟩ (.cons (Ae (fun _ _=>kr) kr kr (Bf (AA v5 2).2 3 au7 au9)) .nil) (.cons rfl (.cons rfl .nil))<|AJ ?_
   refine Bu (⟨[(4,tP 4 0),(5,tP 14 0),(6,tP 6 0),(OI l),(8,tI v8),(9,tP 9 0)],[Cm,(6,.cells [.s name,.own 100000 7 v6_1.length,vN] 82),(9,.cells [.s (Ah v8),.i (bif decide (((Bq v5).1:Int)=0) then (Z4p v8 v5).Kind else (bif decide (((Bq v5).1:Int)=1) then (Z4s v8 v5).Kind else 1)),lst 7 AG.c (Z4u v5 v8),.i (bif decide (((Bq v5).1:Int)=0) then (Z4p v8 v5).R else (bif decide (((Bq v5).1:Int)=1) then (Z4s v8 v5).R else 4)),.i (W64 (30*v8)),.i (W64 (10*(AA v5 2).1)),.i 0] 102),(14,.cells (AD.c (Z4t v5)) 117),(Kf v6_1)]⟩) ?_ ?_
   ·refine AY<|AC ?_
    refine rn ⟨[(4,tP 4 0),(5,tP 14 0),(6,tP 6 0),(7,Z49 l),(8,tI v8),(9,tP 9 0),(10,tP 10 0),(37,tI (Bq v5).1),(54,tB (decide (((AA (AA v5 2).2 3).1:Int)=0)))],[(4,Z47),(6,Z4i name v6_1),(9,Z4l v8 v5),(10,Z4m v8 v5),(14,Z4o v5),(100000,Z4j v6_1)]⟩ ?_
    refine Ab _ rfl (fun h2 => ?_) (fun h2 => ?_)
    ·have g2:=oT h2
     refine rc [(69,Hh (Ad.mk (W64 ((W64 (30*v8))-6)) (W64 ((W64 (10*(AA v5 2).1))-6)) (W64 ((W64 (30*v8))+6)) (W64 ((W64 (10*(AA v5 2).1))+6))))] [Ak (Hh (Ad.mk (W64 ((W64 (30*v8))-6)) (W64 ((W64 (10*(AA v5 2).1))-6)) (W64 ((W64 (30*v8))+6)) (W64 ((W64 (10*(AA v5 2).1))+6)))).2.1] ⟨(Mg l v8),[(4,Z47),(6,Z4i name v6_1),(9,.cells [.s (Ah v8),.i (Z4p v8 v5).Kind,lst 7 AG.c (Z4p v8 v5).Edges,.i (Z4p v8 v5).R,.i (W64 (30*v8)),.i (W64 (10*(AA v5 2).1)),.i 0] 102),(14,Z4o v5),(100000,Z4j v6_1)]⟩ (.cons (SD (Ad.mk (W64 ((W64 (30*v8))-6)) (W64 ((W64 (10*(AA v5 2).1))-6)) (W64 ((W64 (30*v8))+6)) (W64 ((W64 (10*(AA v5 2).1))+6)))) .nil) (.cons rfl .nil)<|Be<|AJ ?_
     refine BB ?_
     first | rfl | (simp only [h2,Z4t,Z4u,cond_true,cond_false] <;> rfl)
    ·have g2:=oF h2
     refine AC<|rn ⟨[(4,tP 4 0),(5,tP 14 0),(6,tP 6 0),(7,Z49 l),(8,tI v8),(9,tP 9 0),(10,tP 10 0),(71,tB (decide (((AA (AA v5 2).2 3).1:Int)=1)))],[(4,Z47),(6,Z4i name v6_1),(9,Z4l v8 v5),(10,Z4m v8 v5),(14,Z4o v5),(100000,Z4j v6_1)]⟩ ?_
     refine Ab _ rfl (fun h3 => ?_) (fun h3 => ?_)
     ·have g3:=oT h3
      refine dw [] [(75,(Z4q v5)),(77,M8 (Hb v8 v5) (W64 (4+(AA (Bq v5).2 3).1)))] [Ak (Z4q v5).2.1,BJ (.cells (AD.c (AA (AA v5 2).2 3).2) 117),Ak (M8 (AB.mk (W64 (30*v8)) (W64 (10*(AA v5 2).1))) (W64 (4+(AA (AA (AA v5 2).2 3).2 3).1))).2.1] ⟨(Mg l v8),[(4,Z47),(6,Z4i name v6_1),(9,.cells [.s (Ah v8),.i (Z4s v8 v5).Kind,lst 7 AG.c (Z4s v8 v5).Edges,.i (Z4s v8 v5).R,.i (W64 (30*v8)),.i (W64 (10*(AA v5 2).1)),.i 0] 102),(14,.cells (AD.c (Z4r v5)) 117),(100000,Z4j v6_1)]⟩ (.cons (Ae (fun _ _=>kr) kr kr (Bf (AA (AA v5 2).2 3).2 3 au7 au9)) (.cons (gQ (AB.mk (W64 (30*v8)) (W64 (10*(AA v5 2).1))) (W64 (4+(AA (AA (AA v5 2).2 3).2 3).1))) .nil)) (.cons rfl (.cons rfl (.cons rfl .nil)))<|Be<|AJ ?_
      refine BB ?_
      first | rfl | (simp only [h2,h3,Z4t,Z4u,cond_true,cond_false] <;> rfl)
     ·have g3:=oF h3
      refine rg ⟨(Mg l v8),[(4,Z47),(6,Z4i name v6_1),(9,.cells [.s (Ah v8),.i 1,.list true 7 1 (Ay 7 1 [.i 1,.i (W64 ((W64 (30*v8))-2)),.i (W64 (10*(AA v5 2).1)),.i (W64 ((W64 (30*v8))+2)),.i (W64 (10*(AA v5 2).1)),.i 0,.i 0]),.i 4,.i (W64 (30*v8)),.i (W64 (10*(AA v5 2).1)),.i 0] 102),(14,Z4o v5),(100000,Z4j v6_1)]⟩<|Be<|AJ ?_
      refine Cv.trans (BT (⟨(Mg l v8),[(4,Z47),(6,Z4i name v6_1),(9,.cells [.s (Ah v8),.i 1,lst 7 AG.c [AG.mk 1 (AB.mk (W64 ((W64 (30*v8))-2)) (W64 (10*(AA v5 2).1))) (AB.mk (W64 ((W64 (30*v8))+2)) (W64 (10*(AA v5 2).1))) (AB.mk 0 0)],.i 4,.i (W64 (30*v8)),.i (W64 (10*(AA v5 2).1)),.i 0] 102),(14,Z4o v5),(100000,Z4j v6_1)]⟩) lr (.cons ⟨rfl,.refl _⟩ (.cons ⟨rfl,.refl _⟩ (.cons ⟨rfl,.cells _ (rr (rr (.cons (Bm true (Aw (c:=AG.c) (xs:=([AG.mk 1 (AB.mk (W64 ((W64 (30*v8))-2)) (W64 (10*(AA v5 2).1))) (AB.mk (W64 ((W64 (30*v8))+2)) (W64 (10*(AA v5 2).1))) (AB.mk 0 0)]:List AG)) rfl kr)) (rr (rr (rr (rr .nil)))))))⟩ lr)))) (BB ?_)
      first | rfl | (simp only [h2,h3,Z4t,Z4u,cond_true,cond_false] <;> rfl)
   refine AC<|rc [(80,(Z4v v5)),(83,(Z4w v5))] [Ak (Z4v v5).2.1,BJ (.cells (AD.c (Z4t v5)) 117),Ak (Z4w v5).2.1,BJ (.cells (AD.c (AA (Z4t v5) 4).2) 117)] ⟨(Mg l v8),[(4,Z47),(6,Z4i name v6_1),(9,.cells [.s (Ah v8),.i (bif decide (((Bq v5).1:Int)=0) then (Z4p v8 v5).Kind else (bif decide (((Bq v5).1:Int)=1) then (Z4s v8 v5).Kind else 1)),lst 7 AG.c (Z4u v5 v8),.i (bif decide (((Bq v5).1:Int)=0) then (Z4p v8 v5).R else (bif decide (((Bq v5).1:Int)=1) then (Z4s v8 v5).R else 4)),.i (W64 (30*v8)),.i (W64 (10*(AA v5 2).1)),.i (W64 ((W64 (2*(AA (Z4t v5) 4).1))*(AA (AA (Z4t v5) 4).2 2).1))] 102),(OO v5),(100000,Z4j v6_1)]⟩ (.cons (Ae (fun _ _=>kr) kr kr (Bf (Z4t v5) 4 au7 au9)) (.cons (Ae (fun _ _=>kr) kr kr (Bf (AA (Z4t v5) 4).2 2 au7 au9)) .nil)) (.cons rfl (.cons rfl (.cons rfl (.cons rfl .nil))))<|AJ ?_
   refine rc [] [v6_1.length=v6_1.length,v6_1.length+1<=maxLen,(v6_1.length+1)*80<=140737488355328] ⟨[(4,tP 4 0),(5,tP 14 0),(6,tP 6 0),(7,Z49 l),(8,tI v8)],[(4,Z47),(6,.cells [.s name,.own 90 7 (v6_1.length+1),vN] 82),(OO v5),(90,.row 7 (v6_1.length+1) (fun i_ j_=>if i_<v6_1.length then (AP BF.c v6_1) i_ j_ else (Ay 7 1 [.s (Ah v8),.i (bif decide (((Bq v5).1:Int)=0) then (Z4p v8 v5).Kind else (bif decide (((Bq v5).1:Int)=1) then (Z4s v8 v5).Kind else 1)),lst 7 AG.c (Z4u v5 v8),.i (bif decide (((Bq v5).1:Int)=0) then (Z4p v8 v5).R else (bif decide (((Bq v5).1:Int)=1) then (Z4s v8 v5).R else 4)),.i (W64 (30*v8)),.i (W64 (10*(AA v5 2).1)),.i (W64 ((W64 (2*(AA (Z4t v5) 4).1))*(AA (AA (Z4t v5) 4).2 2).1))]) (i_-v6_1.length) j_) 102)]⟩ .nil (.cons rfl (.cons au3 (.cons au3 .nil)))<|Be<|AJ ?_
   refine Ba (Cv.trans (BT (⟨[(4,tP 4 0),(5,tP 14 0),(6,tP 6 0),(7,Z49 l),(8,tI v8)],[(4,Z47),(6,.cells [.s name,.own 90 7 (v6_1++[BF.mk (Ah v8) (AQ.mk (bif decide (((Bq v5).1:Int)=0) then (Z4p v8 v5).Kind else (bif decide (((Bq v5).1:Int)=1) then (Z4s v8 v5).Kind else 1)) (Z4u v5 v8) (bif decide (((Bq v5).1:Int)=0) then (Z4p v8 v5).R else (bif decide (((Bq v5).1:Int)=1) then (Z4s v8 v5).R else 4))) (Hb v8 v5) (W64 ((W64 (2*(AA (Z4t v5) 4).1))*(AA (AA (Z4t v5) 4).2 2).1))]).length,vN] 82),(OO v5),(90,.row 7 (v6_1++[BF.mk (Ah v8) (AQ.mk (bif decide (((Bq v5).1:Int)=0) then (Z4p v8 v5).Kind else (bif decide (((Bq v5).1:Int)=1) then (Z4s v8 v5).Kind else 1)) (Z4u v5 v8) (bif decide (((Bq v5).1:Int)=0) then (Z4p v8 v5).R else (bif decide (((Bq v5).1:Int)=1) then (Z4s v8 v5).R else 4))) (Hb v8 v5) (W64 ((W64 (2*(AA (Z4t v5) 4).1))*(AA (AA (Z4t v5) 4).2 2).1))]).length (AP BF.c (v6_1++[BF.mk (Ah v8) (AQ.mk (bif decide (((Bq v5).1:Int)=0) then (Z4p v8 v5).Kind else (bif decide (((Bq v5).1:Int)=1) then (Z4s v8 v5).Kind else 1)) (Z4u v5 v8) (bif decide (((Bq v5).1:Int)=0) then (Z4p v8 v5).R else (bif decide (((Bq v5).1:Int)=1) then (Z4s v8 v5).R else 4))) (Hb v8 v5) (W64 ((W64 (2*(AA (Z4t v5) 4).1))*(AA (AA (Z4t v5) 4).2 2).1))])) 102)]⟩) lr (.cons ⟨rfl,.refl _⟩ (.cons ⟨rfl,.cells _ (rr (.cons (.own _ _ au2) (rr .nil)))⟩ (.cons ⟨rfl,.refl _⟩ (.cons ⟨rfl,Ap 102 (BZ (BM 7 BF.c v6_1) (Aw (c:=BF.c) (xs:=([BF.mk (Ah v8) (AQ.mk (bif decide (((AA (AA v5 2).2 3).1:Int)=0) then (Z4p v8 v5).Kind else (bif decide (((AA (AA v5 2).2 3).1:Int)=1) then (Z4s v8 v5).Kind else 1)) (Z4u v5 v8) (bif decide (((AA (AA v5 2).2 3).1:Int)=0) then (Z4p v8 v5).R else (bif decide (((AA (AA v5 2).2 3).1:Int)=1) then (Z4s v8 v5).R else 4))) (AB.mk (W64 (30*v8)) (W64 (10*(AA v5 2).1))) (W64 ((W64 (2*(AA (Z4t v5) 4).1))*(AA (AA (Z4t v5) 4).2 2).1))]:List BF)) rfl kr))⟩ .nil))))) (Cv.refl _)) ?_
   refine rg ⟨[(4,tP 4 0),(5,tP 14 0),(6,tP 6 0),(7,Z49 l),(8,tI (W64 (v8+1)))],[(4,Z47),(6,.cells [.s name,.own 90 7 (v6_1++[BF.mk (Ah v8) (AQ.mk (bif decide (((Bq v5).1:Int)=0) then (Z4p v8 v5).Kind else (bif decide (((Bq v5).1:Int)=1) then (Z4s v8 v5).Kind else 1)) (Z4u v5 v8) (bif decide (((Bq v5).1:Int)=0) then (Z4p v8 v5).R else (bif decide (((Bq v5).1:Int)=1) then (Z4s v8 v5).R else 4))) (Hb v8 v5) (W64 ((W64 (2*(AA (Z4t v5) 4).1))*(AA (AA (Z4t v5) 4).2 2).1))]).length,vN] 82),(OO v5),(90,.row 7 (v6_1++[BF.mk (Ah v8) (AQ.mk (bif decide (((Bq v5).1:Int)=0) then (Z4p v8 v5).Kind else (bif decide (((Bq v5).1:Int)=1) then (Z4s v8 v5).Kind else 1)) (Z4u v5 v8) (bif decide (((Bq v5).1:Int)=0) then (Z4p v8 v5).R else (bif decide (((Bq v5).1:Int)=1) then (Z4s v8 v5).R else 4))) (Hb v8 v5) (W64 ((W64 (2*(AA (Z4t v5) 4).1))*(AA (AA (Z4t v5) 4).2 2).1))]).length (AP BF.c (v6_1++[BF.mk (Ah v8) (AQ.mk (bif decide (((Bq v5).1:Int)=0) then (Z4p v8 v5).Kind else (bif decide (((Bq v5).1:Int)=1) then (Z4s v8 v5).Kind else 1)) (Z4u v5 v8) (bif decide (((Bq v5).1:Int)=0) then (Z4p v8 v5).R else (bif decide (((Bq v5).1:Int)=1) then (Z4s v8 v5).R else 4))) (Hb v8 v5) (W64 ((W64 (2*(AA (Z4t v5) 4).1))*(AA (AA (Z4t v5) 4).2 2).1))])) 102)]⟩ ?_
   (try rw [(show W64 (v8+1)=v8+1 from An (by omega) au6)])
   refine AJ ?_
   refine ⟨(n0,v6_1++[BF.mk (Ah v8) (AQ.mk (bif decide (((AA (AA v5 2).2 3).1:Int)=0) then (Z4p v8 v5).Kind else (bif decide (((AA (AA v5 2).2 3).1:Int)=1) then (Z4s v8 v5).Kind else 1)) (Z4u v5 v8) (bif decide (((AA (AA v5 2).2 3).1:Int)=0) then (Z4p v8 v5).R else (bif decide (((AA (AA v5 2).2 3).1:Int)=1) then (Z4s v8 v5).R else 4))) (AB.mk (W64 (30*v8)) (W64 (10*(AA v5 2).1))) (W64 ((W64 (2*(AA (Z4t v5) 4).1))*(AA (AA (Z4t v5) 4).2 2).1))],Z4x v5,v8+1),⟨?_,?_,(by rw [<- hF0];simp only [C2,h1,cond_true,cond_false])⟩,Nat.lt_succ_self _,Cv.trans (BR (⟨[(4,tP 4 0),(5,tP 14 0),(6,tP 6 0),(7,Z49 l),(8,tI (v8+1))],[(4,Z47),(6,.cells [.s name,.own 100000 7 (v6_1++[BF.mk (Ah v8) (AQ.mk (bif decide (((Bq v5).1:Int)=0) then (Z4p v8 v5).Kind else (bif decide (((Bq v5).1:Int)=1) then (Z4s v8 v5).Kind else 1)) (Z4u v5 v8) (bif decide (((Bq v5).1:Int)=0) then (Z4p v8 v5).R else (bif decide (((Bq v5).1:Int)=1) then (Z4s v8 v5).R else 4))) (Hb v8 v5) (W64 ((W64 (2*(AA (Z4t v5) 4).1))*(AA (AA (Z4t v5) 4).2 2).1))]).length,vN] 82),(OO v5),(100000,.row 7 (v6_1++[BF.mk (Ah v8) (AQ.mk (bif decide (((Bq v5).1:Int)=0) then (Z4p v8 v5).Kind else (bif decide (((Bq v5).1:Int)=1) then (Z4s v8 v5).Kind else 1)) (Z4u v5 v8) (bif decide (((Bq v5).1:Int)=0) then (Z4p v8 v5).R else (bif decide (((Bq v5).1:Int)=1) then (Z4s v8 v5).R else 4))) (Hb v8 v5) (W64 ((W64 (2*(AA (Z4t v5) 4).1))*(AA (AA (Z4t v5) 4).2 2).1))]).length (AP BF.c (v6_1++[BF.mk (Ah v8) (AQ.mk (bif decide (((Bq v5).1:Int)=0) then (Z4p v8 v5).Kind else (bif decide (((Bq v5).1:Int)=1) then (Z4s v8 v5).Kind else 1)) (Z4u v5 v8) (bif decide (((Bq v5).1:Int)=0) then (Z4p v8 v5).R else (bif decide (((Bq v5).1:Int)=1) then (Z4s v8 v5).R else 4))) (Hb v8 v5) (W64 ((W64 (2*(AA (Z4t v5) 4).1))*(AA (AA (Z4t v5) 4).2 2).1))])) 102)]⟩) 90 100000 (K:=[]) (fun k x h=>by cases h) rfl rfl kr kr) (BB kr)⟩
   ·show ((W64 (2+(AA (AD.mk l 0) 5).1))-(v8+1)).toNat<n0;omega
   ·exact ⟨(by show Bo (Z4x v5);repeat (first | with_reducible assumption | exact Cn (DV hll _) | with_reducible refine Bc ?_ | with_reducible refine Ee ?_ | with_reducible refine Dp ?_ | with_reducible refine DG ?_  | with_reducible refine Cu ?_ ?_)),ax0,ax0,ax0⟩
  ·have g1:=oF h1
   have k1:=SZ g1 (by decide) (by decide) (by decide) (by decide)
   refine BV<|BE ?_
   refine BE<|BW ?_
   refine AJ<|AC<|AC ?_
   refine Bu (⟨[(4,tP 4 0),(5,tP 14 0),(6,tP 6 0),(OI l),(98,tB (bif decide (((W64 (2+(AA (AD.mk l 0) 5).1)):Int)<4) then (bif decide (((W64 (2+(AA (AD.mk l 0) 5).1)):Int)<4) then decide ((0:Int)<(AA v5 3).1) else false) else (bif decide (((W64 (2+(AA (AD.mk l 0) 5).1)):Int)<4) then false else false)))],[Cm,(6,.cells [.s name,.own 100000 7 v6_1.length,vN] 82),(14,.cells (AD.c (Z4z l v5)) 117),(Kf v6_1)]⟩) ?_ ?_
   ·refine UU (Hl l) (fun h2 => ?_) (fun h2 => ?_)
    ·have g2:=oT h2
     refine EU ?_
     refine HM C4 4 [] [] [] [4,5,6,7,94,95] [4,6,14,100000] [] ⟨[(4,tP 4 0),(5,tP 14 0),(6,tP 6 0),(7,Z49 l),(94,Z4b l),(95,Z4c l)],[(4,Z47),(6,Z4i name v6_1),(OG v5),(100000,Z4j v6_1)]⟩ .nil kr .nil ?_
     refine Pe C4 2 true ((Hl l)=true) [] [(96,(Z4y v5))] [((Hl l)=true)->((Hl l)=true),Ak (Z4y v5).2.1,BJ (ME v5)] ⟨[(4,tP 4 0),(5,tP 14 0),(6,tP 6 0),(7,Z49 l),(94,Z4b l),(95,Z4c l),(96,tI (AA v5 3).1)],[(4,Z47),(6,Z4i name v6_1),(14,.cells (AD.c (AA v5 3).2) 117),(100000,Z4j v6_1)]⟩ rfl kr h2 (.cons (Ae (fun _ _=>kr) kr kr (Bf v5 3 au7 au9)) .nil) kr (.cons id (.cons rfl (.cons rfl .nil))) ?_
     refine F6 C4 [] [] [] [4,5,6,7,98] [4,6,14,100000] [(Hl l)=true->((Hl l)=true)] ⟨[(4,tP 4 0),(5,tP 14 0),(6,tP 6 0),(7,Z49 l),(98,tB (bif decide (((W64 (2+(Dr l).1)):Int)<4) then decide ((0:Int)<(AA v5 3).1) else false))],[(4,Z47),(6,Z4i name v6_1),(14,.cells (AD.c (AA v5 3).2) 117),(100000,Z4j v6_1)]⟩ .nil kr (.cons id .nil)<|AJ ?_
     refine BB ?_
     first | rfl | (simp only [h2,Z4z,cond_true,cond_false] <;> rfl)
    ·have g2:=oF h2
     refine EU ?_
     refine HM C4 4 [] [] [] [4,5,6,7,94,95] [4,6,14,100000] [] ⟨[(4,tP 4 0),(5,tP 14 0),(6,tP 6 0),(7,Z49 l),(94,Z4b l),(95,Z4c l)],[(4,Z47),(6,Z4i name v6_1),(OG v5),(100000,Z4j v6_1)]⟩ .nil kr .nil ?_
     refine G3 2 true ((Hl l)=true) ⟨[(4,tP 4 0),(5,tP 14 0),(6,tP 6 0),(7,Z49 l),(94,Z4b l),(95,Z4c l),(96,.grd ((Hl l)=true) (.one (.b false)))],[(4,Z47),(6,Z4i name v6_1),(OG v5),(100000,Z4j v6_1)]⟩ rfl kr (fun e=>by rw [h2] at e;cases e) kr kr ?_
     refine F6 C4 [] [] [] [4,5,6,7,98] [4,6,14,100000] [¬ ((Hl l)=true),(Hl l)=true->((Hl l)=true)] ⟨[(4,tP 4 0),(5,tP 14 0),(6,tP 6 0),(7,Z49 l),(98,tB (bif decide (((W64 (2+(Dr l).1)):Int)<4) then false else false))],[(4,Z47),(6,Z4i name v6_1),(OG v5),(100000,Z4j v6_1)]⟩ .nil kr (.cons (fun e=>by rw [h2] at e;cases e) (.cons id .nil))<|AJ ?_
     refine BB ?_
     first | rfl | (simp only [h2,Z4z,cond_true,cond_false] <;> rfl)
   refine Bu (⟨[(4,tP 4 0),(5,tP 14 0),(6,tP 6 0),(OI l)],[Cm,(6,.cells [.s name,.own 100000 7 v6_1.length,.own 100001 2 (Z4E l v5).length] 82),(14,.cells (AD.c (Z4D l v5)) 117),(Kf v6_1),(100001,.row 2 (Z4E l v5).length (AP A4.c (Z4E l v5)) 180)]⟩) ?_ ?_
   ·refine Ab (bif decide (((W64 (2+(AA (AD.mk l 0) 5).1)):Int)<4) then (bif decide (((W64 (2+(AA (AD.mk l 0) 5).1)):Int)<4) then decide ((0:Int)<(AA v5 3).1) else false) else (bif decide (((W64 (2+(AA (AD.mk l 0) 5).1)):Int)<4) then false else false)) kr (fun h2 => ?_) (fun h2 => ?_)
    ·refine Cz C4 [107] [] [(99,CL 0),(101,CL 1),(103,(Z4A l v5))] [4,5,6,7] [4,6,14,107,100000] [Ak (CL 0).2.1,Ak (CL 1).2.1,Ak (Z4A l v5).2.1,BJ (.cells (AD.c (Z4z l v5)) 117)] ⟨(Gi l),[(4,Z47),(6,.cells [.s name,.own 100000 7 v6_1.length,.own 107 2 1] 82),(14,Z4B l v5),(107,.row 2 1 (Ay 2 1 [.i 0,.list true 2 2 (Ay 2 2 [.s (Ah 0),.i 1,.s (Ah 1),.i (AA (Z4z l v5) 2).1])]) 180),(100000,Z4j v6_1)]⟩ (.cons (EX 0 au10) (.cons (EX 1 au10) (.cons (Ae (fun _ _=>kr) kr kr (Bf (Z4z l v5) 2 au7 au9)) .nil))) kr (.cons rfl (.cons rfl (.cons rfl (.cons rfl .nil))))<|AJ ?_
     refine Cv.trans (BT (⟨(Gi l),[(4,Z47),(6,.cells [.s name,.own 100000 7 v6_1.length,.own 107 2 ([A4.mk 0 [Br.mk (Ah 0) 1,Br.mk (Ah 1) (AA (Z4z l v5) 2).1]].length)] 82),(14,Z4B l v5),(107,Z4C l v5),(100000,Z4j v6_1)]⟩) lr (.cons ⟨rfl,.refl _⟩ (.cons ⟨rfl,.cells _ (rr (rr (.cons (.own _ _ au2) .nil)))⟩ (.cons ⟨rfl,.refl _⟩ (.cons ⟨rfl,Ap 180 (FU (c:=A4.c) (xs:=([A4.mk 0 [Br.mk (Ah 0) 1,Br.mk (Ah 1) (AA (Z4z l v5) 2).1]]:List A4)) (y:=[[.i 0,.list true 2 2 (Ay 2 2 [.s (Ah 0),.i 1,.s (Ah 1),.i (AA (Z4z l v5) 2).1])]]) (z:=[[.i 0,lst 2 Br.c [Br.mk (Ah 0) 1,Br.mk (Ah 1) (AA (Z4z l v5) 2).1]]]) rfl kr kr (.cons (rr (.cons (Bm true (Aw (c:=Br.c) (xs:=([Br.mk (Ah 0) 1,Br.mk (Ah 1) (AA (Z4z l v5) 2).1]:List Br)) rfl kr)) .nil)) .nil))⟩ lr))))) (Cv.trans (BR (⟨(Gi l),[(4,Z47),(6,Z4U name v6_1 l v5),(14,Z4B l v5),(100001,Z4C l v5),(100000,Z4j v6_1)]⟩) 107 100001 (K:=[]) (fun k x h=>by cases h) rfl rfl kr kr) (Cv.trans (BD [4,5,6,7] [4,6,14,100000,100001] (⟨(Gi l),[(4,Z47),(6,Z4U name v6_1 l v5),(14,Z4B l v5),(100000,Z4j v6_1),(100001,Z4C l v5)]⟩) kr) (BB ?_)))
     first | rfl | (simp only [h2,Z4D,Z4E,cond_true,cond_false] <;> rfl)
    ·refine Af<|AJ ?_
     refine Cv.trans (BD [4,5,6,7] [4,6,14,100000] (⟨(Gi l),[(4,Z47),(6,Z4i name v6_1),(14,.cells (AD.c (Z4z l v5)) 117),(100000,Z4j v6_1)]⟩) kr) (Cv.trans (Ca (⟨(Gi l),[(100001,.row 2 0 (fun _ _=>default) 180),(4,Z47),(6,.cells [.s name,.own 100000 7 v6_1.length,.own 100001 2 0] 82),(14,.cells (AD.c (Z4z l v5)) 117),(100000,Z4j v6_1)]⟩) 100001 2 (fun _ _=>default) 180 [] [(6,[2])] (K:=[]) (fun k x h=>by cases h) rfl kr kr) (Cv.trans (BT (⟨(Gi l),[(100001,Z4d),(4,Z47),(6,Z4V name v6_1),(14,.cells (AD.c (Z4z l v5)) 117),(100000,Z4j v6_1)]⟩) lr (.cons ⟨rfl,Ap 180 (CZ 2 (fun _ _=>default) A4.c)⟩ (.cons ⟨rfl,.refl _⟩ (.cons ⟨rfl,.cells _ (rr (rr (.cons (.own _ _ au2) .nil)))⟩ lr)))) (Cv.trans (BD [4,5,6,7] [4,6,14,100000,100001] (⟨(Gi l),[(4,Z47),(6,Z4V name v6_1),(14,.cells (AD.c (Z4z l v5)) 117),(100000,Z4j v6_1),(100001,Z4d)]⟩) kr) (BB ?_))))
     first | rfl | (simp only [h2,Z4D,Z4E,cond_true,cond_false] <;> rfl)
   refine AC<|AC ?_
   refine Bu (⟨[(4,tP 4 0),(5,tP 14 0),(6,tP 6 0),(OI l),(115,tB (bif decide ((4:Int)<=(W64 (2+(AA (AD.mk l 0) 5).1))) then (bif decide ((4:Int)<=(W64 (2+(AA (AD.mk l 0) 5).1))) then decide ((0:Int)<(AA (Z4D l v5) 3).1) else false) else (bif decide ((4:Int)<=(W64 (2+(AA (AD.mk l 0) 5).1))) then false else false)))],[Cm,(6,.cells [.s name,.own 100000 7 v6_1.length,.own 100001 2 (Z4E l v5).length] 82),(14,.cells (AD.c (Z4H l v5)) 117),(Kf v6_1),(100001,.row 2 (Z4E l v5).length (AP A4.c (Z4E l v5)) 180)]⟩) ?_ ?_
   ·refine UU (Hm l) (fun h2 => ?_) (fun h2 => ?_)
    ·have g2:=oT h2
     refine EU ?_
     refine HM C4 4 [] [] [] [4,5,6,7,111,112] [4,6,14,100000,100001] [] ⟨[(4,tP 4 0),(5,tP 14 0),(6,tP 6 0),(7,Z49 l),(111,Z4e l),(112,Z4f l)],[(4,Z47),(6,Z4W name v6_1 l v5),(14,.cells (AD.c (Z4D l v5)) 117),(100000,Z4j v6_1),(100001,Z4G l v5)]⟩ .nil kr .nil ?_
     refine Pe C4 2 true ((Hm l)=true) [] [(113,(Z4F l v5))] [((Hm l)=true)->((Hm l)=true),Ak (Z4F l v5).2.1,BJ (.cells (AD.c (Z4D l v5)) 117)] ⟨[(4,tP 4 0),(5,tP 14 0),(6,tP 6 0),(7,Z49 l),(111,Z4e l),(112,Z4f l),(113,tI (AA (Z4D l v5) 3).1)],[(4,Z47),(6,Z4W name v6_1 l v5),(14,.cells (AD.c (AA (Z4D l v5) 3).2) 117),(100000,Z4j v6_1),(100001,Z4G l v5)]⟩ rfl kr h2 (.cons (Ae (fun _ _=>kr) kr kr (Bf (Z4D l v5) 3 au7 au9)) .nil) kr (.cons id (.cons rfl (.cons rfl .nil))) ?_
     refine F6 C4 [] [] [] [4,5,6,7,115] [4,6,14,100000,100001] [(Hm l)=true->((Hm l)=true)] ⟨[(4,tP 4 0),(5,tP 14 0),(6,tP 6 0),(7,Z49 l),(115,tB (bif decide ((4:Int)<=(W64 (2+(Dr l).1))) then decide ((0:Int)<(AA (Z4D l v5) 3).1) else false))],[(4,Z47),(6,Z4W name v6_1 l v5),(14,.cells (AD.c (AA (Z4D l v5) 3).2) 117),(100000,Z4j v6_1),(100001,Z4G l v5)]⟩ .nil kr (.cons id .nil)<|AJ ?_
     refine BB ?_
     first | rfl | (simp only [h2,Z4H,cond_true,cond_false] <;> rfl)
    ·have g2:=oF h2
     refine EU ?_
     refine HM C4 4 [] [] [] [4,5,6,7,111,112] [4,6,14,100000,100001] [] ⟨[(4,tP 4 0),(5,tP 14 0),(6,tP 6 0),(7,Z49 l),(111,Z4e l),(112,Z4f l)],[(4,Z47),(6,Z4W name v6_1 l v5),(14,.cells (AD.c (Z4D l v5)) 117),(100000,Z4j v6_1),(100001,Z4G l v5)]⟩ .nil kr .nil ?_
     refine G3 2 true ((Hm l)=true) ⟨[(4,tP 4 0),(5,tP 14 0),(6,tP 6 0),(7,Z49 l),(111,Z4e l),(112,Z4f l),(113,.grd ((Hm l)=true) (.one (.b false)))],[(4,Z47),(6,Z4W name v6_1 l v5),(14,.cells (AD.c (Z4D l v5)) 117),(100000,Z4j v6_1),(100001,Z4G l v5)]⟩ rfl kr (fun e=>by rw [h2] at e;cases e) kr kr ?_
     refine F6 C4 [] [] [] [4,5,6,7,115] [4,6,14,100000,100001] [¬ ((Hm l)=true),(Hm l)=true->((Hm l)=true)] ⟨[(4,tP 4 0),(5,tP 14 0),(6,tP 6 0),(7,Z49 l),(115,tB (bif decide ((4:Int)<=(W64 (2+(Dr l).1))) then false else false))],[(4,Z47),(6,Z4W name v6_1 l v5),(14,.cells (AD.c (Z4D l v5)) 117),(100000,Z4j v6_1),(100001,Z4G l v5)]⟩ .nil kr (.cons (fun e=>by rw [h2] at e;cases e) (.cons id .nil))<|AJ ?_
     refine BB ?_
     first | rfl | (simp only [h2,Z4H,cond_true,cond_false] <;> rfl)
   refine Bu (⟨[(4,tP 4 0),(5,tP 14 0),(6,tP 6 0),(OI l)],[Cm,(6,.cells [.s name,.own 100000 7 v6_1.length,.own 100002 2 (Z4M l v5).length] 82),(14,.cells (AD.c (Z4L l v5)) 117),(Kf v6_1),(100002,.row 2 (Z4M l v5).length (AP A4.c (Z4M l v5)) 180)]⟩) ?_ ?_
   ·refine Ab (bif decide ((4:Int)<=(W64 (2+(AA (AD.mk l 0) 5).1))) then (bif decide ((4:Int)<=(W64 (2+(AA (AD.mk l 0) 5).1))) then decide ((0:Int)<(AA (Z4D l v5) 3).1) else false) else (bif decide ((4:Int)<=(W64 (2+(AA (AD.mk l 0) 5).1))) then false else false)) kr (fun h2 => ?_) (fun h2 => ?_)
    ·refine AC<|rc [(117,(Z4I l v5))] [Ak (Z4I l v5).2.1,BJ (.cells (AD.c (Z4H l v5)) 117)] ⟨[(4,tP 4 0),(5,tP 14 0),(6,tP 6 0),(7,Z49 l),(11,tI (AA (Z4H l v5) 2).1)],[(4,Z47),(6,Z4W name v6_1 l v5),(14,Z4J l v5),(100000,Z4j v6_1),(100001,Z4G l v5)]⟩ (.cons (Ae (fun _ _=>kr) kr kr (Bf (Z4H l v5) 2 au7 au9)) .nil) (.cons rfl (.cons rfl .nil))<|AJ ?_
     refine Cz C4 [134] [] [(118,CL 0),(121,CL 1),(126,CL 2),(129,CL 3)] [4,5,6,7] [4,6,14,134,100000] [Ak (CL 0).2.1,Ak (CL 1).2.1,Ak (CL 2).2.1,Ak (CL 3).2.1] ⟨(Gi l),[(4,Z47),(6,.cells [.s name,.own 100000 7 v6_1.length,.own 134 2 2] 82),(14,Z4J l v5),(134,.row 2 2 (Ay 2 2 [.i 1,.list true 2 2 (Ay 2 2 [.s (Ah 0),.i (AA (Z4H l v5) 2).1,.s (Ah 1),.i (AA (Z4H l v5) 2).1]),.i 1,.list true 2 2 (Ay 2 2 [.s (Ah 2),.i (AA (Z4H l v5) 2).1,.s (Ah 3),.i (AA (Z4H l v5) 2).1])]) 180),(100000,Z4j v6_1)]⟩ (.cons (EX 0 au10) (.cons (EX 1 au10) (.cons (EX 2 au10) (.cons (EX 3 au10) .nil)))) kr (.cons rfl (.cons rfl (.cons rfl (.cons rfl .nil))))<|AJ ?_
     refine Cv.trans (BT (⟨(Gi l),[(4,Z47),(6,.cells [.s name,.own 100000 7 v6_1.length,.own 134 2 ([A4.mk 1 [Br.mk (Ah 0) (AA (Z4H l v5) 2).1,Br.mk (Ah 1) (AA (Z4H l v5) 2).1],A4.mk 1 [Br.mk (Ah 2) (AA (Z4H l v5) 2).1,Br.mk (Ah 3) (AA (Z4H l v5) 2).1]].length)] 82),(14,Z4J l v5),(134,Z4K l v5),(100000,Z4j v6_1)]⟩) lr (.cons ⟨rfl,.refl _⟩ (.cons ⟨rfl,.cells _ (rr (rr (.cons (.own _ _ au2) .nil)))⟩ (.cons ⟨rfl,.refl _⟩ (.cons ⟨rfl,Ap 180 (FU (c:=A4.c) (xs:=([A4.mk 1 [Br.mk (Ah 0) (AA (Z4H l v5) 2).1,Br.mk (Ah 1) (AA (Z4H l v5) 2).1],A4.mk 1 [Br.mk (Ah 2) (AA (Z4H l v5) 2).1,Br.mk (Ah 3) (AA (Z4H l v5) 2).1]]:List A4)) (y:=[[.i 1,.list true 2 2 (Ay 2 2 [.s (Ah 0),.i (AA (Z4H l v5) 2).1,.s (Ah 1),.i (AA (Z4H l v5) 2).1])],[.i 1,.list true 2 2 (Ay 2 2 [.s (Ah 2),.i (AA (Z4H l v5) 2).1,.s (Ah 3),.i (AA (Z4H l v5) 2).1])]]) (z:=[[.i 1,lst 2 Br.c [Br.mk (Ah 0) (AA (Z4H l v5) 2).1,Br.mk (Ah 1) (AA (Z4H l v5) 2).1]],[.i 1,lst 2 Br.c [Br.mk (Ah 2) (AA (Z4H l v5) 2).1,Br.mk (Ah 3) (AA (Z4H l v5) 2).1]]]) rfl kr kr (.cons (rr (.cons (Bm true (Aw (c:=Br.c) (xs:=([Br.mk (Ah 0) (AA (Z4H l v5) 2).1,Br.mk (Ah 1) (AA (Z4H l v5) 2).1]:List Br)) rfl kr)) .nil)) (.cons (rr (.cons (Bm true (Aw (c:=Br.c) (xs:=([Br.mk (Ah 2) (AA (Z4H l v5) 2).1,Br.mk (Ah 3) (AA (Z4H l v5) 2).1]:List Br)) rfl kr)) .nil)) .nil)))⟩ lr))))) (Cv.trans (BR (⟨(Gi l),[(4,Z47),(6,Z4X name v6_1 l v5),(14,Z4J l v5),(100002,Z4K l v5),(100000,Z4j v6_1)]⟩) 134 100002 (K:=[]) (fun k x h=>by cases h) rfl rfl kr kr) (Cv.trans (BD [4,5,6,7] [4,6,14,100000,100002] (⟨(Gi l),[(4,Z47),(6,Z4X name v6_1 l v5),(14,Z4J l v5),(100000,Z4j v6_1),(100002,Z4K l v5)]⟩) kr) (BB ?_)))
     first | rfl | (simp only [h2,Z4L,Z4M,cond_true,cond_false] <;> rfl)
    ·refine Af<|AJ ?_
     refine Cv.trans (BD [4,5,6,7] [4,6,14,100000,100001] (⟨(Gi l),[(4,Z47),(6,Z4W name v6_1 l v5),(14,.cells (AD.c (Z4H l v5)) 117),(100000,Z4j v6_1),(100001,Z4G l v5)]⟩) kr) (Cv.trans (BR (⟨(Gi l),[(4,Z47),(6,.cells [.s name,.own 100000 7 v6_1.length,.own 100002 2 (Z4E l v5).length] 82),(14,.cells (AD.c (Z4H l v5)) 117),(100000,Z4j v6_1),(100002,Z4G l v5)]⟩) 100001 100002 (K:=[]) (fun k x h=>by cases h) rfl rfl kr kr) (BB ?_))
     first | rfl | (simp only [h2,Z4L,Z4M,cond_true,cond_false] <;> rfl)
   refine AC<|AC ?_
   refine Bu (⟨[(4,tP 4 0),(5,tP 14 0),(6,tP 6 0),(148,tB (bif bif decide (((W64 (2+(AA (AD.mk l 0) 5).1)):Int)=6) then decide ((0:Int)<(((Z4M l v5).length:Nat):Int)) else false then (bif bif decide (((W64 (2+(AA (AD.mk l 0) 5).1)):Int)=6) then decide ((0:Int)<(((Z4M l v5).length:Nat):Int)) else false then decide (((AA (Z4L l v5) 2).1:Int)=1) else false) else (bif bif decide (((W64 (2+(AA (AD.mk l 0) 5).1)):Int)=6) then decide ((0:Int)<(((Z4M l v5).length:Nat):Int)) else false then false else false)))],[Cm,(6,.cells [.s name,.own 100000 7 v6_1.length,.own 100002 2 (Z4M l v5).length] 82),(14,.cells (AD.c (Z4P l v5)) 117),(Kf v6_1),(100002,.row 2 (Z4M l v5).length (AP A4.c (Z4M l v5)) 180)]⟩) ?_ ?_
   ·refine UU (bif decide (((W64 (2+(AA (AD.mk l 0) 5).1)):Int)=6) then decide ((0:Int)<(((Z4M l v5).length:Nat):Int)) else false) (fun h2 => ?_) (fun h2 => ?_)
    ·have g2:=OA h2
     refine EU ?_
     refine HM C4 10 [] [] [] [4,5,6,144,145] [4,6,14,100000,100002] [((GN l)=true)->((GN l)=true),((GN l)=true)->((GN l)=true),((GN l)=true)->((GN l)=true),(GN l)=true->((GN l)=true)] ⟨[(4,tP 4 0),(5,tP 14 0),(6,tP 6 0),(144,tB (bif decide (((W64 (2+(Dr l).1)):Int)=6) then decide ((0:Int)<(((Z4M l v5).length:Nat):Int)) else false)),(145,.grd ((bif decide (((W64 (2+(Dr l).1)):Int)=6) then decide ((0:Int)<(((Z4M l v5).length:Nat):Int)) else false)=true) MN)],[(4,Z47),(6,Z4Y name v6_1 l v5),(14,.cells (AD.c (Z4L l v5)) 117),(100000,Z4j v6_1),(100002,Z4O l v5)]⟩ .nil kr (.cons id (.cons id (.cons id (.cons id .nil)))) ?_
     refine Pe C4 8 true ((bif decide (((W64 (2+(AA (AD.mk l 0) 5).1)):Int)=6) then decide ((0:Int)<(((Z4M l v5).length:Nat):Int)) else false)=true) [] [(146,(Z4N l v5))] [((bif decide (((W64 (2+(AA (AD.mk l 0) 5).1)):Int)=6) then decide ((0:Int)<(((Z4M l v5).length:Nat):Int)) else false)=true)->((bif decide (((W64 (2+(AA (AD.mk l 0) 5).1)):Int)=6) then decide ((0:Int)<(((Z4M l v5).length:Nat):Int)) else false)=true),Ak (Z4N l v5).2.1,BJ (.cells (AD.c (Z4L l v5)) 117)] ⟨[(4,tP 4 0),(5,tP 14 0),(6,tP 6 0),(144,tB (bif decide (((W64 (2+(Dr l).1)):Int)=6) then decide ((0:Int)<(((Z4M l v5).length:Nat):Int)) else false)),(145,.grd ((bif decide (((W64 (2+(Dr l).1)):Int)=6) then decide ((0:Int)<(((Z4M l v5).length:Nat):Int)) else false)=true) MN),(146,tI (AA (Z4L l v5) 2).1)],[(4,Z47),(6,Z4Y name v6_1 l v5),(14,.cells (AD.c (AA (Z4L l v5) 2).2) 117),(100000,Z4j v6_1),(100002,Z4O l v5)]⟩ rfl kr h2 (.cons (Ae (fun _ _=>kr) kr kr (Bf (Z4L l v5) 2 au7 au9)) .nil) kr (.cons id (.cons rfl (.cons rfl .nil))) ?_
     refine F6 C4 [] [] [] [4,5,6,148] [4,6,14,100000,100002] [(bif decide (((W64 (2+(AA (AD.mk l 0) 5).1)):Int)=6) then decide ((0:Int)<(((Z4M l v5).length:Nat):Int)) else false)=true->((bif decide (((W64 (2+(AA (AD.mk l 0) 5).1)):Int)=6) then decide ((0:Int)<(((Z4M l v5).length:Nat):Int)) else false)=true)] ⟨[(4,tP 4 0),(5,tP 14 0),(6,tP 6 0),(148,tB (bif bif decide (((W64 (2+(Dr l).1)):Int)=6) then decide ((0:Int)<(((Z4M l v5).length:Nat):Int)) else false then decide (((AA (Z4L l v5) 2).1:Int)=1) else false))],[(4,Z47),(6,Z4Y name v6_1 l v5),(14,.cells (AD.c (AA (Z4L l v5) 2).2) 117),(100000,Z4j v6_1),(100002,Z4O l v5)]⟩ .nil kr (.cons id .nil)<|AJ ?_
     refine BB ?_
     first | rfl | (simp only [h2,Z4P,cond_true,cond_false] <;> rfl)
    ·refine EU ?_
     refine HM C4 10 [] [] [] [4,5,6,144,145] [4,6,14,100000,100002] [((GN l)=true)->((GN l)=true),((GN l)=true)->((GN l)=true),((GN l)=true)->((GN l)=true),(GN l)=true->((GN l)=true)] ⟨[(4,tP 4 0),(5,tP 14 0),(6,tP 6 0),(144,tB (bif decide (((W64 (2+(Dr l).1)):Int)=6) then decide ((0:Int)<(((Z4M l v5).length:Nat):Int)) else false)),(145,.grd ((bif decide (((W64 (2+(Dr l).1)):Int)=6) then decide ((0:Int)<(((Z4M l v5).length:Nat):Int)) else false)=true) MN)],[(4,Z47),(6,Z4Y name v6_1 l v5),(14,.cells (AD.c (Z4L l v5)) 117),(100000,Z4j v6_1),(100002,Z4O l v5)]⟩ .nil kr (.cons id (.cons id (.cons id (.cons id .nil)))) ?_
     refine G3 8 true ((bif decide (((W64 (2+(AA (AD.mk l 0) 5).1)):Int)=6) then decide ((0:Int)<(((Z4M l v5).length:Nat):Int)) else false)=true) ⟨[(4,tP 4 0),(5,tP 14 0),(6,tP 6 0),(144,tB (bif decide (((W64 (2+(Dr l).1)):Int)=6) then decide ((0:Int)<(((Z4M l v5).length:Nat):Int)) else false)),(145,.grd ((bif decide (((W64 (2+(Dr l).1)):Int)=6) then decide ((0:Int)<(((Z4M l v5).length:Nat):Int)) else false)=true) MN),(146,.grd ((bif decide (((W64 (2+(Dr l).1)):Int)=6) then decide ((0:Int)<(((Z4M l v5).length:Nat):Int)) else false)=true) (.one (.b false)))],[(4,Z47),(6,Z4Y name v6_1 l v5),(14,.cells (AD.c (Z4L l v5)) 117),(100000,Z4j v6_1),(100002,Z4O l v5)]⟩ rfl kr (fun e=>by rw [h2] at e;cases e) kr kr ?_
     refine F6 C4 [] [] [] [4,5,6,148] [4,6,14,100000,100002] [¬ ((bif decide (((W64 (2+(AA (AD.mk l 0) 5).1)):Int)=6) then decide ((0:Int)<(((Z4M l v5).length:Nat):Int)) else false)=true),(bif decide (((W64 (2+(AA (AD.mk l 0) 5).1)):Int)=6) then decide ((0:Int)<(((Z4M l v5).length:Nat):Int)) else false)=true->((bif decide (((W64 (2+(AA (AD.mk l 0) 5).1)):Int)=6) then decide ((0:Int)<(((Z4M l v5).length:Nat):Int)) else false)=true)] ⟨[(4,tP 4 0),(5,tP 14 0),(6,tP 6 0),(148,tB (bif bif decide (((W64 (2+(Dr l).1)):Int)=6) then decide ((0:Int)<(((Z4M l v5).length:Nat):Int)) else false then false else false))],[(4,Z47),(6,Z4Y name v6_1 l v5),(14,.cells (AD.c (Z4L l v5)) 117),(100000,Z4j v6_1),(100002,Z4O l v5)]⟩ .nil kr (.cons (fun e=>by rw [h2] at e;cases e) (.cons id .nil))<|AJ ?_
     refine BB ?_
     first | rfl | (simp only [h2,Z4P,cond_true,cond_false] <;> rfl)
   refine Bu (⟨Ka,[Cm,(6,.cells [.s name,.own 100000 7 v6_1.length,.own 100003 2 (Z4S l v5).length] 82),(Kf v6_1),(100003,.row 2 (Z4S l v5).length (AP A4.c (Z4S l v5)) 180)]⟩) ?_ ?_
   ·refine Ab (bif bif decide (((W64 (2+(AA (AD.mk l 0) 5).1)):Int)=6) then decide ((0:Int)<(((Z4M l v5).length:Nat):Int)) else false then (bif bif decide (((W64 (2+(AA (AD.mk l 0) 5).1)):Int)=6) then decide ((0:Int)<(((Z4M l v5).length:Nat):Int)) else false then decide (((AA (Z4L l v5) 2).1:Int)=1) else false) else (bif bif decide (((W64 (2+(AA (AD.mk l 0) 5).1)):Int)=6) then decide ((0:Int)<(((Z4M l v5).length:Nat):Int)) else false then false else false)) kr (fun h2 => ?_) (fun h2 => ?_)
    ·refine dw [] [(152,(Z4Q l v5)),(153,CL 5),(163,CL 4)] [Ak (Z4Q l v5).2.1,BJ (.cells (AD.c (Z4P l v5)) 117),Ak (CL 5).2.1,0<=(0:Int)/\(0:Int)<(((Z4M l v5).length:Nat):Int),0<(Z4M l v5).length,0<=(0:Int)/\(0:Int)<((((Z4M l v5).getD 0 default).Legs.length:Nat):Int),Ak (CL 4).2.1,0<=(0:Int)/\(0:Int)<(((Z4M l v5).length:Nat):Int),0<(Z4M l v5).length,0<=(1:Int)/\(1:Int)<((((Z4M l v5).getD 0 default).Legs.length:Nat):Int),(Z4M l v5).length=(Z4M l v5).length,(Z4M l v5).length+1<=maxLen,((Z4M l v5).length+1)*32<=140737488355328] ⟨Ka,[(4,Z47),(6,.cells [.s name,.own 100000 7 v6_1.length,.own 176 2 ((Z4M l v5).length+1)] 82),(176,.row 2 ((Z4M l v5).length+1) (fun i_ j_=>if i_<(Z4M l v5).length then (AP A4.c (Z4M l v5)) i_ j_ else (Ay 2 1 [.i (AA (Z4P l v5) 3).1,.list true 2 2 (Ay 2 2 [.s (Ah 5),.i (((Z4M l v5).getD 0 default).Legs.getD 0 default).Group,.s (Ah 4),.i (((Z4M l v5).getD 0 default).Legs.getD 1 default).Group])]) (i_-(Z4M l v5).length) j_) 180),(100000,Z4j v6_1)]⟩ (.cons (Ae (fun _ _=>kr) kr kr (Bf (Z4P l v5) 3 au7 au9)) (.cons (EX 5 au10) (.cons (EX 4 au10) .nil))) (.cons rfl (.cons rfl (.cons rfl (.cons ⟨by decide,(H6 (by with_reducible assumption))⟩ (.cons (W5 (H6 (by with_reducible assumption))) (.cons (XT (by decide) rfl rfl rfl (H6 (by with_reducible assumption))) (.cons rfl (.cons ⟨by decide,(H6 (by with_reducible assumption))⟩ (.cons (W5 (H6 (by with_reducible assumption))) (.cons (XT (by decide) rfl rfl rfl (H6 (by with_reducible assumption))) (.cons rfl (.cons (bZ (Qg rfl)) (.cons (cA (Qg rfl)) .nil)))))))))))))<|AJ ?_
     refine Cv.trans (BT (⟨Ka,[(4,Z47),(6,.cells [.s name,.own 100000 7 v6_1.length,.own 176 2 ((Z4M l v5)++[A4.mk (AA (Z4P l v5) 3).1 [Br.mk (Ah 5) (((Z4M l v5).getD 0 default).Legs.getD 0 default).Group,Br.mk (Ah 4) (((Z4M l v5).getD 0 default).Legs.getD 1 default).Group]]).length] 82),(176,Z4R l v5),(100000,Z4j v6_1)]⟩) lr (.cons ⟨rfl,.refl _⟩ (.cons ⟨rfl,.cells _ (rr (rr (.cons (.own _ _ au2) .nil)))⟩ (.cons ⟨rfl,Ap 180 (BZ (BM 2 A4.c (Z4M l v5)) (FU (c:=A4.c) (xs:=([A4.mk (AA (Z4P l v5) 3).1 [Br.mk (Ah 5) (((Z4M l v5).getD 0 default).Legs.getD 0 default).Group,Br.mk (Ah 4) (((Z4M l v5).getD 0 default).Legs.getD 1 default).Group]]:List A4)) (y:=[[.i (AA (Z4P l v5) 3).1,.list true 2 2 (Ay 2 2 [.s (Ah 5),.i (((Z4M l v5).getD 0 default).Legs.getD 0 default).Group,.s (Ah 4),.i (((Z4M l v5).getD 0 default).Legs.getD 1 default).Group])]]) (z:=[[.i (AA (Z4P l v5) 3).1,lst 2 Br.c [Br.mk (Ah 5) (((Z4M l v5).getD 0 default).Legs.getD 0 default).Group,Br.mk (Ah 4) (((Z4M l v5).getD 0 default).Legs.getD 1 default).Group]]]) rfl kr kr (.cons (rr (.cons (Bm true (Aw (c:=Br.c) (xs:=([Br.mk (Ah 5) (((Z4M l v5).getD 0 default).Legs.getD 0 default).Group,Br.mk (Ah 4) (((Z4M l v5).getD 0 default).Legs.getD 1 default).Group]:List Br)) rfl kr)) .nil)) .nil)))⟩ lr)))) (Cv.trans (BR (⟨Ka,[(4,Z47),(6,Z4Z name v6_1 l v5),(100003,Z4R l v5),(100000,Z4j v6_1)]⟩) 176 100003 (K:=[]) (fun k x h=>by cases h) rfl rfl kr kr) (Cv.trans (BD [4,6] [4,6,100000,100003] (⟨Ka,[(4,Z47),(6,Z4Z name v6_1 l v5),(100000,Z4j v6_1),(100003,Z4R l v5)]⟩) kr) (BB ?_)))
     first | rfl | (simp only [h2,Z4S,cond_true,cond_false] <;> rfl)
    ·refine Af<|AJ ?_
     refine Cv.trans (BD [4,6] [4,6,100000,100002] (⟨Ka,[(4,Z47),(6,Z4Y name v6_1 l v5),(100000,Z4j v6_1),(100002,Z4O l v5)]⟩) kr) (Cv.trans (BR (⟨Ka,[(4,Z47),(6,.cells [.s name,.own 100000 7 v6_1.length,.own 100003 2 (Z4M l v5).length] 82),(100000,Z4j v6_1),(100003,Z4O l v5)]⟩) 100002 100003 (K:=[]) (fun k x h=>by cases h) rfl rfl kr kr) (BB ?_))
     first | rfl | (simp only [h2,Z4S,cond_true,cond_false] <;> rfl)
   refine AC<|rn ⟨[(4,tP 4 0)],[(4,.cells [.s name,.own 100000 7 v6_1.length,.own 100003 2 (Z4S l v5).length] 82),(100000,Z4j v6_1),(100003,Z4T l v5)]⟩<|Ag ?_
   exact ⟨_,Cv.trans (Dn (⟨[(4,tP 4 0)],[(4,.cells [.s name,lst 7 BF.c v6_1,.own 100003 2 (Z4S l v5).length] 82),(100003,Z4T l v5)]⟩) 100000 7 v6_1.length (AP BF.c v6_1) 102 (K:=[]) (fun k x h=>by cases h) kr kr (.cons ⟨rfl,rfl⟩ .nil) kr) (Cv.trans (Dn (⟨[(4,tP 4 0)],[(4,.cells [.s name,lst 7 BF.c v6_1,lst 2 A4.c (Z4S l v5)] 82)]⟩) 100003 2 (Z4S l v5).length (AP A4.c (Z4S l v5)) 180 (K:=[]) (fun k x h=>by cases h) kr kr (.cons ⟨rfl,rfl⟩ .nil) kr) (Cv.refl _)),.inl rfl,.av (.agg [.s name,lst 7 BF.c v6_1,lst 2 A4.c (Z4S l v5)]),by kernel_rfl,Al (by rw [<- hF0];first | (simp only [C2,h1,cond_true,cond_false] <;> rfl))⟩
theorem Td (l:(List Int)) (name:ByteArray) (hl:(l.length:Int)<=9223372036854775807):Az Tryz.prog (HL l name).1 (HL l name).2.1 (HL l name).2.2:=AW (fun _ _=>kr) fun _=>fZ l name hl
def KE (x0:AB) (x1:AB):AG:=AG.mk 1 x0 x1 (AB.mk 0 0)
def Eu (x0:AB) (x1:AB):FuncId×List Av×Ef:=(94,[.agg (AB.c x0),.agg (AB.c x1)],.val [] (.av (.agg (AG.c (KE x0 x1)))))
theorem fP (x0:AB) (x1:AB):Bk Tryz.prog 94 (Eu x0 x1).2.1 (.av (.agg (AG.c (KE x0 x1)))):=by
 refine AV Tryz.func94 rfl kr kr fun W0 M0 => ?_
 refine AC<|rn ⟨MZ,(ZK x0 x1)⟩<|AC ?_
 refine rn ⟨[(4,tP 4 0)],[(4,.cells (RY x0 x1) 68)]⟩<|Ag ?_
 exact ⟨_,Cv.refl _,.inl rfl,.av (.agg (RY x0 x1)),by kernel_rfl,Al (by rfl)⟩
theorem LU (x0:AB) (x1:AB):Az Tryz.prog (Eu x0 x1).1 (Eu x0 x1).2.1 (Eu x0 x1).2.2:=AW (fun _ _=>kr) fun _=>fP x0 x1
def Z50:Blk:=.cells [.i 0,vN,.i 0] 28
def Z51:Blk:=.cells [.i 2,vN,.i 0] 28
def Z52 (r:Ad) (radius:Int):Blk:=.cells [.i (W64 (r.X1-radius)),.i (W64 (r.Y0+radius)),.i (W64 (r.X1-radius)),.i (W64 (r.Y1-radius)),.i (W64 (r.X0+radius)),.i (W64 (r.Y1-radius)),.i (W64 (r.X0+radius)),.i (W64 (r.Y0+radius))] 199
def Z53 (r:Ad) (radius:Int):AG:=Co (AB.mk (W64 (r.X1-radius)) (W64 (r.Y0+radius))) radius 3 2
def Z54 (r:Ad) (radius:Int):AG:=Co (AB.mk (W64 (r.X1-radius)) (W64 (r.Y1-radius))) radius 4 2
def Z55 (r:Ad) (radius:Int):Blk:=.cells (AG.c (Z54 r radius)) 68
def Z56 (r:Ad) (radius:Int):AG:=KE (Z53 r radius).B (Z54 r radius).A
def Z57 (r:Ad) (radius:Int):Blk:=.cells [.i 2,.own 77 7 ([Z53 r radius,Z56 r radius].length),.i 0] 28
def Z58 (r:Ad) (radius:Int):Blk:=.row 7 ([Z53 r radius,Z56 r radius].length) (AP AG.c [Z53 r radius,Z56 r radius]) 68
def Z59 (r:Ad) (radius:Int):Blk:=.cells [.i 2,.own 100000 7 ([Z53 r radius,Z56 r radius].length),.i 0] 28
def Z5a (r:Ad) (radius:Int):AG:=Co (AB.mk (W64 (r.X0+radius)) (W64 (r.Y1-radius))) radius 5 2
def Z5b (r:Ad) (radius:Int):Blk:=.cells (AG.c (Z5a r radius)) 68
def Z5c (r:Ad) (radius:Int):AG:=KE (Z54 r radius).B (Z5a r radius).A
def Z5d (r:Ad) (radius:Int):Blk:=.cells [.i 2,.own 77 7 ([Z53 r radius,Z56 r radius]++[Z54 r radius,Z5c r radius]).length,.i 0] 28
def Z5e (r:Ad) (radius:Int):Blk:=.row 7 ([Z53 r radius,Z56 r radius]++[Z54 r radius,Z5c r radius]).length (AP AG.c ([Z53 r radius,Z56 r radius]++[Z54 r radius,Z5c r radius])) 68
def Z5f (r:Ad) (radius:Int):Blk:=.cells [.i 2,.own 100001 7 ([Z53 r radius,Z56 r radius]++[Z54 r radius,Z5c r radius]).length,.i 0] 28
def Z5g (r:Ad) (radius:Int):AG:=Co (AB.mk (W64 (r.X0+radius)) (W64 (r.Y0+radius))) radius 6 2
def Z5h (r:Ad) (radius:Int):Blk:=.cells (AG.c (Z5g r radius)) 68
def Z5i (r:Ad) (radius:Int):AG:=KE (Z5a r radius).B (Z5g r radius).A
def Z5j (r:Ad) (radius:Int):Blk:=.cells [.i 2,.own 77 7 (([Z53 r radius,Z56 r radius]++[Z54 r radius,Z5c r radius])++[Z5a r radius,Z5i r radius]).length,.i 0] 28
abbrev ZM (r:Ad) (radius:Int):=AP AG.c (([Z53 r radius,Z56 r radius]++[Z54 r radius,Z5c r radius])++[Z5a r radius,Z5i r radius])
def Z5k (r:Ad) (radius:Int):Blk:=.row 7 (([Z53 r radius,Z56 r radius]++[Z54 r radius,Z5c r radius])++[Z5a r radius,Z5i r radius]).length (ZM r radius) 68
def Z5l (r:Ad) (radius:Int):Blk:=.cells [.i 2,.own 100002 7 (([Z53 r radius,Z56 r radius]++[Z54 r radius,Z5c r radius])++[Z5a r radius,Z5i r radius]).length,.i 0] 28
def Z5m (r:Ad) (radius:Int):AG:=Co (AB.mk (W64 (r.X1-radius)) (W64 (r.Y0+radius))) radius 7 2
def Z5n (r:Ad) (radius:Int):AG:=KE (Z5g r radius).B (Z5m r radius).A
def Z5o (r:Ad) (radius:Int):Blk:=.cells [.i 2,.own 77 7 ((([Z53 r radius,Z56 r radius]++[Z54 r radius,Z5c r radius])++[Z5a r radius,Z5i r radius])++[Z5g r radius,Z5n r radius]).length,.i 0] 28
def Z5p (r:Ad) (radius:Int):Blk:=.row 7 ((([Z53 r radius,Z56 r radius]++[Z54 r radius,Z5c r radius])++[Z5a r radius,Z5i r radius])++[Z5g r radius,Z5n r radius]).length (AP AG.c ((([Z53 r radius,Z56 r radius]++[Z54 r radius,Z5c r radius])++[Z5a r radius,Z5i r radius])++[Z5g r radius,Z5n r radius])) 68
def Z5q (r:Ad) (radius:Int):Blk:=.cells [.i 2,.own 100003 7 ((([Z53 r radius,Z56 r radius]++[Z54 r radius,Z5c r radius])++[Z5a r radius,Z5i r radius])++[Z5g r radius,Z5n r radius]).length,.i 0] 28
def Gg (r:Ad) (radius:Int):AQ:=AQ.mk 2 ((([Z53 r radius,Z56 r radius]++[Z54 r radius,Z5c r radius])++[Z5a r radius,Z5i r radius])++[Z5g r radius,Z5n r radius]) 0
def Gb (r:Ad) (radius:Int):FuncId×List Av×Ef:=(43,[.agg (Ad.c r),.one (.i radius)],.val [] (.av (.agg (AQ.c (Gg r radius)))))
abbrev Re (radius:Int):List (Nat×Tv):=[(1,tI radius),(4,tP 4 0),(5,tP 5 0),(6,tP 6 0),(7,tI 1)]
abbrev Rd (radius:Int):List (Nat×Tv):=[(1,tI radius),(4,tP 4 0),(5,tP 5 0),(6,tP 6 0),(7,tI 2)]
abbrev Rc (radius:Int):List (Nat×Tv):=[(1,tI radius),(4,tP 4 0),(5,tP 5 0),(6,tP 6 0),(7,tI 3)]
abbrev ZT (r:Ad) (radius:Int):List Cl:=[.i 2,lst 7 AG.c ((([Z53 r radius,Z56 r radius]++[Z54 r radius,Z5c r radius])++[Z5a r radius,Z5i r radius])++[Z5g r radius,Z5n r radius]),.i 0]
abbrev Ut (radius:Int):List (Nat×Tv):=[(1,tI radius),(4,tP 4 0),(5,tP 5 0),(6,tP 6 0),(7,tI 0)]
theorem YA (r:Ad) (radius:Int):Bk Tryz.prog 43 (Gb r radius).2.1 (.av (.agg (AQ.c (Gg r radius)))):=by
 refine AV Tryz.func43 rfl kr kr fun W0 M0 => ?_
 refine AC<|rn ⟨[(1,tI radius),(2,tP 2 0),(4,tP 4 0)],[(2,.cells (Ad.c r) 90),(4,Z50)]⟩<|AC ?_
 refine rn ⟨[(1,tI radius),(2,tP 2 0),(4,tP 4 0),(5,tP 5 0)],[(2,.cells (Ad.c r) 90),(4,Z50),(5,Z51)]⟩<|AC ?_
 refine rn ⟨[(1,tI radius),(4,tP 4 0),(5,tP 5 0),(6,tP 6 0)],[(4,Z50),(5,Z51),(6,Z52 r radius)]⟩ ?_
 refine AC<|AC ?_
 refine rn ⟨(Ut radius),[(4,Z50),(5,Z51),(6,Z52 r radius)]⟩<|AY ?_
 refine Gd 5 ?_
 refine DX<|AC<|AC ?_
 refine rn ⟨[(1,tI radius),(4,tP 4 0),(5,tP 5 0),(6,tP 6 0),(7,tI 0),(49,tB true)],[(4,Z50),(5,Z51),(6,Z52 r radius)]⟩ ?_
 refine DS kr<|Af ?_
 refine AJ<|AC ?_
 refine AY<|AC ?_
 refine rc [(58,B1 (AB.mk (W64 (r.X1-radius)) (W64 (r.Y0+radius))) radius 3 2)] [0<=(0:Int)/\(0:Int)<(4:Int),Ak (B1 (AB.mk (W64 (r.X1-radius)) (W64 (r.Y0+radius))) radius 3 2).2.1] ⟨[(1,tI radius),(4,tP 4 0),(5,tP 5 0),(6,tP 6 0),(7,tI 0),(8,tP 8 0)],[(4,Z50),(5,Z51),(6,Z52 r radius),(8,.cells (AG.c (Z53 r radius)) 68)]⟩ (.cons (D4 (AB.mk (W64 (r.X1-radius)) (W64 (r.Y0+radius))) radius 3 2) .nil) (.cons (by decide) (.cons rfl .nil))<|AJ<|AC ?_
 refine rc [(67,B1 (AB.mk (W64 (r.X1-radius)) (W64 (r.Y1-radius))) radius 4 2)] [(4:Int)≠0,0<=(1:Int)/\(1:Int)<(4:Int),Ak (B1 (AB.mk (W64 (r.X1-radius)) (W64 (r.Y1-radius))) radius 4 2).2.1] ⟨[(1,tI radius),(4,tP 4 0),(5,tP 5 0),(6,tP 6 0),(7,tI 0),(8,tP 8 0),(9,tP 9 0)],[(4,Z50),(5,Z51),(6,Z52 r radius),(8,.cells (AG.c (Z53 r radius)) 68),(9,Z55 r radius)]⟩ (.cons (D4 (AB.mk (W64 (r.X1-radius)) (W64 (r.Y1-radius))) radius 4 2) .nil) (.cons au15 (.cons (by decide) (.cons rfl .nil)))<|AJ ?_
 refine dw [] [(75,Eu (Z53 r radius).B (Z54 r radius).A)] [Ak (Eu (Z53 r radius).B (Z54 r radius).A).2.1,2<=maxLen,2*56<=140737488355328] ⟨(Ut radius),[(4,Z50),(5,.cells [.i 2,.own 77 7 2,.i 0] 28),(6,Z52 r radius),(77,.row 7 2 (Ay 7 2 [.i (Z53 r radius).Kind,.i (Z53 r radius).A.X,.i (Z53 r radius).A.Y,.i (Z53 r radius).B.X,.i (Z53 r radius).B.Y,.i (Z53 r radius).C.X,.i (Z53 r radius).C.Y,.i (Z56 r radius).Kind,.i (Z56 r radius).A.X,.i (Z56 r radius).A.Y,.i (Z56 r radius).B.X,.i (Z56 r radius).B.Y,.i (Z56 r radius).C.X,.i (Z56 r radius).C.Y]) 68)]⟩ (.cons (LU (Z53 r radius).B (Z54 r radius).A) .nil) (.cons rfl (.cons au3 (.cons au3 .nil)))<|Be<|AJ ?_
 refine Ba (Cv.trans (BT (⟨(Ut radius),[(4,Z50),(5,Z57 r radius),(6,Z52 r radius),(77,Z58 r radius)]⟩) lr (.cons ⟨rfl,.refl _⟩ (.cons ⟨rfl,.cells _ (rr (.cons (.own _ _ au2) (rr .nil)))⟩ (.cons ⟨rfl,.refl _⟩ (.cons ⟨rfl,Ap 68 (Aw (c:=AG.c) (xs:=([Z53 r radius,Z56 r radius]:List AG)) rfl kr)⟩ .nil))))) (Cv.refl _)) ?_
 refine rn ⟨(Re radius),[(4,Z50),(5,Z57 r radius),(6,Z52 r radius),(77,Z58 r radius)]⟩ ?_
 refine DX ?_
 refine Ba (Cv.trans (BR (⟨(Re radius),[(4,Z50),(5,Z59 r radius),(6,Z52 r radius),(100000,Z58 r radius)]⟩) 77 100000 (K:=[]) (fun k x h=>by cases h) rfl rfl kr kr) (Cv.refl _))<|AC<|AC ?_
 refine rn ⟨[(1,tI radius),(4,tP 4 0),(5,tP 5 0),(6,tP 6 0),(7,tI 1),(49,tB true)],[(4,Z50),(5,Z59 r radius),(6,Z52 r radius),(100000,Z58 r radius)]⟩ ?_
 refine DS kr<|Af ?_
 refine AJ<|AC ?_
 refine AY<|AC ?_
 refine rc [(58,B1 (AB.mk (W64 (r.X1-radius)) (W64 (r.Y1-radius))) radius 4 2)] [0<=(1:Int)/\(1:Int)<(4:Int),Ak (B1 (AB.mk (W64 (r.X1-radius)) (W64 (r.Y1-radius))) radius 4 2).2.1] ⟨[(1,tI radius),(4,tP 4 0),(5,tP 5 0),(6,tP 6 0),(7,tI 1),(8,tP 8 0)],[(4,Z50),(5,Z59 r radius),(6,Z52 r radius),(8,Z55 r radius),(100000,Z58 r radius)]⟩ (.cons (D4 (AB.mk (W64 (r.X1-radius)) (W64 (r.Y1-radius))) radius 4 2) .nil) (.cons (by decide) (.cons rfl .nil))<|AJ<|AC ?_
 refine rc [(67,B1 (AB.mk (W64 (r.X0+radius)) (W64 (r.Y1-radius))) radius 5 2)] [(4:Int)≠0,0<=(2:Int)/\(2:Int)<(4:Int),Ak (B1 (AB.mk (W64 (r.X0+radius)) (W64 (r.Y1-radius))) radius 5 2).2.1] ⟨[(1,tI radius),(4,tP 4 0),(5,tP 5 0),(6,tP 6 0),(7,tI 1),(8,tP 8 0),(9,tP 9 0)],[(4,Z50),(5,Z59 r radius),(6,Z52 r radius),(8,Z55 r radius),(9,Z5b r radius),(100000,Z58 r radius)]⟩ (.cons (D4 (AB.mk (W64 (r.X0+radius)) (W64 (r.Y1-radius))) radius 5 2) .nil) (.cons au15 (.cons (by decide) (.cons rfl .nil)))<|AJ ?_
 refine dw [] [(75,Eu (Z54 r radius).B (Z5a r radius).A)] [Ak (Eu (Z54 r radius).B (Z5a r radius).A).2.1,[Z53 r radius,Z56 r radius].length=[Z53 r radius,Z56 r radius].length,([Z53 r radius,Z56 r radius].length)+2<=maxLen,(([Z53 r radius,Z56 r radius].length)+2)*56<=140737488355328] ⟨(Re radius),[(4,Z50),(5,.cells [.i 2,.own 77 7 (([Z53 r radius,Z56 r radius].length)+2),.i 0] 28),(6,Z52 r radius),(77,.row 7 (([Z53 r radius,Z56 r radius].length)+2) (fun i_ j_=>if i_<([Z53 r radius,Z56 r radius].length) then (AP AG.c [Z53 r radius,Z56 r radius]) i_ j_ else (Ay 7 2 [.i (Z54 r radius).Kind,.i (Z54 r radius).A.X,.i (Z54 r radius).A.Y,.i (Z54 r radius).B.X,.i (Z54 r radius).B.Y,.i (Z54 r radius).C.X,.i (Z54 r radius).C.Y,.i (Z5c r radius).Kind,.i (Z5c r radius).A.X,.i (Z5c r radius).A.Y,.i (Z5c r radius).B.X,.i (Z5c r radius).B.Y,.i (Z5c r radius).C.X,.i (Z5c r radius).C.Y]) (i_-([Z53 r radius,Z56 r radius].length)) j_) 68)]⟩ (.cons (LU (Z54 r radius).B (Z5a r radius).A) .nil) (.cons rfl (.cons rfl (.cons au3 (.cons au3 .nil))))<|Be<|AJ ?_
 refine Ba (Cv.trans (BT (⟨(Re radius),[(4,Z50),(5,Z5d r radius),(6,Z52 r radius),(77,Z5e r radius)]⟩) lr (.cons ⟨rfl,.refl _⟩ (.cons ⟨rfl,.cells _ (rr (.cons (.own _ _ au2) (rr .nil)))⟩ (.cons ⟨rfl,.refl _⟩ (.cons ⟨rfl,Ap 68 (BZ (BM 7 AG.c [Z53 r radius,Z56 r radius]) (Aw (c:=AG.c) (xs:=([Z54 r radius,Z5c r radius]:List AG)) rfl kr))⟩ .nil))))) (Cv.refl _)) ?_
 refine rn ⟨(Rd radius),[(4,Z50),(5,Z5d r radius),(6,Z52 r radius),(77,Z5e r radius)]⟩ ?_
 refine DX ?_
 refine Ba (Cv.trans (BR (⟨(Rd radius),[(4,Z50),(5,Z5f r radius),(6,Z52 r radius),(100001,Z5e r radius)]⟩) 77 100001 (K:=[]) (fun k x h=>by cases h) rfl rfl kr kr) (Cv.refl _))<|AC<|AC ?_
 refine rn ⟨[(1,tI radius),(4,tP 4 0),(5,tP 5 0),(6,tP 6 0),(7,tI 2),(49,tB true)],[(4,Z50),(5,Z5f r radius),(6,Z52 r radius),(100001,Z5e r radius)]⟩ ?_
 refine DS kr<|Af ?_
 refine AJ<|AC ?_
 refine AY<|AC ?_
 refine rc [(58,B1 (AB.mk (W64 (r.X0+radius)) (W64 (r.Y1-radius))) radius 5 2)] [0<=(2:Int)/\(2:Int)<(4:Int),Ak (B1 (AB.mk (W64 (r.X0+radius)) (W64 (r.Y1-radius))) radius 5 2).2.1] ⟨[(1,tI radius),(4,tP 4 0),(5,tP 5 0),(6,tP 6 0),(7,tI 2),(8,tP 8 0)],[(4,Z50),(5,Z5f r radius),(6,Z52 r radius),(8,Z5b r radius),(100001,Z5e r radius)]⟩ (.cons (D4 (AB.mk (W64 (r.X0+radius)) (W64 (r.Y1-radius))) radius 5 2) .nil) (.cons (by decide) (.cons rfl .nil))<|AJ<|AC ?_
 refine rc [(67,B1 (AB.mk (W64 (r.X0+radius)) (W64 (r.Y0+radius))) radius 6 2)] [(4:Int)≠0,0<=(3:Int)/\(3:Int)<(4:Int),Ak (B1 (AB.mk (W64 (r.X0+radius)) (W64 (r.Y0+radius))) radius 6 2).2.1] ⟨[(1,tI radius),(4,tP 4 0),(5,tP 5 0),(6,tP 6 0),(7,tI 2),(8,tP 8 0),(9,tP 9 0)],[(4,Z50),(5,Z5f r radius),(6,Z52 r radius),(8,Z5b r radius),(9,Z5h r radius),(100001,Z5e r radius)]⟩ (.cons (D4 (AB.mk (W64 (r.X0+radius)) (W64 (r.Y0+radius))) radius 6 2) .nil) (.cons au15 (.cons (by decide) (.cons rfl .nil)))<|AJ ?_
 refine dw [] [(75,Eu (Z5a r radius).B (Z5g r radius).A)] [Ak (Eu (Z5a r radius).B (Z5g r radius).A).2.1,([Z53 r radius,Z56 r radius]++[Z54 r radius,Z5c r radius]).length=([Z53 r radius,Z56 r radius]++[Z54 r radius,Z5c r radius]).length,([Z53 r radius,Z56 r radius]++[Z54 r radius,Z5c r radius]).length+2<=maxLen,(([Z53 r radius,Z56 r radius]++[Z54 r radius,Z5c r radius]).length+2)*56<=140737488355328] ⟨(Rd radius),[(4,Z50),(5,.cells [.i 2,.own 77 7 (([Z53 r radius,Z56 r radius]++[Z54 r radius,Z5c r radius]).length+2),.i 0] 28),(6,Z52 r radius),(77,.row 7 (([Z53 r radius,Z56 r radius]++[Z54 r radius,Z5c r radius]).length+2) (fun i_ j_=>if i_<([Z53 r radius,Z56 r radius]++[Z54 r radius,Z5c r radius]).length then (AP AG.c ([Z53 r radius,Z56 r radius]++[Z54 r radius,Z5c r radius])) i_ j_ else (Ay 7 2 [.i (Z5a r radius).Kind,.i (Z5a r radius).A.X,.i (Z5a r radius).A.Y,.i (Z5a r radius).B.X,.i (Z5a r radius).B.Y,.i (Z5a r radius).C.X,.i (Z5a r radius).C.Y,.i (Z5i r radius).Kind,.i (Z5i r radius).A.X,.i (Z5i r radius).A.Y,.i (Z5i r radius).B.X,.i (Z5i r radius).B.Y,.i (Z5i r radius).C.X,.i (Z5i r radius).C.Y]) (i_-([Z53 r radius,Z56 r radius]++[Z54 r radius,Z5c r radius]).length) j_) 68)]⟩ (.cons (LU (Z5a r radius).B (Z5g r radius).A) .nil) (.cons rfl (.cons rfl (.cons au3 (.cons au3 .nil))))<|Be<|AJ ?_
 refine Ba (Cv.trans (BT (⟨(Rd radius),[(4,Z50),(5,Z5j r radius),(6,Z52 r radius),(77,Z5k r radius)]⟩) lr (.cons ⟨rfl,.refl _⟩ (.cons ⟨rfl,.cells _ (rr (.cons (.own _ _ au2) (rr .nil)))⟩ (.cons ⟨rfl,.refl _⟩ (.cons ⟨rfl,Ap 68 (BZ (BM 7 AG.c ([Z53 r radius,Z56 r radius]++[Z54 r radius,Z5c r radius])) (Aw (c:=AG.c) (xs:=([Z5a r radius,Z5i r radius]:List AG)) rfl kr))⟩ .nil))))) (Cv.refl _)) ?_
 refine rn ⟨(Rc radius),[(4,Z50),(5,Z5j r radius),(6,Z52 r radius),(77,Z5k r radius)]⟩ ?_
 refine DX ?_
 refine Ba (Cv.trans (BR (⟨(Rc radius),[(4,Z50),(5,Z5l r radius),(6,Z52 r radius),(100002,Z5k r radius)]⟩) 77 100002 (K:=[]) (fun k x h=>by cases h) rfl rfl kr kr) (Cv.refl _))<|AC<|AC ?_
 refine rn ⟨[(1,tI radius),(4,tP 4 0),(5,tP 5 0),(6,tP 6 0),(7,tI 3),(49,tB true)],[(4,Z50),(5,Z5l r radius),(6,Z52 r radius),(100002,Z5k r radius)]⟩ ?_
 refine DS kr<|Af ?_
 refine AJ<|AC ?_
 refine AY<|AC ?_
 refine rc [(58,B1 (AB.mk (W64 (r.X0+radius)) (W64 (r.Y0+radius))) radius 6 2)] [0<=(3:Int)/\(3:Int)<(4:Int),Ak (B1 (AB.mk (W64 (r.X0+radius)) (W64 (r.Y0+radius))) radius 6 2).2.1] ⟨[(1,tI radius),(4,tP 4 0),(5,tP 5 0),(6,tP 6 0),(7,tI 3),(8,tP 8 0)],[(4,Z50),(5,Z5l r radius),(6,Z52 r radius),(8,Z5h r radius),(100002,Z5k r radius)]⟩ (.cons (D4 (AB.mk (W64 (r.X0+radius)) (W64 (r.Y0+radius))) radius 6 2) .nil) (.cons (by decide) (.cons rfl .nil))<|AJ<|AC ?_
 refine rc [(67,B1 (AB.mk (W64 (r.X1-radius)) (W64 (r.Y0+radius))) radius 7 2)] [(4:Int)≠0,0<=(0:Int)/\(0:Int)<(4:Int),Ak (B1 (AB.mk (W64 (r.X1-radius)) (W64 (r.Y0+radius))) radius 7 2).2.1] ⟨[(1,tI radius),(4,tP 4 0),(5,tP 5 0),(6,tP 6 0),(7,tI 3),(8,tP 8 0),(9,tP 9 0)],[(4,Z50),(5,Z5l r radius),(6,Z52 r radius),(8,Z5h r radius),(9,.cells (AG.c (Z5m r radius)) 68),(100002,Z5k r radius)]⟩ (.cons (D4 (AB.mk (W64 (r.X1-radius)) (W64 (r.Y0+radius))) radius 7 2) .nil) (.cons au15 (.cons (by decide) (.cons rfl .nil)))<|AJ ?_
 refine dw [] [(75,Eu (Z5g r radius).B (Z5m r radius).A)] [Ak (Eu (Z5g r radius).B (Z5m r radius).A).2.1,(([Z53 r radius,Z56 r radius]++[Z54 r radius,Z5c r radius])++[Z5a r radius,Z5i r radius]).length=(([Z53 r radius,Z56 r radius]++[Z54 r radius,Z5c r radius])++[Z5a r radius,Z5i r radius]).length,(([Z53 r radius,Z56 r radius]++[Z54 r radius,Z5c r radius])++[Z5a r radius,Z5i r radius]).length+2<=maxLen,((([Z53 r radius,Z56 r radius]++[Z54 r radius,Z5c r radius])++[Z5a r radius,Z5i r radius]).length+2)*56<=140737488355328] ⟨(Rc radius),[(4,Z50),(5,.cells [.i 2,.own 77 7 ((([Z53 r radius,Z56 r radius]++[Z54 r radius,Z5c r radius])++[Z5a r radius,Z5i r radius]).length+2),.i 0] 28),(6,Z52 r radius),(77,.row 7 ((([Z53 r radius,Z56 r radius]++[Z54 r radius,Z5c r radius])++[Z5a r radius,Z5i r radius]).length+2) (fun i_ j_=>if i_<(([Z53 r radius,Z56 r radius]++[Z54 r radius,Z5c r radius])++[Z5a r radius,Z5i r radius]).length then (ZM r radius) i_ j_ else (Ay 7 2 [.i (Z5g r radius).Kind,.i (Z5g r radius).A.X,.i (Z5g r radius).A.Y,.i (Z5g r radius).B.X,.i (Z5g r radius).B.Y,.i (Z5g r radius).C.X,.i (Z5g r radius).C.Y,.i (Z5n r radius).Kind,.i (Z5n r radius).A.X,.i (Z5n r radius).A.Y,.i (Z5n r radius).B.X,.i (Z5n r radius).B.Y,.i (Z5n r radius).C.X,.i (Z5n r radius).C.Y]) (i_-(([Z53 r radius,Z56 r radius]++[Z54 r radius,Z5c r radius])++[Z5a r radius,Z5i r radius]).length) j_) 68)]⟩ (.cons (LU (Z5g r radius).B (Z5m r radius).A) .nil) (.cons rfl (.cons rfl (.cons au3 (.cons au3 .nil))))<|Be<|AJ ?_
 refine Ba (Cv.trans (BT (⟨(Rc radius),[(4,Z50),(5,Z5o r radius),(6,Z52 r radius),(77,Z5p r radius)]⟩) lr (.cons ⟨rfl,.refl _⟩ (.cons ⟨rfl,.cells _ (rr (.cons (.own _ _ au2) (rr .nil)))⟩ (.cons ⟨rfl,.refl _⟩ (.cons ⟨rfl,Ap 68 (BZ (BM 7 AG.c (([Z53 r radius,Z56 r radius]++[Z54 r radius,Z5c r radius])++[Z5a r radius,Z5i r radius])) (Aw (c:=AG.c) (xs:=([Z5g r radius,Z5n r radius]:List AG)) rfl kr))⟩ .nil))))) (Cv.refl _)) ?_
 refine rn ⟨[(1,tI radius),(4,tP 4 0),(5,tP 5 0),(6,tP 6 0),(7,tI 4)],[(4,Z50),(5,Z5o r radius),(6,Z52 r radius),(77,Z5p r radius)]⟩ ?_
 refine DX ?_
 refine Ba (Cv.trans (BR (⟨[(1,tI radius),(4,tP 4 0),(5,tP 5 0),(6,tP 6 0),(7,tI 4)],[(4,Z50),(5,Z5q r radius),(6,Z52 r radius),(100003,Z5p r radius)]⟩) 77 100003 (K:=[]) (fun k x h=>by cases h) rfl rfl kr kr) (Cv.refl _))<|AC<|AC ?_
 refine rn ⟨[(1,tI radius),(4,tP 4 0),(5,tP 5 0),(6,tP 6 0),(7,tI 4),(49,tB false)],[(4,Z50),(5,Z5q r radius),(6,Z52 r radius),(100003,Z5p r radius)]⟩ ?_
 refine E7 kr<|BV ?_
 refine BE<|BE ?_
 refine BW<|AJ<|AC ?_
 refine rn ⟨[(4,tP 4 0)],[(4,Z5q r radius),(100003,Z5p r radius)]⟩<|Ag ?_
 exact ⟨_,Cv.trans (Dn (⟨[(4,tP 4 0)],[(4,.cells (ZT r radius) 28)]⟩) 100003 7 ((([Z53 r radius,Z56 r radius]++[Z54 r radius,Z5c r radius])++[Z5a r radius,Z5i r radius])++[Z5g r radius,Z5n r radius]).length (AP AG.c ((([Z53 r radius,Z56 r radius]++[Z54 r radius,Z5c r radius])++[Z5a r radius,Z5i r radius])++[Z5g r radius,Z5n r radius])) 68 (K:=[]) (fun k x h=>by cases h) kr kr (.cons ⟨rfl,rfl⟩ .nil) kr) (Cv.refl _),.inl rfl,.av (.agg (ZT r radius)),by kernel_rfl,Al (by rfl)⟩
theorem Vj (r:Ad) (radius:Int):Az Tryz.prog (Gb r radius).1 (Gb r radius).2.1 (Gb r radius).2.2:=AW (fun _ _=>kr) fun _=>YA r radius
end
section
open Go.RowKit
theorem QU (l:List Int) (name:ByteArray):∀ (n:Nat) (v:List BF) (d:AD) (k:Int),0<=k->k<=W64 (2+(AA (AD.mk l 0) 5).1)->((W64 (2+(AA (AD.mk l 0) 5).1))-k).toNat<n ->
  (C2 l name n v d k).Name=name/\((C2 l name n v d k).Pads.length:Int)=v.length+(W64 (2+(AA (AD.mk l 0) 5).1)-k)
 | 0,v,d,k,_,_,h=>absurd h (Nat.not_lt_zero _)
 | n+1,v,d,k,h0,h1,h2=>by
  unfold C2
  by_cases h:k<W64 (2+(AA (AD.mk l 0) 5).1)
  ·simp only [h,decide_true,cond_true]
   obtain ⟨e1,e2⟩:=QU l name n (v++[_]) _ (k+1) (by omega) (by omega) (by omega)
   refine ⟨e1,e2.trans ?_⟩
   simp only [List.length_append,List.length_cons,List.length_nil]
   omega
  ·simp only [h,decide_false,cond_false]
   refine ⟨by first | trivial | rfl,?_⟩
   show (v.length:Int)=_
   omega
theorem FZ (l:List Int) (name:ByteArray):(A5 l name).Name=name/\2<=((A5 l name).Pads.length:Int)/\((A5 l name).Pads.length:Int)<=6:=by
 have hn:=C7 (AD.mk l 0) 5 (by decide) (by decide)
 have hw:W64 (2+(AA (AD.mk l 0) 5).1)=2+(AA (AD.mk l 0) 5).1:=An (by omega) (by omega)
 obtain ⟨e1,e2⟩:=QU l name (((W64 (2+(AA (AD.mk l 0) 5).1))-0).toNat+1) [] (AA (AD.mk l 0) 5).2 0 (by omega) (by omega) (by omega)
 refine ⟨e1,?_⟩
 unfold A5
 rw [e2,hw]
 simp only [List.length_nil]
 omega
theorem Qf {a c:AM}:Bn [a,c] a.Name=(a,true):=by
 unfold Bn Dz
 simp [Z18]
theorem Qe {a c:AM} (h:¬ a.Name.toList=c.Name.toList):Bn [a,c] c.Name=(c,true):=by
 have hb:(a.Name.toList==c.Name.toList)=false:=by simp [h]
 unfold Bn Dz
 simp [Dz,Z18,hb]
def Pl (types:List AM) (xs:List AE):Prop:=∀ k:Int,0<=k->k<(xs.length:Int)->1<=((Bn types (xs.getD k.toNat default).Type').1.Pads.length:Int)/\((Bn types (xs.getD k.toNat default).Type').1.Pads.length:Int)<=6
theorem Wj {types:List AM}:Pl types ([]:List AE):=fun k h0 h1=>absurd h1 (by simp only [List.length_nil];omega)
theorem Wk {types:List AM} {xs:List AE} {p:AE} (h:Pl types xs) (hp:1<=((Bn types p.Type').1.Pads.length:Int)/\((Bn types p.Type').1.Pads.length:Int)<=6):Pl types (xs++[p]):=by
 intro k h0 h1
 simp only [List.length_append,List.length_cons,List.length_nil] at h1
 by_cases hk:k.toNat<xs.length
 ·rw [List.getD_eq_getElem?_getD,List.getElem?_append_left hk,<- List.getD_eq_getElem?_getD]
  exact h k h0 (by omega)
 ·rw [List.getD_eq_getElem?_getD,List.getElem?_append_right (by omega),show k.toNat-xs.length=0 by omega]
  exact hp
theorem QD (a c:List Int) (i:Int) (hi:0<=i/\i<2):1<=((Bn [A5 a { data := #[82] },A5 c { data := #[81] }] (([A5 a { data := #[82] },A5 c { data := #[81] }]:List AM).getD i.toNat default).Name).1.Pads.length:Int)/\((Bn [A5 a { data := #[82] },A5 c { data := #[81] }] (([A5 a { data := #[82] },A5 c { data := #[81] }]:List AM).getD i.toNat default).Name).1.Pads.length:Int)<=6:=by
 have ha:=FZ a { data := #[82] }
 have hc:=FZ c { data := #[81] }
 have h01:i=0\/i=1:=by omega
 rcases h01 with rfl | rfl
 ·show 1<=((Bn [A5 a { data := #[82] },A5 c { data := #[81] }] (A5 a { data := #[82] }).Name).1.Pads.length:Int)/\((Bn [A5 a { data := #[82] },A5 c { data := #[81] }] (A5 a { data := #[82] }).Name).1.Pads.length:Int)<=6
  rw [Qf]
  exact ⟨by show 1<=((A5 a { data := #[82] }).Pads.length:Int);omega,ha.2.2⟩
 ·show 1<=((Bn [A5 a { data := #[82] },A5 c { data := #[81] }] (A5 c { data := #[81] }).Name).1.Pads.length:Int)/\((Bn [A5 a { data := #[82] },A5 c { data := #[81] }] (A5 c { data := #[81] }).Name).1.Pads.length:Int)<=6
  rw [Qe (by rw [ha.1,hc.1];decide +kernel)]
  exact ⟨by show 1<=((A5 c { data := #[81] }).Pads.length:Int);omega,hc.2.2⟩
theorem YJ {d:AD} (h:(AA d 5).1<3) (h0:¬ (AA d 5).1=0) (h1:¬ (AA d 5).1=1):(AA d 5).1=2:=by
 have:=C7 d 5 (by decide) (by decide)
 omega
theorem Z6 {b:AF} {types:List AM} (h:Pl types b.Parts):OB b types:=fun k h0 h1=>(h k h0 h1).1
def DD (v:List Aq) (m:Int):Prop:=(v.length:Int)<=m
theorem Es {α:Type} {c:Bool} {a b:List α} {m:Int} (ha:(a.length:Int)<=m) (hb:(b.length:Int)<=m):((bif c then a else b).length:Int)<=m:=by cases c <;> assumption
theorem Et {α:Type} {a:List α} {x:α} {m:Int} (h:(a.length:Int)+1<=m):((a++[x]).length:Int)<=m:=by simp only [List.length_append,List.length_cons,List.length_nil];omega
theorem qJ {d:AD} {a c:AM}:0<=(AA d 2).1/\(AA d 2).1<((([a,c]:List AM).length:Nat):Int):=C7 d 2 (by decide) (by decide)
theorem Zg {v:Int} {a b c:ByteArray} (h0:0<=v) (h:v<3):0<=v/\v<((([a,b,c]:List ByteArray).length:Nat):Int):=⟨h0,h⟩
theorem rO {b B:AF} (h:Lv b B) (hb:(b.Parts.length:Int)<=1000000):(B.Parts.length:Int)<=1000000:=by rw [h.par];exact hb
theorem gJ {b B:AF} (h:Lv b B) (hb:1<=(b.Parts.length:Int)):1<=(B.Parts.length:Int):=by rw [h.par];exact hb
theorem rL {b B:AF} (h:Lv b B):(B.Tracks.length:Int)<=1000000:=by have:=h.trk;omega
theorem rK {b B:AF} (h:Lv b B):(B.Vias.length:Int)<=1000000:=by have:=h.via;omega
theorem rN {b B:AF} (h:Lv b B):(B.Pours.length:Int)<=1000000:=by have:=h.pou;omega
theorem rP {b B:AF} (h:Lv b B):(B.Keeps.length:Int)<=1000000:=by have:=h.kee;omega
theorem rM {b B:AF} (h:Lv b B):(B.Slots.length:Int)<=1000000:=by have:=h.slo;omega
def Z5r (l:(List (List Int))):Tv:=.av (oL l)
def Z5s:Blk:=.cells Wa 41
def Z5t (l:(List (List Int))):AM:=A5 (AX l 0) ({ data := #[82] }:ByteArray)
def Z5u (l:(List (List Int))):AM:=A5 (AX l 1) ({ data := #[81] }:ByteArray)
def Z5v (l:(List (List Int))):Tv:=.av (.one (lst 3 AM.c [Z5t l,Z5u l]))
def Z5w (l:(List (List Int))):Blk:=.cells [lst 1 (fun x=>[.i x]) (AX l 2),.i 0] 117
abbrev JI:=Ad.mk 0 0 400 400
def Z5x:Blk:=.cells [.i 2,.i (Fk JI).Kind,lst 7 AG.c (Fk JI).Edges,.i (Fk JI).R,vN,.own 31 2 3,vN,vN,vN,vN,vN,vN,vN,vN,vN] 41
def Z5y:Blk:=.rowx 2 3 (fun _ _=>default) 120 [(0,[.s ({ data := #[78,49] }:ByteArray),vN]),(1,[.s ({ data := #[78,50] }:ByteArray),vN]),(2,[.s ({ data := #[71,78,68] }:ByteArray),vN])]
abbrev Gl (l:List (List Int)):=AA (AD.mk (AX l 2) 0) 3
def Z5z (l:(List (List Int))):FuncId×List Av×Ef:=(42,(E2:List Av).map (Bz 1000 25),wrI 25 (.cells [lst 1 (fun x=>[.i x]) (AX l 2),.i 0] 117) (tI (Gl l).1) (.cells (AD.c (Gl l).2) 117))
def Z5A (l:(List (List Int))):Blk:=.cells (AD.c (Gl l).2) 117
def Z5B (l:(List (List Int))):AQ:=bif decide (((AA (AD.mk (AX l 2) 0) 3).1:Int)=0) then (Gg (Ad.mk 0 0 400 400) 50) else (Fk (Ad.mk 0 0 400 400))
def Z5C (l:(List (List Int))):FuncId×List Av×Ef:=(42,(E2:List Av).map (Bz 1000 25),wrI 25 (.cells (AD.c (Gl l).2) 117) (tI (AA (Gl l).2 3).1) (.cells (AD.c (AA (Gl l).2 3).2) 117))
abbrev Z5D (l:(List (List Int))):AD:=(AA (AA (AD.mk (AX l 2) 0) 3).2 3).2
def Z5E (l:(List (List Int))):Tv:=tI (W64 (1+(AA (Gl l).2 3).1))
abbrev eO (l:List (List Int)):List Cl:=[.i 2,.i (Z5B l).Kind,lst 7 AG.c (Z5B l).Edges,.i (Z5B l).R,vN,.own 31 2 3,vN,vN,vN,vN,vN,vN,vN,vN,vN]
abbrev lJ (l:List (List Int)):List Cl:=(eO l)
abbrev lT (l:List (List Int)):List Cl:=(lJ l)
abbrev lZ (l:List (List Int)):List Cl:=(lT l)
abbrev mG (l:List (List Int)):List Cl:=(lZ l)
abbrev mR (l:List (List Int)):List Cl:=(mG l)
abbrev nF (l:List (List Int)):List Cl:=(mR l)
abbrev nY (l:List (List Int)):List Cl:=(nF l)
abbrev oC (l:List (List Int)):List Cl:=(nY l)
abbrev oR (l:List (List Int)):List Cl:=(oC l)
abbrev pJ (l:List (List Int)):List Cl:=(oR l)
def Z5F (l:(List (List Int))):Blk:=.cells (pJ l) 41
def Z5G (l:(List (List Int))):Blk:=.cells [lst 1 (fun x=>[.i x]) (AX l 3),.i 0] 117
def Z5H:Blk:=.row 7 ([]:List AE).length (AP AE.c ([]:List AE)) 78
def Z5I (l:(List (List Int))):Blk:=.cells [.i 2,.i (Z5B l).Kind,lst 7 AG.c (Z5B l).Edges,.i (Z5B l).R,.own 100000 7 ([]:List AE).length,.own 31 2 3,vN,vN,vN,vN,vN,vN,vN,vN,vN] 41
abbrev eJ (l:List (List Int)) (v6_4:List AE):List Cl:=[.i 2,.i (Z5B l).Kind,lst 7 AG.c (Z5B l).Edges,.i (Z5B l).R,.own 100000 7 v6_4.length,.own 31 2 3,vN,vN,vN,vN,vN,vN,vN,vN,vN]
abbrev lN (l:List (List Int)) (v6_4:List AE):List Cl:=(eJ l v6_4)
abbrev lP (l:List (List Int)) (v6_4:List AE):List Cl:=(lN l v6_4)
abbrev mB (l:List (List Int)) (v6_4:List AE):List Cl:=(lP l v6_4)
abbrev mN (l:List (List Int)) (v6_4:List AE):List Cl:=(mB l v6_4)
abbrev nB (l:List (List Int)) (v6_4:List AE):List Cl:=(mN l v6_4)
abbrev nM (l:List (List Int)) (v6_4:List AE):List Cl:=(nB l v6_4)
abbrev nV (l:List (List Int)) (v6_4:List AE):List Cl:=(nM l v6_4)
abbrev oQ (l:List (List Int)) (v6_4:List AE):List Cl:=(nV l v6_4)
abbrev pH (l:List (List Int)) (v6_4:List AE):List Cl:=(oQ l v6_4)
def Z5J (l:(List (List Int))) (v6_4:List AE):Blk:=.cells (pH l v6_4) 41
def Z5K (v6_4:List AE):Blk:=.row 7 v6_4.length (AP AE.c v6_4) 78
def Z5L (v5:AD):FuncId×List Av×Ef:=(42,(FS:List Av).map (Bz 1000 25),wrI 25 (ME v5) (tI (AA v5 2).1) (MU v5))
abbrev FO (v5:AD):=AA (AA v5 2).2 4
def Z5M (v5:AD):FuncId×List Av×Ef:=(42,(HY:List Av).map (Bz 1000 25),wrI 25 (MU v5) (tI (FO v5).1) (.cells (AD.c (FO v5).2) 117))
def Z5N (v5:AD):FuncId×List Av×Ef:=(42,(E2:List Av).map (Bz 1000 25),wrI 25 (.cells (AD.c (FO v5).2) 117) (tI (AA (FO v5).2 3).1) (.cells (AD.c (AA (FO v5).2 3).2) 117))
abbrev Z5O (v5:AD):AD:=(AA (AA (AA v5 2).2 4).2 3).2
abbrev Gj (v5:AD):=AA (Z5O v5) 5
def Z5P (v5:AD):FuncId×List Av×Ef:=(42,(Kc:List Av).map (Bz 1000 25),wrI 25 (.cells (AD.c (Z5O v5)) 117) (tI (Gj v5).1) (.cells (AD.c (Gj v5).2) 117))
def Z5Q (v5:AD):FuncId×List Av×Ef:=(42,(E2:List Av).map (Bz 1000 25),wrI 25 (.cells (AD.c (Gj v5).2) 117) (tI (AA (Gj v5).2 3).1) (.cells (AD.c (AA (Gj v5).2 3).2) 117))
abbrev Z5R (v5:AD):AD:=(AA (AA (Z5O v5) 5).2 3).2
def Z5S (v5:AD):FuncId×List Av×Ef:=(42,(E2:List Av).map (Bz 1000 25),wrI 25 (.cells (AD.c (Z5R v5)) 117) (tI (AA (Z5R v5) 3).1) (.cells (AD.c (AA (Z5R v5) 3).2) 117))
def Z5T (v5:AD):Blk:=.cells (AD.c (AA (Z5R v5) 3).2) 117
abbrev WZ (v8:Int) (v5:AD):=AB.mk (W64 ((W64 (80+(W64 (100*v8))))+(W64 (5*(Gj v5).1)))) (W64 ((W64 (100+(W64 (80*(AA (Gj v5).2 3).1))))+(W64 (5*(AA (Z5R v5) 3).1))))
abbrev Hc (v5:AD):Bool:=(decide (((AA (FO v5).2 3).1:Int)=0))
def Z5U (l:(List (List Int))) (v6_4:List AE) (v8:Int) (v5:AD):Blk:=.cells [.i 2,.i (Z5B l).Kind,lst 7 AG.c (Z5B l).Edges,.i (Z5B l).R,.own 86 7 (v6_4++[AE.mk (W64 (1+v8)) (([({ data := #[82,49] }:ByteArray),({ data := #[82,50] }:ByteArray),({ data := #[120,47,82,49] }:ByteArray)]:List ByteArray).getD v8.toNat ⟨#[]⟩) ([Z5t l,Z5u l].getD (AA v5 2).1.toNat default).Name (WZ v8 v5) (FO v5).1 (Hc v5)]).length,.own 31 2 3,vN,vN,vN,vN,vN,vN,vN,vN,vN] 41
def Z5V (v6_4:List AE) (v8:Int) (l:(List (List Int))) (v5:AD):Blk:=.row 7 (v6_4++[AE.mk (W64 (1+v8)) (([({ data := #[82,49] }:ByteArray),({ data := #[82,50] }:ByteArray),({ data := #[120,47,82,49] }:ByteArray)]:List ByteArray).getD v8.toNat ⟨#[]⟩) ([Z5t l,Z5u l].getD (AA v5 2).1.toNat default).Name (WZ v8 v5) (FO v5).1 (Hc v5)]).length (AP AE.c (v6_4++[AE.mk (W64 (1+v8)) (([({ data := #[82,49] }:ByteArray),({ data := #[82,50] }:ByteArray),({ data := #[120,47,82,49] }:ByteArray)]:List ByteArray).getD v8.toNat ⟨#[]⟩) ([Z5t l,Z5u l].getD (AA v5 2).1.toNat default).Name (WZ v8 v5) (FO v5).1 (Hc v5)])) 78
def Z5W:Blk:=.row 2 ([]:List Aq).length (AP Aq.c ([]:List Aq)) 106
def Z5X (v31_1:List Aq):Blk:=.row 2 v31_1.length (AP Aq.c v31_1) 106
def Z5Y (v31_3:List Aq):Blk:=.row 2 v31_3.length (AP Aq.c v31_3) 106
def Z5Z (v31_5:List Aq):Blk:=.row 2 v31_5.length (AP Aq.c v31_5) 106
def Z60 (l:(List (List Int))) (v6_4:List AE):Blk:=.cells [.i 2,.i (Z5B l).Kind,lst 7 AG.c (Z5B l).Edges,.i (Z5B l).R,lst 7 AE.c v6_4,.own 31 2 3,vN,vN,vN,vN,vN,vN,vN,vN,vN] 41
def Z61 (v10:Int) (l:(List (List Int))):Tv:=tB (decide ((v10:Int)<(W64 (1+(AA (Gl l).2 3).1))))
def Z62 (l:(List (List Int))) (v6_4:List AE) (v10:Int):AM:=(Bn [Z5t l,Z5u l] (v6_4.getD v10.toNat default).Type').1
def Z63 (l:(List (List Int))) (v6_4:List AE) (v10:Int):Blk:=.cells (AM.c (Z62 l v6_4 v10)) 82
def Z64 (v31_1':List Aq):Blk:=.row 2 v31_1'.length (AP Aq.c v31_1') 106
def Z65 (v31_3':List Aq):Blk:=.row 2 v31_3'.length (AP Aq.c v31_3') 106
def Z66 (v31_5':List Aq):Blk:=.row 2 v31_5'.length (AP Aq.c v31_5') 106
def Z67 (v5'':AD):FuncId×List Av×Ef:=(42,(Kc:List Av).map (Bz 1000 91),wrI 91 (.cells (AD.c v5'') 117) (tI (AA v5'' 5).1) (.cells (AD.c (AA v5'' 5).2) 117))
abbrev FK (v6_4:List AE) (v10:Int) (l:List (List Int)) (v13:Int):=[Aq.mk (v6_4.getD v10.toNat default).Ref ((Z62 l v6_4 v10).Pads.getD v13.toNat default).Name]
def Z68 (v31_1':List Aq) (v6_4:List AE) (v10:Int) (l:(List (List Int))) (v13:Int):Blk:=.row 2 (v31_1'++(FK v6_4 v10 l v13)).length (AP Aq.c (v31_1'++(FK v6_4 v10 l v13))) 106
def Z69 (v31_3':List Aq) (v6_4:List AE) (v10:Int) (l:(List (List Int))) (v13:Int):Blk:=.row 2 (v31_3'++(FK v6_4 v10 l v13)).length (AP Aq.c (v31_3'++(FK v6_4 v10 l v13))) 106
def Z6a (v31_5':List Aq) (v6_4:List AE) (v10:Int) (l:(List (List Int))) (v13:Int):Blk:=.row 2 (v31_5'++(FK v6_4 v10 l v13)).length (AP Aq.c (v31_5'++(FK v6_4 v10 l v13))) 106
def Z6b (v5'':AD) (v31_1':List Aq) (v6_4:List AE) (v10:Int) (l:(List (List Int))) (v13:Int):(List Aq):=bif decide (((AA v5'' 5).1:Int)<3) then (bif decide (((AA v5'' 5).1:Int)=0) then (v31_1'++[Aq.mk (v6_4.getD v10.toNat default).Ref ((Z62 l v6_4 v10).Pads.getD v13.toNat default).Name]) else v31_1') else v31_1'
def Z6c (v5'':AD) (v31_3':List Aq) (v6_4:List AE) (v10:Int) (l:(List (List Int))) (v13:Int):(List Aq):=bif decide (((AA v5'' 5).1:Int)<3) then (bif decide (((AA v5'' 5).1:Int)=0) then v31_3' else (bif decide (((AA v5'' 5).1:Int)=1) then (v31_3'++[Aq.mk (v6_4.getD v10.toNat default).Ref ((Z62 l v6_4 v10).Pads.getD v13.toNat default).Name]) else v31_3')) else v31_3'
def Z6d (v5'':AD) (v31_5':List Aq) (v6_4:List AE) (v10:Int) (l:(List (List Int))) (v13:Int):(List Aq):=bif decide (((AA v5'' 5).1:Int)<3) then (bif decide (((AA v5'' 5).1:Int)=0) then v31_5' else (bif decide (((AA v5'' 5).1:Int)=1) then v31_5' else (v31_5'++[Aq.mk (v6_4.getD v10.toNat default).Ref ((Z62 l v6_4 v10).Pads.getD v13.toNat default).Name]))) else v31_5'
def Z6e (v5'':AD) (v31_1':List Aq) (v6_4:List AE) (v10:Int) (l:(List (List Int))) (v13:Int):Blk:=.row 2 (Z6b v5'' v31_1' v6_4 v10 l v13).length (AP Aq.c (Z6b v5'' v31_1' v6_4 v10 l v13)) 106
def Z6f (v5'':AD) (v31_3':List Aq) (v6_4:List AE) (v10:Int) (l:(List (List Int))) (v13:Int):Blk:=.row 2 (Z6c v5'' v31_3' v6_4 v10 l v13).length (AP Aq.c (Z6c v5'' v31_3' v6_4 v10 l v13)) 106
def Z6g (v5'':AD) (v31_5':List Aq) (v6_4:List AE) (v10:Int) (l:(List (List Int))) (v13:Int):Blk:=.row 2 (Z6d v5'' v31_5' v6_4 v10 l v13).length (AP Aq.c (Z6d v5'' v31_5' v6_4 v10 l v13)) 106
def Z6h (l:(List (List Int))) (v6_4:List AE) (v31_1:List Aq) (v31_3:List Aq) (v31_5:List Aq):AF:=BN (AF.mk 2 (Z5B l) v6_4 [A1.mk ({ data := #[78,49] }:ByteArray) v31_1,A1.mk ({ data := #[78,50] }:ByteArray) v31_3,A1.mk ({ data := #[71,78,68] }:ByteArray) v31_5] [] [] [] [] [] [] [] [] []) [Z5t l,Z5u l] l
abbrev Wb (l:List (List Int)) (v6_4:List AE) (v31_1:List Aq) (v31_3:List Aq) (v31_5:List Aq):List Cl:=[.i (Z6h l v6_4 v31_1 v31_3 v31_5).Layers,.i (Z6h l v6_4 v31_1 v31_3 v31_5).Outline.Kind,lst 7 AG.c (Z6h l v6_4 v31_1 v31_3 v31_5).Outline.Edges,.i (Z6h l v6_4 v31_1 v31_3 v31_5).Outline.R,lst 7 AE.c (Z6h l v6_4 v31_1 v31_3 v31_5).Parts,lst 2 A1.c (Z6h l v6_4 v31_1 v31_3 v31_5).Nets,lst 6 AO.c (Z6h l v6_4 v31_1 v31_3 v31_5).Tracks,lst 8 As.c (Z6h l v6_4 v31_1 v31_3 v31_5).Vias,lst 8 A0.c (Z6h l v6_4 v31_1 v31_3 v31_5).Pours,lst 5 Bb.c (Z6h l v6_4 v31_1 v31_3 v31_5).Keeps,lst 4 Am.c (Z6h l v6_4 v31_1 v31_3 v31_5).Slots,vN,vN,vN,vN]
def Z6i (l:(List (List Int))) (v6_4:List AE) (v31_1:List Aq) (v31_3:List Aq) (v31_5:List Aq):FuncId×List Av×Ef:=(44,([.one (.ptr 1000 0),.one (lst 3 AM.c [Z5t l,Z5u l]),.one (lst 1 (fun x=>[lst 1 (fun x=>[.i x]) x]) l)]:List Av).map (Bz 1000 6),wrI 6 (.cells [.i 2,.i (Z5B l).Kind,lst 7 AG.c (Z5B l).Edges,.i (Z5B l).R,lst 7 AE.c v6_4,lst 2 A1.c [A1.mk ({ data := #[78,49] }:ByteArray) v31_1,A1.mk ({ data := #[78,50] }:ByteArray) v31_3,A1.mk ({ data := #[71,78,68] }:ByteArray) v31_5],vN,vN,vN,vN,vN,vN,vN,vN,vN] 41) (.tup []) (.cells (Wb l v6_4 v31_1 v31_3 v31_5) 41))
def Z6j (l:(List (List Int))) (v6_4:List AE) (v31_1:List Aq) (v31_3:List Aq) (v31_5:List Aq):AF×AD:=DZ (AF.mk (Z6h l v6_4 v31_1 v31_3 v31_5).Layers (Z6h l v6_4 v31_1 v31_3 v31_5).Outline (Z6h l v6_4 v31_1 v31_3 v31_5).Parts (Z6h l v6_4 v31_1 v31_3 v31_5).Nets (Z6h l v6_4 v31_1 v31_3 v31_5).Tracks (Z6h l v6_4 v31_1 v31_3 v31_5).Vias (Z6h l v6_4 v31_1 v31_3 v31_5).Pours (Z6h l v6_4 v31_1 v31_3 v31_5).Keeps (Z6h l v6_4 v31_1 v31_3 v31_5).Slots [] [] [] []) (AD.mk (AX l 7) 0)
def Z6k (l:(List (List Int))) (v6_4:List AE) (v31_1:List Aq) (v31_3:List Aq) (v31_5:List Aq):FuncId×List Av×Ef:=(45,(OZ:List Av).map (FM 1000 6 1001 151),qH 6 151 (.cells (Wb l v6_4 v31_1 v31_3 v31_5) 41) (.cells [lst 1 (fun x=>[.i x]) (AX l 7),.i 0] 117) (.tup []) (.cells (AF.c (Z6j l v6_4 v31_1 v31_3 v31_5).1) 41) (.cells (AD.c (Z6j l v6_4 v31_1 v31_3 v31_5).2) 117))
def Z6l:Blk:=.rowx 2 3 (fun _ _=>default) 120 [(0,[.s ({ data := #[78,49] }:ByteArray),.own 100001 2 ([]:List Aq).length]),(1,[.s ({ data := #[78,50] }:ByteArray),.own 100002 2 ([]:List Aq).length]),(2,[.s ({ data := #[71,78,68] }:ByteArray),.own 100003 2 ([]:List Aq).length])]
def Z6m (v31_1:List Aq) (v31_3:List Aq) (v31_5:List Aq):Blk:=.rowx 2 3 (fun _ _=>default) 120 [(0,[.s ({ data := #[78,49] }:ByteArray),.own 100001 2 v31_1.length]),(1,[.s ({ data := #[78,50] }:ByteArray),.own 100002 2 v31_3.length]),(2,[.s ({ data := #[71,78,68] }:ByteArray),.own 100003 2 v31_5.length])]
def Z6n (v31_1':List Aq) (v31_3':List Aq) (v31_5':List Aq):Blk:=.rowx 2 3 (fun _ _=>default) 120 [(0,[.s ({ data := #[78,49] }:ByteArray),.own 100001 2 v31_1'.length]),(1,[.s ({ data := #[78,50] }:ByteArray),.own 100002 2 v31_3'.length]),(2,[.s ({ data := #[71,78,68] }:ByteArray),.own 100003 2 v31_5'.length])]
def Z6o (v31_1':List Aq) (v6_4:List AE) (v10:Int) (l:(List (List Int))) (v13:Int) (v31_3':List Aq) (v31_5':List Aq):Blk:=.rowx 2 3 (fun _ _=>default) 120 [(0,[.s ({ data := #[78,49] }:ByteArray),.own 100004 2 (v31_1'++(FK v6_4 v10 l v13)).length]),(1,[.s ({ data := #[78,50] }:ByteArray),.own 100005 2 v31_3'.length]),(2,[.s ({ data := #[71,78,68] }:ByteArray),.own 100006 2 v31_5'.length])]
def Z6p (v31_1':List Aq) (v31_3':List Aq) (v6_4:List AE) (v10:Int) (l:(List (List Int))) (v13:Int) (v31_5':List Aq):Blk:=.rowx 2 3 (fun _ _=>default) 120 [(0,[.s ({ data := #[78,49] }:ByteArray),.own 100004 2 v31_1'.length]),(1,[.s ({ data := #[78,50] }:ByteArray),.own 100005 2 (v31_3'++(FK v6_4 v10 l v13)).length]),(2,[.s ({ data := #[71,78,68] }:ByteArray),.own 100006 2 v31_5'.length])]
def Z6q (v31_1':List Aq) (v31_3':List Aq) (v31_5':List Aq) (v6_4:List AE) (v10:Int) (l:(List (List Int))) (v13:Int):Blk:=.rowx 2 3 (fun _ _=>default) 120 [(0,[.s ({ data := #[78,49] }:ByteArray),.own 100004 2 v31_1'.length]),(1,[.s ({ data := #[78,50] }:ByteArray),.own 100005 2 v31_3'.length]),(2,[.s ({ data := #[71,78,68] }:ByteArray),.own 100006 2 (v31_5'++(FK v6_4 v10 l v13)).length])]
def DN (l:(List (List Int))) (v6_4:List AE) (v5:AD) (v8:Int) (v31_1:List Aq) (v31_3:List Aq) (v31_5:List Aq) (v5':AD) (v10:Int) (K0:List AE->AD->Int->(AF×(List AM))) (K1:List Aq->List Aq->List Aq->AD->Int->(AF×(List AM))):Nat->List Aq->List Aq->List Aq->AD->Int->(AF×(List AM))
 | 0,_,_,_,_,_=>default
 | n2+1,v31_1',v31_3',v31_5',v5'',v13=>bif decide ((v13:Int)<((Z62 l v6_4 v10).Pads.length:Int)) then ((DN l v6_4 v5 v8 v31_1 v31_3 v31_5 v5' v10 K0 K1 n2) (Z6b v5'' v31_1' v6_4 v10 l v13) (Z6c v5'' v31_3' v6_4 v10 l v13) (Z6d v5'' v31_5' v6_4 v10 l v13) (AA v5'' 5).2 (v13+1)) else (K1 v31_1' v31_3' v31_5' v5'' (v10+1))
def C1 (l:(List (List Int))) (v6_4:List AE) (v5:AD) (v8:Int) (K0:List AE->AD->Int->(AF×(List AM))):Nat->List Aq->List Aq->List Aq->AD->Int->(AF×(List AM))
 | 0,_,_,_,_,_=>default
 | n1+1,v31_1,v31_3,v31_5,v5',v10=>bif decide ((v10:Int)<(W64 (1+(AA (AA (AD.mk (AX l 2) 0) 3).2 3).1))) then (DN l v6_4 v5 v8 v31_1 v31_3 v31_5 v5' v10 K0 (C1 l v6_4 v5 v8 K0 n1) ((((Z62 l v6_4 v10).Pads.length:Int)-0).toNat+1) v31_1 v31_3 v31_5 v5' 0) else ((Z6j l v6_4 v31_1 v31_3 v31_5).1,[Z5t l,Z5u l])
def CU (l:(List (List Int))):Nat->List AE->AD->Int->(AF×(List AM))
 | 0,_,_,_=>default
 | n0+1,v6_4,v5,v8=>bif decide ((v8:Int)<(W64 (1+(AA (AA (AD.mk (AX l 2) 0) 3).2 3).1))) then ((CU l n0) (v6_4++[AE.mk (W64 (1+v8)) (([({ data := #[82,49] }:ByteArray),({ data := #[82,50] }:ByteArray),({ data := #[120,47,82,49] }:ByteArray)]:List ByteArray).getD v8.toNat ⟨#[]⟩) ([Z5t l,Z5u l].getD (AA v5 2).1.toNat default).Name (AB.mk (W64 ((W64 (80+(W64 (100*v8))))+(W64 (5*(AA (Z5O v5) 5).1)))) (W64 ((W64 (100+(W64 (80*(AA (AA (Z5O v5) 5).2 3).1))))+(W64 (5*(AA (Z5R v5) 3).1))))) (AA (AA v5 2).2 4).1 (decide (((AA (AA (AA v5 2).2 4).2 3).1:Int)=0))]) (AA (Z5R v5) 3).2 (v8+1)) else (C1 l v6_4 v5 v8 (CU l n0) (((W64 (1+(AA (AA (AD.mk (AX l 2) 0) 3).2 3).1))-0).toNat+1) ([]:List Aq) ([]:List Aq) ([]:List Aq) (AD.mk (AX l 3) 0) 0)
def Ao (l:(List (List Int))):(AF×(List AM)):=CU l (((W64 (1+(AA (AA (AD.mk (AX l 2) 0) 3).2 3).1))-0).toNat+1) ([]:List AE) (Z5D l) 0
def KC (l:(List (List Int))):FuncId×List Av×Ef:=(10,[.one (lst 1 (fun x=>[lst 1 (fun x=>[.i x]) x]) l)],.val [] (.tup [.agg (AF.c (Ao l).1),.one (lst 3 AM.c (Ao l).2)]))
abbrev DU (v5'':AD):Nat×Blk:=(91,.cells (AD.c (AA v5'' 5).2) 117)
abbrev HU (v5':AD):Nat×Blk:=(91,.cells (AD.c v5') 117)
abbrev Uz (v6_4:List AE) (v10:Int) (l:List (List Int)) (v13:Int):=Ay 2 1 [.s (v6_4.getD v10.toNat default).Ref,.s ((Z62 l v6_4 v10).Pads.getD v13.toNat default).Name]
abbrev OL (l:List (List Int)):Nat×Blk:=(25,.cells (AD.c (Z5D l)) 117)
theorem au11 {p:Prop} (h:p:=by first | (with_reducible exact DV hll _) | with_reducible assumption | omega | decide | (simp only [List.length_cons,List.length_nil,List.length_append];omega) | (exact Z6 (by assumption)) | ((refine And.intro ?_ ?_ <;> simp;done)) | ((simp only;exact rO (HB _ _ _) (by show (v6_4.length:Int)≤_;omega))) | ((simp only;exact gJ (HB _ _ _) (by show 1≤(v6_4.length:Int);omega))) | ((simp only;exact rL (HB _ _ _))) | ((simp only;exact rK (HB _ _ _))) | ((simp only;exact rN (HB _ _ _))) | ((simp only;exact rP (HB _ _ _))) | ((simp only;exact rM (HB _ _ _))) | assumption):p:=h
theorem au12 {p:Prop} (h:p:=by first | exact J0 _ _ _ (by decide) (by decide) (by decide) | exact qJ | exact Zg (by omega) (by omega) | decide | omega):p:=h
theorem au16 {p:Prop} (h:p:=by first | (unfold DD at *;unfold maxLen;omega) | (unfold DD at *;omega) | (unfold maxLen;omega) | omega | (simp only [gX,gW,gV,Vm];omega)):p:=h
set_option maxHeartbeats 4000000 in
theorem fY (l:(List (List Int))) (hl:(l.length:Int)<=9223372036854775807) (hll:∀ x∈l,(x.length:Int)<=9223372036854775807):Bk Tryz.prog 10 (KC l).2.1 (.tup [.agg (AF.c (Ao l).1),.one (lst 3 AM.c (Ao l).2)]):=by
 refine AV Tryz.func10 rfl kr kr fun W0 M0 => ?_
 have hmany:1<=W64 (1+(AA (AA (AD.mk (AX l 2) 0) 3).2 3).1):=by have:=C7 (AA (AD.mk (AX l 2) 0) 3).2 3 (by decide) (by decide);rw [An (by omega) (by omega)];omega
 refine AC<|rn ⟨[(0,Z5r l),(2,tP 2 0)],[(2,Z5s)]⟩<|AC ?_
 refine rc [(16,Cy l 0),(17,HL (AX l 0) ({ data := #[82] }:ByteArray)),(19,Cy l 1),(20,HL (AX l 1) ({ data := #[81] }:ByteArray))] [Ak (Cy l 0).2.1,Ak (HL (AX l 0) ({ data := #[82] }:ByteArray)).2.1,Ak (Cy l 1).2.1,Ak (HL (AX l 1) ({ data := #[81] }:ByteArray)).2.1] ⟨[(0,Z5r l),(2,tP 2 0),(4,.av (.one (.list true 3 2 (Ay 3 2 [.s (Z5t l).Name,lst 7 BF.c (Z5t l).Pads,lst 2 A4.c (Z5t l).Gates,.s (Z5u l).Name,lst 7 BF.c (Z5u l).Pads,lst 2 A4.c (Z5u l).Gates]))))],[(2,Z5s)]⟩ (.cons (Fz l 0 au11) (.cons (Td (AX l 0) ({ data := #[82] }:ByteArray) au11) (.cons (Fz l 1 au11) (.cons (Td (AX l 1) ({ data := #[81] }:ByteArray) au11) .nil)))) (.cons rfl (.cons rfl (.cons rfl (.cons rfl .nil))))<|AJ ?_
 refine Ba (Cv.trans (BT (⟨[(0,Z5r l),(2,tP 2 0),(4,Z5v l)],[(2,Z5s)]⟩) (.cons ⟨rfl,.refl _⟩ (.cons ⟨rfl,.refl _⟩ (.cons ⟨rfl,.av (.one (Bm true (Aw (c:=AM.c) (xs:=([Z5t l,Z5u l]:List AM)) rfl kr)))⟩ .nil))) lr) (Cv.refl _))<|AC ?_
 refine rc [(23,Cy l 2)] [Ak (Cy l 2).2.1] ⟨[(0,Z5r l),(2,tP 2 0),(4,Z5v l),(5,tP 25 0)],[(2,Z5s),(25,Z5w l)]⟩ (.cons (Fz l 2 au11) .nil) (.cons rfl .nil)<|AJ<|AC ?_
 refine Cz C4 [31] [] [(27,Hh JI)] [0,2,4,5,6] [2,6,25,31] [Ak (Hh (Ad.mk 0 0 400 400)).2.1] ⟨[(0,Z5r l),(2,tP 2 0),(4,Z5v l),(5,tP 25 0),(6,tP 6 0)],[(2,Z5s),(6,Z5x),(25,Z5w l),(31,.row 2 3 (Ay 2 3 [.s ({ data := #[78,49] }:ByteArray),vN,.s ({ data := #[78,50] }:ByteArray),vN,.s ({ data := #[71,78,68] }:ByteArray),vN]) 120)]⟩ (.cons (SD (Ad.mk 0 0 400 400)) .nil) kr (.cons rfl .nil)<|AJ ?_
 refine Ba (Cv.trans (cO (⟨[(0,Z5r l),(2,tP 2 0),(4,Z5v l),(5,tP 25 0),(6,tP 6 0)],[(2,Z5s),(6,Z5x),(25,Z5w l),(31,Z5y)]⟩) 31 2 3 (Ay 2 3 [.s ({ data := #[78,49] }:ByteArray),vN,.s ({ data := #[78,50] }:ByteArray),vN,.s ({ data := #[71,78,68] }:ByteArray),vN]) 120 kr kr kr) (Cv.refl _))<|AC<|AC ?_
 refine rc [(34,(Z5z l))] [Ak (Z5z l).2.1,BJ (.cells [lst 1 (fun x=>[.i x]) (AX l 2),.i 0] 117)] ⟨[(0,Z5r l),(2,tP 2 0),(4,Z5v l),(5,tP 25 0),(6,tP 6 0),(35,tB (decide (((Gl l).1:Int)=0)))],[(2,Z5s),(6,Z5x),(25,Z5A l),(31,Z5y)]⟩ (.cons (Ae (fun _ _=>kr) kr kr (Bf (AD.mk (AX l 2) 0) 3 au7 au9)) .nil) (.cons rfl (.cons rfl .nil))<|AJ ?_
 refine Bu (⟨[(0,.av (oL l)),(2,tP 2 0),(4,tO (lst 3 AM.c [Z5t l,Z5u l])),(5,tP 25 0),(6,tP 6 0)],[(2,.cells Wa 41),(6,.cells [.i 2,.i (Z5B l).Kind,lst 7 AG.c (Z5B l).Edges,.i (Z5B l).R,vN,.own 31 2 3,vN,vN,vN,vN,vN,vN,vN,vN,vN] 41),(25,.cells (AD.c (Gl l).2) 117),(31,.rowx 2 3 (fun _ _=>default) 120 [(0,[.s ({ data := #[78,49] }:ByteArray),vN]),(1,[.s ({ data := #[78,50] }:ByteArray),vN]),(2,[.s ({ data := #[71,78,68] }:ByteArray),vN])])]⟩) ?_ ?_
 ·refine Ab _ rfl (fun h1 => ?_) (fun h1 => ?_)
  ·have g1:=oT h1
   refine rc [(37,Gb JI 50)] [Ak (Gb (Ad.mk 0 0 400 400) 50).2.1] ⟨[(0,Z5r l),(2,tP 2 0),(4,Z5v l),(5,tP 25 0),(6,tP 6 0)],[(2,Z5s),(6,.cells [.i 2,.i (Gg JI 50).Kind,lst 7 AG.c (Gg JI 50).Edges,.i (Gg JI 50).R,vN,.own 31 2 3,vN,vN,vN,vN,vN,vN,vN,vN,vN] 41),(25,Z5A l),(31,Z5y)]⟩ (.cons (Vj (Ad.mk 0 0 400 400) 50) .nil) (.cons rfl .nil)<|AJ ?_
   refine BB ?_
   first | rfl | (simp only [h1,Z5B,cond_true,cond_false] <;> rfl)
  ·have g1:=oF h1
   refine Af<|AJ ?_
   refine Cv.trans (BD [0,2,4,5,6] [2,6,25,31] (⟨[(0,Z5r l),(2,tP 2 0),(4,Z5v l),(5,tP 25 0),(6,tP 6 0)],[(2,Z5s),(6,Z5x),(25,Z5A l),(31,Z5y)]⟩) kr) (BB ?_)
   first | rfl | (simp only [h1,Z5B,cond_true,cond_false] <;> rfl)
 refine AC<|rc [(40,(Z5C l))] [Ak (Z5C l).2.1,BJ (.cells (AD.c (AA (AD.mk (AX l 2) 0) 3).2) 117)] ⟨[(0,Z5r l),(2,tP 2 0),(4,Z5v l),(5,tP 25 0),(6,tP 6 0),(7,Z5E l)],[(2,Z5s),(6,Z5F l),(OL l),(31,Z5y)]⟩ (.cons (Ae (fun _ _=>kr) kr kr (Bf (AA (AD.mk (AX l 2) 0) 3).2 3 au7 au9)) .nil) (.cons rfl (.cons rfl .nil))<|AJ ?_
 refine AC<|AC ?_
 refine rn ⟨[(0,Z5r l),(2,tP 2 0),(4,Z5v l),(5,tP 25 0),(6,tP 6 0),(7,Z5E l),(8,tI 0)],[(2,Z5s),(6,Z5F l),(OL l),(31,Z5y)]⟩<|AY ?_
 refine Ba (Cv.trans (Ca (⟨[(0,Z5r l),(2,tP 2 0),(4,Z5v l),(5,tP 25 0),(6,tP 6 0),(7,Z5E l),(8,tI 0)],[(100000,.row 7 0 (fun _ _=>default) 78),(2,Z5s),(6,.cells [.i 2,.i (Z5B l).Kind,lst 7 AG.c (Z5B l).Edges,.i (Z5B l).R,.own 100000 7 0,.own 31 2 3,vN,vN,vN,vN,vN,vN,vN,vN,vN] 41),(OL l),(31,Z5y)]⟩) 100000 7 (fun _ _=>default) 78 [] [(6,[4])] (K:=[]) (fun k x h=>by cases h) rfl kr kr) (Cv.trans (BT (⟨[(0,Z5r l),(2,tP 2 0),(4,Z5v l),(5,tP 25 0),(6,tP 6 0),(7,Z5E l),(8,tI 0)],[(100000,Z5H),(2,Z5s),(6,Z5I l),(OL l),(31,Z5y)]⟩) lr (.cons ⟨rfl,Ap 78 (CZ 7 (fun _ _=>default) AE.c)⟩ (.cons ⟨rfl,.refl _⟩ (.cons ⟨rfl,.cells _ (rr (rr (rr (rr (.cons (.own _ _ au2) (rr (rr (rr (rr (rr (rr (rr (rr (rr (rr .nil)))))))))))))))⟩ lr)))) (Cv.trans (BD [0,2,4,5,6,7,8] [2,6,25,31,100000] (⟨[(0,Z5r l),(2,tP 2 0),(4,Z5v l),(5,tP 25 0),(6,tP 6 0),(7,Z5E l),(8,tI 0)],[(2,Z5s),(6,Z5I l),(OL l),(31,Z5y),(100000,Z5H)]⟩) kr) (Cv.refl _)))) ?_
 refine BS (ι:=Nat×List AE×AD×Int) (fun x=>⟨[(0,Z5r l),(2,tP 2 0),(4,Z5v l),(5,tP 25 0),(6,tP 6 0),(7,Z5E l),(8,tI x.2.2.2)],[(2,Z5s),(6,.cells [.i 2,.i (Z5B l).Kind,lst 7 AG.c (Z5B l).Edges,.i (Z5B l).R,.own 100000 7 x.2.1.length,.own 31 2 3,vN,vN,vN,vN,vN,vN,vN,vN,vN] 41),(25,.cells (AD.c x.2.2.1) 117),(31,Z5y),(100000,.row 7 x.2.1.length (AP AE.c x.2.1) 78)]⟩) (fun x=>((W64 (1+(AA (AA (AD.mk (AX l 2) 0) 3).2 3).1))-x.2.2.2).toNat<x.1/\((x.2.1.length:Int)=x.2.2.2/\Pl [A5 (AX l 0) ({ data := #[82] }:ByteArray),A5 (AX l 1) ({ data := #[81] }:ByteArray)] x.2.1/\Bo x.2.2.1/\0<=x.2.2.2/\(x.2.2.2<=(W64 (1+(AA (AA (AD.mk (AX l 2) 0) 3).2 3).1))\/x.2.2.2=0)/\(x.2.1.length:Int)<=0+1*(x.2.2.2-0))/\CU l x.1 x.2.1 x.2.2.1 x.2.2.2=Ao l) (fun x=>x.1) ?_ (((W64 (1+(AA (AA (AD.mk (AX l 2) 0) 3).2 3).1))-0).toNat+1,([]:List AE),Z5D l,0) ⟨Nat.lt_succ_self _,⟨ax0,(by show Pl [A5 (AX l 0) ({ data := #[82] }:ByteArray),A5 (AX l 1) ({ data := #[81] }:ByteArray)] ([]:List AE);first | exact Wj | exact Wk (by assumption) (QD _ _ _ (C7 _ 2 (by decide) (by decide))) | assumption),(by show Bo (Z5D l);repeat (first | with_reducible assumption | exact Cn (DV hll _) | with_reducible refine Bc ?_ | with_reducible refine Ee ?_ | with_reducible refine Dp ?_ | with_reducible refine DG ?_  | with_reducible refine Cu ?_ ?_)),ax0,ax0,ax0⟩,(by simp only [Ao,cond_true,cond_false])⟩
 rintro ⟨n0,v6_4,v5,v8⟩ ⟨hn,hinv,hF⟩
 have hm0:=hn;have hinv0:=hinv;have hF0:=hF;try dsimp only at hm0 hinv0 hF0
 clear hn hinv hF
 cases n0 with
 | zero=>exact absurd hm0 (Nat.not_lt_zero _)
 | succ n0 =>
  have hi0_1:=hinv0.2.1
  have hi0_2:=hinv0.2.2.1
  refine AC<|AC ?_
  refine rn ⟨[(0,Z5r l),(2,tP 2 0),(4,Z5v l),(5,tP 25 0),(6,tP 6 0),(7,Z5E l),(8,tI v8),(44,tB (decide ((v8:Int)<(W64 (1+(AA (AA (AD.mk (AX l 2) 0) 3).2 3).1)))))],[(2,Z5s),(6,Z5J l v6_4),(25,.cells (AD.c v5) 117),(31,Z5y),(100000,Z5K v6_4)]⟩ ?_
  refine Ab (decide ((v8:Int)<(W64 (1+(AA (AA (AD.mk (AX l 2) 0) 3).2 3).1)))) kr (fun h1 => ?_) (fun h1 => ?_)
  ·have g1:=oT h1
   have k1:=SR g1 (by decide) (by decide) (by decide) (by decide)
   have kk1:=PC g1 (by decide) (by decide) (by decide) (by decide)
   refine Af<|AJ ?_
   refine AC<|AY<|AC ?_
   refine dw [] [(55,(Z5L v5)),(60,(Z5M v5)),(62,(Z5N v5))] [0<=(v8:Int)/\(v8:Int)<((3:Nat):Int),Ak (Z5L v5).2.1,BJ (ME v5),0<=((AA v5 2).1:Int)/\((AA v5 2).1:Int)<(([Z5t l,Z5u l].length:Nat):Int),Ak (Z5M v5).2.1,BJ (MU v5),Ak (Z5N v5).2.1,BJ (.cells (AD.c (AA (AA v5 2).2 4).2) 117)] ⟨[(0,Z5r l),(2,tP 2 0),(4,Z5v l),(5,tP 25 0),(6,tP 6 0),(7,Z5E l),(8,tI v8),(9,tP 9 0)],[(2,Z5s),(6,Z5J l v6_4),(9,.cells [.i (W64 (1+v8)),.s (([({ data := #[82,49] }:ByteArray),({ data := #[82,50] }:ByteArray),({ data := #[120,47,82,49] }:ByteArray)]:List ByteArray).getD v8.toNat ⟨#[]⟩),.s ([Z5t l,Z5u l].getD (AA v5 2).1.toNat default).Name,.i 0,.i 0,.i (FO v5).1,.b (Hc v5)] 78),(25,.cells (AD.c (Z5O v5)) 117),(31,Z5y),(100000,Z5K v6_4)]⟩ (.cons (Ae (fun _ _=>kr) kr kr (Bf v5 2 au7 au9)) (.cons (Ae (fun _ _=>kr) kr kr (Bf (AA v5 2).2 4 au7 au9)) (.cons (Ae (fun _ _=>kr) kr kr (Bf (AA (AA v5 2).2 4).2 3 au7 au9)) .nil))) (.cons au12 (.cons rfl (.cons rfl (.cons au12 (.cons rfl (.cons rfl (.cons rfl (.cons rfl .nil))))))))<|AJ<|AC ?_
   refine rc [(69,(Z5P v5)),(73,(Z5Q v5)),(77,(Z5S v5))] [Ak (Z5P v5).2.1,BJ (.cells (AD.c (Z5O v5)) 117),Ak (Z5Q v5).2.1,BJ (.cells (AD.c (AA (Z5O v5) 5).2) 117),Ak (Z5S v5).2.1,BJ (.cells (AD.c (Z5R v5)) 117)] ⟨[(0,Z5r l),(2,tP 2 0),(4,Z5v l),(5,tP 25 0),(6,tP 6 0),(7,Z5E l),(8,tI v8),(9,tP 9 0)],[(2,Z5s),(6,Z5J l v6_4),(9,.cells [.i (W64 (1+v8)),.s (([({ data := #[82,49] }:ByteArray),({ data := #[82,50] }:ByteArray),({ data := #[120,47,82,49] }:ByteArray)]:List ByteArray).getD v8.toNat ⟨#[]⟩),.s ([Z5t l,Z5u l].getD (AA v5 2).1.toNat default).Name,.i (W64 ((W64 (80+(W64 (100*v8))))+(W64 (5*(Gj v5).1)))),.i (W64 ((W64 (100+(W64 (80*(AA (Gj v5).2 3).1))))+(W64 (5*(AA (Z5R v5) 3).1)))),.i (FO v5).1,.b (Hc v5)] 78),(25,Z5T v5),(31,Z5y),(100000,Z5K v6_4)]⟩ (.cons (Ae (fun _ _=>kr) kr kr (Bf (Z5O v5) 5 au7 au9)) (.cons (Ae (fun _ _=>kr) kr kr (Bf (AA (Z5O v5) 5).2 3 au7 au9)) (.cons (Ae (fun _ _=>kr) kr kr (Bf (Z5R v5) 3 au7 au9)) .nil))) (.cons rfl (.cons rfl (.cons rfl (.cons rfl (.cons rfl (.cons rfl .nil))))))<|AJ ?_
   refine rc [] [v6_4.length=v6_4.length,v6_4.length+1<=maxLen,(v6_4.length+1)*72<=140737488355328] ⟨[(0,Z5r l),(2,tP 2 0),(4,Z5v l),(5,tP 25 0),(6,tP 6 0),(7,Z5E l),(8,tI v8)],[(2,Z5s),(6,.cells [.i 2,.i (Z5B l).Kind,lst 7 AG.c (Z5B l).Edges,.i (Z5B l).R,.own 86 7 (v6_4.length+1),.own 31 2 3,vN,vN,vN,vN,vN,vN,vN,vN,vN] 41),(25,Z5T v5),(31,Z5y),(86,.row 7 (v6_4.length+1) (fun i_ j_=>if i_<v6_4.length then (AP AE.c v6_4) i_ j_ else (Ay 7 1 [.i (W64 (1+v8)),.s (([({ data := #[82,49] }:ByteArray),({ data := #[82,50] }:ByteArray),({ data := #[120,47,82,49] }:ByteArray)]:List ByteArray).getD v8.toNat ⟨#[]⟩),.s ([Z5t l,Z5u l].getD (AA v5 2).1.toNat default).Name,.i (W64 ((W64 (80+(W64 (100*v8))))+(W64 (5*(Gj v5).1)))),.i (W64 ((W64 (100+(W64 (80*(AA (Gj v5).2 3).1))))+(W64 (5*(AA (Z5R v5) 3).1)))),.i (FO v5).1,.b (Hc v5)]) (i_-v6_4.length) j_) 78)]⟩ .nil (.cons rfl (.cons au16 (.cons au16 .nil)))<|Be<|AJ ?_
   refine Ba (Cv.trans (BT (⟨[(0,Z5r l),(2,tP 2 0),(4,Z5v l),(5,tP 25 0),(6,tP 6 0),(7,Z5E l),(8,tI v8)],[(2,Z5s),(6,Z5U l v6_4 v8 v5),(25,Z5T v5),(31,Z5y),(86,Z5V v6_4 v8 l v5)]⟩) lr (.cons ⟨rfl,.refl _⟩ (.cons ⟨rfl,.cells _ (rr (rr (rr (rr (.cons (.own _ _ au2) (rr (rr (rr (rr (rr (rr (rr (rr (rr (rr .nil)))))))))))))))⟩ (.cons ⟨rfl,.refl _⟩ (.cons ⟨rfl,.refl _⟩ (.cons ⟨rfl,Ap 78 (BZ (BM 7 AE.c v6_4) (Aw (c:=AE.c) (xs:=([AE.mk (W64 (1+v8)) (([({ data := #[82,49] }:ByteArray),({ data := #[82,50] }:ByteArray),({ data := #[120,47,82,49] }:ByteArray)]:List ByteArray).getD v8.toNat ⟨#[]⟩) ([Z5t l,Z5u l].getD (AA v5 2).1.toNat default).Name (AB.mk (W64 ((W64 (80+(W64 (100*v8))))+(W64 (5*(AA (Z5O v5) 5).1)))) (W64 ((W64 (100+(W64 (80*(AA (AA (Z5O v5) 5).2 3).1))))+(W64 (5*(AA (Z5R v5) 3).1))))) (AA (AA v5 2).2 4).1 (Hc v5)]:List AE)) rfl kr))⟩ .nil)))))) (Cv.refl _)) ?_
   refine rg ⟨[(0,Z5r l),(2,tP 2 0),(4,Z5v l),(5,tP 25 0),(6,tP 6 0),(7,Z5E l),(8,tI (W64 (v8+1)))],[(2,Z5s),(6,Z5U l v6_4 v8 v5),(25,Z5T v5),(31,Z5y),(86,Z5V v6_4 v8 l v5)]⟩ ?_
   (try rw [(show W64 (v8+1)=v8+1 from An (by omega) au6)])
   refine AJ ?_
   refine ⟨(n0,v6_4++[AE.mk (W64 (1+v8)) (([({ data := #[82,49] }:ByteArray),({ data := #[82,50] }:ByteArray),({ data := #[120,47,82,49] }:ByteArray)]:List ByteArray).getD v8.toNat ⟨#[]⟩) ([Z5t l,Z5u l].getD (AA v5 2).1.toNat default).Name (AB.mk (W64 ((W64 (80+(W64 (100*v8))))+(W64 (5*(AA (Z5O v5) 5).1)))) (W64 ((W64 (100+(W64 (80*(AA (AA (Z5O v5) 5).2 3).1))))+(W64 (5*(AA (Z5R v5) 3).1))))) (AA (AA v5 2).2 4).1 (Hc v5)],(AA (Z5R v5) 3).2,v8+1),⟨?_,?_,(by rw [<- hF0];simp only [CU,h1,cond_true,cond_false])⟩,Nat.lt_succ_self _,Cv.trans (BR (⟨[(0,Z5r l),(2,tP 2 0),(4,Z5v l),(5,tP 25 0),(6,tP 6 0),(7,Z5E l),(8,tI (v8+1))],[(2,Z5s),(6,.cells [.i 2,.i (Z5B l).Kind,lst 7 AG.c (Z5B l).Edges,.i (Z5B l).R,.own 100000 7 (v6_4++[AE.mk (W64 (1+v8)) (([({ data := #[82,49] }:ByteArray),({ data := #[82,50] }:ByteArray),({ data := #[120,47,82,49] }:ByteArray)]:List ByteArray).getD v8.toNat ⟨#[]⟩) ([Z5t l,Z5u l].getD (AA v5 2).1.toNat default).Name (WZ v8 v5) (FO v5).1 (Hc v5)]).length,.own 31 2 3,vN,vN,vN,vN,vN,vN,vN,vN,vN] 41),(25,Z5T v5),(31,Z5y),(100000,Z5V v6_4 v8 l v5)]⟩) 86 100000 (K:=[]) (fun k x h=>by cases h) rfl rfl kr kr) (BB kr)⟩
   ·show ((W64 (1+(AA (AA (AD.mk (AX l 2) 0) 3).2 3).1))-(v8+1)).toNat<n0;omega
   ·exact ⟨ax0,(by show Pl [A5 (AX l 0) ({ data := #[82] }:ByteArray),A5 (AX l 1) ({ data := #[81] }:ByteArray)] (v6_4++[AE.mk (W64 (1+v8)) (([({ data := #[82,49] }:ByteArray),({ data := #[82,50] }:ByteArray),({ data := #[120,47,82,49] }:ByteArray)]:List ByteArray).getD v8.toNat ⟨#[]⟩) ([Z5t l,Z5u l].getD (AA v5 2).1.toNat default).Name (AB.mk (W64 ((W64 (80+(W64 (100*v8))))+(W64 (5*(AA (Z5O v5) 5).1)))) (W64 ((W64 (100+(W64 (80*(AA (AA (Z5O v5) 5).2 3).1))))+(W64 (5*(AA (Z5R v5) 3).1))))) (AA (AA v5 2).2 4).1 (Hc v5)]);first | exact Wj | exact Wk (by assumption) (QD _ _ _ (C7 _ 2 (by decide) (by decide))) | assumption),(by show Bo ((AA (Z5R v5) 3).2);repeat (first | with_reducible assumption | exact Cn (DV hll _) | with_reducible refine Bc ?_ | with_reducible refine Ee ?_ | with_reducible refine Dp ?_ | with_reducible refine DG ?_  | with_reducible refine Cu ?_ ?_)),ax0,ax0,ax0⟩
  ·have g1:=oF h1
   have k1:=SZ g1 (by decide) (by decide) (by decide) (by decide)
   refine BV<|BE ?_
   refine BE<|BW ?_
   refine AJ<|AC ?_
   refine rc [(89,Cy l 3)] [Ak (Cy l 3).2.1] ⟨[(0,Z5r l),(2,tP 2 0),(4,Z5v l),(5,tP 91 0),(6,tP 6 0),(7,Z5E l)],[(2,Z5s),(6,Z5J l v6_4),(31,Z5y),(91,Z5G l),(100000,Z5K v6_4)]⟩ (.cons (Fz l 3 au11) .nil) (.cons rfl .nil)<|AJ ?_
   refine AC<|AC ?_
   refine rn ⟨[(0,Z5r l),(2,tP 2 0),(4,Z5v l),(5,tP 91 0),(6,tP 6 0),(7,Z5E l),(10,tI 0)],[(2,Z5s),(6,Z5J l v6_4),(31,Z5y),(91,Z5G l),(100000,Z5K v6_4)]⟩<|AY ?_
   refine Ba (Cv.trans (Ca (⟨[(0,Z5r l),(2,tP 2 0),(4,Z5v l),(5,tP 91 0),(6,tP 6 0),(7,Z5E l),(10,tI 0)],[(100001,.row 2 0 (fun _ _=>default) 106),(2,Z5s),(6,Z5J l v6_4),(31,.rowx 2 3 (fun _ _=>default) 120 [(0,[.s ({ data := #[78,49] }:ByteArray),.own 100001 2 0]),(1,[.s ({ data := #[78,50] }:ByteArray),vN]),(2,[.s ({ data := #[71,78,68] }:ByteArray),vN])]),(91,Z5G l),(100000,Z5K v6_4)]⟩) 100001 2 (fun _ _=>default) 106 [] [(31,[1])] (K:=[]) (fun k x h=>by cases h) rfl kr kr) (Cv.trans (Ca (⟨[(0,Z5r l),(2,tP 2 0),(4,Z5v l),(5,tP 91 0),(6,tP 6 0),(7,Z5E l),(10,tI 0)],[(100002,.row 2 0 (fun _ _=>default) 106),(100001,.row 2 0 (fun _ _=>default) 106),(2,Z5s),(6,Z5J l v6_4),(31,.rowx 2 3 (fun _ _=>default) 120 [(0,[.s ({ data := #[78,49] }:ByteArray),.own 100001 2 0]),(1,[.s ({ data := #[78,50] }:ByteArray),.own 100002 2 0]),(2,[.s ({ data := #[71,78,68] }:ByteArray),vN])]),(91,Z5G l),(100000,Z5K v6_4)]⟩) 100002 2 (fun _ _=>default) 106 [] [(31,[3])] (K:=[]) (fun k x h=>by cases h) rfl kr kr) (Cv.trans (Ca (⟨[(0,Z5r l),(2,tP 2 0),(4,Z5v l),(5,tP 91 0),(6,tP 6 0),(7,Z5E l),(10,tI 0)],[(100003,.row 2 0 (fun _ _=>default) 106),(100002,.row 2 0 (fun _ _=>default) 106),(100001,.row 2 0 (fun _ _=>default) 106),(2,Z5s),(6,Z5J l v6_4),(31,.rowx 2 3 (fun _ _=>default) 120 [(0,[.s ({ data := #[78,49] }:ByteArray),.own 100001 2 0]),(1,[.s ({ data := #[78,50] }:ByteArray),.own 100002 2 0]),(2,[.s ({ data := #[71,78,68] }:ByteArray),.own 100003 2 0])]),(91,Z5G l),(100000,Z5K v6_4)]⟩) 100003 2 (fun _ _=>default) 106 [] [(31,[5])] (K:=[]) (fun k x h=>by cases h) rfl kr kr) (Cv.trans (BT (⟨[(0,Z5r l),(2,tP 2 0),(4,Z5v l),(5,tP 91 0),(6,tP 6 0),(7,Z5E l),(10,tI 0)],[(100003,Z5W),(100002,Z5W),(100001,Z5W),(2,Z5s),(6,Z5J l v6_4),(31,Z6l),(91,Z5G l),(100000,Z5K v6_4)]⟩) lr (.cons ⟨rfl,Ap 106 (CZ 2 (fun _ _=>default) Aq.c)⟩ (.cons ⟨rfl,Ap 106 (CZ 2 (fun _ _=>default) Aq.c)⟩ (.cons ⟨rfl,Ap 106 (CZ 2 (fun _ _=>default) Aq.c)⟩ (.cons ⟨rfl,.refl _⟩ (.cons ⟨rfl,.refl _⟩ (.cons ⟨rfl,.rowx _ _ _ _ (.cons ⟨rfl,(rr (.cons (.own _ _ au2) .nil))⟩ (.cons ⟨rfl,(rr (.cons (.own _ _ au2) .nil))⟩ (.cons ⟨rfl,(rr (.cons (.own _ _ au2) .nil))⟩ .nil)))⟩ lr))))))) (Cv.trans (BD [0,2,4,5,6,7,10] [2,6,31,91,100000,100001,100002,100003] (⟨[(0,Z5r l),(2,tP 2 0),(4,Z5v l),(5,tP 91 0),(6,tP 6 0),(7,Z5E l),(10,tI 0)],[(2,Z5s),(6,Z5J l v6_4),(31,Z6l),(91,Z5G l),(100000,Z5K v6_4),(100001,Z5W),(100002,Z5W),(100003,Z5W)]⟩) kr) (Cv.refl _)))))) ?_
   refine BS (ι:=Nat×List Aq×List Aq×List Aq×AD×Int) (fun x=>⟨[(0,Z5r l),(2,tP 2 0),(4,Z5v l),(5,tP 91 0),(6,tP 6 0),(7,Z5E l),(10,tI x.2.2.2.2.2)],[(2,Z5s),(6,Z5J l v6_4),(31,.rowx 2 3 (fun _ _=>default) 120 [(0,[.s ({ data := #[78,49] }:ByteArray),.own 100001 2 x.2.1.length]),(1,[.s ({ data := #[78,50] }:ByteArray),.own 100002 2 x.2.2.1.length]),(2,[.s ({ data := #[71,78,68] }:ByteArray),.own 100003 2 x.2.2.2.1.length])]),(91,.cells (AD.c x.2.2.2.2.1) 117),(100000,Z5K v6_4),(100001,.row 2 x.2.1.length (AP Aq.c x.2.1) 106),(100002,.row 2 x.2.2.1.length (AP Aq.c x.2.2.1) 106),(100003,.row 2 x.2.2.2.1.length (AP Aq.c x.2.2.2.1) 106)]⟩) (fun x=>((W64 (1+(AA (AA (AD.mk (AX l 2) 0) 3).2 3).1))-x.2.2.2.2.2).toNat<x.1/\(DD x.2.1 (6*x.2.2.2.2.2)/\DD x.2.2.1 (6*x.2.2.2.2.2)/\DD x.2.2.2.1 (6*x.2.2.2.2.2)/\Bo x.2.2.2.2.1/\0<=x.2.2.2.2.2/\(x.2.2.2.2.2<=(W64 (1+(AA (AA (AD.mk (AX l 2) 0) 3).2 3).1))\/x.2.2.2.2.2=0))/\C1 l v6_4 v5 v8 (CU l n0) x.1 x.2.1 x.2.2.1 x.2.2.2.1 x.2.2.2.2.1 x.2.2.2.2.2=Ao l) (fun x=>x.1) ?_ (((W64 (1+(AA (AA (AD.mk (AX l 2) 0) 3).2 3).1))-0).toNat+1,([]:List Aq),([]:List Aq),([]:List Aq),AD.mk (AX l 3) 0,0) ⟨Nat.lt_succ_self _,⟨(by show DD ([]:List Aq) (6*0);unfold DD at *;repeat (first | omega | exact Et (by omega) | refine Es ?_ ?_ | (simp;done))),(by show DD ([]:List Aq) (6*0);unfold DD at *;repeat (first | omega | exact Et (by omega) | refine Es ?_ ?_ | (simp;done))),(by show DD ([]:List Aq) (6*0);unfold DD at *;repeat (first | omega | exact Et (by omega) | refine Es ?_ ?_ | (simp;done))),(by show Bo (AD.mk (AX l 3) 0);repeat (first | with_reducible assumption | exact Cn (DV hll _) | with_reducible refine Bc ?_ | with_reducible refine Ee ?_ | with_reducible refine Dp ?_ | with_reducible refine DG ?_  | with_reducible refine Cu ?_ ?_)),ax0,ax0⟩,(by rw [<- hF0];simp only [CU,h1,cond_true,cond_false])⟩
   rintro ⟨n1,v31_1,v31_3,v31_5,v5',v10⟩ ⟨hn,hinv,hF⟩
   have hm1:=hn;have hinv1:=hinv;have hF1:=hF;try dsimp only at hm1 hinv1 hF1
   clear hn hinv hF
   cases n1 with
   | zero=>exact absurd hm1 (Nat.not_lt_zero _)
   | succ n1 =>
    have hi1_0:=hinv1.1
    have hi1_1:=hinv1.2.1
    have hi1_2:=hinv1.2.2.1
    have hi1_3:=hinv1.2.2.2.1
    refine AC<|AC ?_
    refine rn ⟨[(0,Z5r l),(2,tP 2 0),(4,Z5v l),(5,tP 91 0),(6,tP 6 0),(7,Z5E l),(10,tI v10),(94,Z61 v10 l)],[(2,Z5s),(6,Z5J l v6_4),(31,Z6m v31_1 v31_3 v31_5),(HU v5'),(100000,Z5K v6_4),(100001,Z5X v31_1),(100002,Z5Y v31_3),(100003,Z5Z v31_5)]⟩ ?_
    refine Ab (decide ((v10:Int)<(W64 (1+(AA (AA (AD.mk (AX l 2) 0) 3).2 3).1)))) kr (fun h2 => ?_) (fun h2 => ?_)
    ·have g2:=oT h2
     have k2:=SR g2 (by decide) (by decide) (by decide) (by decide)
     have kk2:=PC g2 (by decide) (by decide) (by decide) (by decide)
     refine Af<|AJ ?_
     refine AC<|AY<|AC ?_
     refine rc [(105,Jq [Z5t l,Z5u l] (v6_4.getD v10.toNat default).Type')] [0<=(v10:Int)/\(v10:Int)<((v6_4.length:Nat):Int),v10.toNat<v6_4.length,Ak (Jq [Z5t l,Z5u l] (v6_4.getD v10.toNat default).Type').2.1] ⟨[(0,Z5r l),(2,tP 2 0),(4,Z5v l),(5,tP 91 0),(6,tP 6 0),(7,Z5E l),(10,tI v10),(11,tP 11 0)],[(2,Z5s),(6,Z5J l v6_4),(11,Z63 l v6_4 v10),(31,Z6m v31_1 v31_3 v31_5),(HU v5'),(100000,Z5K v6_4),(100001,Z5X v31_1),(100002,Z5Y v31_3),(100003,Z5Z v31_5)]⟩ (.cons (Wt [Z5t l,Z5u l] (v6_4.getD v10.toNat default).Type' au11) .nil) (.cons au12 (.cons au12 (.cons rfl .nil)))<|AJ<|AC ?_
     refine rn ⟨[(0,Z5r l),(2,tP 2 0),(4,Z5v l),(5,tP 91 0),(6,tP 6 0),(7,Z5E l),(10,tI v10),(11,tP 11 0),(13,tI 0)],[(2,Z5s),(6,Z5J l v6_4),(11,Z63 l v6_4 v10),(31,Z6m v31_1 v31_3 v31_5),(HU v5'),(100000,Z5K v6_4),(100001,Z5X v31_1),(100002,Z5Y v31_3),(100003,Z5Z v31_5)]⟩<|AY ?_
     refine BS (ι:=Nat×List Aq×List Aq×List Aq×AD×Int) (fun x=>⟨[(0,Z5r l),(2,tP 2 0),(4,Z5v l),(5,tP 91 0),(6,tP 6 0),(7,Z5E l),(10,tI v10),(11,tP 11 0),(13,tI x.2.2.2.2.2)],[(2,Z5s),(6,Z5J l v6_4),(11,Z63 l v6_4 v10),(31,.rowx 2 3 (fun _ _=>default) 120 [(0,[.s ({ data := #[78,49] }:ByteArray),.own 100001 2 x.2.1.length]),(1,[.s ({ data := #[78,50] }:ByteArray),.own 100002 2 x.2.2.1.length]),(2,[.s ({ data := #[71,78,68] }:ByteArray),.own 100003 2 x.2.2.2.1.length])]),(91,.cells (AD.c x.2.2.2.2.1) 117),(100000,Z5K v6_4),(100001,.row 2 x.2.1.length (AP Aq.c x.2.1) 106),(100002,.row 2 x.2.2.1.length (AP Aq.c x.2.2.1) 106),(100003,.row 2 x.2.2.2.1.length (AP Aq.c x.2.2.2.1) 106)]⟩) (fun x=>(((Z62 l v6_4 v10).Pads.length:Int)-x.2.2.2.2.2).toNat<x.1/\(DD x.2.1 (6*v10+x.2.2.2.2.2)/\DD x.2.2.1 (6*v10+x.2.2.2.2.2)/\DD x.2.2.2.1 (6*v10+x.2.2.2.2.2)/\Bo x.2.2.2.2.1/\0<=x.2.2.2.2.2/\(x.2.2.2.2.2<=((Z62 l v6_4 v10).Pads.length:Int)\/x.2.2.2.2.2=0))/\DN l v6_4 v5 v8 v31_1 v31_3 v31_5 v5' v10 (CU l n0) (C1 l v6_4 v5 v8 (CU l n0) n1) x.1 x.2.1 x.2.2.1 x.2.2.2.1 x.2.2.2.2.1 x.2.2.2.2.2=Ao l) (fun x=>x.1) ?_ ((((Z62 l v6_4 v10).Pads.length:Int)-0).toNat+1,v31_1,v31_3,v31_5,v5',0) ⟨Nat.lt_succ_self _,⟨(by show DD v31_1 (6*v10+0);unfold DD at *;repeat (first | omega | exact Et (by omega) | refine Es ?_ ?_ | (simp;done))),(by show DD v31_3 (6*v10+0);unfold DD at *;repeat (first | omega | exact Et (by omega) | refine Es ?_ ?_ | (simp;done))),(by show DD v31_5 (6*v10+0);unfold DD at *;repeat (first | omega | exact Et (by omega) | refine Es ?_ ?_ | (simp;done))),(by show Bo v5';repeat (first | with_reducible assumption | exact Cn (DV hll _) | with_reducible refine Bc ?_ | with_reducible refine Ee ?_ | with_reducible refine Dp ?_ | with_reducible refine DG ?_  | with_reducible refine Cu ?_ ?_)),ax0,ax0⟩,(by rw [<- hF1];simp only [C1,h2,cond_true,cond_false])⟩
     rintro ⟨n2,v31_1',v31_3',v31_5',v5'',v13⟩ ⟨hn,hinv,hF⟩
     have hm2:=hn;have hinv2:=hinv;have hF2:=hF;try dsimp only at hm2 hinv2 hF2
     clear hn hinv hF
     cases n2 with
     | zero=>exact absurd hm2 (Nat.not_lt_zero _)
     | succ n2 =>
      have hi2_0:=hinv2.1
      have hi2_1:=hinv2.2.1
      have hi2_2:=hinv2.2.2.1
      have hi2_3:=hinv2.2.2.2.1
      have hp6:((Z62 l v6_4 v10).Pads.length:Int)<=6:=(hi0_1 v10 (by omega) (by omega)).2
      refine AC<|AC ?_
      refine rn ⟨[(0,Z5r l),(2,tP 2 0),(4,Z5v l),(5,tP 91 0),(6,tP 6 0),(7,Z5E l),(10,tI v10),(11,tP 11 0),(13,tI v13),(112,tB (decide ((v13:Int)<((Z62 l v6_4 v10).Pads.length:Int))))],[(2,Z5s),(6,Z5J l v6_4),(11,Z63 l v6_4 v10),(31,Z6n v31_1' v31_3' v31_5'),(91,.cells (AD.c v5'') 117),(100000,Z5K v6_4),(100001,Z64 v31_1'),(100002,Z65 v31_3'),(100003,Z66 v31_5')]⟩ ?_
      refine Ab _ rfl (fun h3 => ?_) (fun h3 => ?_)
      ·have g3:=oT h3
       refine Af<|AJ<|AC ?_
       refine Bu (⟨[(0,.av (oL l)),(2,tP 2 0),(4,tO (lst 3 AM.c [Z5t l,Z5u l])),(5,tP 91 0),(6,tP 6 0),(7,tI (W64 (1+(AA (Gl l).2 3).1))),(10,tI v10),(11,tP 11 0),(13,tI v13)],[(2,.cells Wa 41),(6,.cells [.i 2,.i (Z5B l).Kind,lst 7 AG.c (Z5B l).Edges,.i (Z5B l).R,.own 100000 7 v6_4.length,.own 31 2 3,vN,vN,vN,vN,vN,vN,vN,vN,vN] 41),(11,.cells (AM.c (Z62 l v6_4 v10)) 82),(31,.rowx 2 3 (fun _ _=>default) 120 [(0,[.s ({ data := #[78,49] }:ByteArray),.own 100004 2 (Z6b v5'' v31_1' v6_4 v10 l v13).length]),(1,[.s ({ data := #[78,50] }:ByteArray),.own 100005 2 (Z6c v5'' v31_3' v6_4 v10 l v13).length]),(2,[.s ({ data := #[71,78,68] }:ByteArray),.own 100006 2 (Z6d v5'' v31_5' v6_4 v10 l v13).length])]),(DU v5''),(100000,.row 7 v6_4.length (AP AE.c v6_4) 78),(100004,.row 2 (Z6b v5'' v31_1' v6_4 v10 l v13).length (AP Aq.c (Z6b v5'' v31_1' v6_4 v10 l v13)) 106),(100005,.row 2 (Z6c v5'' v31_3' v6_4 v10 l v13).length (AP Aq.c (Z6c v5'' v31_3' v6_4 v10 l v13)) 106),(100006,.row 2 (Z6d v5'' v31_5' v6_4 v10 l v13).length (AP Aq.c (Z6d v5'' v31_5' v6_4 v10 l v13)) 106)]⟩) ?_ ?_
       ·refine AY<|AC ?_
        refine rc [(116,(Z67 v5''))] [Ak (Z67 v5'').2.1,BJ (.cells (AD.c v5'') 117)] ⟨[(0,Z5r l),(2,tP 2 0),(4,Z5v l),(5,tP 91 0),(6,tP 6 0),(7,Z5E l),(10,tI v10),(11,tP 11 0),(13,tI v13),(14,tI (AA v5'' 5).1)],[(2,Z5s),(6,Z5J l v6_4),(11,Z63 l v6_4 v10),(31,Z6n v31_1' v31_3' v31_5'),(DU v5''),(100000,Z5K v6_4),(100001,Z64 v31_1'),(100002,Z65 v31_3'),(100003,Z66 v31_5')]⟩ (.cons (Ae (fun _ _=>kr) kr kr (Bf v5'' 5 au7 au9)) .nil) (.cons rfl (.cons rfl .nil))<|AJ<|AC ?_
        refine rn ⟨[(0,Z5r l),(2,tP 2 0),(4,Z5v l),(5,tP 91 0),(6,tP 6 0),(7,Z5E l),(10,tI v10),(11,tP 11 0),(13,tI v13),(14,tI (AA v5'' 5).1),(118,tB (decide (((AA v5'' 5).1:Int)<3)))],[(2,Z5s),(6,Z5J l v6_4),(11,Z63 l v6_4 v10),(31,Z6n v31_1' v31_3' v31_5'),(DU v5''),(100000,Z5K v6_4),(100001,Z64 v31_1'),(100002,Z65 v31_3'),(100003,Z66 v31_5')]⟩ ?_
        refine Ab _ rfl (fun h4 => ?_) (fun h4 => ?_)
        ·have g4:=oT h4
         refine UU (decide (((AA v5'' 5).1:Int)=0)) (fun h5 => ?_) (fun h5 => ?_)
         ·have g5:=oT h5
          (try rw [g5])
          refine dw [] [] [0<=(0:Int)/\(0:Int)<((3:Nat):Int),0<=(v10:Int)/\(v10:Int)<((v6_4.length:Nat):Int),v10.toNat<v6_4.length,0<=(v13:Int)/\(v13:Int)<(((Z62 l v6_4 v10).Pads.length:Nat):Int),v31_1'.length=v31_1'.length,v31_1'.length+1<=maxLen,(v31_1'.length+1)*32<=140737488355328,0<=(0:Int)/\(0:Int)<((3:Nat):Int)] ⟨[(0,Z5r l),(2,tP 2 0),(4,Z5v l),(5,tP 91 0),(6,tP 6 0),(7,Z5E l),(10,tI v10),(11,tP 11 0),(13,tI v13)],[(2,Z5s),(6,Z5J l v6_4),(11,Z63 l v6_4 v10),(31,.rowx 2 3 (fun _ _=>default) 120 [(0,[.s ({ data := #[78,49] }:ByteArray),.own 142 2 (v31_1'.length+1)]),(1,[.s ({ data := #[78,50] }:ByteArray),.own 100002 2 v31_3'.length]),(2,[.s ({ data := #[71,78,68] }:ByteArray),.own 100003 2 v31_5'.length])]),(DU v5''),(142,.row 2 (v31_1'.length+1) (fun i_ j_=>if i_<v31_1'.length then (AP Aq.c v31_1') i_ j_ else (Uz v6_4 v10 l v13) (i_-v31_1'.length) j_) 106),(100000,Z5K v6_4),(100002,Z65 v31_3'),(100003,Z66 v31_5')]⟩ .nil (.cons au12 (.cons au12 (.cons au12 (.cons au12 (.cons rfl (.cons au16 (.cons au16 (.cons au12 .nil))))))))<|Be<|AJ ?_
          refine Cv.trans (BT (⟨[(0,Z5r l),(2,tP 2 0),(4,Z5v l),(5,tP 91 0),(6,tP 6 0),(7,Z5E l),(10,tI v10),(11,tP 11 0),(13,tI v13)],[(2,Z5s),(6,Z5J l v6_4),(11,Z63 l v6_4 v10),(31,.rowx 2 3 (fun _ _=>default) 120 [(0,[.s ({ data := #[78,49] }:ByteArray),.own 142 2 (v31_1'++(FK v6_4 v10 l v13)).length]),(1,[.s ({ data := #[78,50] }:ByteArray),.own 100002 2 v31_3'.length]),(2,[.s ({ data := #[71,78,68] }:ByteArray),.own 100003 2 v31_5'.length])]),(DU v5''),(142,Z68 v31_1' v6_4 v10 l v13),(100000,Z5K v6_4),(100002,Z65 v31_3'),(100003,Z66 v31_5')]⟩) lr (.cons ⟨rfl,.refl _⟩ (.cons ⟨rfl,.refl _⟩ (.cons ⟨rfl,.refl _⟩ (.cons ⟨rfl,.rowx _ _ _ _ (.cons ⟨rfl,(rr (.cons (.own _ _ au2) .nil))⟩ (.cons ⟨rfl,(rr (rr .nil))⟩ (.cons ⟨rfl,(rr (rr .nil))⟩ .nil)))⟩ (.cons ⟨rfl,.refl _⟩ (.cons ⟨rfl,Ap 106 (BZ (BM 2 Aq.c v31_1') (Aw (c:=Aq.c) (xs:=([Aq.mk (v6_4.getD v10.toNat default).Ref ((Z62 l v6_4 v10).Pads.getD v13.toNat default).Name]:List Aq)) rfl kr))⟩ lr))))))) (Cv.trans (BR (⟨[(0,Z5r l),(2,tP 2 0),(4,Z5v l),(5,tP 91 0),(6,tP 6 0),(7,Z5E l),(10,tI v10),(11,tP 11 0),(13,tI v13)],[(2,Z5s),(6,Z5J l v6_4),(11,Z63 l v6_4 v10),(31,.rowx 2 3 (fun _ _=>default) 120 [(0,[.s ({ data := #[78,49] }:ByteArray),.own 100004 2 (v31_1'++(FK v6_4 v10 l v13)).length]),(1,[.s ({ data := #[78,50] }:ByteArray),.own 100002 2 v31_3'.length]),(2,[.s ({ data := #[71,78,68] }:ByteArray),.own 100003 2 v31_5'.length])]),(DU v5''),(100004,Z68 v31_1' v6_4 v10 l v13),(100000,Z5K v6_4),(100002,Z65 v31_3'),(100003,Z66 v31_5')]⟩) 142 100004 (K:=[]) (fun k x h=>by cases h) rfl rfl kr kr) (Cv.trans (BR (⟨[(0,Z5r l),(2,tP 2 0),(4,Z5v l),(5,tP 91 0),(6,tP 6 0),(7,Z5E l),(10,tI v10),(11,tP 11 0),(13,tI v13)],[(2,Z5s),(6,Z5J l v6_4),(11,Z63 l v6_4 v10),(31,.rowx 2 3 (fun _ _=>default) 120 [(0,[.s ({ data := #[78,49] }:ByteArray),.own 100004 2 (v31_1'++(FK v6_4 v10 l v13)).length]),(1,[.s ({ data := #[78,50] }:ByteArray),.own 100005 2 v31_3'.length]),(2,[.s ({ data := #[71,78,68] }:ByteArray),.own 100003 2 v31_5'.length])]),(DU v5''),(100004,Z68 v31_1' v6_4 v10 l v13),(100000,Z5K v6_4),(100005,Z65 v31_3'),(100003,Z66 v31_5')]⟩) 100002 100005 (K:=[]) (fun k x h=>by cases h) rfl rfl kr kr) (Cv.trans (BR (⟨[(0,Z5r l),(2,tP 2 0),(4,Z5v l),(5,tP 91 0),(6,tP 6 0),(7,Z5E l),(10,tI v10),(11,tP 11 0),(13,tI v13)],[(2,Z5s),(6,Z5J l v6_4),(11,Z63 l v6_4 v10),(31,Z6o v31_1' v6_4 v10 l v13 v31_3' v31_5'),(DU v5''),(100004,Z68 v31_1' v6_4 v10 l v13),(100000,Z5K v6_4),(100005,Z65 v31_3'),(100006,Z66 v31_5')]⟩) 100003 100006 (K:=[]) (fun k x h=>by cases h) rfl rfl kr kr) (Cv.trans (BD [0,2,4,5,6,7,10,11,13] [2,6,11,31,91,100000,100004,100005,100006] (⟨[(0,Z5r l),(2,tP 2 0),(4,Z5v l),(5,tP 91 0),(6,tP 6 0),(7,Z5E l),(10,tI v10),(11,tP 11 0),(13,tI v13)],[(2,Z5s),(6,Z5J l v6_4),(11,Z63 l v6_4 v10),(31,Z6o v31_1' v6_4 v10 l v13 v31_3' v31_5'),(DU v5''),(100000,Z5K v6_4),(100004,Z68 v31_1' v6_4 v10 l v13),(100005,Z65 v31_3'),(100006,Z66 v31_5')]⟩) kr) (BB ?_)))))
          first | rfl | (simp only [h4,h5,Z6b,Z6c,Z6d,cond_true,cond_false] <;> rfl)
         ·have g5:=oF h5
          refine UU (decide (((AA v5'' 5).1:Int)=1)) (fun h6 => ?_) (fun h6 => ?_)
          ·have g6:=oT h6
           (try rw [g6])
           refine dw [] [] [0<=(1:Int)/\(1:Int)<((3:Nat):Int),0<=(v10:Int)/\(v10:Int)<((v6_4.length:Nat):Int),v10.toNat<v6_4.length,0<=(v13:Int)/\(v13:Int)<(((Z62 l v6_4 v10).Pads.length:Nat):Int),v31_3'.length=v31_3'.length,v31_3'.length+1<=maxLen,(v31_3'.length+1)*32<=140737488355328,0<=(1:Int)/\(1:Int)<((3:Nat):Int)] ⟨[(0,Z5r l),(2,tP 2 0),(4,Z5v l),(5,tP 91 0),(6,tP 6 0),(7,Z5E l),(10,tI v10),(11,tP 11 0),(13,tI v13)],[(2,Z5s),(6,Z5J l v6_4),(11,Z63 l v6_4 v10),(31,.rowx 2 3 (fun _ _=>default) 120 [(0,[.s ({ data := #[78,49] }:ByteArray),.own 100001 2 v31_1'.length]),(1,[.s ({ data := #[78,50] }:ByteArray),.own 142 2 (v31_3'.length+1)]),(2,[.s ({ data := #[71,78,68] }:ByteArray),.own 100003 2 v31_5'.length])]),(DU v5''),(142,.row 2 (v31_3'.length+1) (fun i_ j_=>if i_<v31_3'.length then (AP Aq.c v31_3') i_ j_ else (Uz v6_4 v10 l v13) (i_-v31_3'.length) j_) 106),(100000,Z5K v6_4),(100001,Z64 v31_1'),(100003,Z66 v31_5')]⟩ .nil (.cons au12 (.cons au12 (.cons au12 (.cons au12 (.cons rfl (.cons au16 (.cons au16 (.cons au12 .nil))))))))<|Be<|AJ ?_
           refine Cv.trans (BT (⟨[(0,Z5r l),(2,tP 2 0),(4,Z5v l),(5,tP 91 0),(6,tP 6 0),(7,Z5E l),(10,tI v10),(11,tP 11 0),(13,tI v13)],[(2,Z5s),(6,Z5J l v6_4),(11,Z63 l v6_4 v10),(31,.rowx 2 3 (fun _ _=>default) 120 [(0,[.s ({ data := #[78,49] }:ByteArray),.own 100001 2 v31_1'.length]),(1,[.s ({ data := #[78,50] }:ByteArray),.own 142 2 (v31_3'++(FK v6_4 v10 l v13)).length]),(2,[.s ({ data := #[71,78,68] }:ByteArray),.own 100003 2 v31_5'.length])]),(DU v5''),(142,Z69 v31_3' v6_4 v10 l v13),(100000,Z5K v6_4),(100001,Z64 v31_1'),(100003,Z66 v31_5')]⟩) lr (.cons ⟨rfl,.refl _⟩ (.cons ⟨rfl,.refl _⟩ (.cons ⟨rfl,.refl _⟩ (.cons ⟨rfl,.rowx _ _ _ _ (.cons ⟨rfl,(rr (rr .nil))⟩ (.cons ⟨rfl,(rr (.cons (.own _ _ au2) .nil))⟩ (.cons ⟨rfl,(rr (rr .nil))⟩ .nil)))⟩ (.cons ⟨rfl,.refl _⟩ (.cons ⟨rfl,Ap 106 (BZ (BM 2 Aq.c v31_3') (Aw (c:=Aq.c) (xs:=([Aq.mk (v6_4.getD v10.toNat default).Ref ((Z62 l v6_4 v10).Pads.getD v13.toNat default).Name]:List Aq)) rfl kr))⟩ lr))))))) (Cv.trans (BR (⟨[(0,Z5r l),(2,tP 2 0),(4,Z5v l),(5,tP 91 0),(6,tP 6 0),(7,Z5E l),(10,tI v10),(11,tP 11 0),(13,tI v13)],[(2,Z5s),(6,Z5J l v6_4),(11,Z63 l v6_4 v10),(31,.rowx 2 3 (fun _ _=>default) 120 [(0,[.s ({ data := #[78,49] }:ByteArray),.own 100004 2 v31_1'.length]),(1,[.s ({ data := #[78,50] }:ByteArray),.own 142 2 (v31_3'++(FK v6_4 v10 l v13)).length]),(2,[.s ({ data := #[71,78,68] }:ByteArray),.own 100003 2 v31_5'.length])]),(DU v5''),(142,Z69 v31_3' v6_4 v10 l v13),(100000,Z5K v6_4),(100004,Z64 v31_1'),(100003,Z66 v31_5')]⟩) 100001 100004 (K:=[]) (fun k x h=>by cases h) rfl rfl kr kr) (Cv.trans (BR (⟨[(0,Z5r l),(2,tP 2 0),(4,Z5v l),(5,tP 91 0),(6,tP 6 0),(7,Z5E l),(10,tI v10),(11,tP 11 0),(13,tI v13)],[(2,Z5s),(6,Z5J l v6_4),(11,Z63 l v6_4 v10),(31,.rowx 2 3 (fun _ _=>default) 120 [(0,[.s ({ data := #[78,49] }:ByteArray),.own 100004 2 v31_1'.length]),(1,[.s ({ data := #[78,50] }:ByteArray),.own 100005 2 (v31_3'++(FK v6_4 v10 l v13)).length]),(2,[.s ({ data := #[71,78,68] }:ByteArray),.own 100003 2 v31_5'.length])]),(DU v5''),(100005,Z69 v31_3' v6_4 v10 l v13),(100000,Z5K v6_4),(100004,Z64 v31_1'),(100003,Z66 v31_5')]⟩) 142 100005 (K:=[]) (fun k x h=>by cases h) rfl rfl kr kr) (Cv.trans (BR (⟨[(0,Z5r l),(2,tP 2 0),(4,Z5v l),(5,tP 91 0),(6,tP 6 0),(7,Z5E l),(10,tI v10),(11,tP 11 0),(13,tI v13)],[(2,Z5s),(6,Z5J l v6_4),(11,Z63 l v6_4 v10),(31,Z6p v31_1' v31_3' v6_4 v10 l v13 v31_5'),(DU v5''),(100005,Z69 v31_3' v6_4 v10 l v13),(100000,Z5K v6_4),(100004,Z64 v31_1'),(100006,Z66 v31_5')]⟩) 100003 100006 (K:=[]) (fun k x h=>by cases h) rfl rfl kr kr) (Cv.trans (BD [0,2,4,5,6,7,10,11,13] [2,6,11,31,91,100000,100004,100005,100006] (⟨[(0,Z5r l),(2,tP 2 0),(4,Z5v l),(5,tP 91 0),(6,tP 6 0),(7,Z5E l),(10,tI v10),(11,tP 11 0),(13,tI v13)],[(2,Z5s),(6,Z5J l v6_4),(11,Z63 l v6_4 v10),(31,Z6p v31_1' v31_3' v6_4 v10 l v13 v31_5'),(DU v5''),(100000,Z5K v6_4),(100004,Z64 v31_1'),(100005,Z69 v31_3' v6_4 v10 l v13),(100006,Z66 v31_5')]⟩) kr) (BB ?_)))))
           first | rfl | (simp only [h4,h5,h6,Z6b,Z6c,Z6d,cond_true,cond_false] <;> rfl)
          ·have g6:=oF h6
           have g7:((AA v5'' 5).1:Int)=2:=YJ (by with_reducible assumption) (by with_reducible assumption) (by with_reducible assumption)
           (try rw [g7])
           refine dw [] [] [0<=(2:Int)/\(2:Int)<((3:Nat):Int),0<=(v10:Int)/\(v10:Int)<((v6_4.length:Nat):Int),v10.toNat<v6_4.length,0<=(v13:Int)/\(v13:Int)<(((Z62 l v6_4 v10).Pads.length:Nat):Int),v31_5'.length=v31_5'.length,v31_5'.length+1<=maxLen,(v31_5'.length+1)*32<=140737488355328,0<=(2:Int)/\(2:Int)<((3:Nat):Int)] ⟨[(0,Z5r l),(2,tP 2 0),(4,Z5v l),(5,tP 91 0),(6,tP 6 0),(7,Z5E l),(10,tI v10),(11,tP 11 0),(13,tI v13)],[(2,Z5s),(6,Z5J l v6_4),(11,Z63 l v6_4 v10),(31,.rowx 2 3 (fun _ _=>default) 120 [(0,[.s ({ data := #[78,49] }:ByteArray),.own 100001 2 v31_1'.length]),(1,[.s ({ data := #[78,50] }:ByteArray),.own 100002 2 v31_3'.length]),(2,[.s ({ data := #[71,78,68] }:ByteArray),.own 142 2 (v31_5'.length+1)])]),(DU v5''),(142,.row 2 (v31_5'.length+1) (fun i_ j_=>if i_<v31_5'.length then (AP Aq.c v31_5') i_ j_ else (Uz v6_4 v10 l v13) (i_-v31_5'.length) j_) 106),(100000,Z5K v6_4),(100001,Z64 v31_1'),(100002,Z65 v31_3')]⟩ .nil (.cons au12 (.cons au12 (.cons au12 (.cons au12 (.cons rfl (.cons au16 (.cons au16 (.cons au12 .nil))))))))<|Be<|AJ ?_
           refine Cv.trans (BT (⟨[(0,Z5r l),(2,tP 2 0),(4,Z5v l),(5,tP 91 0),(6,tP 6 0),(7,Z5E l),(10,tI v10),(11,tP 11 0),(13,tI v13)],[(2,Z5s),(6,Z5J l v6_4),(11,Z63 l v6_4 v10),(31,.rowx 2 3 (fun _ _=>default) 120 [(0,[.s ({ data := #[78,49] }:ByteArray),.own 100001 2 v31_1'.length]),(1,[.s ({ data := #[78,50] }:ByteArray),.own 100002 2 v31_3'.length]),(2,[.s ({ data := #[71,78,68] }:ByteArray),.own 142 2 (v31_5'++(FK v6_4 v10 l v13)).length])]),(DU v5''),(142,Z6a v31_5' v6_4 v10 l v13),(100000,Z5K v6_4),(100001,Z64 v31_1'),(100002,Z65 v31_3')]⟩) lr (.cons ⟨rfl,.refl _⟩ (.cons ⟨rfl,.refl _⟩ (.cons ⟨rfl,.refl _⟩ (.cons ⟨rfl,.rowx _ _ _ _ (.cons ⟨rfl,(rr (rr .nil))⟩ (.cons ⟨rfl,(rr (rr .nil))⟩ (.cons ⟨rfl,(rr (.cons (.own _ _ au2) .nil))⟩ .nil)))⟩ (.cons ⟨rfl,.refl _⟩ (.cons ⟨rfl,Ap 106 (BZ (BM 2 Aq.c v31_5') (Aw (c:=Aq.c) (xs:=([Aq.mk (v6_4.getD v10.toNat default).Ref ((Z62 l v6_4 v10).Pads.getD v13.toNat default).Name]:List Aq)) rfl kr))⟩ lr))))))) (Cv.trans (BR (⟨[(0,Z5r l),(2,tP 2 0),(4,Z5v l),(5,tP 91 0),(6,tP 6 0),(7,Z5E l),(10,tI v10),(11,tP 11 0),(13,tI v13)],[(2,Z5s),(6,Z5J l v6_4),(11,Z63 l v6_4 v10),(31,.rowx 2 3 (fun _ _=>default) 120 [(0,[.s ({ data := #[78,49] }:ByteArray),.own 100004 2 v31_1'.length]),(1,[.s ({ data := #[78,50] }:ByteArray),.own 100002 2 v31_3'.length]),(2,[.s ({ data := #[71,78,68] }:ByteArray),.own 142 2 (v31_5'++(FK v6_4 v10 l v13)).length])]),(DU v5''),(142,Z6a v31_5' v6_4 v10 l v13),(100000,Z5K v6_4),(100004,Z64 v31_1'),(100002,Z65 v31_3')]⟩) 100001 100004 (K:=[]) (fun k x h=>by cases h) rfl rfl kr kr) (Cv.trans (BR (⟨[(0,Z5r l),(2,tP 2 0),(4,Z5v l),(5,tP 91 0),(6,tP 6 0),(7,Z5E l),(10,tI v10),(11,tP 11 0),(13,tI v13)],[(2,Z5s),(6,Z5J l v6_4),(11,Z63 l v6_4 v10),(31,.rowx 2 3 (fun _ _=>default) 120 [(0,[.s ({ data := #[78,49] }:ByteArray),.own 100004 2 v31_1'.length]),(1,[.s ({ data := #[78,50] }:ByteArray),.own 100005 2 v31_3'.length]),(2,[.s ({ data := #[71,78,68] }:ByteArray),.own 142 2 (v31_5'++(FK v6_4 v10 l v13)).length])]),(DU v5''),(142,Z6a v31_5' v6_4 v10 l v13),(100000,Z5K v6_4),(100004,Z64 v31_1'),(100005,Z65 v31_3')]⟩) 100002 100005 (K:=[]) (fun k x h=>by cases h) rfl rfl kr kr) (Cv.trans (BR (⟨[(0,Z5r l),(2,tP 2 0),(4,Z5v l),(5,tP 91 0),(6,tP 6 0),(7,Z5E l),(10,tI v10),(11,tP 11 0),(13,tI v13)],[(2,Z5s),(6,Z5J l v6_4),(11,Z63 l v6_4 v10),(31,Z6q v31_1' v31_3' v31_5' v6_4 v10 l v13),(DU v5''),(100006,Z6a v31_5' v6_4 v10 l v13),(100000,Z5K v6_4),(100004,Z64 v31_1'),(100005,Z65 v31_3')]⟩) 142 100006 (K:=[]) (fun k x h=>by cases h) rfl rfl kr kr) (Cv.trans (BD [0,2,4,5,6,7,10,11,13] [2,6,11,31,91,100000,100004,100005,100006] (⟨[(0,Z5r l),(2,tP 2 0),(4,Z5v l),(5,tP 91 0),(6,tP 6 0),(7,Z5E l),(10,tI v10),(11,tP 11 0),(13,tI v13)],[(2,Z5s),(6,Z5J l v6_4),(11,Z63 l v6_4 v10),(31,Z6q v31_1' v31_3' v31_5' v6_4 v10 l v13),(DU v5''),(100000,Z5K v6_4),(100004,Z64 v31_1'),(100005,Z65 v31_3'),(100006,Z6a v31_5' v6_4 v10 l v13)]⟩) kr) (BB ?_)))))
           first | rfl | (simp only [h4,h5,h6,Z6b,Z6c,Z6d,cond_true,cond_false] <;> rfl)
        ·have g4:=oF h4
         refine Af<|Be<|AJ ?_
         refine Cv.trans (BD [0,2,4,5,6,7,10,11,13] [2,6,11,31,91,100000,100001,100002,100003] (⟨[(0,Z5r l),(2,tP 2 0),(4,Z5v l),(5,tP 91 0),(6,tP 6 0),(7,Z5E l),(10,tI v10),(11,tP 11 0),(13,tI v13)],[(2,Z5s),(6,Z5J l v6_4),(11,Z63 l v6_4 v10),(31,Z6n v31_1' v31_3' v31_5'),(DU v5''),(100000,Z5K v6_4),(100001,Z64 v31_1'),(100002,Z65 v31_3'),(100003,Z66 v31_5')]⟩) kr) (Cv.trans (BR (⟨[(0,Z5r l),(2,tP 2 0),(4,Z5v l),(5,tP 91 0),(6,tP 6 0),(7,Z5E l),(10,tI v10),(11,tP 11 0),(13,tI v13)],[(2,Z5s),(6,Z5J l v6_4),(11,Z63 l v6_4 v10),(31,.rowx 2 3 (fun _ _=>default) 120 [(0,[.s ({ data := #[78,49] }:ByteArray),.own 100004 2 v31_1'.length]),(1,[.s ({ data := #[78,50] }:ByteArray),.own 100002 2 v31_3'.length]),(2,[.s ({ data := #[71,78,68] }:ByteArray),.own 100003 2 v31_5'.length])]),(DU v5''),(100000,Z5K v6_4),(100004,Z64 v31_1'),(100002,Z65 v31_3'),(100003,Z66 v31_5')]⟩) 100001 100004 (K:=[]) (fun k x h=>by cases h) rfl rfl kr kr) (Cv.trans (BR (⟨[(0,Z5r l),(2,tP 2 0),(4,Z5v l),(5,tP 91 0),(6,tP 6 0),(7,Z5E l),(10,tI v10),(11,tP 11 0),(13,tI v13)],[(2,Z5s),(6,Z5J l v6_4),(11,Z63 l v6_4 v10),(31,.rowx 2 3 (fun _ _=>default) 120 [(0,[.s ({ data := #[78,49] }:ByteArray),.own 100004 2 v31_1'.length]),(1,[.s ({ data := #[78,50] }:ByteArray),.own 100005 2 v31_3'.length]),(2,[.s ({ data := #[71,78,68] }:ByteArray),.own 100003 2 v31_5'.length])]),(DU v5''),(100000,Z5K v6_4),(100004,Z64 v31_1'),(100005,Z65 v31_3'),(100003,Z66 v31_5')]⟩) 100002 100005 (K:=[]) (fun k x h=>by cases h) rfl rfl kr kr) (Cv.trans (BR (⟨[(0,Z5r l),(2,tP 2 0),(4,Z5v l),(5,tP 91 0),(6,tP 6 0),(7,Z5E l),(10,tI v10),(11,tP 11 0),(13,tI v13)],[(2,Z5s),(6,Z5J l v6_4),(11,Z63 l v6_4 v10),(31,.rowx 2 3 (fun _ _=>default) 120 [(0,[.s ({ data := #[78,49] }:ByteArray),.own 100004 2 v31_1'.length]),(1,[.s ({ data := #[78,50] }:ByteArray),.own 100005 2 v31_3'.length]),(2,[.s ({ data := #[71,78,68] }:ByteArray),.own 100006 2 v31_5'.length])]),(DU v5''),(100000,Z5K v6_4),(100004,Z64 v31_1'),(100005,Z65 v31_3'),(100006,Z66 v31_5')]⟩) 100003 100006 (K:=[]) (fun k x h=>by cases h) rfl rfl kr kr) (BB ?_))))
         first | rfl | (simp only [h4,Z6b,Z6c,Z6d,cond_true,cond_false] <;> rfl)
       refine rg ⟨[(0,Z5r l),(2,tP 2 0),(4,Z5v l),(5,tP 91 0),(6,tP 6 0),(7,Z5E l),(10,tI v10),(11,tP 11 0),(13,tI (W64 (v13+1)))],[(2,Z5s),(6,Z5J l v6_4),(11,Z63 l v6_4 v10),(31,.rowx 2 3 (fun _ _=>default) 120 [(0,[.s ({ data := #[78,49] }:ByteArray),.own 100004 2 (Z6b v5'' v31_1' v6_4 v10 l v13).length]),(1,[.s ({ data := #[78,50] }:ByteArray),.own 100005 2 (Z6c v5'' v31_3' v6_4 v10 l v13).length]),(2,[.s ({ data := #[71,78,68] }:ByteArray),.own 100006 2 (Z6d v5'' v31_5' v6_4 v10 l v13).length])]),(DU v5''),(100000,Z5K v6_4),(100004,Z6e v5'' v31_1' v6_4 v10 l v13),(100005,Z6f v5'' v31_3' v6_4 v10 l v13),(100006,Z6g v5'' v31_5' v6_4 v10 l v13)]⟩ ?_
       (try rw [(show W64 (v13+1)=v13+1 from An (by omega) au6)])
       refine AJ ?_
       refine ⟨(n2,Z6b v5'' v31_1' v6_4 v10 l v13,Z6c v5'' v31_3' v6_4 v10 l v13,Z6d v5'' v31_5' v6_4 v10 l v13,(AA v5'' 5).2,v13+1),⟨?_,?_,(by rw [<- hF2];simp only [DN,h3,cond_true,cond_false])⟩,Nat.lt_succ_self _,Cv.trans (BR (⟨[(0,Z5r l),(2,tP 2 0),(4,Z5v l),(5,tP 91 0),(6,tP 6 0),(7,Z5E l),(10,tI v10),(11,tP 11 0),(13,tI (v13+1))],[(2,Z5s),(6,Z5J l v6_4),(11,Z63 l v6_4 v10),(31,.rowx 2 3 (fun _ _=>default) 120 [(0,[.s ({ data := #[78,49] }:ByteArray),.own 100001 2 (Z6b v5'' v31_1' v6_4 v10 l v13).length]),(1,[.s ({ data := #[78,50] }:ByteArray),.own 100005 2 (Z6c v5'' v31_3' v6_4 v10 l v13).length]),(2,[.s ({ data := #[71,78,68] }:ByteArray),.own 100006 2 (Z6d v5'' v31_5' v6_4 v10 l v13).length])]),(DU v5''),(100000,Z5K v6_4),(100001,Z6e v5'' v31_1' v6_4 v10 l v13),(100005,Z6f v5'' v31_3' v6_4 v10 l v13),(100006,Z6g v5'' v31_5' v6_4 v10 l v13)]⟩) 100004 100001 (K:=[]) (fun k x h=>by cases h) rfl rfl kr kr) (Cv.trans (BR (⟨[(0,Z5r l),(2,tP 2 0),(4,Z5v l),(5,tP 91 0),(6,tP 6 0),(7,Z5E l),(10,tI v10),(11,tP 11 0),(13,tI (v13+1))],[(2,Z5s),(6,Z5J l v6_4),(11,Z63 l v6_4 v10),(31,.rowx 2 3 (fun _ _=>default) 120 [(0,[.s ({ data := #[78,49] }:ByteArray),.own 100001 2 (Z6b v5'' v31_1' v6_4 v10 l v13).length]),(1,[.s ({ data := #[78,50] }:ByteArray),.own 100002 2 (Z6c v5'' v31_3' v6_4 v10 l v13).length]),(2,[.s ({ data := #[71,78,68] }:ByteArray),.own 100006 2 (Z6d v5'' v31_5' v6_4 v10 l v13).length])]),(DU v5''),(100000,Z5K v6_4),(100001,Z6e v5'' v31_1' v6_4 v10 l v13),(100002,Z6f v5'' v31_3' v6_4 v10 l v13),(100006,Z6g v5'' v31_5' v6_4 v10 l v13)]⟩) 100005 100002 (K:=[]) (fun k x h=>by cases h) rfl rfl kr kr) (Cv.trans (BR (⟨[(0,Z5r l),(2,tP 2 0),(4,Z5v l),(5,tP 91 0),(6,tP 6 0),(7,Z5E l),(10,tI v10),(11,tP 11 0),(13,tI (v13+1))],[(2,Z5s),(6,Z5J l v6_4),(11,Z63 l v6_4 v10),(31,.rowx 2 3 (fun _ _=>default) 120 [(0,[.s ({ data := #[78,49] }:ByteArray),.own 100001 2 (Z6b v5'' v31_1' v6_4 v10 l v13).length]),(1,[.s ({ data := #[78,50] }:ByteArray),.own 100002 2 (Z6c v5'' v31_3' v6_4 v10 l v13).length]),(2,[.s ({ data := #[71,78,68] }:ByteArray),.own 100003 2 (Z6d v5'' v31_5' v6_4 v10 l v13).length])]),(DU v5''),(100000,Z5K v6_4),(100001,Z6e v5'' v31_1' v6_4 v10 l v13),(100002,Z6f v5'' v31_3' v6_4 v10 l v13),(100003,Z6g v5'' v31_5' v6_4 v10 l v13)]⟩) 100006 100003 (K:=[]) (fun k x h=>by cases h) rfl rfl kr kr) (BB kr)))⟩
       ·show (((Z62 l v6_4 v10).Pads.length:Int)-(v13+1)).toNat<n2;omega
       ·exact ⟨(by show DD (Z6b v5'' v31_1' v6_4 v10 l v13) (6*v10+(v13+1));unfold DD at *;repeat (first | omega | exact Et (by omega) | refine Es ?_ ?_ | (simp;done))),(by show DD (Z6c v5'' v31_3' v6_4 v10 l v13) (6*v10+(v13+1));unfold DD at *;repeat (first | omega | exact Et (by omega) | refine Es ?_ ?_ | (simp;done))),(by show DD (Z6d v5'' v31_5' v6_4 v10 l v13) (6*v10+(v13+1));unfold DD at *;repeat (first | omega | exact Et (by omega) | refine Es ?_ ?_ | (simp;done))),(by show Bo ((AA v5'' 5).2);repeat (first | with_reducible assumption | exact Cn (DV hll _) | with_reducible refine Bc ?_ | with_reducible refine Ee ?_ | with_reducible refine Dp ?_ | with_reducible refine DG ?_  | with_reducible refine Cu ?_ ?_)),ax0,ax0⟩
      ·have g3:=oF h3
       refine BV<|BE ?_
       refine BE<|BW ?_
       refine Be<|AJ ?_
       refine rg ⟨[(0,Z5r l),(2,tP 2 0),(4,Z5v l),(5,tP 91 0),(6,tP 6 0),(7,Z5E l),(10,tI (W64 (v10+1)))],[(2,Z5s),(6,Z5J l v6_4),(31,Z6n v31_1' v31_3' v31_5'),(91,.cells (AD.c v5'') 117),(100000,Z5K v6_4),(100001,Z64 v31_1'),(100002,Z65 v31_3'),(100003,Z66 v31_5')]⟩ ?_
       (try rw [(show W64 (v10+1)=v10+1 from An (by omega) au6)])
       refine AJ ?_
       refine ⟨(n1,v31_1',v31_3',v31_5',v5'',v10+1),⟨?_,?_,(by rw [<- hF2];simp only [DN,h3,cond_true,cond_false])⟩,Nat.lt_succ_self _,BB kr⟩
       ·show ((W64 (1+(AA (AA (AD.mk (AX l 2) 0) 3).2 3).1))-(v10+1)).toNat<n1;omega
       ·exact ⟨(by show DD v31_1' (6*(v10+1));unfold DD at *;repeat (first | omega | exact Et (by omega) | refine Es ?_ ?_ | (simp;done))),(by show DD v31_3' (6*(v10+1));unfold DD at *;repeat (first | omega | exact Et (by omega) | refine Es ?_ ?_ | (simp;done))),(by show DD v31_5' (6*(v10+1));unfold DD at *;repeat (first | omega | exact Et (by omega) | refine Es ?_ ?_ | (simp;done))),(by show Bo v5'';repeat (first | with_reducible assumption | exact Cn (DV hll _) | with_reducible refine Bc ?_ | with_reducible refine Ee ?_ | with_reducible refine Dp ?_ | with_reducible refine DG ?_  | with_reducible refine Cu ?_ ?_)),ax0,ax0⟩
    ·have g2:=oF h2
     have k2:=SZ g2 (by decide) (by decide) (by decide) (by decide)
     refine BV<|BE ?_
     refine BE<|BW ?_
     refine AJ<|AC ?_
     refine Ba (Cv.trans (Dn (⟨[(0,Z5r l),(2,tP 2 0),(4,Z5v l),(5,tP 91 0),(6,tP 6 0),(7,Z5E l),(10,tI v10),(94,Z61 v10 l)],[(2,Z5s),(6,Z60 l v6_4),(31,Z6m v31_1 v31_3 v31_5),(HU v5'),(100001,Z5X v31_1),(100002,Z5Y v31_3),(100003,Z5Z v31_5)]⟩) 100000 7 v6_4.length (AP AE.c v6_4) 78 (K:=[]) (fun k x h=>by cases h) kr kr (.cons ⟨rfl,rfl⟩ .nil) kr) (Cv.refl _)) ?_
     refine Ba (Cv.trans (Dn (⟨[(0,Z5r l),(2,tP 2 0),(4,Z5v l),(5,tP 91 0),(6,tP 6 0),(7,Z5E l),(10,tI v10),(94,Z61 v10 l)],[(2,Z5s),(6,Z60 l v6_4),(31,.rowx 2 3 (fun _ _=>default) 120 [(0,[.s ({ data := #[78,49] }:ByteArray),lst 2 Aq.c v31_1]),(1,[.s ({ data := #[78,50] }:ByteArray),.own 100002 2 v31_3.length]),(2,[.s ({ data := #[71,78,68] }:ByteArray),.own 100003 2 v31_5.length])]),(HU v5'),(100002,Z5Y v31_3),(100003,Z5Z v31_5)]⟩) 100001 2 v31_1.length (AP Aq.c v31_1) 106 (K:=[]) (fun k x h=>by cases h) kr kr (.cons ⟨rfl,rfl⟩ .nil) kr) (Cv.trans (Dn (⟨[(0,Z5r l),(2,tP 2 0),(4,Z5v l),(5,tP 91 0),(6,tP 6 0),(7,Z5E l),(10,tI v10),(94,Z61 v10 l)],[(2,Z5s),(6,Z60 l v6_4),(31,.rowx 2 3 (fun _ _=>default) 120 [(0,[.s ({ data := #[78,49] }:ByteArray),lst 2 Aq.c v31_1]),(1,[.s ({ data := #[78,50] }:ByteArray),lst 2 Aq.c v31_3]),(2,[.s ({ data := #[71,78,68] }:ByteArray),.own 100003 2 v31_5.length])]),(HU v5'),(100003,Z5Z v31_5)]⟩) 100002 2 v31_3.length (AP Aq.c v31_3) 106 (K:=[]) (fun k x h=>by cases h) kr kr (.cons ⟨rfl,rfl⟩ .nil) kr) (Cv.trans (Dn (⟨[(0,Z5r l),(2,tP 2 0),(4,Z5v l),(5,tP 91 0),(6,tP 6 0),(7,Z5E l),(10,tI v10),(94,Z61 v10 l)],[(2,Z5s),(6,Z60 l v6_4),(31,.rowx 2 3 (fun _ _=>default) 120 [(0,[.s ({ data := #[78,49] }:ByteArray),lst 2 Aq.c v31_1]),(1,[.s ({ data := #[78,50] }:ByteArray),lst 2 Aq.c v31_3]),(2,[.s ({ data := #[71,78,68] }:ByteArray),lst 2 Aq.c v31_5])]),(HU v5')]⟩) 100003 2 v31_5.length (AP Aq.c v31_5) 106 (K:=[]) (fun k x h=>by cases h) kr kr (.cons ⟨rfl,rfl⟩ .nil) kr) (Cv.trans (cP (⟨[(0,Z5r l),(2,tP 2 0),(4,Z5v l),(5,tP 91 0),(6,tP 6 0),(7,Z5E l),(10,tI v10),(94,Z61 v10 l)],[(2,Z5s),(6,Z60 l v6_4),(31,.row 2 3 (Ay 2 3 [.s ({ data := #[78,49] }:ByteArray),lst 2 Aq.c v31_1,.s ({ data := #[78,50] }:ByteArray),lst 2 Aq.c v31_3,.s ({ data := #[71,78,68] }:ByteArray),lst 2 Aq.c v31_5]) 120),(HU v5')]⟩) 31 2 3 (fun _ _=>default) 120 [[.s ({ data := #[78,49] }:ByteArray),lst 2 Aq.c v31_1],[.s ({ data := #[78,50] }:ByteArray),lst 2 Aq.c v31_3],[.s ({ data := #[71,78,68] }:ByteArray),lst 2 Aq.c v31_5]] kr kr kr kr) (Cv.trans (BT (⟨[(0,Z5r l),(2,tP 2 0),(4,Z5v l),(5,tP 91 0),(6,tP 6 0),(7,Z5E l),(10,tI v10),(94,Z61 v10 l)],[(2,Z5s),(6,.cells [.i 2,.i (Z5B l).Kind,lst 7 AG.c (Z5B l).Edges,.i (Z5B l).R,lst 7 AE.c v6_4,.own 31 2 ([A1.mk ({ data := #[78,49] }:ByteArray) v31_1,A1.mk ({ data := #[78,50] }:ByteArray) v31_3,A1.mk ({ data := #[71,78,68] }:ByteArray) v31_5].length),vN,vN,vN,vN,vN,vN,vN,vN,vN] 41),(31,.row 2 ([A1.mk ({ data := #[78,49] }:ByteArray) v31_1,A1.mk ({ data := #[78,50] }:ByteArray) v31_3,A1.mk ({ data := #[71,78,68] }:ByteArray) v31_5].length) (AP A1.c [A1.mk ({ data := #[78,49] }:ByteArray) v31_1,A1.mk ({ data := #[78,50] }:ByteArray) v31_3,A1.mk ({ data := #[71,78,68] }:ByteArray) v31_5]) 120),(HU v5')]⟩) lr (.cons ⟨rfl,.refl _⟩ (.cons ⟨rfl,.cells _ (rr (rr (rr (rr (rr (.cons (.own _ _ au2) (rr (rr (rr (rr (rr (rr (rr (rr (rr .nil)))))))))))))))⟩ (.cons ⟨rfl,Ap 120 (Aw (c:=A1.c) (xs:=([A1.mk ({ data := #[78,49] }:ByteArray) v31_1,A1.mk ({ data := #[78,50] }:ByteArray) v31_3,A1.mk ({ data := #[71,78,68] }:ByteArray) v31_5]:List A1)) rfl kr)⟩ lr)))) (Cv.trans (Dn (⟨[(0,Z5r l),(2,tP 2 0),(4,Z5v l),(5,tP 91 0),(6,tP 6 0),(7,Z5E l),(10,tI v10),(94,Z61 v10 l)],[(2,Z5s),(6,.cells [.i 2,.i (Z5B l).Kind,lst 7 AG.c (Z5B l).Edges,.i (Z5B l).R,lst 7 AE.c v6_4,lst 2 A1.c [A1.mk ({ data := #[78,49] }:ByteArray) v31_1,A1.mk ({ data := #[78,50] }:ByteArray) v31_3,A1.mk ({ data := #[71,78,68] }:ByteArray) v31_5],vN,vN,vN,vN,vN,vN,vN,vN,vN] 41),(HU v5')]⟩) 31 2 ([A1.mk ({ data := #[78,49] }:ByteArray) v31_1,A1.mk ({ data := #[78,50] }:ByteArray) v31_3,A1.mk ({ data := #[71,78,68] }:ByteArray) v31_5].length) (AP A1.c [A1.mk ({ data := #[78,49] }:ByteArray) v31_1,A1.mk ({ data := #[78,50] }:ByteArray) v31_3,A1.mk ({ data := #[71,78,68] }:ByteArray) v31_5]) 120 (K:=[]) (fun k x h=>by cases h) kr kr (.cons ⟨rfl,rfl⟩ .nil) kr) (Cv.refl _))))))) ?_
     refine rc [(147,(Z6i l v6_4 v31_1 v31_3 v31_5))] [Ak (Z6i l v6_4 v31_1 v31_3 v31_5).2.1,BJ (.cells [.i 2,.i (Z5B l).Kind,lst 7 AG.c (Z5B l).Edges,.i (Z5B l).R,lst 7 AE.c v6_4,lst 2 A1.c [A1.mk ({ data := #[78,49] }:ByteArray) v31_1,A1.mk ({ data := #[78,50] }:ByteArray) v31_3,A1.mk ({ data := #[71,78,68] }:ByteArray) v31_5],vN,vN,vN,vN,vN,vN,vN,vN,vN] 41)] ⟨[(0,Z5r l),(2,tP 2 0),(4,Z5v l),(6,tP 6 0)],[(2,Z5s),(6,.cells (Wb l v6_4 v31_1 v31_3 v31_5) 41)]⟩ (.cons (Ae (fun _ _=>kr) kr kr (VW (AF.mk 2 (Z5B l) v6_4 [A1.mk ({ data := #[78,49] }:ByteArray) v31_1,A1.mk ({ data := #[78,50] }:ByteArray) v31_3,A1.mk ({ data := #[71,78,68] }:ByteArray) v31_5] [] [] [] [] [] [] [] [] []) [Z5t l,Z5u l] l au11 au11 au11 au11 au11 au11)) .nil) (.cons rfl (.cons rfl .nil))<|AJ<|AC ?_
     refine rc [(149,Cy l 7),(152,(Z6k l v6_4 v31_1 v31_3 v31_5))] [Ak (Cy l 7).2.1,Ak (Z6k l v6_4 v31_1 v31_3 v31_5).2.1,dS [.cells (Wb l v6_4 v31_1 v31_3 v31_5) 41,.cells [lst 1 (fun x=>[.i x]) (AX l 7),.i 0] 117]] ⟨[(2,tP 2 0),(4,Z5v l),(6,tP 6 0)],[(2,Z5s),(6,.cells (AF.c (Z6j l v6_4 v31_1 v31_3 v31_5).1) 41)]⟩ (.cons (Fz l 7 au11) (.cons (WJ (fun _ _=>kr) kr rfl rfl kr kr (Z3 (AF.mk (Z6h l v6_4 v31_1 v31_3 v31_5).Layers (Z6h l v6_4 v31_1 v31_3 v31_5).Outline (Z6h l v6_4 v31_1 v31_3 v31_5).Parts (Z6h l v6_4 v31_1 v31_3 v31_5).Nets (Z6h l v6_4 v31_1 v31_3 v31_5).Tracks (Z6h l v6_4 v31_1 v31_3 v31_5).Vias (Z6h l v6_4 v31_1 v31_3 v31_5).Pours (Z6h l v6_4 v31_1 v31_3 v31_5).Keeps (Z6h l v6_4 v31_1 v31_3 v31_5).Slots [] [] [] []) (AD.mk (AX l 7) 0) au7 au11 au11 au11 au11 au11 au11 au11)) .nil)) (.cons rfl (.cons rfl (.cons rfl .nil)))<|AJ<|AC ?_
     refine rn ⟨[(2,tP 2 0),(3,Z5v l)],[(2,.cells (AF.c (Z6j l v6_4 v31_1 v31_3 v31_5).1) 41)]⟩<|Ag ?_
     exact ⟨_,Cv.refl _,.inl rfl,.tup [.agg (AF.c (Z6j l v6_4 v31_1 v31_3 v31_5).1),.one (lst 3 AM.c [Z5t l,Z5u l])],by kernel_rfl,Al (by rw [<- hF1];first | (simp only [C1,h2,cond_true,cond_false] <;> rfl))⟩
theorem aM (l:(List (List Int))) (hl:(l.length:Int)<=9223372036854775807) (hll:∀ x∈l,(x.length:Int)<=9223372036854775807):Az Tryz.prog (KC l).1 (KC l).2.1 (KC l).2.2:=AW (fun _ _=>kr) fun _=>fY l hl hll
end
section
open Go.RowKit
abbrev nN1:ByteArray:={ data := #[78,49] }
abbrev nN2:ByteArray:={ data := #[78,50] }
abbrev iD:ByteArray:={ data := #[71,78,68] }
structure I8 (B:AF):Prop where
 lay:B.Layers=2
 par:1<=(B.Parts.length:Int)/\(B.Parts.length:Int)<=3
 net:∃ p q r,B.Nets=[A1.mk nN1 p,A1.mk nN2 q,A1.mk iD r]
 trk:(B.Tracks.length:Int)<=6
 edg:∀ t∈B.Tracks,(t.Shape.Edges.length:Int)<=2
 via:(B.Vias.length:Int)<=3
 pou:(B.Pours.length:Int)<=3
 kee:(B.Keeps.length:Int)<=1
 slo:(B.Slots.length:Int)<=1
theorem rY {α:Type} {c:Bool} {a b:AF×α} (h:I8 a.1) (k:I8 b.1):I8 (bif c then a else b).1:=by cases c <;> assumption
theorem fA {b:AF} {d:AD} (h:I8 b):I8 (DZ b d).1:=by
 unfold DZ
 obtain ⟨h1,h2,h3,h4,h5,h6,h7,h8,h9⟩:=h
 exact rY ⟨h1,h2,h3,h4,h5,h6,h7,h8,h9⟩ ⟨h1,h2,h3,h4,h5,h6,h7,h8,h9⟩
theorem rV {b:AF} {types:List AM} {l:List (List Int)} {x y z w:List Unit} (h1:b.Layers=2) (h2:1<=(b.Parts.length:Int)/\(b.Parts.length:Int)<=3) (h3:∃ p q r,b.Nets=[A1.mk nN1 p,A1.mk nN2 q,A1.mk iD r]) {c:List B8} {ru:List BC} {wa:List B4} {ma:List Dw} :
  I8 (AF.mk (BN b types l).Layers (BN b types l).Outline (BN b types l).Parts (BN b types l).Nets (BN b types l).Tracks (BN b types l).Vias (BN b types l).Pours (BN b types l).Keeps (BN b types l).Slots c ru wa ma):=by
 obtain ⟨k1,k2,k3,k4,k5,k6,k7,k8,k9,k10⟩:=HB b types l
 exact ⟨k1.trans h1,by show 1<=((BN b types l).Parts.length:Int)/\((BN b types l).Parts.length:Int)<=3;rw [k3];exact h2,by rw [<- k4] at h3;exact h3,k5,k6,k7,k8,k9,k10⟩
theorem W9 (l:List (List Int)) (v6_4:List AE) (v5:AD) (v8:Int) (a1 a3 a5:List Aq) (d1:AD) (v10:Int) (K0:List AE->AD->Int->(AF×(List AM))) (K1:List Aq->List Aq->List Aq->AD->Int->(AF×(List AM))) (hK:∀ a b c d,I8 (K1 a b c d (v10+1)).1):∀ (n:Nat) (x y z:List Aq) (d:AD) (k:Int),0<=k->(((Bn [A5 (AX l 0) ({ data := #[82] }:ByteArray),A5 (AX l 1) ({ data := #[81] }:ByteArray)] (v6_4.getD v10.toNat default).Type').1.Pads.length:Int)-k).toNat<n->I8 (DN l v6_4 v5 v8 a1 a3 a5 d1 v10 K0 K1 n x y z d k).1
 | 0,x,y,z,d,k,_,h=>absurd h (Nat.not_lt_zero _)
 | n+1,x,y,z,d,k,k0,h=>by
  unfold DN
  show I8 (bif decide ((k:Int)<((Bn [A5 (AX l 0) ({ data := #[82] }:ByteArray),A5 (AX l 1) ({ data := #[81] }:ByteArray)] (v6_4.getD v10.toNat default).Type').1.Pads.length:Int)) then (_:AF×List AM) else _).1
  by_cases hc:(k:Int)<((Bn [A5 (AX l 0) ({ data := #[82] }:ByteArray),A5 (AX l 1) ({ data := #[81] }:ByteArray)] (v6_4.getD v10.toNat default).Type').1.Pads.length:Int)
  ·rw [decide_eq_true hc]
   exact W9 l v6_4 v5 v8 a1 a3 a5 d1 v10 K0 K1 hK n _ _ _ _ _ (by omega) (by omega)
  ·rw [decide_eq_false hc]
   exact hK _ _ _ _
theorem XC (l:List (List Int)) (v6_4:List AE) (v5:AD) (v8:Int) (K0:List AE->AD->Int->(AF×(List AM))) (hp:1<=(v6_4.length:Int)/\(v6_4.length:Int)<=3):∀ (n:Nat) (x y z:List Aq) (d:AD) (k:Int),0<=k->(W64 (1+(AA (AA (AD.mk (AX l 2) 0) 3).2 3).1)-k).toNat<n->I8 (C1 l v6_4 v5 v8 K0 n x y z d k).1
 | 0,x,y,z,d,k,_,h=>absurd h (Nat.not_lt_zero _)
 | n+1,x,y,z,d,k,k0,h=>by
  unfold C1
  by_cases hc:k<W64 (1+(AA (AA (AD.mk (AX l 2) 0) 3).2 3).1)
  ·simp only [hc,decide_true,cond_true]
   exact W9 l v6_4 v5 v8 x y z d k K0 _ (fun a b c e=>XC l v6_4 v5 v8 K0 hp n a b c e (k+1) (by omega) (by omega)) _ _ _ _ _ 0 (by omega) (Nat.lt_succ_self _)
  ·simp only [hc,decide_false,cond_false]
   exact fA (rV (x:=[]) (y:=[]) (z:=[]) (w:=[]) rfl hp ⟨_,_,_,rfl⟩)
theorem XD (l:List (List Int)):∀ (n:Nat) (v:List AE) (d:AD) (k:Int),0<=k->(v.length:Int)=k->k<=W64 (1+(AA (AA (AD.mk (AX l 2) 0) 3).2 3).1)->(W64 (1+(AA (AA (AD.mk (AX l 2) 0) 3).2 3).1)-k).toNat<n->I8 (CU l n v d k).1
 | 0,v,d,k,_,_,_,h=>absurd h (Nat.not_lt_zero _)
 | n+1,v,d,k,k0,kv,k1,h=>by
  have hmany:1<=W64 (1+(AA (AA (AD.mk (AX l 2) 0) 3).2 3).1)/\W64 (1+(AA (AA (AD.mk (AX l 2) 0) 3).2 3).1)<=3:=by
   have:=C7 (AA (AD.mk (AX l 2) 0) 3).2 3 (by decide) (by decide)
   rw [An (by omega) (by omega)];omega
  unfold CU
  by_cases hc:k<W64 (1+(AA (AA (AD.mk (AX l 2) 0) 3).2 3).1)
  ·simp only [hc,decide_true,cond_true]
   exact XD l n _ _ _ (by omega) (by simp only [List.length_append,List.length_cons,List.length_nil];omega) (by omega) (by omega)
  ·simp only [hc,decide_false,cond_false]
   exact XC l v d k _ (by omega) _ _ _ _ _ 0 (by omega) (Nat.lt_succ_self _)
theorem sB (l:List (List Int)):I8 (Ao l).1:=by
 have hmany:1<=W64 (1+(AA (AA (AD.mk (AX l 2) 0) 3).2 3).1):=by
  have:=C7 (AA (AD.mk (AX l 2) 0) 3).2 3 (by decide) (by decide)
  rw [An (by omega) (by omega)];omega
 unfold Ao
 exact XD l _ _ _ 0 (by omega) rfl (by omega) (Nat.lt_succ_self _)
end
section
open Go.RowKit
theorem Xv (r:Ad):(Fk r).Edges.length=4:=rfl
theorem Yb (p:AB) (r:Int):(NK p r).Edges.length=1:=rfl
def NG (n:Nat) (l:List A4):Prop:=l.length<=n/\∀ g∈l,LE g
theorem V3 {n:Nat} {c:Bool} {a b:List A4} (ha:NG n a) (hb:NG n b):NG n (bif c then a else b):=by cases c <;> assumption
theorem V2 {n:Nat}:NG n []:=⟨Nat.zero_le _,fun g hg=>by cases hg⟩
theorem SX {n:Nat} {g:A4} {l:List A4} (hg:LE g) (h:NG n l):NG (n+1) (g::l):=⟨Nat.succ_le_succ h.1,fun x hx=>(List.mem_cons.1 hx).elim (fun e=>e▸hg) (h.2 x)⟩
theorem sL {n:Nat} {g:A4} {l:List A4} (hg:LE g) (h:NG n l):NG (n+1) (l++[g]):=⟨by rw [List.length_append];exact Nat.succ_le_succ h.1,fun x hx=>(List.mem_append.1 hx).elim (h.2 x) (fun e=>by rw [List.mem_singleton.1 e];exact hg)⟩
theorem XU {k:Int} {a c:Br}:LE (A4.mk k [a,c]):=(by decide:((2:Nat):Int)<=1000000)
theorem gs_up {n m:Nat} {l:List A4} (h:NG n l) (k:n<=m):NG m l:=⟨Nat.le_trans h.1 k,h.2⟩
theorem YP (l:List Int) (d:AD):NG 3 (Z4S l d):=by
 have h1:NG 2 (Z4E l d):=V3 (SX XU V2) V2
 have h2:NG 2 (Z4M l d):=V3 (SX XU (SX XU V2)) h1
 exact V3 (sL XU h2) (gs_up h2 (by decide))
theorem SO (d:AD) (k:Int):((Z4u d k).length:Int)<=1000000:=by
 unfold Z4u Z4p Z4s
 cases decide ((AA (AA d 2).2 3).1=0) with
 | true=>rw [cond_true,Xv];decide
 | false =>
  rw [cond_false]
  cases decide ((AA (AA d 2).2 3).1=1) with
  | true=>rw [cond_true,Yb];decide
  | false=>exact (by decide:((1:Nat):Int)<=1000000)
theorem QT (l:List Int) (name:ByteArray):∀ (n:Nat) (v:List BF) (d:AD) (k:Int),(∀ p∈v,UY p)->(v.length:Int)<=1000000->((v.length:Int)+(W64 (2+(AA (AD.mk l 0) 5).1)-k)<=1000000)->((W64 (2+(AA (AD.mk l 0) 5).1))-k).toNat<n ->
  LA (C2 l name n v d k)
 | 0,v,d,k,_,_,_,h=>absurd h (Nat.not_lt_zero _)
 | n+1,v,d,k,hv,h0,h1,h2=>by
  unfold C2
  by_cases h:k<W64 (2+(AA (AD.mk l 0) 5).1)
  ·rw [decide_eq_true h,cond_true]
   refine QT l name n _ _ (k+1) (fun p hp => ?_) (by simp only [List.length_append,List.length_cons,List.length_nil];omega) (by simp only [List.length_append,List.length_cons,List.length_nil];omega) (by omega)
   rcases List.mem_append.1 hp with hp | hp
   ·exact hv p hp
   ·rw [List.mem_singleton.1 hp]
    exact SO d k
  ·rw [decide_eq_false h,cond_false]
   have hg:=YP l d
   exact ⟨h0,by have:=hg.1;show ((Z4S l d).length:Int)<=1000000;omega,hv,hg.2⟩
theorem Tw (l:List Int) (name:ByteArray):LA (A5 l name):=by
 have hn:=C7 (AD.mk l 0) 5 (by decide) (by decide)
 have hw:W64 (2+(AA (AD.mk l 0) 5).1)=2+(AA (AD.mk l 0) 5).1:=An (by omega) (by omega)
 unfold A5
 exact QT l name _ [] _ 0 (fun p hp=>by cases hp) (by decide) (by simp only [List.length_nil];omega) (by omega)
theorem W6 (l:List (List Int)) (v6_4:List AE) (v5:AD) (v8:Int) (a1 a3 a5:List Aq) (d1:AD) (v10:Int) (K0:List AE->AD->Int->(AF×(List AM))) (K1:List Aq->List Aq->List Aq->AD->Int->(AF×(List AM))) (hK:∀ a b c d,Ck (K1 a b c d (v10+1)).2):∀ (n:Nat) (x y z:List Aq) (d:AD) (k:Int),0<=k->(((Bn [A5 (AX l 0) ({ data := #[82] }:ByteArray),A5 (AX l 1) ({ data := #[81] }:ByteArray)] (v6_4.getD v10.toNat default).Type').1.Pads.length:Int)-k).toNat<n->Ck (DN l v6_4 v5 v8 a1 a3 a5 d1 v10 K0 K1 n x y z d k).2
 | 0,x,y,z,d,k,_,h=>absurd h (Nat.not_lt_zero _)
 | n+1,x,y,z,d,k,k0,h=>by
  unfold DN
  show Ck (bif decide ((k:Int)<((Bn [A5 (AX l 0) ({ data := #[82] }:ByteArray),A5 (AX l 1) ({ data := #[81] }:ByteArray)] (v6_4.getD v10.toNat default).Type').1.Pads.length:Int)) then (_:AF×List AM) else _).2
  by_cases hc:(k:Int)<((Bn [A5 (AX l 0) ({ data := #[82] }:ByteArray),A5 (AX l 1) ({ data := #[81] }:ByteArray)] (v6_4.getD v10.toNat default).Type').1.Pads.length:Int)
  ·rw [decide_eq_true hc]
   exact W6 l v6_4 v5 v8 a1 a3 a5 d1 v10 K0 K1 hK n _ _ _ _ _ (by omega) (by omega)
  ·rw [decide_eq_false hc]
   exact hK _ _ _ _
theorem qI (a c:List Int) (x y:ByteArray):Ck [A5 a x,A5 c y]:=by
 refine ⟨(by decide:((2:Nat):Int)<=1000000),fun t ht => ?_⟩
 simp only [List.mem_cons,List.not_mem_nil,or_false] at ht
 rcases ht with rfl | rfl <;> exact Tw _ _
theorem W7 (l:List (List Int)) (v6_4:List AE) (v5:AD) (v8:Int) (K0:List AE->AD->Int->(AF×(List AM))):∀ (n:Nat) (x y z:List Aq) (d:AD) (k:Int),0<=k->(W64 (1+(AA (AA (AD.mk (AX l 2) 0) 3).2 3).1)-k).toNat<n->Ck (C1 l v6_4 v5 v8 K0 n x y z d k).2
 | 0,x,y,z,d,k,_,h=>absurd h (Nat.not_lt_zero _)
 | n+1,x,y,z,d,k,k0,h=>by
  unfold C1
  by_cases hc:k<W64 (1+(AA (AA (AD.mk (AX l 2) 0) 3).2 3).1)
  ·simp only [hc,decide_true,cond_true]
   exact W6 l v6_4 v5 v8 x y z d k K0 _ (fun a b c e=>W7 l v6_4 v5 v8 K0 n a b c e (k+1) (by omega) (by omega)) _ _ _ _ _ 0 (by omega) (Nat.lt_succ_self _)
  ·simp only [hc,decide_false,cond_false]
   exact qI _ _ _ _
theorem W8 (l:List (List Int)):∀ (n:Nat) (v:List AE) (d:AD) (k:Int),0<=k->(W64 (1+(AA (AA (AD.mk (AX l 2) 0) 3).2 3).1)-k).toNat<n->Ck (CU l n v d k).2
 | 0,v,d,k,_,h=>absurd h (Nat.not_lt_zero _)
 | n+1,v,d,k,k0,h=>by
  unfold CU
  by_cases hc:k<W64 (1+(AA (AA (AD.mk (AX l 2) 0) 3).2 3).1)
  ·simp only [hc,decide_true,cond_true]
   exact W8 l n _ _ _ (by omega) (by omega)
  ·simp only [hc,decide_false,cond_false]
   exact W7 l v d k _ _ _ _ _ _ 0 (by omega) (Nat.lt_succ_self _)
theorem PA (l:List (List Int)):Ck (Ao l).2:=by
 unfold Ao
 exact W8 l _ _ _ 0 (by omega) (Nat.lt_succ_self _)
end
section
open Go.RowKit
def Ix {α:Type} [Inhabited α] (P:Nat->α->Prop) (v:List α):Prop:=∀ k,k<v.length->P k (v.getD k default)
theorem ST {α:Type} [Inhabited α] {P:Nat->α->Prop}:Ix P ([]:List α):=fun k h=>absurd h (Nat.not_lt_zero _)
theorem SU {α:Type} [Inhabited α] {P:Nat->α->Prop} {v:List α} {x:α} (h:Ix P v) (hx:P v.length x):Ix P (v++[x]):=by
 intro k hk
 by_cases h1:k<v.length
 ·rw [List.getD_eq_getElem?_getD,List.getElem?_append_left h1,<- List.getD_eq_getElem?_getD];exact h k h1
 ·have e:k=v.length:=by simp only [List.length_append,List.length_cons,List.length_nil] at hk;omega
  subst e
  rw [List.getD_eq_getElem?_getD,List.getElem?_append_right (Nat.le_refl _),Nat.sub_self];exact hx
theorem Ji {α:Type} [Inhabited α] {P:Nat->α->Prop} {v:List α} {x:α} (h:Ix P v) (hx:x∈v):∃ k,k<v.length/\v.getD k default=x/\P k x:=by
 obtain ⟨k,hk,e⟩:=List.getElem_of_mem hx
 have e2:v.getD k default=x:=by rw [List.getD_eq_getElem?_getD,List.getElem?_eq_getElem hk];exact e
 exact ⟨k,hk,e2,e2▸h k hk⟩
structure Yp (k:Nat) (p:BF):Prop where
 lt:k<6
 name:p.Name=Ah k
 drill:0<=p.Drill/\p.Drill<=6
 shp:∃ y:Int,0<=y/\y<=10/\p.At=AB.mk (30*(k:Int)) y/\(p.Shape=Fk (Ad.mk (30*(k:Int)-6) (y-6) (30*(k:Int)+6) (y+6))\/(∃ r:Int,4<=r/\r<=6/\p.Shape=NK (AB.mk (30*(k:Int)) y) r)\/p.Shape=AQ.mk 1 [AG.mk 1 (AB.mk (30*(k:Int)-2) y) (AB.mk (30*(k:Int)+2) y) (AB.mk 0 0)] 4)
theorem CI {d:AD} {n:Int} (h0:0<n) (h1:n<=1000000):0<=(AA d n).1/\(AA d n).1<n:=C7 d n h0 (by omega)
theorem QV (l:List Int) (name:ByteArray):∀ (n:Nat) (v:List BF) (d:AD) (k:Int),Ix Yp v->(v.length:Int)=k->k<=W64 (2+(AA (AD.mk l 0) 5).1)->(W64 (2+(AA (AD.mk l 0) 5).1)-k).toNat<n->Ix Yp (C2 l name n v d k).Pads
 | 0,v,d,k,_,_,_,h=>absurd h (Nat.not_lt_zero _)
 | n+1,v,d,k,hv,hl,hk,h=>by
  have hn:=CI (d:=AD.mk l 0) (n:=5) (by decide) (by decide)
  have hw:W64 (2+(AA (AD.mk l 0) 5).1)=2+(AA (AD.mk l 0) 5).1:=An (by omega) (by omega)
  unfold C2
  by_cases hc:k<W64 (2+(AA (AD.mk l 0) 5).1)
  ·rw [decide_eq_true hc,cond_true]
   refine QV l name n _ _ _ (SU hv ?_) (by simp only [List.length_append,List.length_cons,List.length_nil];omega) (by omega) (by omega)
   have hk6:v.length<6:=by omega
   have hy:=CI (d:=d) (n:=2) (by decide) (by decide)
   have hr:=CI (d:=(AA (AA d 2).2 3).2) (n:=3) (by decide) (by decide)
   have h4:=CI (d:=Z4t d) (n:=4) (by decide) (by decide)
   have h2:=CI (d:=(AA (Z4t d) 4).2) (n:=2) (by decide) (by decide)
   have e1:W64 (30*k)=30*(v.length:Int):=by rw [An (by omega) (by omega)];omega
   have e2:W64 (10*(AA d 2).1)=10*(AA d 2).1:=An (by omega) (by omega)
   refine ⟨hk6,by rw [<- hl],?_,10*(AA d 2).1,by omega,by omega,by show AB.mk _ _=_;rw [e1,e2],?_⟩
   ·show 0<=W64 (W64 (2*(AA (Z4t d) 4).1)*(AA (AA (Z4t d) 4).2 2).1)/\W64 (W64 (2*(AA (Z4t d) 4).1)*(AA (AA (Z4t d) 4).2 2).1)<=6
    rw [An (x:=2*(AA (Z4t d) 4).1) (by omega) (by omega)]
    have h01:(AA (AA (Z4t d) 4).2 2).1=0\/(AA (AA (Z4t d) 4).2 2).1=1:=by omega
    rcases h01 with h01 | h01 <;> rw [h01] <;> rw [An (by omega) (by omega)] <;> omega
   ·show (AQ.mk _ (Z4u d k) _=_)\/_
    unfold Z4u Z4p Z4s
    rw [e1,e2]
    cases decide ((AA (AA d 2).2 3).1=0) with
    | true =>
     simp only [cond_true]
     left
     rw [An (x:=30*(v.length:Int)-6) (by omega) (by omega),An (x:=10*(AA d 2).1-6) (by omega) (by omega),An (x:=30*(v.length:Int)+6) (by omega) (by omega),An (x:=10*(AA d 2).1+6) (by omega) (by omega)]
    | false =>
     simp only [cond_false]
     right
     cases decide ((AA (AA d 2).2 3).1=1) with
     | true =>
      simp only [cond_true]
      left
      exact ⟨W64 (4+(AA (AA (AA d 2).2 3).2 3).1),by rw [An (by omega) (by omega)];omega,by rw [An (by omega) (by omega)];omega,rfl⟩
     | false =>
      simp only [cond_false]
      right
      rw [An (x:=30*(v.length:Int)-2) (by omega) (by omega),An (x:=30*(v.length:Int)+2) (by omega) (by omega)]
  ·rw [decide_eq_false hc,cond_false]
   exact hv
theorem Je (l:List Int) (name:ByteArray):Ix Yp (A5 l name).Pads:=by
 have hn:=CI (d:=AD.mk l 0) (n:=5) (by decide) (by decide)
 have hw:W64 (2+(AA (AD.mk l 0) 5).1)=2+(AA (AD.mk l 0) 5).1:=An (by omega) (by omega)
 unfold A5
 exact QV l name _ [] _ 0 ST rfl (by omega) (by omega)
abbrev nR:ByteArray:={ data := #[82] }
abbrev nQ:ByteArray:={ data := #[81] }
abbrev refs3:List ByteArray:=[({ data := #[82,49] }:ByteArray),({ data := #[82,50] }:ByteArray),({ data := #[120,47,82,49] }:ByteArray)]
structure Pm (k:Nat) (p:AE):Prop where
 id:p.Id=1+(k:Int)
 ref:p.Ref=refs3.getD k ⟨#[]⟩
 typ:p.Type'=nR\/p.Type'=nQ
 turn:0<=p.Turn/\p.Turn<4
 x:80<=p.At.X/\p.At.X<=300
 y:100<=p.At.Y/\p.At.Y<=270
abbrev Kq (l:List (List Int)):List AM:=[Z5t l,Z5u l]
theorem Xm (l:List (List Int)) {i:Int} (hi:0<=i/\i<2):((Kq l).getD i.toNat default).Name=nR\/((Kq l).getD i.toNat default).Name=nQ:=by
 have h01:i=0\/i=1:=by omega
 rcases h01 with rfl | rfl
 ·exact .inl (FZ _ _).1
 ·exact .inr (FZ _ _).1
theorem Of (l:List (List Int)) {x:ByteArray} (h:x=nR\/x=nQ):∃ a,Bn (Kq l) x=(A5 a x,true)/\A5 a x∈Kq l:=by
 have h0:=(FZ (AX l 0) nR).1
 have h1:=(FZ (AX l 1) nQ).1
 rcases h with rfl | rfl
 ·refine ⟨AX l 0,?_,List.mem_cons_self ..⟩
  have:=Qf (a:=Z5t l) (c:=Z5u l)
  rw [show (Z5t l).Name=nR from h0] at this
  exact this
 ·refine ⟨AX l 1,?_,List.mem_cons_of_mem _ (List.mem_cons_self ..)⟩
  have:=Qe (a:=Z5t l) (c:=Z5u l) (by rw [show (Z5t l).Name=nR from h0,show (Z5u l).Name=nQ from h1];decide +kernel)
  rw [show (Z5u l).Name=nQ from h1] at this
  exact this
theorem bW (l:List (List Int)) {x:ByteArray} (h:x=nR\/x=nQ):((Bn (Kq l) x).1.Pads.length:Int)<=6:=by
 obtain ⟨a,e,_⟩:=Of l h
 rw [e]
 exact (FZ a x).2.2
theorem Ov (v5'':AD) (v:List Aq) (v6_4:List AE) (v10:Int) (l:List (List Int)) (v13:Int):(Z6b v5'' v v6_4 v10 l v13).length<=v.length+1/\(Z6c v5'' v v6_4 v10 l v13).length<=v.length+1/\(Z6d v5'' v v6_4 v10 l v13).length<=v.length+1:=by
 unfold Z6b Z6c Z6d
 cases decide ((AA v5'' 5).1<3) <;> cases decide ((AA v5'' 5).1=0) <;> cases decide ((AA v5'' 5).1=1) <;> simp
theorem XE (l:List (List Int)) (v6_4:List AE) (v5:AD) (v8:Int) (a1 a3 a5:List Aq) (d1:AD) (v10:Int) (K0:List AE->AD->Int->(AF×(List AM))) (K1:List Aq->List Aq->List Aq->AD->Int->(AF×(List AM))) (Q:AF×List AM->Prop) (M:Nat) (hK:∀ a b c d,a.length<=M->b.length<=M->c.length<=M->Q (K1 a b c d (v10+1))) :
  ∀ (n:Nat) (x y z:List Aq) (d:AD) (k:Int),0<=k->(x.length:Int)+((Z62 l v6_4 v10).Pads.length-k)<=M->(y.length:Int)+((Z62 l v6_4 v10).Pads.length-k)<=M->(z.length:Int)+((Z62 l v6_4 v10).Pads.length-k)<=M->k<=(Z62 l v6_4 v10).Pads.length->(((Z62 l v6_4 v10).Pads.length:Int)-k).toNat<n->Q (DN l v6_4 v5 v8 a1 a3 a5 d1 v10 K0 K1 n x y z d k)
 | 0,x,y,z,d,k,_,_,_,_,_,h=>absurd h (Nat.not_lt_zero _)
 | n+1,x,y,z,d,k,k0,hx,hy,hz,hk,h=>by
  unfold DN
  by_cases hc:(k:Int)<((Z62 l v6_4 v10).Pads.length:Int)
  ·rw [decide_eq_true hc,cond_true]
   have p1:=(Ov d x v6_4 v10 l k).1
   have p2:=(Ov d y v6_4 v10 l k).2.1
   have p3:=(Ov d z v6_4 v10 l k).2.2
   exact XE l v6_4 v5 v8 a1 a3 a5 d1 v10 K0 K1 Q M hK n _ _ _ _ _ (by omega) (by omega) (by omega) (by omega) (by omega) (by omega)
  ·rw [decide_eq_false hc,cond_false]
   exact hK _ _ _ _ (by omega) (by omega) (by omega)
theorem XG (l:List (List Int)) (v6_4:List AE) (v5:AD) (v8:Int) (K0:List AE->AD->Int->(AF×(List AM))) (Q:AF×List AM->Prop) (hp:Ix Pm v6_4) (hm:(v6_4.length:Int)=W64 (1+(AA (AA (AD.mk (AX l 2) 0) 3).2 3).1)) (h3:v6_4.length<=3) (hQ:∀ x y z:List Aq,x.length<=18->y.length<=18->z.length<=18->Q ((Z6j l v6_4 x y z).1,Kq l)) :
  ∀ (n:Nat) (x y z:List Aq) (d:AD) (k:Int),0<=k->(x.length:Int)<=6*k->(y.length:Int)<=6*k->(z.length:Int)<=6*k->k<=(v6_4.length:Int)->((v6_4.length:Int)-k).toNat<n->Q (C1 l v6_4 v5 v8 K0 n x y z d k)
 | 0,x,y,z,d,k,_,_,_,_,_,h=>absurd h (Nat.not_lt_zero _)
 | n+1,x,y,z,d,k,k0,hx,hy,hz,hk,h=>by
  unfold C1
  rw [<- hm]
  by_cases hc:k<(v6_4.length:Int)
  ·rw [decide_eq_true hc,cond_true]
   have hg:=bW l (hp k.toNat (by omega)).typ
   have hg:((Z62 l v6_4 k).Pads.length:Int)<=6:=hg
   exact XE l v6_4 v5 v8 x y z d k K0 _ Q (6*(k+1)).toNat (fun a b c e ha hb hc'=>XG l v6_4 v5 v8 K0 Q hp hm h3 hQ n a b c e (k+1) (by omega) (by omega) (by omega) (by omega) (by omega) (by omega)) _ _ _ _ _ 0 (by omega) (by omega) (by omega) (by omega) (by omega) (by omega)
  ·rw [decide_eq_false hc,cond_false]
   exact hQ _ _ _ (by omega) (by omega) (by omega)
theorem XH (l:List (List Int)) (Q:AF×List AM->Prop) (hQ:∀ (v:List AE) (x y z:List Aq),Ix Pm v->1<=v.length->v.length<=3->x.length<=18->y.length<=18->z.length<=18->Q ((Z6j l v x y z).1,Kq l)) :
  ∀ (n:Nat) (v:List AE) (d:AD) (k:Int),Ix Pm v->(v.length:Int)=k->k<=W64 (1+(AA (AA (AD.mk (AX l 2) 0) 3).2 3).1)->(W64 (1+(AA (AA (AD.mk (AX l 2) 0) 3).2 3).1)-k).toNat<n->Q (CU l n v d k)
 | 0,v,d,k,_,_,_,h=>absurd h (Nat.not_lt_zero _)
 | n+1,v,d,k,hv,hl,hk,h=>by
  have hn:=CI (d:=(AA (AD.mk (AX l 2) 0) 3).2) (n:=3) (by decide) (by decide)
  have hw:W64 (1+(AA (AA (AD.mk (AX l 2) 0) 3).2 3).1)=1+(AA (AA (AD.mk (AX l 2) 0) 3).2 3).1:=An (by omega) (by omega)
  unfold CU
  by_cases hc:k<W64 (1+(AA (AA (AD.mk (AX l 2) 0) 3).2 3).1)
  ·rw [decide_eq_true hc,cond_true]
   refine XH l Q hQ n _ _ _ (SU hv ?_) (by simp only [List.length_append,List.length_cons,List.length_nil];omega) (by omega) (by omega)
   have h2:=CI (d:=d) (n:=2) (by decide) (by decide)
   have h4:=CI (d:=(AA d 2).2) (n:=4) (by decide) (by decide)
   have h5:=CI (d:=Z5O d) (n:=5) (by decide) (by decide)
   have h6:=CI (d:=(AA (Z5O d) 5).2) (n:=3) (by decide) (by decide)
   have h7:=CI (d:=Z5R d) (n:=3) (by decide) (by decide)
   refine ⟨?_,by rw [<- hl];rfl,Xm l h2,h4,?_,?_⟩
   ·show W64 (1+k)=_
    rw [An (by omega) (by omega)];omega
   ·show 80<=W64 (W64 (80+W64 (100*k))+W64 (5*(AA (Z5O d) 5).1))/\W64 (W64 (80+W64 (100*k))+W64 (5*(AA (Z5O d) 5).1))<=300
    rw [An (x:=100*k) (by omega) (by omega),An (x:=80+100*k) (by omega) (by omega),An (x:=5*(AA (Z5O d) 5).1) (by omega) (by omega),An (by omega) (by omega)]
    omega
   ·show 100<=W64 (W64 (100+W64 (80*(AA (AA (Z5O d) 5).2 3).1))+W64 (5*(AA (Z5R d) 3).1))/\W64 (W64 (100+W64 (80*(AA (AA (Z5O d) 5).2 3).1))+W64 (5*(AA (Z5R d) 3).1))<=270
    rw [An (x:=80*(AA (AA (Z5O d) 5).2 3).1) (by omega) (by omega),An (x:=100+80*(AA (AA (Z5O d) 5).2 3).1) (by omega) (by omega),An (x:=5*(AA (Z5R d) 3).1) (by omega) (by omega),An (by omega) (by omega)]
    omega
  ·rw [decide_eq_false hc,cond_false]
   exact XG l v d k _ Q hv (by omega) (by omega) (fun x y z hx hy hz=>hQ v x y z hv (by omega) (by omega) hx hy hz) _ [] [] [] _ 0 (by omega) (by simp) (by simp) (by simp) (by omega) (by omega)
theorem bA (l:List (List Int)) (Q:AF×List AM->Prop) (hQ:∀ (v:List AE) (x y z:List Aq),Ix Pm v->1<=v.length->v.length<=3->x.length<=18->y.length<=18->z.length<=18->Q ((Z6j l v x y z).1,Kq l)):Q (Ao l):=by
 have hn:=CI (d:=(AA (AD.mk (AX l 2) 0) 3).2) (n:=3) (by decide) (by decide)
 have hw:W64 (1+(AA (AA (AD.mk (AX l 2) 0) 3).2 3).1)=1+(AA (AA (AD.mk (AX l 2) 0) 3).2 3).1:=An (by omega) (by omega)
 unfold Ao
 exact XH l Q hQ _ [] _ 0 ST rfl (by omega) (by omega)
end
section
open Go.RowKit
def PtB (p:AB):Prop:=(-900<=p.X/\p.X<=900) /\ -900<=p.Y/\p.Y<=900
theorem O6 {x:Int} (h : -500<=x/\x<=500) : -500<=W64 (0-x)/\W64 (0-x)<=500:=by rw [An (by omega) (by omega)];omega
theorem dR {x y:Int} (h : -500<=x/\x<=500) (k : -400<=y/\y<=400) : -900<=W64 (x+y)/\W64 (x+y)<=900:=by rw [An (by omega) (by omega)];omega
theorem dM {m:Ac} {p:AB} (hp:(-500<=p.X/\p.X<=500) /\ -500<=p.Y/\p.Y<=500) (ha:(-400<=m.At.X/\m.At.X<=400) /\ -400<=m.At.Y/\m.At.Y<=400):PtB (D0 m p):=by
 have h1:(-500<=(Bv p m.Mirror).X/\(Bv p m.Mirror).X<=500) /\ -500<=(Bv p m.Mirror).Y/\(Bv p m.Mirror).Y<=500:=by
  unfold Bv
  cases m.Mirror with
  | true=>exact ⟨O6 hp.1,hp.2⟩
  | false=>exact hp
 have h2:∀ q:AB,((-500<=q.X/\q.X<=500) /\ -500<=q.Y/\q.Y<=500)->(-500<=(CA q m.Turn).X/\(CA q m.Turn).X<=500) /\ -500<=(CA q m.Turn).Y/\(CA q m.Turn).Y<=500:=fun q hq=>by
  unfold CA
  cases decide (BU m.Turn=1) with
  | true=>exact ⟨O6 hq.2,hq.1⟩
  | false =>
   cases decide (BU m.Turn=2) with
   | true=>exact ⟨O6 hq.1,O6 hq.2⟩
   | false =>
    cases decide (BU m.Turn=3) with
    | true=>exact ⟨hq.2,O6 hq.1⟩
    | false=>exact hq
 have h3:=h2 _ h1
 exact ⟨dR h3.1 ha.1,dR h3.2 ha.2⟩
theorem eV (b:AF) (l:List (List Int)) (d:AD) (hP:Ix Pm b.Parts):PtB (Bs b (Kq l) d).1:=by
 have h12:=CI (d:=d) (n:=12) (by decide) (by decide)
 have h6:=CI (d:=(AA d 12).2) (n:=6) (by decide) (by decide)
 unfold Bs
 cases hq:(bif decide ((AA d 12).1<8) then decide ((0:Int)<(b.Parts.length:Int)) else false) with
 | true =>
  have hi:=TA hq
  rw [cond_true]
  show PtB (Z1u b d (Kq l))
  have hp:=hP (Int.tmod (AA d 12).1 (b.Parts.length:Int)).toNat (by omega)
  obtain ⟨a,e,_⟩:=Of l hp.typ
  have hx:=hp.x
  have hy:=hp.y
  unfold Z1u
  refine dM ?_ (by show (-400<=(Z1s b d).At.X/\(Z1s b d).At.X<=400) /\ -400<=(Z1s b d).At.Y/\(Z1s b d).At.Y<=400;unfold Z1s;omega)
  unfold Z1t Z1s
  rw [e]
  generalize (Int.tmod (AA (AA d 12).2 6).1 _).toNat=k
  by_cases hk:k<(A5 a (b.Parts.getD (Int.tmod (AA d 12).1 (b.Parts.length:Int)).toNat default).Type').Pads.length
  ·obtain ⟨h1,_,_,y,hy0,hy1,hat,_⟩:=Je a _ k hk
   show (-500<=((A5 a (b.Parts.getD (Int.tmod (AA d 12).1 (b.Parts.length:Int)).toNat default).Type').Pads.getD k default).At.X/\_)/\_
   rw [hat]
   simp only
   omega
  ·rw [List.getD_eq_getElem?_getD,List.getElem?_eq_none (by show (A5 a (b.Parts.getD (Int.tmod (AA d 12).1 (b.Parts.length:Int)).toNat default).Type').Pads.length<=k;omega)]
   exact (by decide:(-500<=(0:Int)/\(0:Int)<=500) /\ -500<=(0:Int)/\(0:Int)<=500)
 | false =>
  rw [cond_false]
  show (-900<=W64 (30+Int.tmod (W64 (40*(AA d 12).1)) 360)/\W64 (30+Int.tmod (W64 (40*(AA d 12).1)) 360)<=900) /\ -900<=W64 (30+W64 (60*(AA (AA d 12).2 6).1))/\W64 (30+W64 (60*(AA (AA d 12).2 6).1))<=900
  rw [An (x:=40*(AA d 12).1) (by omega) (by omega),Int.tmod_eq_emod_of_nonneg (by omega),An (x:=60*(AA (AA d 12).2 6).1) (by omega) (by omega),An (by omega) (by omega),An (by omega) (by omega)]
  omega
structure Pf (k:Nat) (t:AO):Prop where
 id:t.Id=11+(k:Int)
 lay:1<=t.Layer/\t.Layer<=2
 kind:t.Shape.Kind=1
 r:3<=t.Shape.R/\t.Shape.R<=6
 edg:∃ a c d,PtB a/\PtB c/\t.Shape.Edges=(CR a c d).1
structure jM (k:Nat) (v:As):Prop where
 id:v.Id=21+(k:Int)
 lay:v.From=1/\v.To=2
 r:6<=v.R/\v.R<=10
 at_:PtB v.At
 drill:4<=v.Drill/\v.Drill<=8
def lC (s:Am):Prop:=∃ r p,3<=r/\r<=6/\PtB p/\s.Shape=AQ.mk 1 [Ez p (AB.mk (W64 (p.X+25)) (W64 (p.Y+10)))] r
abbrev Xh (b:AF) (types:List AM):Prop:=∀ d,PtB (Bs (AF.mk b.Layers b.Outline b.Parts [] [] [] [] [] [] [] [] [] []) types d).1
abbrev jO (b:AF) (Q:AF->Prop):Prop:=∀ (v1:List AO) (v2:List As) (v3:List A0) (v4:List Bb) (v5:List Am),Ix Pf v1->v1.length<=5->Ix jM v2->v2.length<=2->v3.length<=2->v4.length<=1->v5.length<=1->(∀ s∈v5,lC s)->Q (AF.mk b.Layers b.Outline b.Parts b.Nets v1 v2 v3 v4 v5 [] [] [] [])
theorem aR (b:AF) (types:List AM) (l:List (List Int)) (v1:List AO) (v6:AD) (v7:ByteArray) (v9:Int) (v2:List As) (v6':AD) (v11:Int) (K0:List AO->AD->ByteArray->Int->AF) (K1:List As->AD->Int->AF) (Q:AF->Prop) (hs:Xh b types) (hQ:jO b Q) (h1:Ix Pf v1) (h1l:v1.length<=5) (h2:Ix jM v2) (h2l:v2.length<=2) :
  ∀ (n:Nat) (v:List A0) (d:AD) (k:Int),0<=k->(v.length:Int)<=k->k<=(AA v6' 3).1->((AA v6' 3).1-k).toNat<n->Q (CH b types l v1 v6 v7 v9 v2 v6' v11 K0 K1 n v d k)
 | 0,v,d,k,_,_,_,h=>absurd h (Nat.not_lt_zero _)
 | n+1,v,d,k,k0,kv,kk,h=>by
  have hb:=CI (d:=v6') (n:=3) (by decide) (by decide)
  unfold CH
  by_cases hc:k<(AA v6' 3).1
  ·rw [decide_eq_true hc,cond_true]
   exact aR b types l v1 v6 v7 v9 v2 v6' v11 K0 K1 Q hs hQ h1 h1l h2 h2l n _ _ _ (by omega) (by simp only [List.length_append,List.length_cons,List.length_nil];omega) (by omega) (by omega)
  ·rw [decide_eq_false hc,cond_false]
   have h4:(Z1N l b types).length<=1:=by
    unfold Z1N
    cases decide ((AA (AD.mk (AX l 6) 0) 3).1=0) <;> simp
   cases decide ((AA (Z1M l b types) 3).1=0) with
   | true =>
    rw [cond_true]
    refine hQ _ _ _ _ _ h1 h1l h2 h2l (by omega) h4 (by simp) (fun s hm => ?_)
    rw [List.mem_singleton.1 hm]
    have hr:=CI (d:=Z1S b types l) (n:=4) (by decide) (by decide)
    exact ⟨W64 (3+(AA (Z1S b types l) 4).1),Z1T b types l,by rw [An (by omega) (by omega)];omega,by rw [An (by omega) (by omega)];omega,hs _,rfl⟩
   | false =>
    rw [cond_false]
    exact hQ _ _ _ _ _ h1 h1l h2 h2l (by omega) h4 (by simp) (fun s hm=>by cases hm)
theorem aS (b:AF) (types:List AM) (l:List (List Int)) (v1:List AO) (v6:AD) (v7:ByteArray) (v9:Int) (K0:List AO->AD->ByteArray->Int->AF) (Q:AF->Prop) (hs:Xh b types) (hQ:jO b Q) (h1:Ix Pf v1) (h1l:v1.length<=5) :
  ∀ (n:Nat) (v:List As) (d:AD) (k:Int),Ix jM v->(v.length:Int)=k->k<=(AA (AD.mk (AX l 5) 0) 3).1->((AA (AD.mk (AX l 5) 0) 3).1-k).toNat<n->Q (CP b types l v1 v6 v7 v9 K0 n v d k)
 | 0,v,d,k,_,_,_,h=>absurd h (Nat.not_lt_zero _)
 | n+1,v,d,k,hv,kv,kk,h=>by
  have hb:=CI (d:=AD.mk (AX l 5) 0) (n:=3) (by decide) (by decide)
  unfold CP
  by_cases hc:k<(AA (AD.mk (AX l 5) 0) 3).1
  ·rw [decide_eq_true hc,cond_true]
   refine aS b types l v1 v6 v7 v9 K0 Q hs hQ h1 h1l n _ _ _ (SU hv ?_) (by simp only [List.length_append,List.length_cons,List.length_nil];omega) (by omega) (by omega)
   have h5:=CI (d:=Z2n b types d) (n:=5) (by decide) (by decide)
   have h3:=CI (d:=(AA (Z2n b types d) 5).2) (n:=3) (by decide) (by decide)
   refine ⟨?_,⟨rfl,rfl⟩,?_,hs _,?_⟩
   ·show W64 (21+k)=_
    rw [An (by omega) (by omega)];omega
   ·show 6<=W64 (6+_)/\W64 (6+_)<=10
    rw [An (by omega) (by omega)];omega
   ·show 4<=W64 (4+W64 (2*_))/\W64 (4+W64 (2*_))<=8
    rw [An (x:=2*_) (by omega) (by omega),An (by omega) (by omega)];omega
  ·rw [decide_eq_false hc,cond_false]
   have hd:=CI (d:=d) (n:=3) (by decide) (by decide)
   exact aR b types l v1 v6 v7 v9 v d k K0 _ Q hs hQ h1 h1l hv (by omega) _ [] _ 0 (by omega) (by simp) (by omega) (by omega)
theorem aT (b:AF) (types:List AM) (l:List (List Int)) (Q:AF->Prop) (hs:Xh b types) (hQ:jO b Q) :
  ∀ (n:Nat) (v:List AO) (d:AD) (s:ByteArray) (k:Int),Ix Pf v->(v.length:Int)=k->k<=(AA (Z1y b l) 6).1->((AA (Z1y b l) 6).1-k).toNat<n->Q (B5 b types l n v d s k)
 | 0,v,d,s,k,_,_,_,h=>absurd h (Nat.not_lt_zero _)
 | n+1,v,d,s,k,hv,kv,kk,h=>by
  have hb:=CI (d:=Z1y b l) (n:=6) (by decide) (by decide)
  unfold B5
  by_cases hc:k<(AA (Z1y b l) 6).1
  ·rw [decide_eq_true hc,cond_true]
   refine aT b types l Q hs hQ n _ _ _ _ (SU hv ?_) (by simp only [List.length_append,List.length_cons,List.length_nil];omega) (by omega) (by omega)
   have h2:=CI (d:=d) (n:=2) (by decide) (by decide)
   have h4:=CI (d:=(AA d 2).2) (n:=4) (by decide) (by decide)
   refine ⟨?_,?_,rfl,?_,_,_,_,?_,?_,rfl⟩
   ·show W64 (11+k)=_
    rw [An (by omega) (by omega)];omega
   ·show 1<=W64 (1+_)/\W64 (1+_)<=2
    rw [An (by omega) (by omega)];omega
   ·show 3<=W64 (3+_)/\W64 (3+_)<=6
    rw [An (by omega) (by omega)];omega
   ·exact hs _
   ·exact hs _
  ·rw [decide_eq_false hc,cond_false]
   exact aS b types l v d s k _ Q hs hQ hv (by omega) _ [] _ 0 ST rfl (by have:=CI (d:=AD.mk (AX l 5) 0) (n:=3) (by decide) (by decide);omega) (by omega)
theorem gT (b:AF) (types:List AM) (l:List (List Int)) (Q:AF->Prop) (hs:Xh b types) (hQ:jO b Q):Q (BN b types l):=by
 have hb:=CI (d:=Z1y b l) (n:=6) (by decide) (by decide)
 unfold BN
 exact aT b types l Q hs hQ _ [] _ _ 0 ST rfl (by omega) (by omega)
structure F7 (B:AF) (T:List AM) (l:List (List Int)):Prop where
 lay:B.Layers=2
 types:T=Kq l
 par:Ix Pm B.Parts
 parl:1<=B.Parts.length/\B.Parts.length<=3
 net:∃ p q r,B.Nets=[A1.mk nN1 p,A1.mk nN2 q,A1.mk iD r]/\p.length<=18/\q.length<=18/\r.length<=18
 trk:Ix Pf B.Tracks
 trkl:B.Tracks.length<=5
 via:Ix jM B.Vias
 vial:B.Vias.length<=2
 slot:∀ s∈B.Slots,lC s
 slotl:B.Slots.length<=1
 poul:B.Pours.length<=2
 keel:B.Keeps.length<=1
theorem rX {α:Type} {c:Bool} {a b:AF×α} {T:List AM} {l:List (List Int)} (h:F7 a.1 T l) (k:F7 b.1 T l):F7 (bif c then a else b).1 T l:=by cases c <;> assumption
theorem SN (l:List (List Int)):F7 (Ao l).1 (Ao l).2 l:=by
 refine bA l (fun x=>F7 x.1 x.2 l) fun v x y z hv h1 h3 hx hy hz => ?_
 show F7 (Z6j l v x y z).1 (Kq l) l
 unfold Z6j
 have ho:=gT (AF.mk 2 (Z5B l) v [A1.mk nN1 x,A1.mk nN2 y,A1.mk iD z] [] [] [] [] [] [] [] [] []) (Kq l) l
  (fun B=>F7 B (Kq l) l) (fun d=>eV _ l d hv) (fun v1 v2 v3 v4 v5 a b c e f g h i=>⟨rfl,rfl,hv,⟨h1,h3⟩,⟨x,y,z,rfl,hx,hy,hz⟩,a,b,c,e,i,h,f,g⟩)
 have ho:F7 (Z6h l v x y z) (Kq l) l:=ho
 obtain ⟨a1,a2,a3,a4,a5,a6,a7,a8,a9,a10,a11,a12,a13⟩:=ho
 unfold DZ
 exact rX ⟨a1,a2,a3,a4,a5,a6,a7,a8,a9,a10,a11,a12,a13⟩ ⟨a1,a2,a3,a4,a5,a6,a7,a8,a9,a10,a11,a12,a13⟩
end
section
open Go.RowKit
theorem GT (a b:Bool):(bif a then b else false)=(a&&b):=by cases a <;> rfl
theorem sQ (a b:Bool):(bif a then true else b)=(a||b):=by cases a <;> rfl
theorem Pa {α:Type} (a:Bool) (x y:α):(bif a then x else y)=if a=true then x else y:=by cases a <;> rfl
def C27 (x:Int):Prop := -67108864<=x/\x<=67108864
def RP (p:AB):Prop:=C27 p.X/\C27 p.Y
instance (x:Int):Decidable (C27 x):=by unfold C27;infer_instance
instance (p:AB):Decidable (RP p):=by unfold RP;infer_instance
theorem Ru {p q:AB} (hp:RP p) (hq:RP q):BO p q=⟨p.X-q.X,p.Y-q.Y⟩:=by
 unfold RP C27 at *
 unfold BO
 rw [An (by omega) (by omega),An (by omega) (by omega)]
theorem Zo (p:AB):Ai p=decide (RP p):=by
 rw [Bool.eq_iff_iff,decide_eq_true_eq]
 unfold Ai RP C27
 simp only [GT,Bool.and_eq_true,decide_eq_true_eq]
 omega
def Odd (e:AG):Prop:=¬ (e.A.X-e.C.X=0↔e.A.Y-e.C.Y=0)
def QL (e:AG):Prop:=Odd e/\e.B.X-e.C.X = -(e.A.Y-e.C.Y)/\e.B.Y-e.C.Y=e.A.X-e.C.X
def QR (e:AG):Prop:=Odd e/\e.B.X-e.C.X=e.A.Y-e.C.Y/\e.B.Y-e.C.Y = -(e.A.X-e.C.X)
def FD (e:AG):Prop:=RP e.A/\RP e.B/\RP e.C
def Uh (e:AG):Prop:=(e.Kind=1/\e.C.X=0/\e.C.Y=0)\/(e.Kind=2/\QL e)\/(e.Kind=3/\QR e)
def OkE (e:AG):Prop:=FD e/\Uh e
instance (e:AG):Decidable (QL e):=by unfold QL Odd;infer_instance
instance (e:AG):Decidable (QR e):=by unfold QR Odd;infer_instance
instance (e:AG):Decidable (FD e):=by unfold FD;infer_instance
instance (e:AG):Decidable (Uh e):=by unfold Uh;infer_instance
instance (e:AG):Decidable (OkE e):=by unfold OkE;infer_instance
def G9 (e:AG):Int:=if OkE e then 0 else if (1<=e.Kind/\e.Kind<=3)/\¬ FD e then 10 else 11
theorem tC (p:AB):Aa ⟨⟨0,0⟩,1,false⟩ p=⟨W64 (W64 (0-p.Y)+0),W64 (p.X+0)⟩:=by
 have ht:CC ⟨⟨0,0⟩,1,false⟩=1:=by decide +kernel
 unfold Aa
 rw [ht]
 rfl
theorem tA (p:AB):Aa ⟨⟨0,0⟩,3,false⟩ p=⟨W64 (W64 (0-W64 (0-p.Y))+0),W64 (W64 (0-p.X)+0)⟩:=by
 have ht:CC ⟨⟨0,0⟩,3,false⟩=3:=by decide +kernel
 unfold Aa
 rw [ht]
 rfl
theorem iU (e:AG) (h:FD e):Dx e=decide (QL e):=by
 obtain ⟨ha,hb,hc⟩:=h
 rw [Bool.eq_iff_iff,decide_eq_true_eq]
 unfold Dx Cs QL Odd
 rw [tC,Ru ha hc,Ru hb hc]
 unfold RP C27 at *
 simp only [GT,Bool.and_eq_true,decide_eq_true_eq,Bool.not_eq_true',and_true,Bx,beq_eq_false_iff_ne,ne_eq,decide_eq_decide]
 omega
theorem Xs (e:AG) (h:FD e):DT e=decide (QR e):=by
 obtain ⟨ha,hb,hc⟩:=h
 rw [Bool.eq_iff_iff,decide_eq_true_eq]
 unfold DT Cs QR Odd
 rw [tA,Ru ha hc,Ru hb hc]
 unfold RP C27 at *
 simp only [GT,Bool.and_eq_true,decide_eq_true_eq,Bool.not_eq_true',and_true,Bx,beq_eq_false_iff_ne,ne_eq,decide_eq_decide]
 omega
theorem iR (e:AG):Ge e=decide (e.C.X=0/\e.C.Y=0):=by
 rw [Bool.eq_iff_iff,decide_eq_true_eq]
 unfold Ge
 simp only [Bool.and_eq_true,decide_eq_true_eq,and_true]
theorem LO (a0 a1 a2:AB) (k:Int):(bif bif Ai a0 then Ai a1 else false then Ai a2 else false)=decide (FD ⟨k,a0,a1,a2⟩):=by
 rw [Bool.eq_iff_iff,decide_eq_true_eq]
 unfold FD
 simp only [GT,Bool.and_eq_true,Zo,decide_eq_true_eq,and_assoc]
theorem ok_b1 (a0 a1 a2:AB):(bif decide (FD ⟨1,a0,a1,a2⟩) then Ge ⟨1,a0,a1,a2⟩ else false)=decide (OkE ⟨1,a0,a1,a2⟩):=by
 rw [Bool.eq_iff_iff,decide_eq_true_eq]
 unfold OkE Uh
 rw [iR]
 simp [GT]
theorem ok_b2 (a0 a1 a2:AB):(bif decide (FD ⟨2,a0,a1,a2⟩) then Dx ⟨2,a0,a1,a2⟩ else false)=decide (OkE ⟨2,a0,a1,a2⟩):=by
 rw [Bool.eq_iff_iff,decide_eq_true_eq]
 unfold OkE Uh
 by_cases h:FD ⟨2,a0,a1,a2⟩
 ·rw [iU _ h];simp [GT,h]
 ·simp [h]
theorem ok_b3 (a0 a1 a2:AB):(bif decide (FD ⟨3,a0,a1,a2⟩) then DT ⟨3,a0,a1,a2⟩ else false)=decide (OkE ⟨3,a0,a1,a2⟩):=by
 rw [Bool.eq_iff_iff,decide_eq_true_eq]
 unfold OkE Uh
 by_cases h:FD ⟨3,a0,a1,a2⟩
 ·rw [Xs _ h];simp [GT,h]
 ·simp [h]
theorem Wq {e:AG} (h:OkE e):e.Kind=1\/e.Kind=2\/e.Kind=3:=by
 obtain ⟨_,h⟩:=h
 rcases h with ⟨h,_⟩ | ⟨h,_⟩ | ⟨h,_⟩ <;> simp [h]
theorem cX (e:AG):D7 e=G9 e:=by
 obtain ⟨k,a0,a1,a2⟩:=e
 unfold D7
 by_cases k1:k=1
 ·subst k1
  simp only [if_true,KJ,Z09,Z02,Z01,Z00]
  rw [LO a0 a1 a2 1,ok_b1]
  unfold G9
  simp [Pa]
 by_cases k2:k=2
 ·subst k2
  simp only [k1,if_false,if_true,KI,Z0a,Z05,Z04,Z03]
  rw [LO a0 a1 a2 2,ok_b2]
  unfold G9
  simp [Pa]
 by_cases k3:k=3
 ·subst k3
  simp only [k1,k2,if_false,if_true,KH,Z0b,Z08,Z07,Z06]
  rw [LO a0 a1 a2 3,ok_b3]
  unfold G9
  simp [Pa]
 ·simp only [k1,k2,k3,if_false,I1]
  rw [LO a0 a1 a2 k]
  unfold G9
  rw [if_neg (fun h=>by have:=Wq h;simp only at this;omega)]
  simp only [GT]
  simp only [Pa,Bool.and_eq_true,decide_eq_true_eq,Bool.not_eq_true',decide_eq_false_iff_not]
def cr (a b p:AB):Int:=(b.X-a.X)*(p.Y-a.Y)-(b.Y-a.Y)*(p.X-a.X)
def d2 (p c:AB):Int:=(p.X-c.X)*(p.X-c.X)+(p.Y-c.Y)*(p.Y-c.Y)
def InB (e:AG) (p:AB):Prop:=(min e.A.X e.B.X<=p.X/\p.X<=max e.A.X e.B.X)/\min e.A.Y e.B.Y<=p.Y/\p.Y<=max e.A.Y e.B.Y
instance (e:AG) (p:AB):Decidable (InB e p):=by unfold InB;infer_instance
def NF (e:AG):Prop:=e.C.X<e.A.X\/e.C.X<e.B.X
instance (e:AG):Decidable (NF e):=by unfold NF;infer_instance
def Bey (e:AG) (p:AB):Prop:=if e.Kind=1 then (if e.A.Y<e.B.Y then 0<cr e.A e.B p else cr e.A e.B p<0) else if NF e then d2 p e.C<d2 e.A e.C else d2 e.A e.C<d2 p e.C
instance (e:AG) (p:AB):Decidable (Bey e p):=by unfold Bey;infer_instance
def InR (e:AG) (p:AB):Prop:=(min e.A.Y e.B.Y<=p.Y/\p.Y<max e.A.Y e.B.Y)/\p.X<max e.A.X e.B.X
instance (e:AG) (p:AB):Decidable (InR e p):=by unfold InR;infer_instance
theorem QO {e:AG} (h:Odd e):(e.A.X-e.C.X=0/\e.A.Y-e.C.Y≠0)\/(e.A.X-e.C.X≠0/\e.A.Y-e.C.Y=0):=by
 unfold Odd at h
 by_cases h1:e.A.X-e.C.X=0 <;> by_cases h2:e.A.Y-e.C.Y=0 <;> simp_all
theorem sY (c:AB) (r t k:Int) (hc:(-1000<=c.X/\c.X<=1000) /\ -1000<=c.Y/\c.Y<=1000) (hr:1<=r/\r<=1000) (ht:0<=t/\t<=3) (hk:k=2\/k=3):OkE (Co c r t k):=by
 have t4:t=0\/t=1\/t=2\/t=3:=by omega
 have e0:BU 0=0:=by decide +kernel
 have e1:BU 1=1:=by decide +kernel
 have e2:BU 2=2:=by decide +kernel
 have e3:BU 3=3:=by decide +kernel
 have e4:BU 4=0:=by decide +kernel
 have e5:BU 5=1:=by decide +kernel
 have e6:BU 6=2:=by decide +kernel
 have w1:W64 (0+1)=1:=by decide +kernel
 have w2:W64 (1+1)=2:=by decide +kernel
 have w3:W64 (2+1)=3:=by decide +kernel
 have w4:W64 (3+1)=4:=by decide +kernel
 have w5:W64 (0+3)=3:=by decide +kernel
 have w6:W64 (1+3)=4:=by decide +kernel
 have w7:W64 (2+3)=5:=by decide +kernel
 have w8:W64 (3+3)=6:=by decide +kernel
 unfold Co Z0d Z0e D0 Z0c CW Bv
 rcases t4 with rfl | rfl | rfl | rfl <;> rcases hk with rfl | rfl <;>
  simp only [Int.reduceEq,decide_true,decide_false,cond_true,cond_false,w1,w2,w3,w4,w5,w6,w7,w8,CA,e0,e1,e2,e3,e4,e5,e6,OkE,FD,Uh,RP,C27,QL,QR,Odd,Bx,false_and,false_or,or_false,true_and] <;> omega
theorem sZ (c:AB) (r:Int) (hc:(-1000<=c.X/\c.X<=1000) /\ -1000<=c.Y/\c.Y<=1000) (hr:1<=r/\r<=1000) :
  Co c r 0 2=⟨2,⟨c.X+r,c.Y⟩,⟨c.X,c.Y+r⟩,c⟩/\Co c r 1 2=⟨2,⟨c.X,c.Y+r⟩,⟨c.X-r,c.Y⟩,c⟩/\Co c r 2 2=⟨2,⟨c.X-r,c.Y⟩,⟨c.X,c.Y-r⟩,c⟩/\Co c r 3 2=⟨2,⟨c.X,c.Y-r⟩,⟨c.X+r,c.Y⟩,c⟩:=by
 have e0:BU 0=0:=by decide +kernel
 have e1:BU 1=1:=by decide +kernel
 have e2:BU 2=2:=by decide +kernel
 have e3:BU 3=3:=by decide +kernel
 have e4:BU 4=0:=by decide +kernel
 have w1:W64 (0+1)=1:=by decide +kernel
 have w2:W64 (1+1)=2:=by decide +kernel
 have w3:W64 (2+1)=3:=by decide +kernel
 have w4:W64 (3+1)=4:=by decide +kernel
 unfold Co Z0d Z0e D0 Z0c CW Bv
 simp only [Int.reduceEq,decide_true,decide_false,cond_true,cond_false,w1,w2,w3,w4,CA,e0,e1,e2,e3,e4,Bx,AG.mk.injEq,AB.mk.injEq,and_true,true_and]
 omega
def Lq (e:AG):Prop:=((-300<=e.A.X/\e.A.X<=300) /\ -300<=e.A.Y/\e.A.Y<=300)/\((-300<=e.B.X/\e.B.X<=300) /\ -300<=e.B.Y/\e.B.Y<=300)/\(-300<=e.C.X/\e.C.X<=300) /\ -300<=e.C.Y/\e.C.Y<=300
end
section
open Go.RowKit
theorem PS {α:Type} [Inhabited α] {l:List α} {k:Nat} (h:k<l.length):l.drop k=l.getD k default::l.drop (k+1):=by
 rw [List.drop_eq_getElem_cons h,List.getD_eq_getElem?_getD,List.getElem?_eq_getElem h]
 rfl
theorem YW {α:Type} [Inhabited α] {l:List α} {k:Nat} (h:k<l.length):l.getD k default∈l:=by
 rw [List.getD_eq_getElem?_getD,List.getElem?_eq_getElem h]
 exact List.getElem_mem h
def P3:List AG->Int
 | []=>0
 | e::l=>if G9 e=0 then P3 l else G9 e
def LD (s:AQ):Prop:=(∀ i,i+1<s.Edges.length->(s.Edges.getD i default).B=(s.Edges.getD (i+1) default).A)/\(s.Kind=2->(s.Edges.getD (s.Edges.length-1) default).B=(s.Edges.getD 0 default).A)
open Classical in
noncomputable def OD (s:AQ):Int :=
 if ¬ (s.Kind=1\/s.Kind=2)\/s.Edges.length=0\/(s.Kind=2/\s.Edges.length<2) then 12
 else if 40<s.Edges.length then 2
 else if P3 s.Edges≠0 then P3 s.Edges
 else if ¬ LD s then 12
 else if (s.Kind=2/\s.R≠0)\/s.R<0\/4194304<s.R then 3 else 0
theorem Nf (e:AG):G9 e=0↔OkE e:=by
 unfold G9
 by_cases h:OkE e
 ·simp [h]
 ·simp only [h,if_false,iff_false];split <;> decide
theorem Mx:∀ (l:List AG),P3 l=0↔∀ e∈l,OkE e
 | []=>by simp [P3]
 | e::l=>by
  unfold P3
  by_cases h:G9 e=0
  ·simp only [h,if_true,Mx l,List.mem_cons,forall_eq_or_imp,(Nf e).1 h,true_and]
  ·simp only [h,if_false,List.mem_cons,forall_eq_or_imp,false_iff]
   exact fun hh=>h ((Nf e).2 hh.1)
def Sn (s:AQ) (x:Nat):Bool := !(decide ((jnA s.Edges x).B.X=(jnB s.Edges x).A.X)&&(decide ((jnA s.Edges x).B.Y=(jnB s.Edges x).A.Y)&&true))
theorem Xd (s:AQ) (x:Nat):Sn s x=false↔(jnA s.Edges x).B=(jnB s.Edges x).A:=by
 unfold Sn
 generalize (jnA s.Edges x).B=a
 generalize (jnB s.Edges x).A=b
 obtain ⟨a1,a2⟩:=a
 obtain ⟨b1,b2⟩:=b
 simp
def XL (s:AQ):Int:=bif bif bif bif decide ((s.Kind:Int)=2) then !decide ((s.R:Int)=0) else false then true else decide ((s.R:Int)<0) then true else decide ((4194304:Int)<s.R) then 3 else 0
theorem T3 (s:AQ):XL s=if (s.Kind=2/\s.R≠0)\/s.R<0\/4194304<s.R then 3 else 0:=by
 unfold XL
 simp only [GT,sQ]
 simp only [Pa,Bool.or_eq_true,Bool.and_eq_true,decide_eq_true_eq,Bool.not_eq_true',decide_eq_false_iff_not,or_assoc]
theorem kE (s:AQ) (v:Int) (K:Int->Int):∀ m x,Cq s v K m x=if (List.range' x m).any (Sn s) then 12 else XL s
 | 0,x=>rfl
 | m+1,x=>by
  show (bif Sn s x then (12:Int) else Cq s v K m (x+1))=_
  rw [kE s v K m (x+1),List.range'_succ,List.any_cons]
  cases Sn s x
  ·simp only [Bool.false_or,cond_false]
  ·simp only [Bool.true_or,cond_true,if_true]
theorem Vv (s:AQ) (h:1<=s.Edges.length):((List.range' 0 (jnN s.Edges (decide (s.Kind=2)))).any (Sn s)=false)↔LD s:=by
 rw [List.any_eq_false]
 have key:(∀ x∈List.range' 0 (jnN s.Edges (decide (s.Kind=2))),¬ Sn s x=true)↔∀ x,x<jnN s.Edges (decide (s.Kind=2))->(jnA s.Edges x).B=(jnB s.Edges x).A:=by
  constructor
  ·intro hh x hx
   have:=hh x (by simp;omega)
   exact (Xd s x).1 (by simpa using this)
  ·intro hh x hx
   have hx':x<jnN s.Edges (decide (s.Kind=2)):=by simpa using hx
   have:=(Xd s x).2 (hh x hx')
   simp [this]
 rw [key]
 unfold LD jnN jnA jnB
 constructor
 ·intro hh
  refine ⟨fun i hi => ?_,fun hk => ?_⟩
  ·have:=hh i (by omega)
   simpa only [hi,if_true] using this
  ·have:=hh (s.Edges.length-1) (by simp [hk])
   simpa only [show ¬ s.Edges.length-1+1<s.Edges.length by omega,if_false] using this
 ·rintro ⟨h1,h2⟩ x hx
  by_cases hi:x+1<s.Edges.length
  ·simpa only [hi,if_true] using h1 x hi
  ·have hk:s.Kind=2:=by
    cases hd:decide (s.Kind=2) with
    | true=>exact oT hd
    | false=>rw [hd] at hx;simp only [cond_false] at hx;omega
   simpa only [hi,if_false] using h2 hk
open Classical in
theorem bH (s:AQ) (h1:1<=s.Edges.length):∀ n k:Nat,k<=s.Edges.length->s.Edges.length-k<n->Cf s n (k:Int)=if P3 (s.Edges.drop k)≠0 then P3 (s.Edges.drop k) else if ¬ LD s then 12 else XL s
 | 0,k,hk,hn=>by omega
 | n+1,k,hk,hn=>by
  unfold Cf
  by_cases hlt:k<s.Edges.length
  ·rw [decide_eq_true (show (k:Int)<(s.Edges.length:Int) by omega)]
   simp only [cond_true,Int.toNat_natCast]
   rw [PS hlt]
   simp only [P3,cX]
   have ih:=bH s h1 n (k+1) (by omega) (by omega)
   by_cases h0:G9 (s.Edges.getD k default)=0
   ·simp only [h0,if_true,decide_true,Bool.not_true,cond_false]
    rw [show ((k:Int)+1)=((k+1:Nat):Int) by omega,ih]
   ·simp only [h0,if_false,decide_false,Bool.not_false,cond_true,ne_eq,not_false_eq_true,if_true]
  ·rw [decide_eq_false (show ¬ (k:Int)<(s.Edges.length:Int) by omega)]
   simp only [cond_false]
   rw [List.drop_of_length_le (by omega),P3,kE]
   have:=Vv s h1
   by_cases hj:LD s
   ·rw [this.2 hj];simp [hj]
   ·have hb:(List.range' 0 (jnN s.Edges (decide (s.Kind=2)))).any (Sn s)=true:=by
     cases hh:(List.range' 0 (jnN s.Edges (decide (s.Kind=2)))).any (Sn s) with
     | true=>rfl
     | false=>exact absurd (this.1 hh) hj
    rw [hb];simp [hj]
theorem Yg (s:AQ):C9 s=OD s:=by
 unfold C9 OD
 by_cases hk1:s.Kind=1
 ·simp only [hk1,decide_true,Bool.not_true,cond_false,true_or,not_true,false_or,show ¬ ((1:Int)=2) by decide,decide_false,false_and,or_false]
  by_cases h0:s.Edges.length=0
  ·simp [h0]
  ·simp only [show ¬ (s.Edges.length:Int)=0 by omega,h0,decide_false,cond_false,if_false]
   by_cases h40:40<s.Edges.length
   ·simp only [show (40:Int)<(s.Edges.length:Int) by omega,h40,decide_true,cond_true,if_true]
   ·simp only [show ¬ (40:Int)<(s.Edges.length:Int) by omega,h40,decide_false,cond_false,if_false]
    have:=bH s (by omega) (((s.Edges.length:Int)-0).toNat+1) 0 (by omega) (by omega)
    rw [show ((0:Nat):Int)=0 from rfl] at this
    rw [this,List.drop_zero,T3]
    simp only [hk1,show ¬ ((1:Int)=2) by decide,false_and,false_or]
 ·by_cases hk2:s.Kind=2
  ·simp only [hk2,decide_true,Bool.not_true,cond_false,cond_true,or_true,not_true,false_or,true_and,show ¬ ((2:Int)=1) by decide,decide_false,Bool.not_false]
   by_cases h0:s.Edges.length=0
   ·simp [h0]
   ·simp only [show ¬ (s.Edges.length:Int)=0 by omega,h0,decide_false,cond_false,if_false,false_or]
    by_cases h2:s.Edges.length<2
    ·simp only [show (s.Edges.length:Int)<2 by omega,h2,decide_true,cond_true,if_true]
    ·simp only [show ¬ (s.Edges.length:Int)<2 by omega,h2,decide_false,cond_false,if_false]
     by_cases h40:40<s.Edges.length
     ·simp only [show (40:Int)<(s.Edges.length:Int) by omega,h40,decide_true,cond_true,if_true]
     ·simp only [show ¬ (40:Int)<(s.Edges.length:Int) by omega,h40,decide_false,cond_false,if_false]
      have:=bH s (by omega) (((s.Edges.length:Int)-0).toNat+1) 0 (by omega) (by omega)
      rw [show ((0:Nat):Int)=0 from rfl] at this
      rw [this,List.drop_zero,T3]
      simp only [hk2,true_and]
  ·simp [hk1,hk2]
def OkS (s:AQ):Prop:=((s.Kind=1\/s.Kind=2)/\(1<=s.Edges.length/\s.Edges.length<=40)/\(s.Kind=2->2<=s.Edges.length))/\(∀ e∈s.Edges,OkE e)/\LD s/\(0<=s.R/\s.R<=4194304)/\(s.Kind=2->s.R=0)
theorem Si (s:AQ):OD s=0↔OkS s:=by
 unfold OD OkS
 constructor
 ·intro h
  split at h
  ·cases h
  rename_i h1
  split at h
  ·cases h
  rename_i h2
  split at h
  ·rename_i h3;exact absurd h h3
  rename_i h3
  split at h
  ·cases h
  rename_i h4
  split at h
  ·cases h
  rename_i h5
  have hE:=(Mx _).1 (Decidable.not_not.1 h3)
  have hJ:=Classical.not_not.1 h4
  refine ⟨⟨?_,?_,?_⟩,hE,hJ,?_,?_⟩ <;> omega
 ·rintro ⟨⟨h1,h2,h3⟩,h4,h5,h6,h7⟩
  rw [if_neg (by omega),if_neg (by omega),if_neg (by have:=(Mx _).2 h4;omega),if_neg (fun h=>h h5),if_neg (by omega)]
end
section
open Go.RowKit
def Ch:AB->List AG->AB->Prop
 | a,[],b=>a=b
 | a,e::l,b=>e.A=a/\Ch e.B l b
theorem XY:∀ {l:List AG} {a b:AB},Ch a l b->l≠[]->(∀ i,i+1<l.length->(l.getD i default).B=(l.getD (i+1) default).A)/\(l.getD 0 default).A=a/\(l.getD (l.length-1) default).B=b
 | [],a,b,h,hn=>absurd rfl hn
 | [e],a,b,h,_=>⟨fun i hi=>absurd hi (by simp),h.1,h.2⟩
 | e::f::l,a,b,h,_=>by
  obtain ⟨h1,h2⟩:=h
  obtain ⟨g1,g2,g3⟩:=XY (l:=f::l) h2 (by simp)
  refine ⟨fun i hi => ?_,h1,?_⟩
  ·cases i with
   | zero=>exact g2.symm
   | succ i=>exact g1 i (by simpa using hi)
  ·simpa using g3
theorem kX:∀ {l:List AG},l≠[]->(∀ i,i+1<l.length->(l.getD i default).B=(l.getD (i+1) default).A)->Ch (l.getD 0 default).A l (l.getD (l.length-1) default).B
 | [],hn,_=>absurd rfl hn
 | [e],_,_=>⟨rfl,rfl⟩
 | e::f::l,_,h=>by
  have g:=kX (l:=f::l) (by simp) fun i hi=>h (i+1) (by simpa using hi)
  refine ⟨rfl,?_⟩
  have h0:e.B=f.A:=h 0 (by simp)
  have g':Ch f.A (f::l) ((f::l).getD ((f::l).length-1) default).B:=g
  rw [h0]
  simpa using g'
theorem Vu {s:AQ} (h:s.Edges≠[]):LD s↔∃ a b,Ch a s.Edges b/\(s.Kind=2->a=b):=by
 constructor
 ·rintro ⟨h1,h2⟩
  exact ⟨_,_,kX h h1,fun hk=>(h2 hk).symm⟩
 ·rintro ⟨a,b,hc,hk⟩
  obtain ⟨g1,g2,g3⟩:=XY hc h
  exact ⟨g1,fun h2=>by rw [g3,g2];exact (hk h2).symm⟩
def NE (s:AQ):Prop:=OkS s/\(∀ e∈s.Edges,Lq e)/\s.R<=40/\s.Edges.length<=8
def Ju (p:AB):Prop:=(-300<=p.X/\p.X<=300) /\ -300<=p.Y/\p.Y<=300
theorem Zi {k:Int} {a b c:AB} (ha:Ju a) (hb:Ju b) (hc:Ju c):Lq ⟨k,a,b,c⟩:=⟨ha,hb,hc⟩
theorem Wn {p:AB} (h:Ju p):RP p:=by unfold Ju at h;unfold RP C27;omega
theorem SS {a b:AB} (ha:Ju a) (hb:Ju b):OkE ⟨1,a,b,⟨0,0⟩⟩/\Lq ⟨1,a,b,⟨0,0⟩⟩ :=
 ⟨⟨⟨Wn ha,Wn hb,by unfold RP C27;simp only;omega⟩,.inl ⟨rfl,rfl,rfl⟩⟩,Zi ha hb (by unfold Ju;simp only;omega)⟩
theorem jB {p:AB} {r:Int} (hp:Ju p) (hr:0<=r/\r<=40):NE (NK p r):=by
 obtain ⟨h1,h2⟩:=SS hp hp
 refine ⟨⟨⟨.inl rfl,⟨Nat.le_refl 1,?_⟩,fun h => ?_⟩,fun e he => ?_,⟨fun i hi => ?_,fun h => ?_⟩,⟨hr.1,?_⟩,fun h => ?_⟩,fun e he => ?_,hr.2,?_⟩
 ·show 1<=40;decide
 ·cases h
 ·rw [List.mem_singleton.1 he];exact h1
 ·have hi:i+1<1:=hi
  omega
 ·cases h
 ·show r<=4194304;omega
 ·cases h
 ·rw [List.mem_singleton.1 he];exact h2
 ·show 1<=8;decide
def I7 (l:List AB):Nat->Nat->List AG
 | 0,_=>[]
 | n+1,k=>⟨1,l.getD k default,l.getD ((k+1) % l.length) default,⟨0,0⟩⟩::I7 l n (k+1)
theorem XK (l:List AB) (hl:l.length<=1000000):∀ (n k:Nat) (s:List AG),k<=l.length->l.length-k<n->G7 l n s (k:Int)=⟨2,s++I7 l (l.length-k) k,0⟩
 | 0,k,s,hk,hn=>by omega
 | n+1,k,s,hk,hn=>by
  unfold G7
  by_cases hlt:k<l.length
  ·rw [decide_eq_true (show (k:Int)<(l.length:Int) by omega)]
   simp only [cond_true,Int.toNat_natCast]
   have ih:=fun s=>XK l hl n (k+1) s (by omega) (by omega)
   rw [show ((k:Int)+1)=((k+1:Nat):Int) by omega,ih]
   obtain ⟨m,hm⟩:∃ m,l.length-k=m+1:=⟨l.length-k-1,by omega⟩
   rw [hm,show l.length-(k+1)=m by omega]
   have ew:Z1c l (k:Int)=l.getD ((k+1) % l.length) default:=by
    unfold Z1c
    rw [An (by omega) (by omega),Int.tmod_eq_emod_of_nonneg (by omega)]
    congr 1
   rw [ew]
   simp [I7]
  ·rw [decide_eq_false (show ¬ (k:Int)<(l.length:Int) by omega)]
   have:l.length-k=0:=by omega
   simp [this,I7]
theorem iQ (l:List AB) (hl:l.length<=1000000):Nk l=⟨2,I7 l l.length 0,0⟩:=by
 unfold Nk
 have:=XK l hl (((l.length:Int)-0).toNat+1) 0 [] (by omega) (by omega)
 rw [show ((0:Nat):Int)=0 from rfl] at this
 rw [this]
 simp
theorem QW (l:List AB):∀ n k,(I7 l n k).length=n
 | 0,k=>rfl
 | n+1,k=>by simp [I7,QW l n]
theorem Tx (l:List AB):∀ n k,0<n->k+n=l.length->Ch (l.getD k default) (I7 l n k) (l.getD 0 default)
 | 0,k,h,_=>by omega
 | 1,k,_,hk=>by
  refine ⟨rfl,?_⟩
  show l.getD ((k+1) % l.length) default=l.getD 0 default
  rw [hk,Nat.mod_self]
 | n+2,k,_,hk=>by
  refine ⟨rfl,?_⟩
  show Ch (l.getD ((k+1) % l.length) default) (I7 l (n+1) (k+1)) _
  rw [Nat.mod_eq_of_lt (by omega)]
  exact Tx l (n+1) (k+1) (by omega) (by omega)
theorem bY {P:AB->Prop} {l:List AB} (h:∀ p∈l,P p) {k:Nat} (hk:k<l.length):P (l.getD k default):=h _ (YW hk)
theorem PD (l:List AB) (hp:∀ p∈l,Ju p) (hl:0<l.length):∀ n k,k+n<=l.length->∀ e∈I7 l n k,OkE e/\Lq e
 | 0,k,_,e,he=>by cases he
 | n+1,k,hk,e,he=>by
  rcases List.mem_cons.1 he with rfl | he
  ·exact SS (bY hp (by omega)) (bY hp (Nat.mod_lt _ hl))
  ·exact PD l hp hl n (k+1) (by omega) e he
theorem iP {l:List AB} (h2:2<=l.length/\l.length<=8) (hp:∀ p∈l,Ju p):NE (Nk l):=by
 rw [iQ l (by omega)]
 have hg:=PD l hp (by omega) l.length 0 (by omega)
 have hlen:=QW l l.length 0
 refine ⟨⟨⟨.inr rfl,⟨by simp only [hlen];omega,by simp only [hlen];omega⟩,fun _=>by simp only [hlen];omega⟩,fun e he=>(hg e he).1,?_,⟨Int.le_refl 0,(by decide:(0:Int)<=4194304)⟩,fun _=>rfl⟩,fun e he=>(hg e he).2,(by decide:(0:Int)<=40),by simp only [hlen];omega⟩
 refine (Vu (fun h => ?_)).2 ⟨_,_,Tx l l.length 0 (by omega) (by omega),fun _=>rfl⟩
 have:(I7 l l.length 0).length=0:=by rw [show I7 l l.length 0=[] from h];rfl
 omega
theorem fG {r:Ad} (h:((-300<=r.X0/\r.X0<=300) /\ -300<=r.Y0/\r.Y0<=300)/\(-300<=r.X1/\r.X1<=300) /\ -300<=r.Y1/\r.Y1<=300):NE (Fk r):=by
 unfold Fk Z1f
 refine iP ⟨by simp,by simp⟩ fun p hp => ?_
 simp only [List.mem_cons,List.not_mem_nil,or_false] at hp
 unfold Ju
 rcases hp with rfl | rfl | rfl | rfl <;> simp only <;> omega
end
section
open Go.RowKit
theorem Tk (s:AQ) (m:Ac):∀ (n k:Nat) (l:List AG),k<=s.Edges.length->s.Edges.length-k<n->l=(s.Edges.take k).map (fun e=>EB e m)++s.Edges.drop k->Fl s m n l (k:Int)=⟨s.Kind,s.Edges.map (fun e=>EB e m),s.R⟩
 | 0,k,l,hk,hn,_=>by omega
 | n+1,k,l,hk,hn,hl=>by
  unfold Fl
  by_cases hlt:k<s.Edges.length
  ·rw [decide_eq_true (show (k:Int)<((s.Edges.length:Nat):Int) by omega)]
   simp only [cond_true,Int.toNat_natCast]
   rw [show ((k:Int)+1)=((k+1:Nat):Int) by omega]
   refine Tk s m n (k+1) _ (by omega) (by omega) ?_
   subst hl
   have hlen:((s.Edges.take k).map (fun e=>EB e m)).length=k:=by simp;omega
   have hd:s.Edges.drop k=s.Edges[k]::s.Edges.drop (k+1):=List.drop_eq_getElem_cons hlt
   rw [hd]
   have h1:((s.Edges.take k).map (fun e=>EB e m)++s.Edges[k]::s.Edges.drop (k+1)).getD k default=s.Edges[k]:=by
    rw [List.getD_eq_getElem?_getD,List.getElem?_append_right (by omega),hlen,Nat.sub_self];rfl
   rw [h1,List.set_append_right _ _ (by omega),hlen,Nat.sub_self,List.set_cons_zero,List.take_succ_eq_append_getElem hlt,List.map_append,List.append_assoc]
   rfl
  ·rw [decide_eq_false (show ¬ (k:Int)<((s.Edges.length:Nat):Int) by omega)]
   subst hl
   rw [List.drop_of_length_le (by omega),List.take_of_length_le (by omega),List.append_nil]
   rfl
theorem Tl (s:AQ) (m:Ac):EH s m=⟨s.Kind,s.Edges.map (fun e=>EB e m),s.R⟩:=by
 unfold EH
 have:=Tk s m ((((s.Edges.length:Nat):Int)-0).toNat+1) 0 s.Edges (by omega) (by omega) (by simp)
 exact this
theorem YL (s:AQ) (m:Ac):(EH s m).Edges.length=s.Edges.length:=by rw [Tl];simp
end
section
open Go.RowKit
theorem jW (t:Int):A64 t 3=t % 4:=by
 unfold A64
 have h3:(BitVec.ofInt 64 3).toNat=2 ^ 2-1:=by decide
 rw [BitVec.toNat_and,h3,Nat.and_two_pow_sub_one_eq_mod,BitVec.toNat_ofInt,IntKind.wrap_i64]
 omega
def Ny (m:Bool) (x:Int):Int:=if m=true then -x else x
def mvp (t:Int) (m:Bool) (a p:AB):AB :=
 if t=0 then ⟨Ny m p.X+a.X,p.Y+a.Y⟩ else if t=1 then ⟨-p.Y+a.X,Ny m p.X+a.Y⟩ else if t=2 then ⟨-Ny m p.X+a.X,-p.Y+a.Y⟩ else ⟨p.Y+a.X,-Ny m p.X+a.Y⟩
def Sm (p:AB):Prop:=(-100000<=p.X/\p.X<=100000) /\ -100000<=p.Y/\p.Y<=100000
theorem sN (m:Bool) (x:Int) (h : -100000<=x/\x<=100000) : -100000<=Ny m x/\Ny m x<=100000:=by
 unfold Ny
 split <;> omega
theorem sM (m:Bool) (x:Int) (h : -100000<=x/\x<=100000):(bif m then W64 (0-x) else x)=Ny m x:=by
 unfold Ny
 rw [An (by omega) (by omega)]
 cases m
 ·rfl
 ·show 0-x = -x
  omega
theorem ND (m:Ac) (p:AB) (hp:Sm p) (ha:Sm m.At):Aa m p=mvp (m.Turn % 4) m.Mirror m.At p:=by
 have ht:CC m=m.Turn % 4:=jW m.Turn
 unfold Aa mvp
 unfold Sm at hp ha
 rw [sM m.Mirror p.X hp.1]
 have hf:=sN m.Mirror p.X hp.1
 generalize Ny m.Mirror p.X=x at *
 have h4:m.Turn % 4=0\/m.Turn % 4=1\/m.Turn % 4=2\/m.Turn % 4=3:=by omega
 rcases h4 with h | h | h | h <;> rw [h] at ht ⊢ <;> rw [ht]
 ·show CJ m p 1 ⟨x,p.Y⟩ 0=_
  simp only [CJ,ht,Int.reduceLT,decide_false,cond_false,GV,if_true,AB.mk.injEq,Bx]
  omega
 ·show CJ m p 2 ⟨x,p.Y⟩ 0=_
  simp only [CJ,ht,Int.reduceLT,Int.reduceAdd,decide_true,cond_true,decide_false,cond_false,GV,Int.reduceEq,if_true,if_false,AB.mk.injEq,Bx]
  omega
 ·show CJ m p 3 ⟨x,p.Y⟩ 0=_
  simp only [CJ,ht,Int.reduceLT,Int.reduceAdd,decide_true,cond_true,decide_false,cond_false,GV,Int.reduceEq,if_true,if_false,AB.mk.injEq,Bx]
  omega
 ·show CJ m p 4 ⟨x,p.Y⟩ 0=_
  simp only [CJ,ht,Int.reduceLT,Int.reduceAdd,decide_true,cond_true,decide_false,cond_false,GV,Int.reduceEq,if_false,AB.mk.injEq,Bx]
  omega
def Q1 (e:AG) (t:Int) (m:Bool) (a:AB):AG:=⟨if m=true then (if e.Kind=2 then 3 else if e.Kind=3 then 2 else e.Kind) else e.Kind,mvp t m a e.A,mvp t m a e.B,if e.Kind=1 then e.C else mvp t m a e.C⟩
theorem eW {e:AG} (h:Lq e):Sm e.A/\Sm e.B/\Sm e.C:=by
 unfold Lq at h
 unfold Sm
 omega
theorem iF (e:AG) (m:Ac) (h:OkE e) (hs:Lq e) (ha:Sm m.At):EB e m=Q1 e (m.Turn % 4) m.Mirror m.At:=by
 have hk:=Wq h
 obtain ⟨s1,s2,s3⟩:=eW hs
 have e1:=ND m e.A s1 ha
 have e2:=ND m e.B s2 ha
 have e3:=ND m e.C s3 ha
 obtain ⟨k,a0,a1,a2⟩:=e
 simp only at hk e1 e2 e3
 unfold EB Q1
 rcases hk with rfl | rfl | rfl
 ·simp only [if_true,Pw,e1,e2]
  cases m.Mirror <;> rfl
 ·simp only [Int.reduceEq,if_false,if_true,Pv,e1,e2,e3]
  cases m.Mirror <;> rfl
 ·simp only [Int.reduceEq,if_false,if_true,Pu,e1,e2,e3]
  cases m.Mirror <;> rfl
theorem Oj {p:AB} (h:Sm p):RP p:=by
 unfold Sm at h
 unfold RP C27
 omega
theorem Vo {t:Int} {m:Bool} {a p:AB} (hp:(-50000<=p.X/\p.X<=50000) /\ -50000<=p.Y/\p.Y<=50000) (ha:(-1000<=a.X/\a.X<=1000) /\ -1000<=a.Y/\a.Y<=1000):Sm (mvp t m a p):=by
 unfold mvp Sm Ny
 cases m <;> (repeat' split) <;> simp_all <;> omega
structure Mat where
 a:Int
 b:Int
 c:Int
 d:Int
def Mat.ok (M:Mat) (s:Int):Prop:=(M.a=0/\M.d=0/\(M.b=1\/M.b = -1)/\M.c = -s*M.b)\/(M.b=0/\M.c=0/\(M.a=1\/M.a = -1)/\M.d=s*M.a)
def Mat.ap (M:Mat) (o p:AB):AB:=⟨M.a*p.X+M.b*p.Y+o.X,M.c*p.X+M.d*p.Y+o.Y⟩
theorem iE (t:Int) (m:Bool) (a:AB):∃ M:Mat,M.ok (if m=true then -1 else 1)/\∀ p,mvp t m a p=M.ap a p:=by
 unfold mvp Ny
 by_cases h0:t=0
 ·cases m
  ·exact ⟨⟨1,0,0,1⟩,.inr (by simp),fun p=>by simp [h0,Mat.ap]⟩
  ·exact ⟨⟨-1,0,0,1⟩,.inr (by simp),fun p=>by simp [h0,Mat.ap]⟩
 by_cases h1:t=1
 ·cases m
  ·exact ⟨⟨0,-1,1,0⟩,.inl (by simp),fun p=>by simp [h1,Mat.ap]⟩
  ·exact ⟨⟨0,-1,-1,0⟩,.inl (by simp),fun p=>by simp [h1,Mat.ap]⟩
 by_cases h2:t=2
 ·cases m
  ·exact ⟨⟨-1,0,0,-1⟩,.inr (by simp),fun p=>by simp [h2,Mat.ap]⟩
  ·exact ⟨⟨1,0,0,-1⟩,.inr (by simp),fun p=>by simp [h2,Mat.ap]⟩
 ·cases m
  ·exact ⟨⟨0,1,-1,0⟩,.inl (by simp),fun p=>by simp [h0,h1,h2,Mat.ap]⟩
  ·exact ⟨⟨0,1,1,0⟩,.inl (by simp),fun p=>by simp [h0,h1,h2,Mat.ap]⟩
theorem rZ {e:AG} {t:Int} {m:Bool} {o:AB} (h:OkE e) (hs:Lq e) (ha:(-1000<=o.X/\o.X<=1000) /\ -1000<=o.Y/\o.Y<=1000):OkE (Q1 e t m o):=by
 have hs':=hs
 unfold Lq at hs'
 refine ⟨⟨Oj (Vo (by omega) ha),Oj (Vo (by omega) ha),?_⟩,?_⟩
 ·show RP (if e.Kind=1 then e.C else mvp t m o e.C)
  split
  ·exact h.1.2.2
  ·exact Oj (Vo (by omega) ha)
 ·obtain ⟨M,hM,hmv⟩:=iE t m o
  have h2:=h.2
  unfold Uh Q1 at *
  simp only [hmv]
  obtain ⟨a,b,c,d⟩:=M
  obtain ⟨k,a0,a1,a2⟩:=e
  unfold Mat.ok at hM
  rcases h2 with ⟨hk,h3,h4⟩ | ⟨hk,h3,h4,h5⟩ | ⟨hk,h3,h4,h5⟩
  ·simp only at hk
   subst hk
   left
   cases m <;> simp_all
  ·simp only at hk
   subst hk
   have h6:=QO h3
   simp only at h4 h5 h6
   cases m
   ·right;left
    simp only [QL,Odd,Mat.ap] at *
    rcases hM with ⟨rfl,rfl,hb,rfl⟩ | ⟨rfl,rfl,hb,rfl⟩ <;> rcases hb with rfl | rfl <;> simp <;> omega
   ·right;right
    simp only [QR,Odd,Mat.ap] at *
    rcases hM with ⟨rfl,rfl,hb,rfl⟩ | ⟨rfl,rfl,hb,rfl⟩ <;> rcases hb with rfl | rfl <;> simp <;> omega
  ·simp only at hk
   subst hk
   have h6:=QO h3
   simp only at h4 h5 h6
   cases m
   ·right;right
    simp only [QR,Odd,Mat.ap] at *
    rcases hM with ⟨rfl,rfl,hb,rfl⟩ | ⟨rfl,rfl,hb,rfl⟩ <;> rcases hb with rfl | rfl <;> simp <;> omega
   ·right;left
    simp only [QL,Odd,Mat.ap] at *
    rcases hM with ⟨rfl,rfl,hb,rfl⟩ | ⟨rfl,rfl,hb,rfl⟩ <;> rcases hb with rfl | rfl <;> simp <;> omega
end
section
open Go.RowKit
theorem PB (l:List (List Int)):MC (Ao l).1:=by
 have h:=SN l
 obtain ⟨p,q,r,e,h1,h2,h3⟩:=h.net
 refine ⟨by have:=h.parl;omega,by have:=h.trkl;omega,by have:=h.vial;omega,by have:=h.slotl;omega,?_,?_,?_,?_⟩
 ·rw [e];show ((3:Nat):Int)<=1000000;decide
 ·rw [e]
  intro n hn
  simp only [List.mem_cons,List.not_mem_nil,or_false] at hn
  rcases hn with rfl | rfl | rfl <;> (simp only;omega)
 ·intro t ht
  obtain ⟨k,hk,_,hm⟩:=Ji h.trk ht
  obtain ⟨a,c,d,_,_,e2⟩:=hm.edg
  rw [e2]
  have:=Qt a c d
  omega
 ·intro s hs
  obtain ⟨r,p,_,_,_,e2⟩:=h.slot s hs
  rw [e2]
  show ((1:Nat):Int)<=1000000
  decide
def qK (t:AO):AZ:=AZ.mk t.Id ⟨#[]⟩ 2 t.Net t.Layer t.Layer (Dq t.Shape)
def Zd (v:As):AZ:=AZ.mk v.Id ⟨#[]⟩ 3 v.Net v.From v.To (B9 v.At v.R)
theorem Xj (b:AF) (types:List AM):Cw b types=Dc b types++(BP b).map qK++(A7 b).map Zd:=by
 have h1:∀ out v16 K0 ,HQ b types out v16 K0 (((((A7 b).length:Nat):Int)-0).toNat+1) out 0=out++(A7 b).map Zd:=fun out v16 K0=>by
  have:=V6 (A7 b) (fun acc v=>acc++[Zd v]) (HQ b types out v16 K0) (fun acc _=>acc) (fun m acc v=>by rw [HQ];unfold Z0H;rw [Int.toNat_natCast];rfl) (A7 b).length 0 (((((A7 b).length:Nat):Int)-0).toNat+1) out rfl (Nat.zero_le _) (by omega)
  rw [List.drop_zero,J7] at this
  exact this
 have:=V6 (BP b) (fun acc t=>acc++[qK t]) (GX b types) (fun acc _=>acc++(A7 b).map Zd) (fun m acc v=>by rw [GX,h1];unfold Z0I;rw [Int.toNat_natCast];rfl) (BP b).length 0 (((((BP b).length:Nat):Int)-0).toNat+1) (Dc b types) rfl (Nat.zero_le _) (by omega)
 rw [List.drop_zero,J7] at this
 exact this
theorem Mr {α:Type} [Inhabited α] (lt:α->α->Bool) (l:List α) (h:∀ k,k+1<l.length->lt (l.getD (k+1) default) (l.getD k default)=false):Ci lt l=l:=by
 have key:∀ n,n<=l.length->Ci lt (l.take n)=l.take n:=by
  intro n
  induction n with
  | zero=>intro _;rfl
  | succ n ih =>
   intro hn
   have e:l.take (n+1)=l.take n++[l.getD n default]:=by
    rw [List.take_succ_eq_append_getElem (by omega),List.getD_eq_getElem?_getD,List.getElem?_eq_getElem (by omega)];rfl
   rw [e,NZ,ih (by omega)]
   have hl:(l.take n).length=n:=by rw [List.length_take];omega
   have hp:Ie (lt (l.getD n default)) (l.take n) (l.take n).length=n:=by
    rw [hl]
    cases n with
    | zero=>rfl
    | succ m =>
     unfold Ie
     rw [show (l.take (m+1)).getD m default=l.getD m default by rw [List.getD_eq_getElem?_getD,List.getElem?_take_of_lt (by omega),<- List.getD_eq_getElem?_getD],h m (by omega)]
     rfl
   unfold T6
   rw [hp,List.take_of_length_le (by omega),List.drop_eq_nil_of_le (by omega)]
 have:=key l.length (Nat.le_refl _)
 rwa [List.take_length] at this
theorem WI {x y:Int} (h:y<=x):decide (CS x y<0)=false:=by
 unfold CS Fh
 by_cases h2:y<x
 ·simp [show ¬ x<y by omega,h2]
 ·simp [show ¬ x<y by omega,h2]
theorem Vr {B:AF} {T:List AM} {l:List (List Int)} (h:F7 B T l):CM B.Parts=B.Parts:=by
 rw [eG]
 exact Mr _ _ fun k hk=>WI (by rw [(h.par k (by omega)).id,(h.par (k+1) hk).id];omega)
theorem Tt {B:AF} {T:List AM} {l:List (List Int)} (h:F7 B T l):BP B=B.Tracks:=by
 rw [LF]
 exact Mr _ _ fun k hk=>by
  show decide (CS (B.Tracks.getD (k+1) default).Id (B.Tracks.getD k default).Id<0)=false
  exact WI (by rw [(h.trk k (by omega)).id,(h.trk (k+1) hk).id];omega)
theorem YN {B:AF} {T:List AM} {l:List (List Int)} (h:F7 B T l):A7 B=B.Vias:=by
 rw [Ub]
 exact Mr _ _ fun k hk=>by
  show decide (CS (B.Vias.getD (k+1) default).Id (B.Vias.getD k default).Id<0)=false
  exact WI (by rw [(h.via k (by omega)).id,(h.via (k+1) hk).id];omega)
theorem LX {B:AF} {T:List AM} {l:List (List Int)} (h:F7 B T l):Cw B T=(B.Parts.flatMap (EG T)).map (PG B (kU B))++B.Tracks.map qK++B.Vias.map Zd:=by
 rw [Xj,Ui,Tt h,YN h]
 unfold Aj
 rw [Vr h]
theorem Tu {B:AF} {T:List AM} {l:List (List Int)} (h:F7 B T l) {p:AE} (hp:p∈B.Parts):∃ a,Bt T p.Type'=(A5 a p.Type',true):=by
 obtain ⟨k,_,_,hm⟩:=Ji h.par hp
 obtain ⟨a,e,_⟩:=Of l hm.typ
 rw [<- Yw,h.types]
 exact ⟨a,e⟩
theorem Jz {B:AF} {T:List AM} {l:List (List Int)} (h:F7 B T l) {x:AE×BF} (hx:x∈B.Parts.flatMap (EG T)):x.1∈B.Parts/\∃ k,Yp k x.2:=by
 obtain ⟨p,hp,hx⟩:=List.mem_flatMap.1 hx
 obtain ⟨a,e⟩:=Tu h hp
 unfold EG at hx
 rw [e] at hx
 obtain ⟨q,hq,rfl⟩:=List.mem_map.1 hx
 obtain ⟨k,_,_,hm⟩:=Ji (Je a p.Type') hq
 exact ⟨hp,k,hm⟩
theorem Xu (r:Ad):(Fk r).Edges.length=4:=rfl
theorem Z9 {k:Nat} {p:BF} (h:Yp k p):(p.Shape.Edges.length:Int)<=1000000:=by
 obtain ⟨y,_,_,_,h1 | ⟨r,_,_,h1⟩ | h1⟩:=h.shp <;> rw [h1]
 ·rw [Xu];decide
 ·show ((1:Nat):Int)<=1000000;decide
 ·show ((1:Nat):Int)<=1000000;decide
theorem iI {B:AF} {T:List AM} {l:List (List Int)} (h:F7 B T l) (hb:MC B):∀ x∈Cw B T,(x.Shape.Edges.length:Int)<=1000000:=by
 intro x hx
 rw [LX h] at hx
 rcases List.mem_append.1 hx with hx | hx
 ·rcases List.mem_append.1 hx with hx | hx
  ·obtain ⟨y,hy,rfl⟩:=List.mem_map.1 hx
   obtain ⟨_,k,hm⟩:=Jz h hy
   show ((EH y.2.Shape _).Edges.length:Int)<=_
   rw [YL]
   exact Z9 hm
  ·obtain ⟨y,hy,rfl⟩:=List.mem_map.1 hx
   exact hb.ted y hy
 ·obtain ⟨y,hy,rfl⟩:=List.mem_map.1 hx
  show ((1:Nat):Int)<=1000000;decide
theorem bM (l:List (List Int)):∀ k,(((Cw (Ao l).1 (Ao l).2).getD k default).Shape.Edges.length:Int)<=1000000:=GS (p:=fun x:AZ=>(x.Shape.Edges.length:Int)<=1000000) (by decide) (iI (SN l) (PB l))
theorem Xg (l:List (List Int)):((Cw (Ao l).1 (Ao l).2).length:Int)<=100000000:=by
 have h:=PB l
 have h1:=Hv h.parts (PA l)
 have h2:=h.tracks
 have h3:=h.vias
 rw [Xj]
 simp only [List.length_append,List.length_map,RD,Nh,NH]
 omega
end
section
open Go.RowKit
theorem dO {p:Prop} [Decidable p] {q:Bool} (h:(bif decide p then q else false)=true):p:=by
 by_cases hp:p
 ·exact hp
 ·rw [decide_eq_false hp] at h;cases h
def Z6r (c:CY):(List AZ):=Cw (Ao c.Board).1 (Ao c.Board).2
def Z6s (c:CY) (v55:Int):Bool := !(((Z6r c).getD v55.toNat default).Pad.toList==({ data := #[] }:ByteArray).toList)
def Z6t (c:CY) (v55:Int) (v64:Int):AZ:=((Z6r c).take (v55:Int).toNat).getD v64.toNat default
def Z6u (c:CY) (v36:Int):AE:=(Ao c.Board).1.Parts.getD v36.toNat default
def Z6v (c:CY) (v36:Int):AM:=(Bt (Ao c.Board).2 (Z6u c v36).Type').1
def Cd (c:CY) (v7:Int) (v36:Int) (v55:Int) (K0:Int->Int->Bool) (K1:Int->Bool):Nat->Int->Bool
 | 0,_=>default
 | n2+1,v64=>bif decide ((v64:Int)<(((v55:Int).toNat-(0:Int).toNat:Nat):Int)) then (bif bif decide ((((Z6r c).getD v55.toNat default).Id:Int)=(Z6t c v55 v64).Id) then (((Z6r c).getD v55.toNat default).Pad.toList==(Z6t c v55 v64).Pad.toList) else false then false else ((Cd c v7 v36 v55 K0 K1 n2) (v64+1))) else (bif bif bif bif bif !((decide ((((Z6r c).getD v55.toNat default).Kind:Int)=1))==(Z6s c v55)) then true else decide ((((Z6r c).getD v55.toNat default).From:Int)<1) then true else decide ((((Z6r c).getD v55.toNat default).To:Int)<((Z6r c).getD v55.toNat default).From) then true else decide (((Ao c.Board).1.Layers:Int)<((Z6r c).getD v55.toNat default).To) then true else !decide (((C9 ((Z6r c).getD v55.toNat default).Shape):Int)=0) then false else (K1 (v55+1)))
def Ce (c:CY) (v7:Int) (v36:Int) (K0:Int->Int->Bool):Nat->Int->Bool
 | 0,_=>default
 | n1+1,v55=>bif decide ((v55:Int)<((Z6r c).length:Int)) then (Cd c v7 v36 v55 K0 (Ce c v7 v36 K0 n1) (((((v55:Int).toNat-(0:Int).toNat:Nat):Int)-0).toNat+1) 0) else (bif A9 then decide ((((Z6r c).length:Int):Int)=v7) else false)
def B3 (c:CY):Nat->Int->Int->Bool
 | 0,_,_=>default
 | n0+1,v7,v36=>bif decide ((v36:Int)<((Ao c.Board).1.Parts.length:Int)) then ((B3 c n0) (W64 (v7+((Z6v c v36).Pads.length:Int))) (v36+1)) else (Ce c v7 v36 (B3 c n0) ((((Z6r c).length:Int)-0).toNat+1) 0)
def D1 (c:CY):Bool:=B3 c ((((Ao c.Board).1.Parts.length:Int)-0).toNat+1) (W64 (((Ao c.Board).1.Tracks.length:Int)+((Ao c.Board).1.Vias.length:Int))) 0
def UT (c:CY):FuncId×List Av×Ef:=(6,[.agg (CY.c c)],.val [] (.av (.one (.b (D1 c)))))
abbrev U7 (c:CY) (v55:Int):Bool:=(decide ((((Z6r c).getD v55.toNat default).Kind:Int)=1))
abbrev S5 (c:CY) (v55:Int):=(bif bif bif !((U7 c v55)==(Z6s c v55)) then true else decide ((((Z6r c).getD v55.toNat default).From:Int)<1) then true else decide ((((Z6r c).getD v55.toNat default).To:Int)<((Z6r c).getD v55.toNat default).From) then true else decide (((Ao c.Board).1.Layers:Int)<((Z6r c).getD v55.toNat default).To))
abbrev S4 (c:CY) (v55:Int):=(bif bif !((U7 c v55)==(Z6s c v55)) then true else decide ((((Z6r c).getD v55.toNat default).From:Int)<1) then true else decide ((((Z6r c).getD v55.toNat default).To:Int)<((Z6r c).getD v55.toNat default).From))
abbrev S0 (c:CY) (v55:Int):Bool:=(U7 c v55)
abbrev EM (c:CY):Nat×Blk:=(4,.cells (AF.c (Ao c.Board).1) 41)
abbrev EL (c:CY):=lst 9 AZ.c (Z6r c)
abbrev Oc (c:CY) (v55:Int):=(bif !((S0 c v55)==(Z6s c v55)) then true else decide ((((Z6r c).getD v55.toNat default).From:Int)<1))
abbrev Kh (v55:Int):Nat×Tv:=(63,tI (((v55:Int).toNat-(0:Int).toNat:Nat):Int))
abbrev JY (c:CY) (v55:Int):Nat×Blk:=(13,.cells (AZ.c ((Z6r c).getD v55.toNat default)) 61)
abbrev FQ (c:CY):Nat×Tv:=(54,tI ((Z6r c).length:Int))
abbrev HW (c:CY):Nat×Tv:=(5,tO (lst 3 AM.c (Ao c.Board).2))
abbrev Kg (c:CY):Nat×Tv:=(35,tI ((Ao c.Board).1.Parts.length:Int))
abbrev Ob (c:CY) (v55:Int) (v64:Int):Bool:=(decide ((((Z6r c).getD v55.toNat default).Id:Int)=(Z6t c v55 v64).Id))
abbrev Ke (c:CY):Nat×Tv:=(34,tO (lst 7 AE.c (Ao c.Board).1.Parts))
abbrev Md (c:CY) (v55:Int):Nat×Tv:=(62,tO (lst 9 AZ.c ((Z6r c).take (v55:Int).toNat)))
abbrev FN (c:CY):Nat×Tv:=(53,tO (EL c))
abbrev ZN (c:CY):Nat×Tv:=(7,tI (W64 (((Ao c.Board).1.Tracks.length:Int)+((Ao c.Board).1.Vias.length:Int))))
theorem au17 {p:Prop} (h:p:=by first | (with_reducible exact PA _) | (with_reducible exact PB _) | (with_reducible exact hed _) | (with_reducible exact hed1 _) | ((simp only [List.length_take];omega)) | (with_reducible exact hAl) | with_reducible assumption | omega | decide | (simp only [List.length_cons,List.length_nil,List.length_append];omega) | assumption):p:=h
set_option maxHeartbeats 4000000 in
theorem TP (c:CY) (hcb:(c.Board.length:Int)<=9223372036854775807) (hll:∀ x∈c.Board,(x.length:Int)<=9223372036854775807):Bk Tryz.prog 6 (UT c).2.1 (tO (.b (D1 c))):=by
 refine AV Tryz.func6 rfl kr kr fun W0 M0 => ?_
 have hM:=sB c.Board
 have hP:=hM.par
 have hAl:(((Z6r c).length:Nat):Int)<=100000000:=Xg c.Board
 have hed1:∀ k,((((Z6r c).getD k default).Shape.Edges.length:Nat):Int)<=1000000:=bM c.Board
 have hed:∀ k,((((Z6r c).getD k default).Shape.Edges.length:Nat):Int)<=9223372036854775807:=fun k=>Int.le_trans (hed1 k) (by decide)
 refine AC<|rn ⟨[(1,tP 1 0)],[(1,.cells (CY.c c) 25)]⟩<|AC ?_
 refine rc [(16,Ga)] [Ak Ga.2.1] ⟨[(1,tP 1 0),(3,tB A9)],[(1,.cells (CY.c c) 25)]⟩ (.cons Vh .nil) (.cons rfl .nil)<|AJ<|AC ?_
 refine rc [(20,KC c.Board)] [Ak (KC c.Board).2.1] ⟨[(3,tB A9),(4,tP 4 0),(HW c)],[(EM c)]⟩ (.cons (aM c.Board au17 au17) .nil) (.cons rfl .nil)<|AJ<|AC ?_
 refine rc [(25,Pd (Ao c.Board).1 (Ao c.Board).2)] [Ak (Pd (Ao c.Board).1 (Ao c.Board).2).2.1] ⟨[(3,tB A9),(4,tP 4 0),(HW c),(6,tO (EL c))],[(EM c)]⟩ (.cons (aQ (Ao c.Board).1 (Ao c.Board).2 au17 au17) .nil) (.cons rfl .nil)<|AJ<|AC ?_
 refine rn ⟨[(3,tB A9),(4,tP 4 0),(HW c),(6,tO (EL c)),(ZN c)],[(EM c)]⟩ ?_
 refine AC<|AC ?_
 refine rn ⟨[(3,tB A9),(4,tP 4 0),(HW c),(6,tO (EL c)),(ZN c),(Ke c),(Kg c),(36,tI 0)],[(EM c)]⟩<|AY ?_
 refine BS (ι:=Nat×Int×Int) (fun x=>⟨[(3,tB A9),(4,tP 4 0),(HW c),(6,tO (EL c)),(7,tI x.2.1),(Ke c),(Kg c),(36,tI x.2.2)],[(EM c)]⟩) (fun x=>(((Ao c.Board).1.Parts.length:Int)-x.2.2).toNat<x.1/\(0<=x.2.2/\(x.2.2<=((Ao c.Board).1.Parts.length:Int)\/x.2.2=0))/\B3 c x.1 x.2.1 x.2.2=D1 c) (fun x=>x.1) ?_ ((((Ao c.Board).1.Parts.length:Int)-0).toNat+1,W64 (((Ao c.Board).1.Tracks.length:Int)+((Ao c.Board).1.Vias.length:Int)),0) ⟨Nat.lt_succ_self _,⟨ax0,ax0⟩,(by simp only [D1,cond_true,cond_false])⟩
 rintro ⟨n0,v7,v36⟩ ⟨hn,hinv,hF⟩
 have hm0:=hn;have hinv0:=hinv;have hF0:=hF;try dsimp only at hm0 hinv0 hF0
 clear hn hinv hF
 cases n0 with
 | zero=>exact absurd hm0 (Nat.not_lt_zero _)
 | succ n0 =>
  refine AC<|rn ⟨[(3,tB A9),(4,tP 4 0),(HW c),(6,tO (EL c)),(7,tI v7),(Ke c),(Kg c),(36,tI v36),(37,tB (decide ((v36:Int)<((Ao c.Board).1.Parts.length:Int))))],[(EM c)]⟩<|AC ?_
  refine Ab _ rfl (fun h1 => ?_) (fun h1 => ?_)
  ·have g1:=oT h1
   refine Af<|AJ ?_
   refine AC<|AY<|AC ?_
   refine rc [] [0<=(v36:Int)/\(v36:Int)<(((Ao c.Board).1.Parts.length:Nat):Int)] ⟨[(3,tB A9),(4,tP 4 0),(HW c),(6,tO (EL c)),(7,tI v7),(9,tP 9 0),(Ke c),(Kg c),(36,tI v36)],[(EM c),(9,.cells (AE.c (Z6u c v36)) 78)]⟩ .nil (.cons au0 .nil)<|AJ<|AC ?_
   refine rc [(44,P5 (Ao c.Board).2 (Z6u c v36).Type')] [Ak (P5 (Ao c.Board).2 (Z6u c v36).Type').2.1] ⟨[(3,tB A9),(4,tP 4 0),(HW c),(6,tO (EL c)),(7,tI v7),(10,tP 10 0),(Ke c),(Kg c),(36,tI v36)],[(EM c),(10,.cells (AM.c (Z6v c v36)) 82)]⟩ (.cons (aO (Ao c.Board).2 (Z6u c v36).Type' au17) .nil) (.cons rfl .nil)<|AJ ?_
   refine rg ⟨[(3,tB A9),(4,tP 4 0),(HW c),(6,tO (EL c)),(7,tI (W64 (v7+((Z6v c v36).Pads.length:Int)))),(Ke c),(Kg c),(36,tI v36)],[(EM c)]⟩<|Be<|AJ ?_
   refine rg ⟨[(3,tB A9),(4,tP 4 0),(HW c),(6,tO (EL c)),(7,tI (W64 (v7+((Z6v c v36).Pads.length:Int)))),(Ke c),(Kg c),(36,tI (W64 (v36+1)))],[(EM c)]⟩ ?_
   (try rw [(show W64 (v36+1)=v36+1 from An (by omega) au6)])
   refine AJ ?_
   refine ⟨(n0,W64 (v7+((Z6v c v36).Pads.length:Int)),v36+1),⟨?_,?_,(by rw [<- hF0];simp only [B3,h1,cond_true,cond_false])⟩,Nat.lt_succ_self _,BB kr⟩
   ·show (((Ao c.Board).1.Parts.length:Int)-(v36+1)).toNat<n0;omega
   ·exact ⟨ax0,ax0⟩
  ·have g1:=oF h1
   refine BV<|BE ?_
   refine BE<|BW ?_
   refine AJ<|AC<|AC ?_
   refine rn ⟨[(3,tB A9),(4,tP 4 0),(6,tO (EL c)),(7,tI v7),(FN c),(FQ c),(55,tI 0)],[(EM c)]⟩<|AY ?_
   refine BS (ι:=Nat×Int) (fun x=>⟨[(3,tB A9),(4,tP 4 0),(6,tO (EL c)),(7,tI v7),(FN c),(FQ c),(55,tI x.2)],[(EM c)]⟩) (fun x=>(((Z6r c).length:Int)-x.2).toNat<x.1/\(0<=x.2/\(x.2<=((Z6r c).length:Int)\/x.2=0))/\Ce c v7 v36 (B3 c n0) x.1 x.2=D1 c) (fun x=>x.1) ?_ ((((Z6r c).length:Int)-0).toNat+1,0) ⟨Nat.lt_succ_self _,⟨ax0,ax0⟩,(by rw [<- hF0];simp only [B3,h1,cond_true,cond_false])⟩
   rintro ⟨n1,v55⟩ ⟨hn,hinv,hF⟩
   have hm1:=hn;have hinv1:=hinv;have hF1:=hF;try dsimp only at hm1 hinv1 hF1
   clear hn hinv hF
   cases n1 with
   | zero=>exact absurd hm1 (Nat.not_lt_zero _)
   | succ n1 =>
    refine AC<|rn ⟨[(3,tB A9),(4,tP 4 0),(6,tO (EL c)),(7,tI v7),(FN c),(FQ c),(55,tI v55),(56,tB (decide ((v55:Int)<((Z6r c).length:Int))))],[(EM c)]⟩<|AC ?_
    refine Ab _ rfl (fun h2 => ?_) (fun h2 => ?_)
    ·have g2:=oT h2
     refine Af<|AJ ?_
     refine AC<|AY<|AC ?_
     refine rc [] [0<=(v55:Int)/\(v55:Int)<(((Z6r c).length:Nat):Int)] ⟨[(3,tB A9),(4,tP 4 0),(6,tO (EL c)),(7,tI v7),(12,tI v55),(13,tP 13 0),(FN c),(FQ c),(55,tI v55)],[(EM c),(JY c v55)]⟩ .nil (.cons au0 .nil)<|AJ ?_
     refine AC<|AC ?_
     refine rc [] [0<=(0:Int)/\(0:Int)<=(v55:Int)/\(v55:Int)<=(((Z6r c).length:Nat):Int)] ⟨[(3,tB A9),(4,tP 4 0),(6,tO (EL c)),(7,tI v7),(13,tP 13 0),(FN c),(FQ c),(55,tI v55),(62,.av (.one (.list false 9 ((v55:Int).toNat-(0:Int).toNat) (fun i_ j_=>(AP AZ.c (Z6r c)) (i_+(0:Int).toNat) j_)))),(Kh v55),(64,tI 0)],[(EM c),(JY c v55)]⟩ .nil (.cons au0 .nil)<|AJ ?_
     refine Ba (Cv.trans (BT (⟨[(3,tB A9),(4,tP 4 0),(6,tO (EL c)),(7,tI v7),(13,tP 13 0),(FN c),(FQ c),(55,tI v55),(Md c v55),(Kh v55),(64,tI 0)],[(EM c),(JY c v55)]⟩) (.cons ⟨rfl,.refl _⟩ (.cons ⟨rfl,.refl _⟩ (.cons ⟨rfl,.refl _⟩ (.cons ⟨rfl,.refl _⟩ (.cons ⟨rfl,.refl _⟩ (.cons ⟨rfl,.refl _⟩ (.cons ⟨rfl,.refl _⟩ (.cons ⟨rfl,.refl _⟩ (.cons ⟨rfl,.av (.one (Bm false (Xn (b:=v55) (BM 9 AZ.c (Z6r c)) (by have hc:=(show 0<=(0:Int)/\(0:Int)<=(v55:Int)/\(v55:Int)<=(((Z6r c).length:Nat):Int) from au0);exact hc.2.1) (by have hc:=(show 0<=(0:Int)/\(0:Int)<=(v55:Int)/\(v55:Int)<=(((Z6r c).length:Nat):Int) from au0);exact hc.2.2))))⟩ lr))))))))) lr) (Cv.refl _))<|AY ?_
     refine BS (ι:=Nat×Int) (fun x=>⟨[(3,tB A9),(4,tP 4 0),(6,tO (EL c)),(7,tI v7),(13,tP 13 0),(FN c),(FQ c),(55,tI v55),(Md c v55),(Kh v55),(64,tI x.2)],[(EM c),(JY c v55)]⟩) (fun x=>((((v55:Int).toNat-(0:Int).toNat:Nat):Int)-x.2).toNat<x.1/\(0<=x.2/\(x.2<=(((v55:Int).toNat-(0:Int).toNat:Nat):Int)\/x.2=0))/\Cd c v7 v36 v55 (B3 c n0) (Ce c v7 v36 (B3 c n0) n1) x.1 x.2=D1 c) (fun x=>x.1) ?_ (((((v55:Int).toNat-(0:Int).toNat:Nat):Int)-0).toNat+1,0) ⟨Nat.lt_succ_self _,⟨ax0,ax0⟩,(by rw [<- hF1];simp only [Ce,h2,cond_true,cond_false])⟩
     rintro ⟨n2,v64⟩ ⟨hn,hinv,hF⟩
     have hm2:=hn;have hinv2:=hinv;have hF2:=hF;try dsimp only at hm2 hinv2 hF2
     clear hn hinv hF
     cases n2 with
     | zero=>exact absurd hm2 (Nat.not_lt_zero _)
     | succ n2 =>
      refine AC<|rn ⟨[(3,tB A9),(4,tP 4 0),(6,tO (EL c)),(7,tI v7),(13,tP 13 0),(FN c),(FQ c),(55,tI v55),(Md c v55),(Kh v55),(64,tI v64),(65,tB (decide ((v64:Int)<(((v55:Int).toNat-(0:Int).toNat:Nat):Int))))],[(EM c),(JY c v55)]⟩<|AC ?_
      refine Ab _ rfl (fun h3 => ?_) (fun h3 => ?_)
      ·have g3:=oT h3
       refine Af<|AJ ?_
       refine AC<|AY<|AC ?_
       refine rc [] [0<=(v64:Int)/\(v64:Int)<((((Z6r c).take (v55:Int).toNat).length:Nat):Int)] ⟨[(3,tB A9),(4,tP 4 0),(6,tO (EL c)),(7,tI v7),(13,tP 13 0),(15,tP 15 0),(FN c),(FQ c),(55,tI v55),(Md c v55),(Kh v55),(64,tI v64)],[(EM c),(JY c v55),(15,.cells (AZ.c (Z6t c v55 v64)) 61)]⟩ .nil (.cons au0 .nil)<|AJ<|AC ?_
       refine rc [] [gt (Ob c v55 v64),gt (Ob c v55 v64),gt (Ob c v55 v64),gt (Ob c v55 v64),gt (Ob c v55 v64)] ⟨[(3,tB A9),(4,tP 4 0),(6,tO (EL c)),(7,tI v7),(13,tP 13 0),(FN c),(FQ c),(55,tI v55),(Md c v55),(Kh v55),(64,tI v64),(79,tB (bif decide ((((Z6r c).getD v55.toNat default).Id:Int)=(Z6t c v55 v64).Id) then (((Z6r c).getD v55.toNat default).Pad.toList==(Z6t c v55 v64).Pad.toList) else false))],[(EM c),(JY c v55)]⟩ .nil (ci (ci (ci (ci (ci .nil)))))<|AJ ?_
       refine Ab _ rfl (fun h4 => ?_) (fun h4 => ?_)
       ·have g4:=dO h4
        refine AC<|rn ⟨[(2,tB false)],[]⟩ ?_
        refine Ag<|CO ?_
        refine Bd<|Bd ?_
        refine CO<|Bd ?_
        refine CO<|Bd ?_
        refine Bd<|CO<|Bd ?_
        exact ⟨_,Cv.refl _,.inl rfl,tO (.b false),by kernel_rfl,Al (by rw [<- hF2];first | (simp only [Cd,h3,h4,cond_true,cond_false] <;> rfl))⟩
       ·refine Af<|Be<|AJ ?_
        refine rg ⟨[(3,tB A9),(4,tP 4 0),(6,tO (EL c)),(7,tI v7),(13,tP 13 0),(FN c),(FQ c),(55,tI v55),(Md c v55),(Kh v55),(64,tI (W64 (v64+1)))],[(EM c),(JY c v55)]⟩ ?_
        (try rw [(show W64 (v64+1)=v64+1 from An (by omega) au6)])
        refine AJ ?_
        refine ⟨(n2,v64+1),⟨?_,?_,(by rw [<- hF2];simp only [Cd,h3,h4,cond_true,cond_false])⟩,Nat.lt_succ_self _,BB kr⟩
        ·show ((((v55:Int).toNat-(0:Int).toNat:Nat):Int)-(v64+1)).toNat<n2;omega
        ·exact ⟨ax0,ax0⟩
      ·have g3:=oF h3
       refine BV<|BE ?_
       refine BE<|BW ?_
       refine AJ<|AC ?_
       refine rc [(110,KD ((Z6r c).getD v55.toNat default).Shape)] [gi (!((S0 c v55)==(Z6s c v55))),gi (!((S0 c v55)==(Z6s c v55))),gi (!((S0 c v55)==(Z6s c v55))),gi (Oc c v55),gi (Oc c v55),gi (Oc c v55),gi (Oc c v55),gi (Oc c v55),gi (S4 c v55),gi (S4 c v55),gi (S4 c v55),gi (S4 c v55),gi (S4 c v55),gi (S5 c v55),gi (S5 c v55),gj (S5 c v55) (Ak (KD ((Z6r c).getD v55.toNat default).Shape).2.1),gi (S5 c v55),gi (S5 c v55)] ⟨[(3,tB A9),(4,tP 4 0),(6,tO (EL c)),(7,tI v7),(FN c),(FQ c),(55,tI v55),(112,tB (bif bif bif bif !((decide ((((Z6r c).getD v55.toNat default).Kind:Int)=1))==(Z6s c v55)) then true else decide ((((Z6r c).getD v55.toNat default).From:Int)<1) then true else decide ((((Z6r c).getD v55.toNat default).To:Int)<((Z6r c).getD v55.toNat default).From) then true else decide (((Ao c.Board).1.Layers:Int)<((Z6r c).getD v55.toNat default).To) then true else !decide (((C9 ((Z6r c).getD v55.toNat default).Shape):Int)=0)))],[(EM c)]⟩ (.cons (aP ((Z6r c).getD v55.toNat default).Shape au17) .nil) (ci (ci (ci (ci (ci (ci (ci (ci (ci (ci (ci (ci (ci (ci (ci (.cons (fun _=>rfl) (ci (ci .nil))))))))))))))))))<|AJ ?_
       refine Ab (bif bif bif bif !((S0 c v55)==(Z6s c v55)) then true else decide ((((Z6r c).getD v55.toNat default).From:Int)<1) then true else decide ((((Z6r c).getD v55.toNat default).To:Int)<((Z6r c).getD v55.toNat default).From) then true else decide (((Ao c.Board).1.Layers:Int)<((Z6r c).getD v55.toNat default).To) then true else !decide (((C9 ((Z6r c).getD v55.toNat default).Shape):Int)=0)) kr (fun h4 => ?_) (fun h4 => ?_)
       ·refine AC<|rn ⟨[(2,tB false)],[]⟩ ?_
        refine Ag<|CO ?_
        refine Bd<|Bd ?_
        refine CO<|Bd ?_
        exact ⟨_,Cv.refl _,.inl rfl,tO (.b false),by kernel_rfl,Al (by rw [<- hF2];first | (simp only [Cd,h3,h4,cond_true,cond_false] <;> rfl))⟩
       ·refine Af<|Be<|AJ ?_
        refine rg ⟨[(3,tB A9),(4,tP 4 0),(6,tO (EL c)),(7,tI v7),(FN c),(FQ c),(55,tI (W64 (v55+1)))],[(EM c)]⟩ ?_
        (try rw [(show W64 (v55+1)=v55+1 from An (by omega) au6)])
        refine AJ ?_
        refine ⟨(n1,v55+1),⟨?_,?_,(by rw [<- hF2];simp only [Cd,h3,h4,cond_true,cond_false])⟩,Nat.lt_succ_self _,BB kr⟩
        ·show (((Z6r c).length:Int)-(v55+1)).toNat<n1;omega
        ·exact ⟨ax0,ax0⟩
    ·have g2:=oF h2
     refine BV<|BE ?_
     refine BE<|BW ?_
     refine AJ<|AC ?_
     refine rc [] [(A9=true)->(A9=true),(A9=true)->(A9=true),(A9=true)->(A9=true),A9=true->(A9=true)] ⟨[(2,tB (bif A9 then decide ((((Z6r c).length:Int):Int)=v7) else false))],[]⟩ .nil (ci (ci (ci (ci .nil))))<|AJ<|Ag ?_
     exact ⟨_,Cv.refl _,.inl rfl,tO (.b (bif A9 then decide ((((Z6r c).length:Int):Int)=v7) else false)),by kernel_rfl,Al (by rw [<- hF1];first | (simp only [Ce,h2,cond_true,cond_false] <;> rfl))⟩
end
end Go.Proofs.YtheobjkgllmnmaaGreat
