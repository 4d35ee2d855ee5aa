/-
  No statement is proved in this text. It holds a part of what the proof of LengthNets needs.
-/
import Derived.Test.YtgmhnkoifdpemaaLengthNetsQc
namespace Go.Proofs.Ytgmhnkoifdpemaa
set_option maxRecDepth 100000
set_option linter.unusedVariables false
set_option linter.unusedSimpArgs false
open Go.RowKit
def Ez (x0:AD) (x1:AD):AG:=AG.mk 1 x0 x1 (AD.mk 0 0)
def DW (x0:AD) (x1:AD):CT:=(19,[.agg (AD.c x0),.agg (AD.c x1)],.val [] (.av (.agg (AG.c (Ez x0 x1)))))
theorem VE (x0:AD) (x1:AD):PuP 19 (DW x0 x1).2.1 (.av (.agg (AG.c (Ez x0 x1)))):=by
 refine pwf Try.func19 fun W0 M0 => ?_
 exact AA<|on<|AA<|on<|AR<|zl
theorem GQ (x0:AD) (x1:AD):OKc (DW x0 x1):=cPu<|VE x0 x1
def Cr (x0:Int):AG:=AG.mk 2 (AD.mk x0 0) (AD.mk 0 x0) (AD.mk 0 0)
def EH (x0:Int):CT:=(32,[.one (.i x0)],.val [] (.av (.agg (AG.c (Cr x0)))))
theorem Oe (x0:Int):PuP 32 (EH x0).2.1 (.av (.agg (AG.c (Cr x0)))):=by
 refine pwf Try.func32 fun W0 M0 => ?_
 exact AA<|on<|AA<|on<|AR<|zl
theorem I5 (x0:Int):OKc (EH x0):=cPu<|Oe x0
theorem kT {t u:AO} (ht:(t.Shape.Edges.length:Int)<=1000000) (hu:(u.Shape.Edges.length:Int)<=1000000):∀ i,((([t,u].getD i default).Shape.Edges.length:Int)<=1000000):=by
 intro i
 match i with
 | 0=>exact ht
 | 1=>exact hu
 | i+2=>exact (by decide:((0:Nat):Int)<=1000000)
def Z0q:Bool:=bif decide (((DC 0):Int)=0) then decide (((DC 15):Int)=3) else false
def Z0r:Bool:=bif Z0q then decide (((DC 16):Int)=4) else false
def Z0s:Bool:=bif Z0r then decide (((DC (-4)):Int)=0) else false
def Z0t:AG:=Ez (AD.mk 0 0) (AD.mk 3 4)
def Z0u:Bool:=decide (((D0 Z0t):Int)=5)
def Z0v:Bool:=bif Z0u then decide (((D0 (Ez (AD.mk 0 0) (AD.mk 1 1))):Int)=1) else false
def Z0w:Bool:=bif Z0v then decide (((D0 (Cr 226)):Int)=355) else false
def Z0x:Bool:=bif Z0w then decide (((D0 (Cr 1)):Int)=1) else false
def Z0y:AG:=Ez (AD.mk 3 4) (AD.mk 3 10)
def Z0z:(Nat->Nat->Cl):=BF 7 2 [.i Z0t.Kind,.i Z0t.A.X,.i Z0t.A.Y,.i Z0t.B.X,.i Z0t.B.Y,.i Z0t.C.X,.i Z0t.C.Y,.i Z0y.Kind,.i Z0y.A.X,.i Z0y.A.Y,.i Z0y.B.X,.i Z0y.B.Y,.i Z0y.C.X,.i Z0y.C.Y]
abbrev UE:List Cl:=[.i 1,.list true 7 2 Z0z,.i 1]
def Z0A:Blk:=.cells UE 36
def Z0B:(Nat->Nat->Cl):=BF 7 1 (AG.c Z0t)
def Z0C:(Nat->Nat->Cl):=BF 6 2 [.i 1,.s ({ data := #[97] }:ByteArray),.i 0,.i 1,.list true 7 2 Z0z,.i 1,.i 2,.s ({ data := #[97] }:ByteArray),.i 0,.i 1,.list true 7 1 Z0B,.i 0]
abbrev vN:Cl:=.val (.slice none 0 0)
abbrev RS:List Cl:=[.i 0,.i 0,vN,.i 0,vN,vN,.list true 6 2 Z0C,vN,vN,vN,vN,vN,vN,vN,vN]
def Z0D:Blk:=.cells RS 62
def Z0E:Bool:=bif Z0s then Z0x else false
def Z0F:Bool:=bif Z0E then decide (((Fg (AX.mk 1 [Z0t,Z0y] 1)):Int)=11) else false
def Z0G:Bool:=bif Z0F then decide (((Bj (AC.mk 0 (AX.mk 0 [] 0) [] [] [AO.mk 1 ({ data := #[97] }:ByteArray) 0 (AX.mk 1 [Z0t,Z0y] 1),AO.mk 2 ({ data := #[97] }:ByteArray) 0 (AX.mk 1 [Z0t] 0)] [] [] [] [] [] [] [] []) ({ data := #[97] }:ByteArray)):Int)=16) else false
def Z0H:Bool:=bif Z0G then (Ac (AC.mk 0 (AX.mk 0 [] 0) [] [] [AO.mk 1 ({ data := #[97] }:ByteArray) 0 (AX.mk 1 [Z0t,Z0y] 1),AO.mk 2 ({ data := #[97] }:ByteArray) 0 (AX.mk 1 [Z0t] 0)] [] [] [] [] [] [] [] []) (AN.mk (⟨#[]⟩) [({ data := #[97] }:ByteArray),({ data := #[98] }:ByteArray)] 0)).2 else false
def Z0I:Bool:=bif Z0H then decide (((Ac (AC.mk 0 (AX.mk 0 [] 0) [] [] [AO.mk 1 ({ data := #[97] }:ByteArray) 0 (AX.mk 1 [Z0t,Z0y] 1),AO.mk 2 ({ data := #[97] }:ByteArray) 0 (AX.mk 1 [Z0t] 0)] [] [] [] [] [] [] [] []) (AN.mk (⟨#[]⟩) [({ data := #[97] }:ByteArray),({ data := #[98] }:ByteArray)] 0)).1:Int)=16) else false
def GE:Bool:=Z0I
def Mm:CT:=(9,[],.val [] (.av (.one (.b GE))))
theorem au14 {p:Prop} (h:p:=by first | (exact hb1 _) | (exact kT (by decide) (by decide)) | with_reducible assumption | omega | decide | (simp only [List.length_cons,List.length_nil,List.length_append];omega) | assumption):p:=h
theorem XX  : HT Try.prog 9 (Mm ).2.1 (tO (.b GE)):=by
 refine pwf Try.func9 fun W0 M0 => ?_
 refine AA<|on<|AA<|oc [(11,Ea 0),(14,Ea 15),(18,Ea 16),(22,Ea (-4))] ((As (Ea 0).2.1)::(gk (decide (((DC 0):Int)=0)) (As (Ea 15).2.1))::(t2 (decide (((DC 0):Int)=0)) [(Z0q=true)->(As (Ea 16).2.1),(Z0q=true)->(Z0q=true),Z0q=true->(Z0q=true),(Z0r=true)->(As (Ea (-4)).2.1),(Z0r=true)->(Z0r=true),Z0r=true->(Z0r=true)])) (.cons (Hw 0 au25) (.cons (Hw 15 au25) (.cons (Hw 16 au25) (.cons (Hw (-4) au25) .nil)))) (.cons rfl (.cons (fun _=>rfl) (c2 (.cons (fun _=>rfl) (ci (ci (.cons (fun _=>rfl) (ci (ci .nil)))))))))<|AF<|AA<|on<|AA<|on<|AA ?_
 refine oc [(30,DW (AD.mk 0 0) (AD.mk 3 4)),(31,Ev Z0t),(36,DW (AD.mk 0 0) (AD.mk 1 1)),(37,Ev (Ez (AD.mk 0 0) (AD.mk 1 1))),(42,EH 226),(43,Ev (Cr 226)),(48,EH 1),(49,Ev (Cr 1))] [As (DW (AD.mk 0 0) (AD.mk 3 4)).2.1,As (Ev Z0t).2.1,(Z0u=true)->(Z0u=true),(Z0u=true)->(Z0u=true),(Z0u=true)->(As (DW (AD.mk 0 0) (AD.mk 1 1)).2.1),(Z0u=true)->(Z0u=true),(Z0u=true)->(As (Ev (Ez (AD.mk 0 0) (AD.mk 1 1))).2.1),(Z0u=true)->(Z0u=true),Z0u=true->(Z0u=true),(Z0v=true)->(Z0v=true),(Z0v=true)->(As (EH 226).2.1),(Z0v=true)->(Z0v=true),(Z0v=true)->(As (Ev (Cr 226)).2.1),(Z0v=true)->(Z0v=true),Z0v=true->(Z0v=true),(Z0w=true)->(Z0w=true),(Z0w=true)->(As (EH 1).2.1),(Z0w=true)->(Z0w=true),(Z0w=true)->(As (Ev (Cr 1)).2.1),(Z0w=true)->(Z0w=true),Z0w=true->(Z0w=true)] (.cons (GQ (AD.mk 0 0) (AD.mk 3 4)) (.cons (Hx Z0t) (.cons (GQ (AD.mk 0 0) (AD.mk 1 1)) (.cons (Hx (Ez (AD.mk 0 0) (AD.mk 1 1))) (.cons (I5 226) (.cons (Hx (Cr 226)) (.cons (I5 1) (.cons (Hx (Cr 1)) .nil)))))))) (.cons rfl (.cons rfl (ci (ci (.cons (fun _=>rfl) (ci (.cons (fun _=>rfl) (ci (ci (ci (.cons (fun _=>rfl) (ci (.cons (fun _=>rfl) (ci (ci (ci (.cons (fun _=>rfl) (ci (.cons (fun _=>rfl) (ci (ci .nil)))))))))))))))))))))<|AF<|AA ?_
 refine dw [] [(54,DW (AD.mk 0 0) (AD.mk 3 4)),(57,DW (AD.mk 3 4) (AD.mk 3 10))] [As (DW (AD.mk 0 0) (AD.mk 3 4)).2.1,As (DW (AD.mk 3 4) (AD.mk 3 10)).2.1] ⟨[(1,tB Z0s),(2,tP 2 0),(3,tP 3 0),(6,tB Z0x),(7,tP 7 0)],[(2,.cells [.i 0,.i 0] 31),(3,.cells [.i 3,.i 4] 31),(7,Z0A)]⟩ (.cons (GQ (AD.mk 0 0) (AD.mk 3 4)) (.cons (GQ (AD.mk 3 4) (AD.mk 3 10)) .nil)) (.cons rfl (.cons rfl .nil))<|AF<|AA<|od [] [(64,DW (AD.mk 0 0) (AD.mk 3 4))] [As (DW (AD.mk 0 0) (AD.mk 3 4)).2.1] (.cons (GQ (AD.mk 0 0) (AD.mk 3 4)) .nil) (.cons rfl .nil)<|AF<|AA ?_
 refine oq 74 (ceI [.agg RS,.agg [.s (⟨#[]⟩),.list true 1 2 (BF 1 2 [.s ({ data := #[97] }:ByteArray),.s ({ data := #[98] }:ByteArray)]),.i 0]] (DV (AC.mk 0 (AX.mk 0 [] 0) [] [] [AO.mk 1 ({ data := #[97] }:ByteArray) 0 (AX.mk 1 [Z0t,Z0y] 1),AO.mk 2 ({ data := #[97] }:ByteArray) 0 (AX.mk 1 [Z0t] 0)] [] [] [] [] [] [] [] []) (AN.mk (⟨#[]⟩) [({ data := #[97] }:ByteArray),({ data := #[98] }:ByteArray)] 0))) (C5 (De (AC.mk 0 (AX.mk 0 [] 0) [] [] [AO.mk 1 ({ data := #[97] }:ByteArray) 0 (AX.mk 1 [Z0t,Z0y] 1),AO.mk 2 ({ data := #[97] }:ByteArray) 0 (AX.mk 1 [Z0t] 0)] [] [] [] [] [] [] [] []) (AN.mk (⟨#[]⟩) [({ data := #[97] }:ByteArray),({ data := #[98] }:ByteArray)] 0) au14 au14 au14) (.cons (.agg (rr2 (.cons (Bi 7 AG.c) (rr (.cons (Bi 7 AU.c) (.cons (Bi 2 A9.c) (.cons (BM true (Dh (c:=AO.c) (xs:=([AO.mk 1 ({ data := #[97] }:ByteArray) 0 (AX.mk 1 [Z0t,Z0y] 1),AO.mk 2 ({ data := #[97] }:ByteArray) 0 (AX.mk 1 [Z0t] 0)]:List AO)) (y:=[[.i 1,.s ({ data := #[97] }:ByteArray),.i 0,.i 1,.list true 7 2 Z0z,.i 1],[.i 2,.s ({ data := #[97] }:ByteArray),.i 0,.i 1,.list true 7 1 Z0B,.i 0]]) (z:=[[.i 1,.s ({ data := #[97] }:ByteArray),.i 0,.i 1,lst 7 AG.c [Z0t,Z0y],.i 1],[.i 2,.s ({ data := #[97] }:ByteArray),.i 0,.i 1,lst 7 AG.c [Z0t],.i 0]]) rfl kr kr (.cons (rr (rr (rr (rr (.cons (BM true (BR (c:=AG.c) (xs:=([Z0t,Z0y]:List AG)) rfl kr)) (rr .nil)))))) (.cons (rr (rr (rr (rr (.cons (BM true (BR (c:=AG.c) (xs:=([Z0t]:List AG)) rfl kr)) (rr .nil)))))) .nil)))) (.cons (Bi 8 BW.c) (.cons (Bi 8 A4.c) (.cons (Bi 5 A5.c) (.cons (Bi 4 BC.c) (.cons (Bi 2 BE.c) (.cons (Bi 20 Az.c) (.cons (Bi 3 An.c) (.cons (Bi 3 AN.c) .nil))))))))))))))) (.cons (.agg (rr (.cons (BM true (BR (c:=(fun x=>[.s x])) (xs:=([({ data := #[97] }:ByteArray),({ data := #[98] }:ByteArray)]:List ByteArray)) rfl kr)) (rr .nil)))) .nil)))<|AF<|AA ?_
 refine oc [(83,ceI [.agg UE] (H3 (AX.mk 1 [Z0t,Z0y] 1))),(88,ceI [.agg RS,.one (.s ({ data := #[97] }:ByteArray))] (F1 (AC.mk 0 (AX.mk 0 [] 0) [] [] [AO.mk 1 ({ data := #[97] }:ByteArray) 0 (AX.mk 1 [Z0t,Z0y] 1),AO.mk 2 ({ data := #[97] }:ByteArray) 0 (AX.mk 1 [Z0t] 0)] [] [] [] [] [] [] [] []) ({ data := #[97] }:ByteArray)))] [Z0s=true->(Z0s=true),(Z0E=true)->(Z0E=true),(Z0E=true)->(As (ceI [.agg UE] (H3 (AX.mk 1 [Z0t,Z0y] 1))).2.1),(Z0E=true)->(Z0E=true),Z0E=true->(Z0E=true),(Z0F=true)->(Z0F=true),(Z0F=true)->(As (ceI [.agg RS,.one (.s ({ data := #[97] }:ByteArray))] (F1 (AC.mk 0 (AX.mk 0 [] 0) [] [] [AO.mk 1 ({ data := #[97] }:ByteArray) 0 (AX.mk 1 [Z0t,Z0y] 1),AO.mk 2 ({ data := #[97] }:ByteArray) 0 (AX.mk 1 [Z0t] 0)] [] [] [] [] [] [] [] []) ({ data := #[97] }:ByteArray))).2.1),(Z0F=true)->(Z0F=true),Z0F=true->(Z0F=true),Z0G=true->(Z0G=true),(Z0H=true)->(Z0H=true),Z0H=true->(Z0H=true)] (.cons (C5 (Om (AX.mk 1 [Z0t,Z0y] 1) au14) (.cons (.agg (rr (.cons (BM true (BR (c:=AG.c) (xs:=([Z0t,Z0y]:List AG)) rfl kr)) (rr .nil)))) .nil)) (.cons (C5 (JZ (AC.mk 0 (AX.mk 0 [] 0) [] [] [AO.mk 1 ({ data := #[97] }:ByteArray) 0 (AX.mk 1 [Z0t,Z0y] 1),AO.mk 2 ({ data := #[97] }:ByteArray) 0 (AX.mk 1 [Z0t] 0)] [] [] [] [] [] [] [] []) ({ data := #[97] }:ByteArray) au14 au14) (.cons (.agg (rr2 (.cons (Bi 7 AG.c) (rr (.cons (Bi 7 AU.c) (.cons (Bi 2 A9.c) (.cons (BM true (Dh (c:=AO.c) (xs:=([AO.mk 1 ({ data := #[97] }:ByteArray) 0 (AX.mk 1 [Z0t,Z0y] 1),AO.mk 2 ({ data := #[97] }:ByteArray) 0 (AX.mk 1 [Z0t] 0)]:List AO)) (y:=[[.i 1,.s ({ data := #[97] }:ByteArray),.i 0,.i 1,.list true 7 2 Z0z,.i 1],[.i 2,.s ({ data := #[97] }:ByteArray),.i 0,.i 1,.list true 7 1 Z0B,.i 0]]) (z:=[[.i 1,.s ({ data := #[97] }:ByteArray),.i 0,.i 1,lst 7 AG.c [Z0t,Z0y],.i 1],[.i 2,.s ({ data := #[97] }:ByteArray),.i 0,.i 1,lst 7 AG.c [Z0t],.i 0]]) rfl kr kr (.cons (rr (rr (rr (rr (.cons (BM true (BR (c:=AG.c) (xs:=([Z0t,Z0y]:List AG)) rfl kr)) (rr .nil)))))) (.cons (rr (rr (rr (rr (.cons (BM true (BR (c:=AG.c) (xs:=([Z0t]:List AG)) rfl kr)) (rr .nil)))))) .nil)))) (.cons (Bi 8 BW.c) (.cons (Bi 8 A4.c) (.cons (Bi 5 A5.c) (.cons (Bi 4 BC.c) (.cons (Bi 2 BE.c) (.cons (Bi 20 Az.c) (.cons (Bi 3 An.c) (.cons (Bi 3 AN.c) .nil))))))))))))))) (.cons (AvE.refl _) .nil))) .nil)) (ci (ci (.cons (fun _=>rfl) (ci (ci (ci (.cons (fun _=>rfl) (ci (ci (ci (ci (ci .nil))))))))))))<|AF<|AR ?_
 exact zl
theorem VN  : OKc (Mm ):=cPu<|XX
section
open Go.RowKit
def Z0J:Blk:=.cells [.i 0,vN,.i 0] 36
def Z0K:Blk:=.row 7 ([]:List AG).length (AV AG.c ([]:List AG)) 33
def Z0L:Blk:=.cells [.i 2,.own 2000 7 ([]:List AG).length,.i 0] 36
variable (s_1:List AG) (l:List AD) (x0:AD) (k:Int) (r:Ah) (x1:Int)
def Z0M:AD:=l.getD (Int.tmod (W64 (k+1)) (l.length:Int)).toNat default
abbrev UN:=[AG.mk 1 (l.getD k.toNat default) (Z0M l k) (AD.mk 0 0)]
def Z0N:Blk:=.cells [.i 2,.own 28 7 (s_1++(UN l k)).length,.i 0] 36
def Z0O:Blk:=.row 7 (s_1++(UN l k)).length (AV AG.c (s_1++(UN l k))) 33
def Jq (l:(List AD)):Nat->List AG->Int->AX
 | 0,_,_=>default
 | n0+1,s_1,k=>bif decide ((k:Int)<(l.length:Int)) then ((Jq l n0) (s_1++[AG.mk 1 (l.getD k.toNat default) (Z0M l k) (AD.mk 0 0)]) (k+1)) else (AX.mk 2 s_1 0)
def T6 (l:(List AD)):AX:=Jq l (((l.length:Int)-0).toNat+1) ([]:List AG) 0
def dS:CT:=(70,[.one (lst 2 AD.c l)],.val [] (.av (.agg (AX.c (T6 l)))))
abbrev Nv (t_:List (Nat×Tv)):List (Nat×Tv):=(0,tO (lst 2 AD.c l))::(2,tP 2 0)::(3,tP 3 0)::t_
theorem au3 {p:Prop} (h:p:=by first | (unfold maxLen;omega) | (unfold maxLen;simp only [List.length_append,List.length_cons,List.length_nil];omega) | first | omega | (simp only [List.length_append,List.length_cons,List.length_nil];omega)):p:=h
theorem pLoop (l:(List AD)) (h0:(l.length:Int)<=1000000):PuP 70 (dS l).2.1 (.av (.agg (AX.c (T6 l)))):=by
 refine pwf Try.func70 fun W0 M0 => ?_
 refine AA<|on<|AA<|on<|AA<|AA<|rn ⟨(Nv l [(4,tI 0)]),[(2,Z0J),(3,.cells [.i 2,vN,.i 0] 36)]⟩<|AM<|Al (Cv.trans (vg 2000 7 (fun _ _=>default) 33 [] [(3,[1])] hk0) (Cv.trans (A6 2000 (CV 7 (fun _ _=>default) AG.c)) (ck (⟨(Nv l [(4,tI 0)]),[(2,Z0J),(3,Z0L),(2000,Z0K)]⟩))))<|BK (ι:=Nat×List AG×Int) (fun x=>⟨(Nv l [(4,tI x.2.2)]),[(2,Z0J),(3,.cells [.i 2,.own 2000 7 x.2.1.length,.i 0] 36),(2000,.row 7 x.2.1.length (AV AG.c x.2.1) 33)]⟩) (fun x=>((l.length:Int)-x.2.2).toNat<x.1/\(0<=x.2.2/\(x.2.2<=(l.length:Int)\/x.2.2=0)/\(x.2.1.length:Int)<=0+1*(x.2.2-0))/\Jq l x.1 x.2.1 x.2.2=T6 l) (fun x=>x.1) ?_ (((l.length:Int)-0).toNat+1,([]:List AG),0) ⟨Nat.lt_succ_self _,⟨ax0,ax0,ax0⟩,(by simp only [T6,cond_true,cond_false])⟩
 rintro ⟨n0,s_1,k⟩ ⟨hm0,hinv0,hF0⟩
 try dsimp only at hm0 hinv0 hF0
 cases n0 with | zero=>exact nz hm0 | succ n0 => ?_
 refine AA<|AA<|rn ⟨(Nv l [(4,tI k),(9,tB (decide ((k:Int)<(l.length:Int))))]),[(2,Z0J),(3,.cells [.i 2,.own 2000 7 s_1.length,.i 0] 36),(2000,.row 7 s_1.length (AV AG.c s_1) 33)]⟩<|AL _ rfl (fun h1 => ?_) (fun h1 => ?_)
 ·have g1:=oT h1
  refine AQ<|AF<|AA<|AM<|od [] [] [0<=(k:Int)/\(k:Int)<((l.length:Nat):Int),((l.length:Int):Int)≠0,0<=(Int.tmod (W64 (k+1)) (l.length:Int):Int)/\(Int.tmod (W64 (k+1)) (l.length:Int):Int)<((l.length:Nat):Int),s_1.length=s_1.length,s_1.length+1<=maxLen,(s_1.length+1)*56<=140737488355328] .nil (.cons au1 (.cons au13 (.cons au1 (.cons rfl (.cons au3 (.cons au3 .nil))))))<|A0<|AF<|Al (A6 28 (Ar (Af 7 AG.c s_1) (A1 7 AG.c ([AG.mk 1 (l.getD k.toNat default) (Z0M l k) (AD.mk 0 0)]:List AG))))<|rg ⟨(Nv l [(4,tI (W64 (k+1)))]),[(2,Z0J),(3,Z0N s_1 l k),(28,Z0O s_1 l k)]⟩ ?_
  (try rw [(show W64 (k+1)=k+1 from Ap oM au8)])
  refine AF ?_
  refine ⟨(n0,s_1++[AG.mk 1 (l.getD k.toNat default) (Z0M l k) (AD.mk 0 0)],k+1),⟨?_,?_,(by rw [<- hF0];simp only [Jq,h1,cond_true,cond_false])⟩,Nat.lt_succ_self _,Cv.trans (vr 28 2000 hk0) (BG kr)⟩
  ·show ((l.length:Int)-(k+1)).toNat<n0;omega
  exact ⟨ax0,ax0,ax0⟩
 exact BH<|A7<|A7<|BI<|AF<|AA<|on<|AR<|zy (vf 2000 hk0) (by rw [<- hF0];simp only [Jq,h1,cond_true,cond_false] <;> kernel_rfl)
theorem mD (l:(List AD)) (h0:(l.length:Int)<=1000000):OKc (dS l):=cPu<|pLoop l h0
def Z0P:AX:=T6 [AD.mk r.X0 r.Y0,AD.mk r.X1 r.Y0,AD.mk r.X1 r.Y1,AD.mk r.X0 r.Y1]
def Ho (r:Ah):AX:=Z0P r
def Jk:CT:=(37,[.agg (Ah.c r)],.val [] (.av (.agg (AX.c (Ho r)))))
theorem lC (r:Ah):PuP 37 (Jk r).2.1 (.av (.agg (AX.c (Ho r)))):=by
 refine pwf Try.func37 fun W0 M0 => ?_
 exact AA<|on<|AA<|oq 24 (ceI [.one (.list true 2 4 (BF 2 4 [.i r.X0,.i r.Y0,.i r.X1,.i r.Y0,.i r.X1,.i r.Y1,.i r.X0,.i r.Y1]))] (dS [AD.mk r.X0 r.Y0,AD.mk r.X1 r.Y0,AD.mk r.X1 r.Y1,AD.mk r.X0 r.Y1])) (C5 (mD [AD.mk r.X0 r.Y0,AD.mk r.X1 r.Y0,AD.mk r.X1 r.Y1,AD.mk r.X0 r.Y1] au21) (.cons (.one (BM true (BR (c:=AD.c) (xs:=([AD.mk r.X0 r.Y0,AD.mk r.X1 r.Y0,AD.mk r.X1 r.Y1,AD.mk r.X0 r.Y1]:List AD)) rfl kr))) .nil))<|AF<|AR<|zl
theorem Nc (r:Ah):OKc (Jk r):=cPu<|lC r
def Iz (x0:AD) (x1:Int):AX:=AX.mk 1 [AG.mk 1 x0 x0 (AD.mk 0 0)] x1
def LI:CT:=(40,[.agg (AD.c x0),.one (.i x1)],.val [] (.av (.agg (AX.c (Iz x0 x1)))))
theorem lK (x0:AD) (x1:Int):PuP 40 (LI x0 x1).2.1 (.av (.agg (AX.c (Iz x0 x1)))):=by
 refine pwf Try.func40 fun W0 M0 => ?_
 exact AA<|on<|AA<|on<|AR<|xl (.av (.agg [.i 1,.list true 7 1 (BF 7 1 [.i 1,.i x0.X,.i x0.Y,.i x0.X,.i x0.Y,.i 0,.i 0]),.i x1])) (Dk (y:=.av (.agg [.i 1,lst 7 AG.c [AG.mk 1 x0 x0 (AD.mk 0 0)],.i x1])) (.av (.agg (rr (.cons (BM true (BR (c:=AG.c) (xs:=([AG.mk 1 x0 x0 (AD.mk 0 0)]:List AG)) rfl kr)) (rr .nil))))) (by rfl))
theorem Rn (x0:AD) (x1:Int):OKc (LI x0 x1):=cPu<|lK x0 x1
end
section
open Go.RowKit Go.MapKept
section
variable {P:Program}
def Wr2 (P:Program) (f:FuncId) (K L:Nat) (xs:List Av) (b0 d0:Blk) (r:Tv) (b1 d1:Blk):Prop:=∀ (M:Nat->Option Obj) (σ:Nat->Loc) (w:World) (args:List Value),(∀ b o,M b=some o->w.heap[b]? = some o) ->
 (Bv M σ w (σ K) b0/\(σ K).nil=false/\M (σ K).b=none)->(Bv M σ w (σ L) d0/\(σ L).nil=false/\M (σ L).b=none)->(σ K).b≠(σ L).b->L2 (RA M σ) xs args ->
 Calls P f args.toArray w fun en w'=>∃ U,en=.returned U/\∃ M',Gf w w' M M' (fun b=>only (σ K) b\/only (σ L) b)/\(∀ σ',RT M' σ' r U)/\(∀ σ',Bv M' σ' w' (σ K) b1)/\∀ σ',Bv M' σ' w' (σ L) d1
theorem OO {f:FuncId} {fn:Func} {c:Code} (hf:P.funcs[f]? = some fn) (hb:fn.body=some c) {K L:Nat} {xs:List Av} {b0 d0 b1 d1:Blk} {r:Tv} (hN:Nat.ble xs.length fn.ntmps=true) (hK:Nat.ble fn.ntmps K=true) (hL:Nat.ble fn.ntmps L=true) (hKL:Nat.beq K L=false) (hd:r.dv=true) (hd1:Jj b1=true) (hd2:Jj d1=true)
  (h:∀ (W0:World) (M0:Nat->Option Obj) (X:Nat->Option Loc),C8 X W0 [K,L]->AWp P none fn.ntmps W0 X M0 c (My P fn.ntmps W0 X M0 fn fun r' s'=>TvE r' r/\(∃ b,get s'.h K=some b/\I1 b b1)/\∃ b,get s'.h L=some b/\I1 b d1) ⟨Gc 0 xs,[(K,b0),(L,d0)]⟩):Wr2 P f K L xs b0 d0 r b1 d1:=by
 intro M σ w args himm ⟨hblk,hnil,hM⟩ ⟨hblk2,hnil2,hM2⟩ hbne hargs
 have hne:K≠L:=fun e=>by rw [e,Nat.beq_refl] at hKL;cases hKL
 let X:Nat->Option Loc:=upd (upd noX K (some (σ K))) L (some (σ L))
 have hXL:X L=some (σ L):=BV _ _ _
 have hXK:X K=some (σ K):=by
  show upd _ L _ K=_
  rw [C0 _ _ hne];exact BV _ _ _
 have one:∀ n b,get [(K,b0),(L,d0)] n=some b->(n=K/\b=b0)\/(n=L/\b=d0):=fun n b hn=>by
  simp only [get,CQ] at hn
  by_cases hk:K=n
  ·simp [hk] at hn;exact .inl ⟨hk.symm,hn.symm⟩
  by_cases hl:L=n
  ·simp [hk,hl] at hn;exact .inr ⟨hl.symm,hn.symm⟩
  simp [hk,hl] at hn
 have pins:∀ n x,X n=some x->(n=K/\x=σ K)\/(n=L/\x=σ L):=fun n x hx=>by
  by_cases hl:n=L
  ·subst hl;rw [hXL] at hx;injection hx with hx;exact .inr ⟨rfl,hx.symm⟩
  by_cases hk:n=K
  ·subst hk;rw [hXK] at hx;injection hx with hx;exact .inl ⟨rfl,hx.symm⟩
  simp only [X] at hx;rw [C0 _ _ hl,C0 _ _ hk] at hx;cases hx
 have hXm:∀ k x,X k=some x->BB [K,L] k=true:=fun k x hk=>by
  rcases pins k x hk with ⟨rfl,_⟩ | ⟨rfl,_⟩
  ·unfold BB;rw [Nat.beq_refl];rfl
  unfold BB;rw [hKL];exact TN _
 refine Ha (X:=X) (σ:=σ) (h0:=[(K,b0),(L,d0)]) hf hb (Nat.le_of_ble_eq_true hN) himm hargs (fun n b hn => ?_) (fun n b hn => ?_) (fun n x hx => ?_) (fun n m b c hn hm hnm => ?_) (HL (h w M X fun k x hk=>.inl (hXm k x hk))) ?_
 ·rcases one n b hn with ⟨rfl,rfl⟩ | ⟨rfl,rfl⟩
  ·exact hblk
  exact hblk2
 ·rcases one n b hn with ⟨rfl,rfl⟩ | ⟨rfl,rfl⟩
  ·exact .inr ⟨hM,n,σ n,hXK,rfl⟩
  exact .inr ⟨hM2,n,σ n,hXL,rfl⟩
 ·rcases pins n x hx with ⟨rfl,rfl⟩ | ⟨rfl,rfl⟩
  ·exact ⟨Nat.le_of_ble_eq_true hK,rfl⟩
  exact ⟨Nat.le_of_ble_eq_true hL,rfl⟩
 ·rcases one n b hn with ⟨rfl,rfl⟩ | ⟨rfl,rfl⟩ <;> rcases one m c hm with ⟨rfl,rfl⟩ | ⟨rfl,rfl⟩
  ·exact absurd rfl hnm
  ·exact .inr (.inr hbne)
  ·exact .inr (.inr fun e=>hbne e.symm)
  exact absurd rfl hnm
 rintro r' s' M' σ' a' w' U ⟨he,⟨b,hb1,hbe⟩,e,he1,hee⟩ hs hR
 have hpin:=(hs.pin K _ hXK).2
 have hbk:=hs.blk K _ hb1
 rw [hpin] at hbk
 have hpin2:=(hs.pin L _ hXL).2
 have hbk2:=hs.blk L _ he1
 rw [hpin2] at hbk2
 refine ⟨U,rfl,M',⟨hs.os,hs.tape,hs.output,hs.size,fun b hb hne=>hs.old b hb ?_,hs.sub,hs.new,hs.imm⟩,fun σ''=>LJ hd (PP he hR),fun σ''=>GJ hd1 (L6 hbe hbk),fun σ''=>GJ hd2 (L6 hee hbk2)⟩
 rintro ⟨n,x,hx,rfl⟩
 rcases pins n x hx with ⟨rfl,rfl⟩ | ⟨rfl,rfl⟩
 ·exact hne (.inl ⟨hnil,rfl⟩)
 exact hne (.inr ⟨hnil2,rfl⟩)
def F7 (K n L m:Nat):Av->Av
 | .one (.ptr q off)=>.one (.ptr (bif Nat.beq q K then n else bif Nat.beq q L then m else q) off)
 | x=>x
def Oc (K L:Nat):Av->Bool
 | .one (.ptr q _)=>bif Nat.beq q K then true else Nat.beq q L
 | x=>x.dv
def kR (n m:Nat) (b0 d0:Blk) (r:Tv) (b1 d1:Blk):Ef:=.wrs [n,m] [] fun bs _=>some ([bs=[b0,d0]],r,[b1,d1])
theorem P4 {w w':World} {M M':Nat->Option Obj} {p q:Nat->Prop} (h:Gf w w' M M' p) (hp:∀ b,p b->q b):Gf w w' M M' q :=
 ⟨h.os,h.tape,h.output,h.size,fun b hb hn=>h.old b hb fun h1=>hn (hp b h1),h.sub,h.new,h.imm⟩
theorem Vo {f:FuncId} {K L n m:Nat} {xs:List Av} {b0 d0 b1 d1:Blk} {r:Tv} (h1:∀ args w,(callFunc f args).run P w=.ok (.enter f args) w) (hx:xs.all (Oc K L)=true) (hKL:Nat.beq K L=false) (hnm:Nat.beq n m=false) (hd0:Jj b0=true) (hd2:Jj d0=true) (h:Wr2 P f K L xs b0 d0 r b1 d1):FK P f (xs.map (F7 K n L m)) (kR n m b0 d0 r b1 d1):=by
 have hne:K≠L:=fun e=>by rw [e,Nat.beq_refl] at hKL;cases hKL
 have hnm':n≠m:=fun e=>by rw [e,Nat.beq_refl] at hnm;cases hnm
 refine .inl ⟨h1,fun M σ w hh args cs' g hs hargs hres hc => ?_⟩
 simp only [kR,res,GC] at hres
 cases hn:hh n with
 | none=>rw [hn] at hres;cases hres
 | some b =>
  cases hm:hh m with
  | none=>rw [hn,hm] at hres;cases hres
  | some d =>
   rw [hn,hm] at hres
   simp only [List.length_cons,List.length_nil,Nat.beq_refl,Option.some.injEq,Prod.mk.injEq] at hres
   obtain ⟨rfl,rfl⟩:=hres
   have hbd:=hc.head
   injection hbd with e1 e2
   injection e2 with e2 _
   subst e1;subst e2
   have hblk:=hs.blk n _ hn
   have hblk2:=hs.blk m _ hm
   have nilOf:∀ {q:Nat} {bq:Blk},Jj bq=true->Bv M σ w (σ q) bq->(σ q).nil=false:=fun {q bq} hd hb=>by
    cases bq with
    | row=>cases hd
    | omap=>cases hd
    | rowx=>cases hd
    | cells l ty=>exact hb.1
   have hnil:=nilOf hd0 hblk
   have hnil2:=nilOf hd2 hblk2
   have hM:M (σ n).b=none:=by
    rcases hs.loc n _ hn with h | h
    ·rw [hnil] at h;cases h
    exact h
   have hM2:M (σ m).b=none:=by
    rcases hs.loc m _ hm with h | h
    ·rw [hnil2] at h;cases h
    exact h
   have hbne:(σ n).b≠(σ m).b:=by
    rcases hs.inj n m _ _ hn hm hnm' with h | h | h
    ·rw [hnil] at h;cases h
    ·rw [hnil2] at h;cases h
    exact h
   let σ2:Nat->Loc:=upd (upd σ K (σ n)) L (σ m)
   have hL:σ2 L=σ m:=BV _ _ _
   have hK:σ2 K=σ n:=by
    show upd _ L _ K=_
    rw [C0 _ _ hne];exact BV _ _ _
   have hargs2:L2 (RA M σ2) xs args:=by
    refine L2.of (by have:=hargs.length;simpa using this) fun i x V hxi hV => ?_
    obtain ⟨V',hV',hR⟩:=hargs.get i (F7 K n L m x) (by rw [List.getElem?_map,hxi];rfl)
    rw [hV] at hV';injection hV' with hV';subst hV'
    have hok:=(List.all_eq_true.1 hx) x (List.mem_of_getElem? hxi)
    unfold Oc at hok
    split at hok
    ·rename_i q off
     by_cases hq:q=K
     ·subst hq
      simp only [F7,Nat.beq_refl,cond_true] at hR
      have hR':V=.pointer (some ⟨(σ n).b,off,none⟩):=hR
      show V=.pointer (some ⟨(σ2 q).b,off,none⟩)
      rw [hK];exact hR'
     have hqb:Nat.beq q K=false:=by
      cases hb:Nat.beq q K with
      | false=>rfl
      | true=>exact absurd (Nat.eq_of_beq_eq_true hb) hq
     rw [hqb] at hok
     have:=Nat.eq_of_beq_eq_true hok
     subst this
     simp only [F7,hqb,Nat.beq_refl,cond_true,cond_false] at hR
     have hR':V=.pointer (some ⟨(σ m).b,off,none⟩):=hR
     show V=.pointer (some ⟨(σ2 q).b,off,none⟩)
     rw [hL];exact hR'
    rename_i hnp
    have:F7 K n L m x=x:=by
     unfold F7
     split
     ·rename_i q off;exact (hnp q off rfl).elim
     rfl
    rw [this] at hR
    exact LJ (σ':=σ2) (r:=.av x) hok hR
   refine (h M σ2 w args hs.imm (by rw [hK];exact ⟨GJ hd0 hblk,hnil,hM⟩) (by rw [hL];exact ⟨GJ hd2 hblk2,hnil2,hM2⟩) (by rw [hK,hL];exact hbne) hargs2).mono ?_
   rintro en w' ⟨U,hU,M',hk,hR,hb,hb2⟩
   rw [hK,hL] at hk
   have g1:get ([n,m].zip [b1,d1]) n=some b1:=by simp [get,CQ]
   have g2:get ([n,m].zip [b1,d1]) m=some d1:=by simp [get,CQ,hnm']
   refine ⟨U,hU,fun dst _=>⟨M',σ,P4 hk fun b hb => ?_,rfl,hR σ,fun q bq hq => ?_⟩⟩
   ·rcases hb with h | h
    ·exact ⟨n,by rw [g1];rfl,h⟩
    exact ⟨m,by rw [g2];rfl,h⟩
   have h1:=hb σ
   have h2:=hb2 σ
   rw [hK] at h1
   rw [hL] at h2
   by_cases e:q=n
   ·subst e;rw [g1] at hq;injection hq with hq;subst hq;exact h1
   by_cases e2:q=m
   ·subst e2;rw [g2] at hq;injection hq with hq;subst hq;exact h2
   simp [get,CQ,Ne.symm e,Ne.symm e2] at hq
end
end
section
open Go.RowKit Go.MapKept
section
variable {P:Program} {rd:Option Nat} {N:Nat} {W0:World} {X:Nat→Option Loc} {M0:Nat→Option Obj} {Q:Exit→AS→Prop} {s:AS}
theorem NG {c:Code} (b:Bool) (h1:b=true->AWp P rd N W0 X M0 c Q s) (h2:b=false->AWp P rd N W0 X M0 c Q s):AWp P rd N W0 X M0 c Q s:=by
 cases hb:b with
 | true=>exact h1 hb
 | false=>exact h2 hb
def AWL (P:Program) (rd:Option Nat) (N:Nat) (W0:World) (X:Nat->Option Loc) (M0:Nat->Option Obj) (ops:Array Oper) (l:List Oper) (K:AS->Prop) (s:AS):Prop :=
 ∀ M σ a w,Sim N W0 X M0 M σ (get s.t) (get s.h) a w->∀ Q':Exit->Act->World->Prop,(∀ s' M' σ' a' w',K s'->Sim N W0 X M0 M' σ' (get s'.t) (get s'.h) a' w'->Q' .normal a' w')->wpListIn (FW rd) 0 P ops Q' l a w
theorem Dp {id:Nat} {l:List Oper} (h:AWL P rd N W0 X M0 l.toArray l (Q .normal) s):AWp P rd N W0 X M0 (.region id l.toArray false) Q s:=by
 intro M σ a w hs
 exact wpIn_region_lit (h M σ a w hs _ fun s' M' σ' a' w' hk hs'=>⟨s',M',σ',hk,hs'⟩)
theorem Sk {V:Env P} (hV:KY P V) {ops:Array Oper} {Q':Exit->Act->World->Prop} (l2:List Oper):∀ (l:List Oper) (s s1:AS) (cs:List Prop),JW P V N ops l s=some (cs,s1)->CU cs->∀ M σ a w,Sim N W0 X M0 M σ (get s.t) (get s.h) a w->(∀ M' σ' a' w',Sim N W0 X M0 M' σ' (get s1.t) (get s1.h) a' w'->wpListIn (FW rd) 0 P ops Q' l2 a' w')->wpListIn (FW rd) 0 P ops Q' (l++l2) a w
 | [],s,s1,cs,hr,hc,M,σ,a,w,hs,hK=>by
  simp only [JW,Option.some.injEq,Prod.mk.injEq] at hr
  obtain ⟨_,rfl⟩:=hr
  exact hK M σ a w hs
 | o::l,s,s1,cs,hr,hc,M,σ,a,w,hs,hK=>by
  simp only [JW] at hr
  split at hr
  ·rename_i cs1 s2 h1
   split at hr
   ·rename_i ds s3 h2
    simp only [Option.some.injEq,Prod.mk.injEq] at hr
    obtain ⟨rfl,rfl⟩:=hr
    obtain ⟨hc1,hc2⟩:=hc.append
    refine wpListIn_step fun K hK' => ?_
    refine OR hV h1 hc1 hs (fun _ _=>rfl) (fun _ _=>rfl) (fun hn d hd=>OP h1 hn hd) fun M' σ' a' w' hs'=>hK' _ _ (Sk hV l2 l s2 s3 ds h2 hc2 M' σ' a' w' ?_ hK)
    rw [(Es h1).1,(Es h1).2]
    exact hs'
   cases hr
  cases hr
def WJ (P:Program) (V:Env P) (N:Nat) (ops:Array Oper) (l:List Oper) (ts hs:List Nat) (s:AS):Option (List Prop×AS):=match JW P V N ops l s with
 | some (cs,s1)=>some (cs,Lg ts hs s1)
 | none=>none
theorem F2 {E:TypeId->Option (List Kd)} (hE:Jr P ⟨fun _=>none,E,fun _=>false,fun _=>none⟩) {ops:Array Oper} {l:List Oper} {K:AS->Prop} (k:Nat) (ow:List Nat) (qs:List (Nat×(Bool×Nat))) (tbl:List (Nat×FuncId×List Av×Ef)) (ts ns:List Nat) (cs:List Prop) (S:AS) (htbl:HM P tbl)
  (hr:WJ P ⟨D4 tbl,E,BB ow,get qs⟩ N ops (l.take k) ts ns s=some (cs,S)) (hc:CU cs) (h:AWL P rd N W0 X M0 ops (l.drop k) K S):AWL P rd N W0 X M0 ops l K s:=by
 have hV:=htbl.env (O:=BB ow) (q:=get qs) hE
 intro M σ a w hs Q' hQ'
 unfold WJ at hr
 split at hr
 ·rename_i cs1 s1 h1
  simp only [Option.some.injEq,Prod.mk.injEq] at hr
  obtain ⟨rfl,rfl⟩:=hr
  have key:=Sk (Q':=Q') (rd:=rd) hV (l.drop k) (l.take k) s s1 cs1 h1 hc M σ a w hs fun M' σ' a' w' hs'=>h M' σ' a' w' (GN hs' ts ns) Q' hQ'
  rw [List.take_append_drop] at key
  exact key
 cases hr
theorem Ew {E:TypeId->Option (List Kd)} (hE:Jr P ⟨fun _=>none,E,fun _=>false,fun _=>none⟩) {ops:Array Oper} {l:List Oper} {K:AS->Prop} (ow:List Nat) (qs:List (Nat×(Bool×Nat))) (tbl:List (Nat×FuncId×List Av×Ef)) (ts ns:List Nat) (cs:List Prop) (S:AS) (htbl:HM P tbl)
  (hr:WJ P ⟨D4 tbl,E,BB ow,get qs⟩ N ops l ts ns s=some (cs,S)) (hc:CU cs) (h:K S):AWL P rd N W0 X M0 ops l K s:=by
 have hV:=htbl.env (O:=BB ow) (q:=get qs) hE
 intro M σ a w hs Q' hQ'
 unfold WJ at hr
 split at hr
 ·rename_i cs1 s1 h1
  simp only [Option.some.injEq,Prod.mk.injEq] at hr
  obtain ⟨rfl,rfl⟩:=hr
  exact LS (Q':=Q') (rd:=rd) hV l s s1 cs1 h1 hc M σ a w hs fun M' σ' a' w' hs'=>hQ' _ M' σ' a' w' h (GN hs' ts ns)
 cases hr
theorem dD (n:Nat) (b b':Blk) (hn:get s.h n=some b) (hb:∀ M σ w x,Bv M σ w x b->Bv M σ w x b'):Cv N W0 X M0 s ⟨s.t,put s.h n b'⟩:=by
 intro M σ a w hs
 have hk:∀ m c,get (put s.h n b') m=some c->∃ b0,get s.h m=some b0/\(Bv M σ w (σ m) b0->Bv M σ w (σ m) c):=fun m c hm=>by
  rw [J0] at hm
  split at hm
  ·rename_i e
   subst e
   injection hm with hm
   subst hm
   exact ⟨b,hn,hb M σ w _⟩
  exact ⟨c,hm,id⟩
 refine ⟨M,σ,hs.os,hs.tape,hs.output,hs.size,hs.old,hs.sub,hs.new,hs.pin,hs.defers,hs.room,hs.tmps,hs.imm,fun m c hm => ?_,fun m c hm => ?_,fun m k c c' hm hk' hne => ?_⟩
 ·obtain ⟨b0,e1,e2⟩:=hk m c hm;exact e2 (hs.blk m b0 e1)
 ·obtain ⟨b0,e1,_⟩:=hk m c hm;exact hs.loc m b0 e1
 obtain ⟨b0,e1,_⟩:=hk m c hm;obtain ⟨b0',e1',_⟩:=hk k c' hk';exact hs.inj m k b0 b0' e1 e1' hne
def QM:Nat->List (List Cl)->List (Nat×List Cl)
 | _,[]=>[]
 | k,l::r=>(k,l)::QM (k+1) r
theorem J1:∀ (ls:List (List Cl)) (k i:Nat),get (QM k ls) i=if k<=i then ls[i-k]? else none
 | [],k,i=>by simp [QM,get]
 | l::r,k,i=>by
  simp only [QM,get,CQ]
  by_cases h:k=i
  ·subst h;simp
  simp only [h,decide_false,cond_false]
  rw [J1 r (k+1) i]
  by_cases h2:k<=i
  ·rw [if_pos (by omega),if_pos h2,show i-k=(i-(k+1))+1 by omega,List.getElem?_cons_succ]
  rw [if_neg (by omega),if_neg h2]
theorem dB {s:AS} (S:AS) (n sz len:Nat) (f:Nat->Nat->Cl) (ty:TypeId) (hn:get s.h n=some (.row sz len f ty)) (hl:Nat.blt 0 len=true) (hS:(⟨s.t,put s.h n (.rowx sz len (fun _ _=>default) ty (QM 0 ((List.range len).map fun i=>Gd f i 0 sz)))⟩:AS)=S):Cv N W0 X M0 s S:=by
 subst hS
 have h0:0<len:=by
  have h1:Nat.ble (0+1) len=true:=hl
  exact Nat.le_of_ble_eq_true h1
 refine dD n _ _ hn fun M σ w x hb => ?_
 rcases hb with ⟨_,h⟩ | ⟨e0,c,e1,e2,e3,e4,g,e5⟩
 ·omega
 refine ⟨e0,c,e1,e2,e3,e4,g,fun i j hi hj=>⟨(e5 i j hi hj).1,fun hno => ?_⟩,fun i l hl => ?_⟩
 ·rw [J1] at hno
  simp [hi] at hno
 rw [J1,if_pos (Nat.zero_le _),Nat.sub_zero,List.getElem?_map] at hl
 by_cases hi:i<len
 ·rw [List.getElem?_range hi] at hl
  simp only [Option.map_some,Option.some.injEq] at hl
  subst hl
  refine ⟨hi,L2.of (by simp [D3]) fun j a b ha hb => ?_⟩
  have hj:j<sz:=by have:=(List.getElem?_eq_some_iff.1 ha).1;rwa [D3] at this
  rw [Ih _ _ _ _ _ hj,Nat.zero_add] at ha
  injection ha with ha
  subst ha
  rw [List.getElem?_map,List.getElem?_range hj] at hb
  simp only [Option.map_some,Option.some.injEq] at hb
  subst hb
  exact Ly (e5 i j hi hj).2
 rw [List.getElem?_eq_none (by simp;omega)] at hl
 cases hl
theorem HI {s:AS} (S:AS) (n sz len:Nat) (f:Nat->Nat->Cl) (ty:TypeId) (ls:List (List Cl)) (hn:get s.h n=some (.rowx sz len f ty (QM 0 ls))) (hlen:Nat.beq ls.length len=true) (hsz:ls.all (fun l=>Nat.beq l.length sz&&l.all Cl.dv)=true) (hS:(⟨s.t,put s.h n (.row sz len (BF sz len ls.flatten) ty)⟩:AS)=S):Cv N W0 X M0 s S:=by
 subst hS
 have hlen:=Nat.eq_of_beq_eq_true hlen
 refine dD n _ _ hn fun M σ w x hb => ?_
 obtain ⟨e0,c,e1,e2,e3,e4,g,e5,e6⟩:=hb
 refine .inr ⟨e0,c,e1,e2,e3,e4,g,fun i j hi hj=>⟨(e5 i j hi hj).1,?_⟩⟩
 have hil:i<ls.length:=by omega
 have hmem:=List.getElem_mem hil
 have hall:=(List.all_eq_true.1 hsz) _ hmem
 simp only [Bool.and_eq_true] at hall
 have hli:=Nat.eq_of_beq_eq_true hall.1
 obtain ⟨_,hL⟩:=e6 i ls[i] (by rw [J1,if_pos (Nat.zero_le _),Nat.sub_zero,List.getElem?_eq_getElem hil])
 have hflat:∀ (q:List (List Cl)) (i j:Nat) (hi:i<q.length),(∀ l∈q,l.length=sz)->j<sz->q.flatten[i*sz+j]? = q[i][j]? := by
  intro q
  induction q with
  | nil=>intro i j hi;simp at hi
  | cons l r ih =>
   intro i j hi hall hj
   have h1:=hall l (by simp)
   cases i with
   | zero=>simp [List.getElem?_append,h1,hj]
   | succ i =>
    rw [List.flatten_cons,List.getElem?_append_right (by rw [h1,Nat.add_mul];omega),h1,show (i+1)*sz+j-sz=i*sz+j by rw [Nat.add_mul];omega]
    simpa using ih i j (by simpa using hi) (fun l hl=>hall l (by simp [hl])) hj
 have hjl:j<ls[i].length:=by omega
 rw [Ts _ _ _ _ _ hi,List.getD_eq_getElem?_getD,hflat ls i j hil (fun l hl=>by
  have h:=(List.all_eq_true.1 hsz) l hl
  simp only [Bool.and_eq_true] at h
  exact Nat.eq_of_beq_eq_true h.1) hj,List.getElem?_eq_getElem hjl,Option.getD_some]
 obtain ⟨v,hv,hR⟩:=hL.get j _ (List.getElem?_eq_getElem hjl)
 rw [List.getElem?_map,List.getElem?_range hj] at hv
 simp only [Option.map_some,Option.some.injEq] at hv
 subst hv
 exact Lx ((List.all_eq_true.1 hall.2) _ (List.getElem_mem hjl)) hR
end
end
section
open Go.RowKit Go.MapKept
def PT (is:List Nat):Nat->List Cl->List Cl->List Cl
 | k,x::a,y::b=>(bif BB is k then x else y)::PT is (k+1) a b
 | _,_,_=>[]
def U0 (is:List Nat) (vs:Nat->Value):Nat->List Cl->List Cl
 | k,y::b=>(bif BB is k then .val (vs k) else y)::U0 is vs (k+1) b
 | _,[]=>[]
section
variable {P:Program} {M M':Nat→Option Obj} {σ σ':Nat→Loc} {w w':World}
theorem WH (is:List Nat) (vs:Nat->Value):∀ (k:Nat) (l l0:List Cl) (c:List Value),l=PT is k l l0->l.length=l0.length->(∀ j,j<c.length->vs (k+j)=c.getD j undef)->(∀ x∈l0,x.dv=true\/True)->L2 (R M σ) l c->L2 (R M σ) (U0 is vs k l0) c
 | k,[],[],c,_,_,_,_,h=>by cases h;exact .nil
 | k,[],_::_,c,_,hl,_,_,h=>by simp at hl
 | k,_::_,[],c,_,hl,_,_,h=>by simp at hl
 | k,x::l,y::l0,c,he,hl,hv,hd,h=>by
  cases h with
  | cons h1 h2 =>
   rename_i v c
   simp only [PT,List.cons.injEq] at he
   refine .cons ?_ (WH is vs (k+1) l l0 c he.2 (by simpa using hl) (fun j hj=>by
    have:=hv (j+1) (by simp;omega)
    rw [show k+1+j=k+(j+1) by omega,this];rfl) (fun x hx=>.inr trivial) h2)
   cases hm:BB is k with
   | true =>
    have:=hv 0 (by simp)
    simp only [cond_true]
    exact ⟨by rw [show k=k+0 from rfl,this];rfl,by rw [show k=k+0 from rfl,this];exact Jo h1⟩
   | false =>
    rw [hm] at he
    simp only [cond_false] at he ⊢
    rw [<- he.1];exact h1
theorem Se (is:List Nat) (vs:Nat->Value) (hM:∀ b o,M b=some o->M' b=some o):∀ (k:Nat) (l l1:List Cl) (c c':List Value),l.length=l1.length->(∀ j,j<c.length->vs (k+j)=c.getD j undef)->L2 (R M σ) l c->L2 (R M' σ) (U0 is vs k l1) c'->L2 (R M' σ) (PT is k l l1) c'
 | k,[],[],c,c',_,_,_,h=>by cases h;exact .nil
 | k,[],_::_,c,c',hl,_,_,h=>by simp at hl
 | k,_::_,[],c,c',hl,_,_,h=>by simp at hl
 | k,x::l,y::l1,c,c',hl,hv,h0,h=>by
  cases h0 with
  | cons h1 h2 =>
   rename_i v c
   simp only [U0] at h
   cases h with
   | cons h3 h4 =>
    simp only [PT]
    refine .cons ?_ (Se is vs hM (k+1) l l1 c _ (by simpa using hl) (fun j hj=>by
     have:=hv (j+1) (by simp;omega)
     rw [show k+1+j=k+(j+1) by omega,this];rfl) h2 h4)
    cases hm:BB is k with
    | true =>
     rw [hm] at h3
     have h5:=h3.1
     have h6:=hv 0 (by simp)
     rw [h5,show k=k+0 from rfl,h6]
     exact C3 hM (fun _ _=>rfl) h1
    | false=>rw [hm] at h3;exact h3
theorem eQ {hh:Nat->Option Blk} {f:FuncId} {K L n m:Nat} {xs:List Av} {args:List Value} {b d b0 d0 b1 d1:Blk} {r:Tv} (hx:xs.all (Oc K L)=true) (hKL:Nat.beq K L=false) (hnm':n≠m) (hs:Std M σ w hh) (hn:hh n=some b) (hm:hh m=some d) (hnil:(σ n).nil=false) (hnil2:(σ m).nil=false) (hblk:∀ σ',(∀ q,q≠K->q≠L->σ' q=σ q)->Bv M σ' w (σ n) b0) (hblk2:∀ σ',Bv M σ' w (σ m) d0)
  (hargs:L2 (RA M σ) (xs.map (F7 K n L m)) args) (h:Wr2 P f K L xs b0 d0 r b1 d1):Calls P f args.toArray w (fun en w'=>∃ U,en=.returned U/\∃ M',Gf w w' M M' (fun b=>only (σ n) b\/only (σ m) b)/\(∀ σ',RT M' σ' r U)/\(∀ σ',Bv M' σ' w' (σ n) b1)/\∀ σ',Bv M' σ' w' (σ m) d1):=by
 have hne:K≠L:=fun e=>by rw [e,Nat.beq_refl] at hKL;cases hKL
 have hM:M (σ n).b=none:=by
  rcases hs.loc n _ hn with h | h
  ·rw [hnil] at h;cases h
  exact h
 have hM2:M (σ m).b=none:=by
  rcases hs.loc m _ hm with h | h
  ·rw [hnil2] at h;cases h
  exact h
 have hbne:(σ n).b≠(σ m).b:=by
  rcases hs.inj n m _ _ hn hm hnm' with h | h | h
  ·rw [hnil] at h;cases h
  ·rw [hnil2] at h;cases h
  exact h
 let σ2:Nat->Loc:=upd (upd σ K (σ n)) L (σ m)
 have hL:σ2 L=σ m:=BV _ _ _
 have hK:σ2 K=σ n:=by
  show upd _ L _ K=_
  rw [C0 _ _ hne];exact BV _ _ _
 have hrest:∀ q,q≠K->q≠L->σ2 q=σ q:=fun q h1 h2=>by
  show upd _ L _ q=_
  rw [C0 _ _ h2,C0 _ _ h1]
 have hargs2:L2 (RA M σ2) xs args:=by
  refine L2.of (by have:=hargs.length;simpa using this) fun i x V hxi hV => ?_
  obtain ⟨V',hV',hR⟩:=hargs.get i (F7 K n L m x) (by rw [List.getElem?_map,hxi];rfl)
  rw [hV] at hV';injection hV' with hV';subst hV'
  have hok:=(List.all_eq_true.1 hx) x (List.mem_of_getElem? hxi)
  unfold Oc at hok
  split at hok
  ·rename_i q off
   by_cases hq:q=K
   ·subst hq
    simp only [F7,Nat.beq_refl,cond_true] at hR
    have hR':V=.pointer (some ⟨(σ n).b,off,none⟩):=hR
    show V=.pointer (some ⟨(σ2 q).b,off,none⟩)
    rw [hK];exact hR'
   have hqb:Nat.beq q K=false:=by
    cases hb:Nat.beq q K with
    | false=>rfl
    | true=>exact absurd (Nat.eq_of_beq_eq_true hb) hq
   rw [hqb] at hok
   have:=Nat.eq_of_beq_eq_true hok
   subst this
   simp only [F7,hqb,Nat.beq_refl,cond_true,cond_false] at hR
   have hR':V=.pointer (some ⟨(σ m).b,off,none⟩):=hR
   show V=.pointer (some ⟨(σ2 q).b,off,none⟩)
   rw [hL];exact hR'
  rename_i hnp
  have:F7 K n L m x=x:=by
   unfold F7
   split
   ·rename_i q off;exact (hnp q off rfl).elim
   rfl
  rw [this] at hR
  exact LJ (σ':=σ2) (r:=.av x) hok hR
 refine (h M σ2 w args hs.imm (by rw [hK];exact ⟨hblk σ2 hrest,hnil,hM⟩) (by rw [hL];exact ⟨hblk2 σ2,hnil2,hM2⟩) (by rw [hK,hL];exact hbne) hargs2).mono ?_
 rintro en w' ⟨U,hU,M',hk,hR,hb,hb2⟩
 rw [hK,hL] at hk
 refine ⟨U,hU,M',hk,hR,fun σ' => ?_,fun σ' => ?_⟩
 ·have:=hb σ';rw [hK] at this;exact this
 have:=hb2 σ';rw [hL] at this;exact this
def wqV (n m:Nat) (is:List Nat) (l0:List Cl) (ty:TypeId) (d0:Blk) (r:Tv) (d1:Blk):Ef:=.wq m n fun y x=>match x with
 | .cells l ty'=>bif Nat.beq l.length l0.length then some ([Blk.cells l ty'=.cells (PT is 0 l l0) ty,y=d0],r,d1) else none
 | _=>none
theorem Iu {f:FuncId} {K L n m:Nat} {xs:List Av} {is:List Nat} {l0:List Cl} {ty:TypeId} {d0 d1:Blk} {r:Tv} {B0:(Nat->Value)->List Cl} (h1:∀ args w,(callFunc f args).run P w=.ok (.enter f args) w) (hx:xs.all (Oc K L)=true) (hKL:Nat.beq K L=false) (hnm:Nat.beq n m=false) (hd2:Jj d0=true) (hdl:∀ vs,(U0 is vs 0 l0).all Cl.dv=true)
  (e0:∀ vs,U0 is vs 0 l0=B0 vs) (h:∀ vs,Wr2 P f K L xs (.cells (B0 vs) ty) d0 r (.cells (B0 vs) ty) d1):FK P f (xs.map (F7 K n L m)) (wqV n m is l0 ty d0 r d1):=by
 have hnm':n≠m:=fun e=>by rw [e,Nat.beq_refl] at hnm;cases hnm
 refine .inl ⟨h1,fun M σ w hh args cs' g hs hargs hres hc => ?_⟩
 simp only [wqV,res] at hres
 cases hm:hh m with
 | none=>rw [hm] at hres;cases hres
 | some d =>
  cases hn:hh n with
  | none=>rw [hn,hm] at hres;cases hres
  | some b =>
   rw [hn,hm] at hres
   cases b with
   | row=>simp at hres
   | omap=>simp at hres
   | rowx=>simp at hres
   | cells l ty' =>
    simp only at hres
    cases hlen:Nat.beq l.length l0.length with
    | false=>rw [hlen] at hres;simp at hres
    | true =>
     have hmn:Nat.beq m n=false:=by
      cases hb:Nat.beq m n with
      | false=>rfl
      | true=>exact absurd (Nat.eq_of_beq_eq_true hb).symm hnm'
     rw [hlen,hmn] at hres
     simp only [cond_true,Option.some.injEq,Prod.mk.injEq] at hres
     obtain ⟨rfl,rfl⟩:=hres
     have hlen0:=Nat.eq_of_beq_eq_true hlen
     have hbd:=hc.head
     have hdd:=hc.tail.head
     subst hdd
     injection hbd with hl hty
     subst hty
     obtain ⟨hnil,c,hheap,hL⟩:=hs.blk n _ hn
     have hblk2:=hs.blk m _ hm
     have hnil2:(σ m).nil=false:=by
      cases d with
      | row=>cases hd2
      | omap=>cases hd2
      | rowx=>cases hd2
      | cells l ty=>exact hblk2.1
     let vs:Nat->Value:=fun k=>c.getD k undef
     have hvs:∀ j,j<c.length->vs (0+j)=c.getD j undef:=fun j _=>by simp only [vs,Nat.zero_add]
     have hin:L2 (R M σ) (U0 is vs 0 l0) c:=WH is vs 0 l l0 c hl hlen0 hvs (fun _ _=>.inr trivial) hL
     have hcall:=eQ (b0:=Blk.cells (B0 vs) ty') (b1:=Blk.cells (B0 vs) ty') hx hKL hnm' hs hn hm hnil hnil2 (fun σ' _=>⟨hnil,c,hheap,by rw [<- e0 vs];exact hin.mono fun a ha v hv=>(Lw ((List.all_eq_true.1 (hdl vs)) a ha)).2 ((Lw ((List.all_eq_true.1 (hdl vs)) a ha)).1 hv)⟩) (fun σ'=>GJ hd2 hblk2) hargs (h vs)
     refine hcall.mono ?_
     rintro en w' ⟨U,hU,M',hk,hR,hb,hb2⟩
     refine ⟨U,hU,fun dst _=>⟨M',σ,P4 hk fun b hb=>hb.symm,rfl,hR σ,hb2 σ,?_⟩⟩
     obtain ⟨k1,c',k2,k3⟩:=hb σ
     refine ⟨k1,c',k2,?_⟩
     rw [<- e0 vs] at k3
     have k4:=Se is vs hk.sub 0 l l0 c c' hlen0 hvs hL k3
     rw [<- hl] at k4
     exact k4
end
end
section
open Go.RowKit Go.MapKept
def jY (P:Program) (V:Env P) (N:Nat) (o:Oper) (G:Prop) (s:AS):Option (List Prop×AS):=match eff P V o.dst o.op (evG (get s.t) (G8 o.op)) with
 | some e=>match res (get s.h) e with
  | some (cs,g)=>bif Ie N s o.dst g then some (KT (get s.t) G (G8 o.op)++cs,Tc s o.dst g) else none
  | none=>none
 | none=>none
section
variable {P:Program} {rd:Option Nat} {N:Nat} {W0:World} {X:Nat→Option Loc} {M0:Nat→Option Obj} {s:AS}
theorem PK {E:TypeId->Option (List Kd)} (hE:Jr P ⟨fun _=>none,E,fun _=>false,fun _=>none⟩) {ops:Array Oper} {o:Oper} {l:List Oper} {K:AS->Prop} (j:Nat) (want:Bool) (G:Prop) (qs:List (Nat×(Bool×Nat))) (tbl:List (Nat×FuncId×List Av×Ef)) (cs:List Prop) (S:AS) (hg:o.guard=some (j,want)) (hG:Hk (get s.t) ops j want=some G) (hGp:G) (htbl:HM P tbl)
  (hst:jY P ⟨D4 tbl,E,BB [],get qs⟩ N o G s=some (cs,S)) (hc:CU cs) (h:AWL P rd N W0 X M0 ops l K S):AWL P rd N W0 X M0 ops (o::l) K s:=by
 have hV:=htbl.env (O:=BB []) (q:=get qs) hE
 intro M σ a w hs Q' hQ'
 refine wpListIn_step fun K0 hK' => ?_
 rw [if_pos ((Gj hs.tmps hs.room hg hG).2 hGp)]
 unfold jY at hst
 split at hst
 ·rename_i e he
  split at hst
  ·rename_i cs' g hr
   cases hok:Ie N s o.dst g with
   | false=>rw [hok] at hst;cases hst
   | true =>
    rw [hok] at hst
    simp only [cond_true,Option.some.injEq,Prod.mk.injEq] at hst
    obtain ⟨rfl,rfl⟩:=hst
    obtain ⟨hc1,hc2⟩:=hc.append
    have hgo0:=Lj hok (fun n v b hg=>by subst hg;exact U3 hr) (fun l v hg=>by subst hg;exact RX hr) (fun n q v b bq hg=>by subst hg;exact U4 hr) (fun n b v hg=>by subst hg;exact RY hr)
    refine (Vh hV (fun x v hv=>cU hGp hc1 hs.tmps hv) he hs.std hr hc2 (Wu hgo0)).wp ?_ (fun c hc=>by rw [hc] at he;cases he)
    rintro U w' ⟨M',σ',ho⟩
    have hsim:=OU hs ho hgo0
    rw [<- (HF s o.dst g).1,<- (HF s o.dst g).2] at hsim
    exact hK' _ _ (h M' σ' _ w' hsim Q' hQ')
  cases hst
 cases hst
theorem PL {ops:Array Oper} {o:Oper} {l:List Oper} {K:AS->Prop} (j:Nat) (want:Bool) (G:Prop) (S:AS) (hg:o.guard=some (j,want)) (hG:Hk (get s.t) ops j want=some G) (hGn:¬ G) (hok:Ie N s o.dst (.val (.av (.one (.val (.bool false)))))=true) (hS:NP s o.dst (.grd G (.one (.val (.bool false))))=S)
  (h:AWL P rd N W0 X M0 ops l K S):AWL P rd N W0 X M0 ops (o::l) K s:=by
 subst hS
 intro M σ a w hs Q' hQ'
 refine wpListIn_step fun K0 hK' => ?_
 rw [if_neg (fun h=>hGn ((Gj hs.tmps hs.room hg hG).1 h))]
 refine ⟨fun _ _=>trivial,?_⟩
 have hgo0:=Lj hok (fun n v b hg=>by cases hg) (fun l v hg=>by cases hg) (fun n q v b bq hg=>by cases hg) (fun n b v hg=>by cases hg)
 have hsim:=OU hs (g:=.val (.grd G (.one (.val (.bool false))))) (V:=undef) (w':=w) (M':=M) (σ':=σ) ⟨Gf.refl hs.imm _,rfl,fun h=>absurd h hGn,fun _=>rfl⟩ ⟨hgo0.1,trivial⟩
 rw [<- (HF s o.dst _).1,<- (HF s o.dst _).2] at hsim
 exact hK' _ _ (h M σ _ w hsim Q' hQ')
end
end
section
open Go.RowKit
def Am (k:Int):ByteArray:=([({ data := #[80,49] }:ByteArray),({ data := #[80,50] }:ByteArray),({ data := #[80,51] }:ByteArray),({ data := #[80,52] }:ByteArray),({ data := #[80,53] }:ByteArray),({ data := #[80,54] }:ByteArray)]:List ByteArray).getD k.toNat ⟨#[]⟩
variable (a:AD) (b:AC) (types:List BA) (b_:AD) (l:List (List Int)) (k:Int) (d:AE) (n:Int) (name:ByteArray) (s:AX) (x0:AU)
def Cy:CT:=(75,[.one (.i k)],.val [] (.av (.one (.s (Am k)))))
theorem aH (k:Int) (hk:0<=k/\k<6):PuP 75 (Cy k).2.1 (tO (.s (Am k))):=by
 refine pwf Try.func75 fun W0 M0 => ?_
 exact AA<|on<|AA<|oc [] [0<=(k:Int)/\(k:Int)<((6:Nat):Int)] .nil (.cons au1 .nil)<|AF<|AR<|zl
theorem E2 (k:Int) (hk:0<=k/\k<6):OKc (Cy k):=cPu<|aH k hk
def Z0Q:Blk:=.cells [.s (⟨#[]⟩),vN,vN] 110
def Z0R:Bool:=((types.getD k.toNat default).Name.toList==name.toList)
def FA (types:(List BA)) (name:ByteArray):Nat->Int->(BA×Bool)
 | 0,_=>default
 | n0+1,k=>bif decide ((k:Int)<(types.length:Int)) then (bif Z0R types k name then (types.getD k.toNat default,true) else ((FA types name n0) (k+1))) else (BA.mk (⟨#[]⟩) [] [],false)
def CJ (types:(List BA)) (name:ByteArray):(BA×Bool):=FA types name (((types.length:Int)-0).toNat+1) 0
def PJ:CT:=(56,[.one (lst 3 BA.c types),.one (.s name)],.val [] (.tup [.agg (BA.c (CJ types name).1),.one (.b (CJ types name).2)]))
abbrev Nu (t_:List (Nat×Tv)):List (Nat×Tv):=(0,tO (lst 3 BA.c types))::(1,tO (.s name))::(4,tP 4 0)::t_
theorem lJ (types:(List BA)) (name:ByteArray) (h0:(types.length:Int)<=1000000):PuP 56 (PJ types name).2.1 (.tup [.agg (BA.c (CJ types name).1),.one (.b (CJ types name).2)]):=by
 refine pwf Try.func56 fun W0 M0 => ?_
 refine AA<|on<|AA<|AA<|rn ⟨(Nu types name [(6,tI 0)]),[(4,Z0Q)]⟩<|AM<|BK (ι:=Nat×Int) (fun x=>⟨(Nu types name [(6,tI x.2)]),[(4,Z0Q)]⟩) (fun x=>((types.length:Int)-x.2).toNat<x.1/\(0<=x.2/\0<=x.2/\(x.2<=(types.length:Int)\/x.2=0))/\FA types name x.1 x.2=CJ types name) (fun x=>x.1) ?_ (((types.length:Int)-0).toNat+1,0) ⟨Nat.lt_succ_self _,⟨ax0,ax0,ax0⟩,(by simp only [CJ,cond_true,cond_false])⟩
 rintro ⟨n0,k⟩ ⟨hm0,hinv0,hF0⟩
 try dsimp only at hm0 hinv0 hF0
 cases n0 with | zero=>exact nz hm0 | succ n0 => ?_
 refine AA<|AA<|rn ⟨(Nu types name [(6,tI k),(10,tB (decide ((k:Int)<(types.length:Int))))]),[(4,Z0Q)]⟩<|AL _ rfl (fun h1 => ?_) (fun h1 => ?_)
 ·have g1:=oT h1
  refine AQ<|AF<|AA<|AM<|AA<|rc [] [0<=(k:Int)/\(k:Int)<((types.length:Nat):Int)] ⟨(Nu types name [(6,tI k),(19,tB (Z0R types k name))]),[(4,Z0Q)]⟩ .nil (.cons au1 .nil)<|AF<|AL _ rfl (fun h2 => ?_) (fun h2 => ?_)
  ·exact AA<|oc [] [0<=(k:Int)/\(k:Int)<((types.length:Nat):Int)] .nil (.cons au1 .nil)<|AF<|AR<|BN<|Au<|Au<|BN<|Au<|zl (by rw [<- hF0];simp only [FA,h1,h2,cond_true,cond_false] <;> kernel_rfl)
  refine AQ<|A0<|AF<|rg ⟨(Nu types name [(6,tI (W64 (k+1)))]),[(4,Z0Q)]⟩ ?_
  (try rw [(show W64 (k+1)=k+1 from Ap oM oM)])
  refine AF ?_
  refine ⟨(n0,k+1),⟨?_,?_,(by rw [<- hF0];simp only [FA,h1,h2,cond_true,cond_false])⟩,Nat.lt_succ_self _,BG kr⟩
  ·show ((types.length:Int)-(k+1)).toNat<n0;omega
  exact ⟨ax0,ax0,ax0⟩
 exact BH<|A7<|A7<|BI<|AF<|AA<|on<|AR<|xl (.tup [.agg [.s (⟨#[]⟩),vN,vN],.one (.b false)]) (Dk (y:=.tup [.agg [.s (⟨#[]⟩),lst 7 Eb.c [],lst 2 B3.c []],.one (.b false)]) (.tup (.cons (.agg (rr (.cons (Bi 7 Eb.c) (.cons (Bi 2 B3.c) .nil)))) (.cons (AvE.refl _) .nil))) (by rw [<- hF0];first | (simp only [FA,h1,cond_true,cond_false] <;> rfl)))
theorem WV (types:(List BA)) (name:ByteArray) (h0:(types.length:Int)<=1000000):OKc (PJ types name):=cPu<|lJ types name h0
def Gz (x0:AU):BO:=BO.mk x0.At x0.Turn x0.Under
def KB:CT:=(92,[.agg (AU.c x0)],.val [] (.av (.agg (BO.c (Gz x0)))))
theorem Xj (x0:AU):PuP 92 (KB x0).2.1 (.av (.agg (BO.c (Gz x0)))):=by
 refine pwf Try.func92 fun W0 M0 => ?_
 exact AA<|on<|AA<|on<|AR<|zl
theorem VT (x0:AU):OKc (KB x0):=cPu<|Xj x0
def ER (x0:AD) (x1:AD):AG:=AG.mk 1 x0 x1 (AD.mk 0 0)
def C2 (x0:AD) (x1:AD):CT:=(81,[.agg (AD.c x0),.agg (AD.c x1)],.val [] (.av (.agg (AG.c (ER x0 x1)))))
theorem U6 (x0:AD) (x1:AD):PuP 81 (C2 x0 x1).2.1 (.av (.agg (AG.c (ER x0 x1)))):=by
 refine pwf Try.func81 fun W0 M0 => ?_
 exact AA<|on<|AA<|on<|AR<|zl
theorem EL (x0:AD) (x1:AD):OKc (C2 x0 x1):=cPu<|U6 x0 x1
def Aa (l:(List (List Int))) (k:Int):(List Int):=bif decide ((k:Int)<(l.length:Int)) then (l.getD k.toNat default) else ([])
def E3:CT:=(54,[.one (lst 1 (fun x=>[lst 1 eIn x]) l),.one (.i k)],.val [] (.av (.one (lst 1 eIn (Aa l k)))))
abbrev oL (l:List (List Int)):Av:=.one (lst 1 (fun x=>[lst 1 (fun x=>[.i x]) x]) l)
theorem fT (l:(List (List Int))) (k:Int) (hk:0<=k):PuP 54 (E3 l k).2.1 (tO (lst 1 eIn (Aa l k))):=by
 refine pwf Try.func54 fun W0 M0 => ?_
 refine AA<|on<|AA<|AA<|rn ⟨[(0,.av (oL l)),(1,tI k),(8,tB (decide ((k:Int)<(l.length:Int))))],[]⟩<|AL _ rfl (fun h1 => ?_) (fun h1 => ?_)
 ·have g1:=oT h1
  exact AA<|oc [] [0<=(k:Int)/\(k:Int)<((l.length:Nat):Int)] .nil (.cons au1 .nil)<|AF<|AR<|Au<|zl (by simp only [Aa,h1,cond_true,cond_false] <;> kernel_rfl)
 exact AQ<|AF<|AA<|on<|AR<|xl (.av (.one vN)) (Dk (y:=tO (lst 1 eIn [])) (.av (.one (Bi 1 eIn))) (by simp only [Aa,h1,cond_true,cond_false] <;> rfl))
theorem GP (l:(List (List Int))) (k:Int) (hk:0<=k):OKc (E3 l k):=cPu<|fT l k hk
abbrev KJ:List Av:=[.one (.ptr 1000 0),.one (.i 4)]
abbrev Hh:Blk:=.cells (AE.c d) 94
def Z0S:CT:=(34,(KJ:List Av).map (CC 1000 1000),wrI 1000 (Hh d) (tI (AB d 4).1) (.cells (AE.c (AB d 4).2) 94))
def Z0T:AG:=ER a (AD.mk (bif (decide (a.X=b_.X)&&(decide (a.Y=b_.Y)&&true)) then (W64 (b_.X+20)) else b_.X) a.Y)
def Z0U:AG:=ER (AD.mk (bif (decide (a.X=b_.X)&&(decide (a.Y=b_.Y)&&true)) then (W64 (b_.X+20)) else b_.X) a.Y) (AD.mk (bif (decide (a.X=b_.X)&&(decide (a.Y=b_.Y)&&true)) then (W64 (b_.X+20)) else b_.X) b_.Y)
def Z0V:CT:=(34,([.one (.ptr 1000 0),.one (.i 20)]:List Av).map (CC 1000 1000),wrI 1000 (.cells (AE.c (AB d 4).2) 94) (tI (AB (AB d 4).2 20).1) (.cells (AE.c (AB (AB d 4).2 20).2) 94))
def Z0W:Blk:=.cells (AE.c (AB (AB d 4).2 20).2) 94
def Z0X:AG:=Fe (AD.mk (bif (decide (a.X=b_.X)&&(decide (a.Y=b_.Y)&&true)) then (W64 (b_.X+20)) else b_.X) (W64 (b_.Y+(W64 (5+(AB (AB d 4).2 20).1))))) (W64 (5+(AB (AB d 4).2 20).1)) 3 2
def Z0Y:AG:=ER a (AD.mk (bif (decide (a.X=b_.X)&&(decide (a.Y=b_.Y)&&true)) then (W64 (b_.X+20)) else b_.X) b_.Y)
def DD (a:AD) (b_:AD) (d:AE):((List AG)×AE):=bif bif bif bif decide ((0:Int)<(AB d 4).1) then decide (((AB d 4).1:Int)<3) else false then !(decide ((bif (decide (a.X=b_.X)&&(decide (a.Y=b_.Y)&&true)) then (W64 (b_.X+20)) else b_.X)=a.X)&&(decide (a.Y=a.Y)&&true)) else false then !(decide ((bif (decide (a.X=b_.X)&&(decide (a.Y=b_.Y)&&true)) then (W64 (b_.X+20)) else b_.X)=(bif (decide (a.X=b_.X)&&(decide (a.Y=b_.Y)&&true)) then (W64 (b_.X+20)) else b_.X))&&(decide (a.Y=b_.Y)&&true)) else false then ([Z0T a b_,Z0U a b_],(AB d 4).2) else (bif decide (((AB d 4).1:Int)=3) then ([Z0Y a b_,Z0X a b_ d],(AB (AB d 4).2 20).2) else ([Z0Y a b_],(AB d 4).2))
abbrev F6:Bool:=decide (a.X=b_.X)&&(decide (a.Y=b_.Y)&&true)
abbrev IV:=bif (F6 a b_) then (W64 (b_.X+20)) else b_.X
abbrev Kp:Nat×Blk:=(3,.cells (AD.c a) 31)
abbrev Nt (t_:List (Nat×Tv)):List (Nat×Tv):=(2,tP 1000 0)::(3,tP 3 0)::(4,tP 4 0)::t_
abbrev UM:List (Nat×Tv):=(Nt [])
abbrev Yq:List (Nat×Blk):=[(Kp a),(4,.cells [.i (IV a b_),.i b_.Y] 31),(7,.cells [.i (IV a b_),.i a.Y] 31),(1000,.cells (AE.c (AB d 4).2) 94)]
theorem au26 {p:Prop} (h:p:=by repeat (first | assumption | exact DA (by assumption) | refine Bd ?_ | refine DO ?_ ?_ | refine hKd _ _ ?_ | refine cond_dk _ ?_)):p:=h
theorem au10 {p:Prop} (h:p:=by first | decide | omega | (simp only [E6];omega)):p:=h
theorem aK  (a:AD) (b_:AD) (d:AE) (hd:Bz d):Wr Try.prog 79 1000 [.agg (AD.c a),.agg (AD.c b_),.one (.ptr 1000 0)] (.cells (AE.c d) 94) (tO (lst 7 AG.c (DD a b_ d).1)) (.cells (AE.c (DD a b_ d).2) 94):=by
 refine Hr Try.func79 rfl kr kr kr kr fun W0 M0 X hX => ?_
 refine AA<|on<|AA<|AA<|rn ⟨(Nt [(13,tB (F6 a b_))]),[(Kp a),(4,.cells (AD.c b_) 31),(1000,.cells (AE.c d) 94)]⟩<|CR (⟨UM,[(Kp a),(4,.cells [.i (bif (F6 a b_) then (W64 (b_.X+20)) else b_.X),.i b_.Y] 31),(1000,.cells (AE.c d) 94)]⟩) ?_ ?_
 ·refine AL _ rfl (fun h1 => ?_) (fun h1 => ?_)
  ·refine rn ⟨UM,[(Kp a),(4,.cells [.i (W64 (b_.X+20)),.i b_.Y] 31),(1000,.cells (AE.c d) 94)]⟩<|BG ?_
   first | rfl | (simp only [h1,cond_true,cond_false] <;> rfl)
  refine AQ<|AF<|Cv.trans (ck (⟨UM,[(Kp a),(4,.cells (AD.c b_) 31),(1000,.cells (AE.c d) 94)]⟩)) (BG ?_)
  first | rfl | (simp only [h1,cond_true,cond_false] <;> rfl)
 refine AA<|on<|AA<|AA<|rb 24 (Z0S d) (Hh d) ⟨(Nt [(7,tP 7 0),(8,tI (AB d 4).1)]),(Yq a b_ d)⟩ (cWr (Bg d 4 au26 au10))<|AF<|AM<|AA<|rc [] (t2 (decide ((0:Int)<(AB d 4).1)) (t3 (bif decide ((0:Int)<(AB d 4).1) then decide (((AB d 4).1:Int)<3) else false) (t3 (bif bif decide ((0:Int)<(AB d 4).1) then decide (((AB d 4).1:Int)<3) else false then !(decide ((IV a b_)=a.X)&&(decide (a.Y=a.Y)&&true)) else false) []))) ⟨(Nt [(7,tP 7 0),(8,tI (AB d 4).1),(25,tB (bif bif bif decide ((0:Int)<(AB d 4).1) then decide (((AB d 4).1:Int)<3) else false then !(decide ((bif (decide (a.X=b_.X)&&(decide (a.Y=b_.Y)&&true)) then (W64 (b_.X+20)) else b_.X)=a.X)&&(decide (a.Y=a.Y)&&true)) else false then !(decide ((bif (decide (a.X=b_.X)&&(decide (a.Y=b_.Y)&&true)) then (W64 (b_.X+20)) else b_.X)=(bif (decide (a.X=b_.X)&&(decide (a.Y=b_.Y)&&true)) then (W64 (b_.X+20)) else b_.X))&&(decide (a.Y=b_.Y)&&true)) else false))]),(Yq a b_ d)⟩ .nil (c2 (c3 (c3 .nil)))<|AF ?_
 refine AL (bif bif bif decide ((0:Int)<(AB d 4).1) then decide (((AB d 4).1:Int)<3) else false then !(decide ((bif (F6 a b_) then (W64 (b_.X+20)) else b_.X)=a.X)&&(decide (a.Y=a.Y)&&true)) else false then !(decide ((bif (F6 a b_) then (W64 (b_.X+20)) else b_.X)=(bif (F6 a b_) then (W64 (b_.X+20)) else b_.X))&&(decide (a.Y=b_.Y)&&true)) else false) kr (fun h1 => ?_) (fun h1 => ?_)
 ·exact AA<|od [] [(44,C2 a (AD.mk (IV a b_) a.Y)),(47,C2 (AD.mk (IV a b_) a.Y) (AD.mk (IV a b_) b_.Y))] [As (C2 a (AD.mk (bif (F6 a b_) then (W64 (b_.X+20)) else b_.X) a.Y)).2.1,As (C2 (AD.mk (bif (F6 a b_) then (W64 (b_.X+20)) else b_.X) a.Y) (AD.mk (bif (F6 a b_) then (W64 (b_.X+20)) else b_.X) b_.Y)).2.1] (.cons (EL a (AD.mk (bif (F6 a b_) then (W64 (b_.X+20)) else b_.X) a.Y)) (.cons (EL (AD.mk (bif (F6 a b_) then (W64 (b_.X+20)) else b_.X) a.Y) (AD.mk (bif (F6 a b_) then (W64 (b_.X+20)) else b_.X) b_.Y)) .nil)) (.cons rfl (.cons rfl .nil))<|AF<|AR<|BN<|Au<|xl (.av (.one (.list true 7 2 (BF 7 2 [.i (Z0T a b_).Kind,.i (Z0T a b_).A.X,.i (Z0T a b_).A.Y,.i (Z0T a b_).B.X,.i (Z0T a b_).B.Y,.i (Z0T a b_).C.X,.i (Z0T a b_).C.Y,.i (Z0U a b_).Kind,.i (Z0U a b_).A.X,.i (Z0U a b_).A.Y,.i (Z0U a b_).B.X,.i (Z0U a b_).B.Y,.i (Z0U a b_).C.X,.i (Z0U a b_).C.Y])))) ⟨Dk (y:=tO (lst 7 AG.c [Z0T a b_,Z0U a b_])) (.av (.one (BM true (BR (c:=AG.c) (xs:=([Z0T a b_,Z0U a b_]:List AG)) rfl kr)))) (by unfold DD;rw [h1];rfl),.cells (AE.c (AB d 4).2) 94,by kernel_rfl,EI (by unfold DD;rw [h1];kernel_rfl)⟩
 refine AA<|rn ⟨(Nt [(49,tB (decide (((AB d 4).1:Int)=3)))]),[(Kp a),(4,.cells [.i (IV a b_),.i b_.Y] 31),(1000,.cells (AE.c (AB d 4).2) 94)]⟩<|AL _ rfl (fun h2 => ?_) (fun h2 => ?_)
 ·have g2:=oT h2
  refine AA<|rb 53 (Z0V d) (.cells (AE.c (AB d 4).2) 94) ⟨[(3,tP 3 0),(4,tP 4 0),(9,tI (W64 (5+(AB (AB d 4).2 20).1)))],[(Kp a),(4,.cells [.i (IV a b_),.i b_.Y] 31),(1000,Z0W d)]⟩ (cWr (Bg (AB d 4).2 20 au26 au10))<|AF<|AA<|oq 63 (Cc (AD.mk (bif (F6 a b_) then (W64 (b_.X+20)) else b_.X) (W64 (b_.Y+(W64 (5+(AB (AB d 4).2 20).1))))) (W64 (5+(AB (AB d 4).2 20).1)) 3 2) (EN (AD.mk (bif (F6 a b_) then (W64 (b_.X+20)) else b_.X) (W64 (b_.Y+(W64 (5+(AB (AB d 4).2 20).1))))) (W64 (5+(AB (AB d 4).2 20).1)) 3 2)<|AF<|AA<|od [] [(66,C2 a (AD.mk (IV a b_) b_.Y))] [As (C2 a (AD.mk (bif (F6 a b_) then (W64 (b_.X+20)) else b_.X) b_.Y)).2.1] (.cons (EL a (AD.mk (bif (F6 a b_) then (W64 (b_.X+20)) else b_.X) b_.Y)) .nil) (.cons rfl .nil)<|AF<|AR<|BN<|Au ?_
  exact xl (.av (.one (.list true 7 2 (BF 7 2 [.i (Z0Y a b_).Kind,.i (Z0Y a b_).A.X,.i (Z0Y a b_).A.Y,.i (Z0Y a b_).B.X,.i (Z0Y a b_).B.Y,.i (Z0Y a b_).C.X,.i (Z0Y a b_).C.Y,.i (Z0X a b_ d).Kind,.i (Z0X a b_ d).A.X,.i (Z0X a b_ d).A.Y,.i (Z0X a b_ d).B.X,.i (Z0X a b_ d).B.Y,.i (Z0X a b_ d).C.X,.i (Z0X a b_ d).C.Y])))) ⟨Dk (y:=tO (lst 7 AG.c [Z0Y a b_,Z0X a b_ d])) (.av (.one (BM true (BR (c:=AG.c) (xs:=([Z0Y a b_,Z0X a b_ d]:List AG)) rfl kr)))) (by unfold DD;rw [h1,h2];rfl),.cells (AE.c (AB (AB d 4).2 20).2) 94,by kernel_rfl,EI (by unfold DD;rw [h1,h2];kernel_rfl)⟩
 exact AQ<|A0<|AF<|AA<|oq 71 (C2 a (AD.mk (bif (F6 a b_) then (W64 (b_.X+20)) else b_.X) b_.Y)) (EL a (AD.mk (bif (F6 a b_) then (W64 (b_.X+20)) else b_.X) b_.Y))<|AF<|AR<|xl (.av (.one (.list true 7 1 (BF 7 1 (AG.c (Z0Y a b_)))))) ⟨Dk (y:=tO (lst 7 AG.c [Z0Y a b_])) (.av (.one (BM true (BR (c:=AG.c) (xs:=([Z0Y a b_]:List AG)) rfl kr)))) (by unfold DD;rw [h1,h2];rfl),.cells (AE.c (AB d 4).2) 94,by kernel_rfl,EI (by unfold DD;rw [h1,h2];kernel_rfl)⟩
def Z0Z:CT:=(34,([.one (.ptr 1000 0),.one (.i (b.Nets.length:Int))]:List Av).map (CC 1000 1001),wrI 1001 (Hh d) (tI (AB d (b.Nets.length:Int)).1) (.cells (AE.c (AB d (b.Nets.length:Int)).2) 94))
def C9 (b:AC) (d:AE):(ByteArray×AE):=((b.Nets.getD (AB d (b.Nets.length:Int)).1.toNat default).Name,(AB d (b.Nets.length:Int)).2)
abbrev BT (t_:List Cl):List Cl:=(.i b.Layers)::(.i b.Outline.Kind)::(lst 7 AG.c b.Outline.Edges)::(.i b.Outline.R)::(lst 7 AU.c b.Parts)::(lst 2 A9.c b.Nets)::t_
theorem Rc  (b:AC) (d:AE) (vs:Nat->Value) (hd:Bz d) (hn:1<=(b.Nets.length:Int)/\(b.Nets.length:Int)<=1000000):Wr2 Try.prog 78 1000 1001 [.one (.ptr 1000 0),.one (.ptr 1001 0)] (.cells [.i b.Layers,.i b.Outline.Kind,lst 7 AG.c b.Outline.Edges,.i b.Outline.R,lst 7 AU.c b.Parts,lst 2 A9.c b.Nets,.val (vs 6),.val (vs 7),.val (vs 8),.val (vs 9),.val (vs 10),.val (vs 11),.val (vs 12),.val (vs 13),.val (vs 14)] 62) (.cells (AE.c d) 94) (tO (.s (C9 b d).1)) (.cells [.i b.Layers,.i b.Outline.Kind,lst 7 AG.c b.Outline.Edges,.i b.Outline.R,lst 7 AU.c b.Parts,lst 2 A9.c b.Nets,.val (vs 6),.val (vs 7),.val (vs 8),.val (vs 9),.val (vs 10),.val (vs 11),.val (vs 12),.val (vs 13),.val (vs 14)] 62) (.cells (AE.c (C9 b d).2) 94):=by
 refine OO Try.func78 rfl kr kr kr rfl kr kr kr fun W0 M0 X hX => ?_
 have hnb:=Dl d (b.Nets.length:Int) oM oM
 exact AA<|on<|AA<|od [] [(15,(Z0Z b d))] [As (Z0Z b d).2.1,CL (Hh d),0<=((AB d (b.Nets.length:Int)).1:Int)/\((AB d (b.Nets.length:Int)).1:Int)<((b.Nets.length:Nat):Int)] (.cons (cWr (Bg d (b.Nets.length:Int) au26 au10)) .nil) (.cons rfl (.cons rfl (.cons oM .nil)))<|AF<|AR<|xl (tO (.s (b.Nets.getD (AB d (b.Nets.length:Int)).1.toNat default).Name)) ⟨BX (by rfl),⟨.cells (BT b [.val (vs 6),.val (vs 7),.val (vs 8),.val (vs 9),.val (vs 10),.val (vs 11),.val (vs 12),.val (vs 13),.val (vs 14)]) 62,by kernel_rfl,EI rfl⟩,.cells (AE.c (AB d (b.Nets.length:Int)).2) 94,by kernel_rfl,EI kr⟩
theorem Lu {p q:Prop} [Decidable p] [Decidable q] (h:(bif decide p then decide q else false)=true):q:=by
 by_cases hp:p
 ·rw [decide_eq_true hp] at h;exact oT h
 rw [decide_eq_false hp] at h;cases h
def Nn (b:AC) (types:List BA):Prop:=∀ k:Int,0<=k->k<(b.Parts.length:Int)->1<=((CJ types (b.Parts.getD k.toNat default).Type').1.Pads.length:Int)
theorem Sb {b:AC} {d:AE} (h:(bif decide ((AB d 12).1<8) then decide ((0:Int)<(b.Parts.length:Int)) else false)=true):0<=Int.tmod (AB d 12).1 (b.Parts.length:Int)/\Int.tmod (AB d 12).1 (b.Parts.length:Int)<(b.Parts.length:Int):=Jc (Dl d 12 (by decide) (by decide)).1 (Lu h)
theorem LR {b:AC} {types:List BA} {d:AE} (hg:Nn b types) (h:(bif decide ((AB d 12).1<8) then decide ((0:Int)<(b.Parts.length:Int)) else false)=true):1<=((CJ types (b.Parts.getD (Int.tmod (AB d 12).1 (b.Parts.length:Int)).toNat default).Type').1.Pads.length:Int):=hg _ (Sb h).1 (Sb h).2
abbrev UB (t_:List Cl):List Cl:=(.i b.Layers)::(.i b.Outline.Kind)::(lst 7 AG.c b.Outline.Edges)::(.i b.Outline.R)::t_
abbrev ZI:List Cl:=(UB b [lst 7 AU.c b.Parts,.any,.any,.any,.any,.any,.any,.any,.any,.any,.any])
def Z10:Blk:=.cells (ZI b) 62
abbrev UH:List Av:=[.one (.ptr 1000 0),.one (.i 12)]
def Z11:CT:=(34,(UH:List Av).map (CC 1000 1000),wrI 1000 (Hh d) (tI (AB d 12).1) (.cells (AE.c (AB d 12).2) 94))
abbrev N9:List Av:=[.one (.ptr 1000 0),.one (.i 6)]
def Z12:CT:=(34,(N9:List Av).map (CC 1000 1000),wrI 1000 (.cells (AE.c (AB d 12).2) 94) (tI (AB (AB d 12).2 6).1) (.cells (AE.c (AB (AB d 12).2 6).2) 94))
def Z13:Blk:=.cells (AE.c (AB (AB d 12).2 6).2) 94
def Z14:AU:=b.Parts.getD (Int.tmod (AB d 12).1 (b.Parts.length:Int)).toNat default
def Z15 (types:(List BA)) (b:AC) (d:AE):AD:=((CJ types (Z14 b d).Type').1.Pads.getD (Int.tmod (AB (AB d 12).2 6).1 ((CJ types (Z14 b d).Type').1.Pads.length:Int)).toNat default).At
def Z16 (b:AC) (d:AE) (types:(List BA)):AD:=Ff (Gz (Z14 b d)) (Z15 types b d)
def B6 (b:AC) (types:(List BA)) (d:AE):(AD×AE):=bif bif decide (((AB d 12).1:Int)<8) then decide ((0:Int)<(b.Parts.length:Int)) else false then (Z16 b d types,(AB (AB d 12).2 6).2) else (AD.mk (W64 (30+(Int.tmod (W64 (40*(AB d 12).1)) 360))) (W64 (30+(W64 (60*(AB (AB d 12).2 6).1)))),(AB (AB d 12).2 6).2)
abbrev KK:Nat×Tv:=(1,tO (lst 3 BA.c types))
theorem LU  (b:AC) (types:(List BA)) (d:AE) (hd:Bz d) (hb:(b.Parts.length:Int)<=1000000) (ht:(types.length:Int)<=1000000) (hg:Nn b types):Wr Try.prog 80 1000 [.agg [.i b.Layers,.i b.Outline.Kind,lst 7 AG.c b.Outline.Edges,.i b.Outline.R,lst 7 AU.c b.Parts,.any,.any,.any,.any,.any,.any,.any,.any,.any,.any],.one (lst 3 BA.c types),.one (.ptr 1000 0)] (.cells (AE.c d) 94) (.av (.agg (AD.c (B6 b types d).1))) (.cells (AE.c (B6 b types d).2) 94):=by
 refine Hr Try.func80 rfl kr kr kr kr fun W0 M0 X hX => ?_
 refine AA<|on<|AA<|rb 13 (Z11 d) (Hh d) ⟨[(KK types),(2,tP 1000 0),(3,tP 3 0),(6,tP 6 0),(7,tI (AB d 12).1)],[(3,Z10 b),(6,.cells [.i 0,.i 0] 31),(1000,.cells (AE.c (AB d 12).2) 94)]⟩ (cWr (Bg d 12 au26 au10))<|AF<|AA<|rb 15 (Z12 d) (.cells (AE.c (AB d 12).2) 94) ⟨[(KK types),(3,tP 3 0),(6,tP 6 0),(7,tI (AB d 12).1),(8,tI (AB (AB d 12).2 6).1)],[(3,Z10 b),(6,.cells [.i 0,.i 0] 31),(1000,Z13 d)]⟩ (cWr (Bg (AB d 12).2 6 au26 au10))<|AF<|AA<|AA<|rc [] (t4 (decide (((AB d 12).1:Int)<8)) []) ⟨[(KK types),(3,tP 3 0),(6,tP 6 0),(7,tI (AB d 12).1),(8,tI (AB (AB d 12).2 6).1),(23,tB (bif decide (((AB d 12).1:Int)<8) then decide ((0:Int)<(b.Parts.length:Int)) else false))],[(3,Z10 b),(6,.cells [.i 0,.i 0] 31),(1000,Z13 d)]⟩ .nil (c4 .nil)<|AF<|AL _ rfl (fun h1 => ?_) (fun h1 => ?_)
 ·have g1:=Hb h1
  refine AA<|od [] [] [((b.Parts.length:Int):Int)≠0,0<=(Int.tmod (AB d 12).1 (b.Parts.length:Int):Int)/\(Int.tmod (AB d 12).1 (b.Parts.length:Int):Int)<((b.Parts.length:Nat):Int)] .nil (.cons (by first | decide | (have hq:=Lu h1;omega) | (have hq:=LR hg h1;show ¬ ((CJ types (b.Parts.getD (Int.tmod (AB d 12).1 (b.Parts.length:Int)).toNat default).Type').1.Pads.length:Int)=0;omega)) (.cons (by first | exact Sb h1 | exact Jc (Dl _ 6 (by decide) (by decide)).1 (by have hq:=LR hg h1;show (0:Int)<((CJ types (b.Parts.getD (Int.tmod (AB d 12).1 (b.Parts.length:Int)).toNat default).Type').1.Pads.length:Int);omega) | decide | omega) .nil))<|AF<|AA<|oq 37 (PJ types (Z14 b d).Type') (WV types (Z14 b d).Type' au14)<|AF<|AA ?_
  refine od [] [(41,KB (Z14 b d)),(52,Fb (Gz (Z14 b d)) (Z15 types b d))] [As (KB (Z14 b d)).2.1,(((CJ types (Z14 b d).Type').1.Pads.length:Int):Int)≠0,0<=(Int.tmod (AB (AB d 12).2 6).1 ((CJ types (Z14 b d).Type').1.Pads.length:Int):Int)/\(Int.tmod (AB (AB d 12).2 6).1 ((CJ types (Z14 b d).Type').1.Pads.length:Int):Int)<(((CJ types (Z14 b d).Type').1.Pads.length:Nat):Int),As (Fb (Gz (Z14 b d)) (Z15 types b d)).2.1] (.cons (VT (Z14 b d)) (.cons (Ib (Gz (Z14 b d)) (Z15 types b d)) .nil)) (.cons rfl (.cons (by first | decide | (have hq:=Lu h1;omega) | (have hq:=LR hg h1;show ¬ ((CJ types (b.Parts.getD (Int.tmod (AB d 12).1 (b.Parts.length:Int)).toNat default).Type').1.Pads.length:Int)=0;omega)) (.cons (by first | exact Sb h1 | exact Jc (Dl _ 6 (by decide) (by decide)).1 (by have hq:=LR hg h1;show (0:Int)<((CJ types (b.Parts.getD (Int.tmod (AB d 12).1 (b.Parts.length:Int)).toNat default).Type').1.Pads.length:Int);omega) | decide | omega) (.cons rfl .nil))))<|AF<|AR<|Au ?_
  exact xl (.av (.agg (AD.c (Z16 b d types)))) ⟨BX (by simp only [B6,h1,cond_true,cond_false] <;> rfl),.cells (AE.c (AB (AB d 12).2 6).2) 94,by kernel_rfl,EI (by first | (simp only [B6,h1,cond_true,cond_false];done) | (simp only [B6,h1,cond_true,cond_false];kernel_rfl))⟩
 exact AQ<|AF<|AA<|oc [] [(360:Int)≠0] .nil (.cons (by first | decide | (have hq:=Lu h1;omega) | (have hq:=LR hg h1;show ¬ ((CJ types (b.Parts.getD (Int.tmod (AB d 12).1 (b.Parts.length:Int)).toNat default).Type').1.Pads.length:Int)=0;omega)) .nil)<|AF<|AR<|xl (.av (.agg [.i (W64 (30+(Int.tmod (W64 (40*(AB d 12).1)) 360))),.i (W64 (30+(W64 (60*(AB (AB d 12).2 6).1))))])) ⟨BX (by simp only [B6,h1,cond_true,cond_false] <;> rfl),.cells (AE.c (AB (AB d 12).2 6).2) 94,by kernel_rfl,EI (by first | (simp only [B6,h1,cond_true,cond_false];done) | (simp only [B6,h1,cond_true,cond_false];kernel_rfl))⟩
def BJ (n:Int):ByteArray:=([({ data := #[78,49] }:ByteArray),({ data := #[78,50] }:ByteArray),({ data := #[71,78,68] }:ByteArray),({ data := #[82,49] }:ByteArray),({ data := #[120,47,82,49] }:ByteArray),({ data := #[110,101,119] }:ByteArray),({ data := #[] }:ByteArray),({ data := #[57] }:ByteArray),({ data := #[97,47,98,47,99,47,100,47,101,47,102] }:ByteArray),({ data := #[80,49] }:ByteArray),({ data := #[112,111,119,101,114] }:ByteArray),({ data := #[109,49] }:ByteArray)]:List ByteArray).getD (Int.tmod n 12).toNat ⟨#[]⟩
def Cg:CT:=(61,[.one (.i n)],.val [] (.av (.one (.s (BJ n)))))
theorem fQ (n:Int) (hn:0<=n):PuP 61 (Cg n).2.1 (tO (.s (BJ n))):=by
 refine pwf Try.func61 fun W0 M0 => ?_
 exact AA<|on<|AA<|oc [] [(12:Int)≠0,0<=(Int.tmod n 12:Int)/\(Int.tmod n 12:Int)<((12:Nat):Int)] .nil (.cons au13 (.cons (Jc hn (by decide)) .nil))<|AF<|AR<|zl
theorem EZ (n:Int) (hn:0<=n):OKc (Cg n):=cPu<|fQ n hn
def Z17:Blk:=.cells [.i 0,vN,.i 0] 36
def Z18:AX:=Ho (Ah.mk (W64 (10*n)) 50 (W64 ((W64 (10*n))+9)) 59)
def Z19:AG:=ER (AD.mk (W64 (10*n)) 50) (AD.mk 300 (W64 (9*n)))
def Z1a:AG:=ER (AD.mk (W64 (10*n)) 50) (AD.mk 67108865 0)
def Cz (n:Int):AX:=bif decide (((Int.tmod n 6):Int)=0) then (AX.mk 0 [] 0) else (bif decide (((Int.tmod n 6):Int)=1) then (Iz (AD.mk (W64 (10*n)) 50) 5) else (bif decide (((Int.tmod n 6):Int)=2) then (Z18 n) else (bif decide (((Int.tmod n 6):Int)=3) then (AX.mk 1 [Z19 n] 4) else (bif decide (((Int.tmod n 6):Int)=4) then (AX.mk 1 [Z19 n] 0) else (AX.mk 1 [Z1a n] 4)))))
def Fy:CT:=(60,[.one (.i n)],.val [] (.av (.agg (AX.c (Cz n)))))
abbrev OI:List (Nat×Blk):=[(2,Z17),(3,.cells [.i (W64 (10*n)),.i 50] 31)]
abbrev Qi (t_:List (Nat×Tv)):List (Nat×Tv):=(0,tI n)::(2,tP 2 0)::(3,tP 3 0)::(8,tI (Int.tmod n 6))::t_
theorem aC (n:Int):PuP 60 (Fy n).2.1 (.av (.agg (AX.c (Cz n)))):=by
 refine pwf Try.func60 fun W0 M0 => ?_
 refine AA<|on<|AA<|on<|AA<|AA<|oc [] [(6:Int)≠0] .nil (.cons au13 .nil)<|AF<|AM<|AA<|rn ⟨(Qi n [(9,tB (decide (((Int.tmod n 6):Int)=0)))]),(OI n)⟩<|AL _ rfl (fun h1 => ?_) (fun h1 => ?_)
 ·exact AA<|on<|AR<|BN<|Au<|xl (.av (.agg [.i 0,vN,.i 0])) (Dk (y:=.av (.agg [.i 0,lst 7 AG.c [],.i 0])) (.av (.agg (rr (.cons (Bi 7 AG.c) (rr .nil))))) (by simp only [Cz,h1,cond_true,cond_false] <;> rfl))
 refine AA<|rn ⟨(Qi n [(12,tB (decide (((Int.tmod n 6):Int)=1)))]),(OI n)⟩<|AL _ rfl (fun h2 => ?_) (fun h2 => ?_)
 ·exact AA<|oq 15 (LI (AD.mk (W64 (10*n)) 50) 5) (Rn (AD.mk (W64 (10*n)) 50) 5)<|AF<|AR<|BN<|Au<|zl (by simp only [Cz,h1,h2,cond_true,cond_false] <;> kernel_rfl)
 refine AA<|rn ⟨(Qi n [(16,tB (decide (((Int.tmod n 6):Int)=2)))]),(OI n)⟩<|AL _ rfl (fun h3 => ?_) (fun h3 => ?_)
 ·exact AA<|oq 29 (Jk (Ah.mk (W64 (10*n)) 50 (W64 ((W64 (10*n))+9)) 59)) (Nc (Ah.mk (W64 (10*n)) 50 (W64 ((W64 (10*n))+9)) 59))<|AF<|AR<|BN<|Au<|zl (by simp only [Cz,h1,h2,h3,cond_true,cond_false] <;> kernel_rfl)
 refine AA<|rn ⟨(Qi n [(30,tB (decide (((Int.tmod n 6):Int)=3)))]),(OI n)⟩<|AL _ rfl (fun h4 => ?_) (fun h4 => ?_)
 ·exact AA<|oq 36 (C2 (AD.mk (W64 (10*n)) 50) (AD.mk 300 (W64 (9*n)))) (EL (AD.mk (W64 (10*n)) 50) (AD.mk 300 (W64 (9*n))))<|AF<|AR<|BN<|Au<|xl (.av (.agg [.i 1,.list true 7 1 (BF 7 1 (AG.c (Z19 n))),.i 4])) (Dk (y:=.av (.agg [.i 1,lst 7 AG.c [Z19 n],.i 4])) (.av (.agg (rr (.cons (BM true (BR (c:=AG.c) (xs:=([Z19 n]:List AG)) rfl kr)) (rr .nil))))) (by simp only [Cz,h1,h2,h3,h4,cond_true,cond_false] <;> rfl))
 refine AA<|rn ⟨[(0,tI n),(2,tP 2 0),(3,tP 3 0),(39,tB (decide (((Int.tmod n 6):Int)=4)))],(OI n)⟩<|AL _ rfl (fun h5 => ?_) (fun h5 => ?_)
 ·exact AA<|oq 45 (C2 (AD.mk (W64 (10*n)) 50) (AD.mk 300 (W64 (9*n)))) (EL (AD.mk (W64 (10*n)) 50) (AD.mk 300 (W64 (9*n))))<|AF<|AR<|BN<|Au<|xl (.av (.agg [.i 1,.list true 7 1 (BF 7 1 (AG.c (Z19 n))),.i 0])) (Dk (y:=.av (.agg [.i 1,lst 7 AG.c [Z19 n],.i 0])) (.av (.agg (rr (.cons (BM true (BR (c:=AG.c) (xs:=([Z19 n]:List AG)) rfl kr)) (rr .nil))))) (by simp only [Cz,h1,h2,h3,h4,h5,cond_true,cond_false] <;> rfl))
 exact AQ<|A0<|AF<|AA<|oq 50 (C2 (AD.mk (W64 (10*n)) 50) (AD.mk 67108865 0)) (EL (AD.mk (W64 (10*n)) 50) (AD.mk 67108865 0))<|AF<|AR<|xl (.av (.agg [.i 1,.list true 7 1 (BF 7 1 (AG.c (Z1a n))),.i 4])) (Dk (y:=.av (.agg [.i 1,lst 7 AG.c [Z1a n],.i 4])) (.av (.agg (rr (.cons (BM true (BR (c:=AG.c) (xs:=([Z1a n]:List AG)) rfl kr)) (rr .nil))))) (by simp only [Cz,h1,h2,h3,h4,h5,cond_true,cond_false] <;> rfl))
theorem Ju (n:Int):OKc (Fy n):=cPu<|aC n
def Z1b:Blk:=.cells [.i 0,vN,.i 0] 36
def Z1c:Blk:=.cells [.i s.Kind,.own 6 7 s.Edges.length,.i s.R] 36
def Z1d:Blk:=.row 7 s.Edges.length (AV AG.c s.Edges) 33
def Bx (s:AX):AX:=s
def B5:CT:=(85,[.agg (AX.c s)],.val [] (.av (.agg (AX.c (Bx s)))))
theorem Ri (s:AX) (hl:(s.Edges.length:Int)<=1000000):PuP 85 (B5 s).2.1 (.av (.agg (AX.c (Bx s)))):=by
 refine pwf Try.func85 fun W0 M0 => ?_
 exact AA<|rn ⟨[(1,tP 1 0),(2,tP 2 0)],[(FD s),(2,Z1b)]⟩<|AA<|CN DU [3] [] [] [1,2] [1,2,6] [0=0,0+s.Edges.length<=maxLen,(0+s.Edges.length)*56<=140737488355328] ⟨[(1,tP 1 0),(2,tP 2 0)],[(1,.cells [.i s.Kind,.own 6 7 (0+s.Edges.length),.i s.R] 36),(2,Z1b),(6,.row 7 (0+s.Edges.length) (fun i_ j_=>if i_<0 then (BF 7 0 []) i_ j_ else (AV AG.c s.Edges) (i_-0) j_) 33)]⟩ .nil kr (.cons rfl (.cons au3 (.cons au3 .nil)))<|AF<|Al (A6 6 (Ar (A1 7 AG.c (([]:List AG):List AG)) (Af 7 AG.c s.Edges)))<|AA<|on<|AR<|zy (vf 6 hk0)
theorem D2 (s:AX) (hl:(s.Edges.length:Int)<=1000000):OKc (B5 s):=cPu<|Ri s hl
theorem EG {α:Type} {c:Bool} {a b:α×AE} (ha:Bz a.2) (hb:Bz b.2):Bz (bif c then a else b).2:=by cases c <;> assumption
theorem FI {b:AC} {d:AE} (h:Bz d):Bz (C9 b d).2:=Bd h
theorem Do {a c:AD} {d:AE} (h:Bz d):Bz (DD a c d).2:=by
 unfold DD
 exact EG (Bd h) (EG (Bd (Bd h)) (Bd h))
theorem EB {b:AC} {types:List BA} {d:AE} (h:Bz d):Bz (B6 b types d).2:=by
 unfold B6
 exact EG (Bd (Bd h)) (Bd (Bd h))
theorem Dv {l:List (List Int)} (hl:∀ x∈l,(x.length:Int)<=9223372036854775807) (k:Int):((Aa l k).length:Int)<=9223372036854775807:=by
 unfold Aa
 by_cases h:k<(l.length:Int)
 ·rw [decide_eq_true h]
  simp only [cond_true]
  by_cases hk:k.toNat<l.length
  ·rw [List.getD_eq_getElem?_getD,List.getElem?_eq_getElem hk]
   exact hl _ (List.getElem_mem _)
  rw [List.getD_eq_getElem?_getD,List.getElem?_eq_none oM]
  decide
 rw [decide_eq_false h]
 exact Int.le_of_lt (by decide:((([]:List Int).length:Nat):Int)<9223372036854775807)
theorem Rt {v:Int} {d:AE} {n:Int} (h:v<(AB d n).1) (h0:0<n) (h1:n<=1000000):v<n:=by
 have:=Dl d n h0 (by omega)
 omega
end
section
open Go.RowKit
variable (b:AC) (AW:List AO) (Ai:List BW) (A8:List A4) (types:List BA) (v12:Int) (l:List (List Int)) (v6 v6' v6'':AE)
def Z1e:Tv:=.av (oL l)
abbrev YL:List Cl:=(BT b [vN,vN,vN,vN,vN,vN,vN,vN,vN])
def Z1f:Blk:=.cells (YL b) 62
abbrev M5:List Cl:=(BT b [lst 6 AO.c [],lst 8 BW.c [],lst 8 A4.c [],lst 5 A5.c [],lst 4 BC.c [],lst 2 BE.c [],lst 20 Az.c [],lst 3 An.c [],lst 3 AN.c []])
abbrev JP:=AC.mk b.Layers b.Outline b.Parts b.Nets [] [] [] [] [] [] [] [] []
abbrev OE:List Av:=[.one (.ptr 1000 0),.one (.ptr 1001 0)]
def Z1g:CT:=(78,(OE:List Av).map (F7 1000 1000 1001 22),wqV 1000 22 [6,7,8,9,10,11,12,13,14] (M5 b) 62 (.cells [lst 1 eIn (Aa l 4),.i 0] 94) (.av (.one (.s (C9 (JP b) (AE.mk (Aa l 4) 0)).1))) (.cells (AE.c (C9 (JP b) (AE.mk (Aa l 4) 0)).2) 94))
abbrev Z1h:AE:=(C9 (AC.mk b.Layers b.Outline b.Parts b.Nets [] [] [] [] [] [] [] [] []) (AE.mk (Aa l 4) 0)).2
def Z1i:Tv:=.av (.one (.s (C9 (JP b) (AE.mk (Aa l 4) 0)).1))
def Z1j:CT:=(34,(N9:List Av).map (CC 1000 22),wrI 22 (.cells (AE.c (Z1h b l)) 94) (tI (AB (Z1h b l) 6).1) (.cells (AE.c (AB (Z1h b l) 6).2) 94))
def Z1k:Blk:=.cells (AE.c (AB (Z1h b l) 6).2) 94
abbrev FZ:List Av:=[.one (.ptr 1000 0),.one (.i 3)]
abbrev IU:=AB (AE.mk (Aa l 5) 0) 3
def Z1l:CT:=(34,(FZ:List Av).map (CC 1000 75),wrI 75 (.cells [lst 1 eIn (Aa l 5),.i 0] 94) (tI (IU l).1) (.cells (AE.c (IU l).2) 94))
def Z1m:Blk:=.cells (AE.c (IU l).2) 94
abbrev Ko:=AB (AE.mk (Aa l 6) 0) 3
def Z1n:CT:=(34,(FZ:List Av).map (CC 1000 189),wrI 189 (.cells [lst 1 eIn (Aa l 6),.i 0] 94) (tI (Ko l).1) (.cells (AE.c (Ko l).2) 94))
def Z1o:Blk:=.cells (AE.c (Ko l).2) 94
abbrev SW:List Av:=[.agg (ZI b),.one (lst 3 BA.c types),.one (.ptr 1000 0)]
abbrev KL:=AC.mk b.Layers b.Outline b.Parts [] [] [] [] [] [] [] [] [] []
def Z1p:CT:=(80,((SW b types):List Av).map (CC 1000 189),wrI 189 (.cells (AE.c (Ko l).2) 94) (.av (.agg (AD.c (B6 (KL b) types (Ko l).2).1))) (.cells (AE.c (B6 (KL b) types (Ko l).2).2) 94))
abbrev Z1q:AE:=(B6 (AC.mk b.Layers b.Outline b.Parts [] [] [] [] [] [] [] [] [] []) types (AB (AE.mk (Aa l 6) 0) 3).2).2
def Z1r:AD:=(B6 (AC.mk b.Layers b.Outline b.Parts [] [] [] [] [] [] [] [] [] []) types (AB (AE.mk (Aa l 6) 0) 3).2).1
def Z1s:CT:=(34,(FZ:List Av).map (CC 1000 189),wrI 189 (.cells (AE.c (Z1q b types l)) 94) (tI (AB (Z1q b types l) 3).1) (.cells (AE.c (AB (Z1q b types l) 3).2) 94))
def Z1t:AX:=Ho (Ah.mk (Z1r b types l).X (Z1r b types l).Y (W64 ((Z1r b types l).X+30)) (W64 ((Z1r b types l).Y+20)))
abbrev Z1u (l:(List (List Int))) (b:AC) (types:(List BA)):AE:=bif decide (((AB (AE.mk (Aa l 6) 0) 3).1:Int)=0) then (AB (Z1q b types l) 3).2 else (AB (AE.mk (Aa l 6) 0) 3).2
def Z1v (l:(List (List Int))) (b:AC) (types:(List BA)):(List A5):=bif decide (((AB (AE.mk (Aa l 6) 0) 3).1:Int)=0) then [A5.mk 41 (AB (Z1q b types l) 3).1 (Z1t b types l)] else []
def Z1w (l:(List (List Int))) (b:AC) (types:(List BA)):CT:=(34,(FZ:List Av).map (CC 1000 189),wrI 189 (.cells (AE.c (Z1u l b types)) 94) (tI (AB (Z1u l b types) 3).1) (.cells (AE.c (AB (Z1u l b types) 3).2) 94))
def Z1x (l:(List (List Int))) (b:AC) (types:(List BA)):Tv:=tB (decide (((AB (Z1u l b types) 3).1:Int)=0))
def Z1y (l:(List (List Int))) (b:AC) (types:(List BA)):Blk:=.cells (AE.c (AB (Z1u l b types) 3).2) 94
def Z1z:CT:=(80,((SW b types):List Av).map (CC 1000 189),wrI 189 (.cells (AE.c (AB (Z1u l b types) 3).2) 94) (.av (.agg (AD.c (B6 (KL b) types (AB (Z1u l b types) 3).2).1))) (.cells (AE.c (B6 (KL b) types (AB (Z1u l b types) 3).2).2) 94))
abbrev Z1A:AE:=(B6 (AC.mk b.Layers b.Outline b.Parts [] [] [] [] [] [] [] [] [] []) types (AB (Z1u l b types) 3).2).2
def Z1B:AD:=(B6 (AC.mk b.Layers b.Outline b.Parts [] [] [] [] [] [] [] [] [] []) types (AB (Z1u l b types) 3).2).1
def Z1C:CT:=(34,(KJ:List Av).map (CC 1000 189),wrI 189 (.cells (AE.c (Z1A b types l)) 94) (tI (AB (Z1A b types l) 4).1) (.cells (AE.c (AB (Z1A b types l) 4).2) 94))
def Z1D:AG:=ER (Z1B b types l) (AD.mk (W64 ((Z1B b types l).X+25)) (W64 ((Z1B b types l).Y+10)))
def Z1E:Blk:=.row 8 ([]:List A4).length (AV A4.c ([]:List A4)) 132
def Z1F:Blk:=.row 8 A8.length (AV A4.c A8) 132
def Z1G:Blk:=.row 8 ([]:List BW).length (AV BW.c ([]:List BW)) 129
def Z1H:Blk:=.row 8 Ai.length (AV BW.c Ai) 129
def Z1I:Blk:=.row 6 ([]:List AO).length (AV AO.c ([]:List AO)) 81
def Z1J:Blk:=.cells (BT b [.own 2000 6 ([]:List AO).length,vN,vN,vN,vN,vN,vN,vN,vN]) 62
abbrev jQ:List Cl:=(BT b [.own 2000 6 AW.length,vN,vN,vN,vN,vN,vN,vN,vN])
def Z1K:Blk:=.cells (jQ b AW) 62
def Z1L:Blk:=.row 6 AW.length (AV AO.c AW) 81
abbrev Hp:List Av:=[.one (.ptr 1000 0),.one (.i 2)]
def Z1M:CT:=(34,(Hp:List Av).map (CC 1000 22),wrI 22 (.cells (AE.c v6) 94) (tI (AB v6 2).1) (.cells (AE.c (AB v6 2).2) 94))
abbrev Kg:=AB (AB v6 2).2 4
def Z1N:CT:=(34,(KJ:List Av).map (CC 1000 22),wrI 22 (.cells (AE.c (AB v6 2).2) 94) (tI (Kg v6).1) (.cells (AE.c (Kg v6).2) 94))
def Z1O:CT:=(80,((SW b types):List Av).map (CC 1000 22),wrI 22 (.cells (AE.c (Kg v6).2) 94) (.av (.agg (AD.c (B6 (KL b) types (Kg v6).2).1))) (.cells (AE.c (B6 (KL b) types (Kg v6).2).2) 94))
abbrev Z1P:AE:=(B6 (AC.mk b.Layers b.Outline b.Parts [] [] [] [] [] [] [] [] [] []) types (AB (AB v6 2).2 4).2).2
def Z1Q:AD:=(B6 (AC.mk b.Layers b.Outline b.Parts [] [] [] [] [] [] [] [] [] []) types (AB (AB v6 2).2 4).2).1
def Z1R:CT:=(80,((SW b types):List Av).map (CC 1000 22),wrI 22 (.cells (AE.c (Z1P b types v6)) 94) (.av (.agg (AD.c (B6 (KL b) types (Z1P b types v6)).1))) (.cells (AE.c (B6 (KL b) types (Z1P b types v6)).2) 94))
abbrev Z1S:AE:=(B6 (AC.mk b.Layers b.Outline b.Parts [] [] [] [] [] [] [] [] [] []) types (Z1P b types v6)).2
def Z1T:AD:=(B6 (AC.mk b.Layers b.Outline b.Parts [] [] [] [] [] [] [] [] [] []) types (Z1P b types v6)).1
abbrev Qq:=DD (Z1Q b types v6) (Z1T b types v6) (Z1S b types v6)
def Z1U:CT:=(79,([.agg (AD.c (Z1Q b types v6)),.agg (AD.c (Z1T b types v6)),.one (.ptr 1000 0)]:List Av).map (CC 1000 22),wrI 22 (.cells (AE.c (Z1S b types v6)) 94) (.av (.one (lst 7 AG.c (Qq b types v6).1))) (.cells (AE.c (Qq b types v6).2) 94))
abbrev Z1V:AE:=(DD (Z1Q b types v6) (Z1T b types v6) (Z1S b types v6)).2
abbrev YP (v9:Int) (v7:ByteArray) (v6:AE) (b:AC) (types:List BA):=[AO.mk (W64 (11+v9)) v7 (W64 (1+(AB v6 2).1)) (AX.mk 1 (Qq b types v6).1 (W64 (3+(Kg v6).1)))]
def Z1W (AW:List AO) (v9:Int) (v7:ByteArray) (v6:AE) (b:AC) (types:(List BA)):Blk:=.row 6 (AW++(YP v9 v7 v6 b types)).length (AV AO.c (AW++(YP v9 v7 v6 b types))) 81
abbrev YT (b:AC) (AW:List AO) (v9:Int) (v7:ByteArray) (v6:AE) (types:List BA):List Cl:=(BT b [.own 66 6 (AW++(YP v9 v7 v6 b types)).length,vN,vN,vN,vN,vN,vN,vN,vN])
def Z1X (b:AC) (AW:List AO) (v9:Int) (v7:ByteArray) (v6:AE) (types:(List BA)):Blk:=.cells (YT b AW v9 v7 v6 types) 62
def Z1Y:CT:=(78,(OE:List Av).map (F7 1000 1000 1001 22),wqV 1000 22 [6,7,8,9,10,11,12,13,14] (M5 b) 62 (.cells (AE.c (Z1V b types v6)) 94) (.av (.one (.s (C9 (JP b) (Z1V b types v6)).1))) (.cells (AE.c (C9 (JP b) (Z1V b types v6)).2) 94))
abbrev Z1Z:AE:=(C9 (AC.mk b.Layers b.Outline b.Parts b.Nets [] [] [] [] [] [] [] [] []) (Z1V b types v6)).2
def Z20:Tv:=.av (.one (.s (C9 (JP b) (Z1V b types v6)).1))
def Z21:Blk:=.cells (AE.c (Z1Z b types v6)) 94
def Z22:CT:=(78,(OE:List Av).map (F7 1000 1000 1001 75),wqV 1000 75 [6,7,8,9,10,11,12,13,14] (M5 b) 62 (.cells (AE.c v6') 94) (.av (.one (.s (C9 (JP b) v6').1))) (.cells (AE.c (C9 (JP b) v6').2) 94))
abbrev Z23:AE:=(C9 (AC.mk b.Layers b.Outline b.Parts b.Nets [] [] [] [] [] [] [] [] []) v6').2
def Z24:CT:=(80,((SW b types):List Av).map (CC 1000 75),wrI 75 (.cells (AE.c (Z23 b v6')) 94) (.av (.agg (AD.c (B6 (KL b) types (Z23 b v6')).1))) (.cells (AE.c (B6 (KL b) types (Z23 b v6')).2) 94))
abbrev Z25:AE:=(B6 (AC.mk b.Layers b.Outline b.Parts [] [] [] [] [] [] [] [] [] []) types (Z23 b v6')).2
def Z26:AD:=(B6 (AC.mk b.Layers b.Outline b.Parts [] [] [] [] [] [] [] [] [] []) types (Z23 b v6')).1
abbrev kQ:List Av:=[.one (.ptr 1000 0),.one (.i 5)]
abbrev Ki:List Av:=(kQ:List Av)
def Z27:CT:=(34,Ki.map (CC 1000 75),wrI 75 (.cells (AE.c (Z25 b types v6')) 94) (tI (AB (Z25 b types v6') 5).1) (.cells (AE.c (AB (Z25 b types v6') 5).2) 94))
def Z28:CT:=(34,(FZ:List Av).map (CC 1000 75),wrI 75 (.cells (AE.c (AB (Z25 b types v6') 5).2) 94) (tI (AB (AB (Z25 b types v6') 5).2 3).1) (.cells (AE.c (AB (AB (Z25 b types v6') 5).2 3).2) 94))
abbrev Z29:AE:=(AB (AB (Z25 b types v6') 5).2 3).2
def Z2a:Blk:=.cells (AE.c (Z29 b types v6')) 94
abbrev RH (v11:Int) (b:AC) (v6':AE) (types:List BA):=[BW.mk (W64 (21+v11)) (C9 (JP b) v6').1 (Z26 b types v6') (W64 (6+(AB (Z25 b types v6') 5).1)) (W64 (4+(W64 (2*(AB (AB (Z25 b types v6') 5).2 3).1)))) 1 2]
def Z2b (Ai:List BW) (v11:Int) (b:AC) (v6':AE) (types:(List BA)):Blk:=.row 8 (Ai++(RH v11 b v6' types)).length (AV BW.c (Ai++(RH v11 b v6' types))) 129
def Z2c (b:AC) (AW:List AO) (Ai:List BW) (v11:Int) (v6':AE) (types:(List BA)):Blk:=.cells (BT b [.own 2000 6 AW.length,.own 108 8 (Ai++(RH v11 b v6' types)).length,vN,vN,vN,vN,vN,vN,vN]) 62
def Z2d:CT:=(34,(FZ:List Av).map (CC 1000 75),wrI 75 (.cells (AE.c v6') 94) (tI (AB v6' 3).1) (.cells (AE.c (AB v6' 3).2) 94))
def Z2e:CT:=(34,(UH:List Av).map (CC 1000 75),wrI 75 (.cells (AE.c v6'') 94) (tI (AB v6'' 12).1) (.cells (AE.c (AB v6'' 12).2) 94))
abbrev KO:=AB (AB v6'' 12).2 12
def Z2f:CT:=(34,(UH:List Av).map (CC 1000 75),wrI 75 (.cells (AE.c (AB v6'' 12).2) 94) (tI (KO v6'').1) (.cells (AE.c (KO v6'').2) 94))
def Z2g:CT:=(34,(N9:List Av).map (CC 1000 75),wrI 75 (.cells (AE.c (KO v6'').2) 94) (tI (AB (KO v6'').2 6).1) (.cells (AE.c (AB (KO v6'').2 6).2) 94))
abbrev Z2h:AE:=(AB (AB (AB v6'' 12).2 12).2 6).2
def Z2i:CT:=(34,Ki.map (CC 1000 75),wrI 75 (.cells (AE.c (Z2h v6'')) 94) (tI (AB (Z2h v6'') 5).1) (.cells (AE.c (AB (Z2h v6'') 5).2) 94))
abbrev RG:=C9 (JP b) (AB (Z2h v6'') 5).2
def Z2j:CT:=(78,(OE:List Av).map (F7 1000 1000 1001 75),wqV 1000 75 [6,7,8,9,10,11,12,13,14] (M5 b) 62 (.cells (AE.c (AB (Z2h v6'') 5).2) 94) (.av (.one (.s (RG b v6'').1))) (.cells (AE.c (RG b v6'').2) 94))
abbrev Z2k:AE:=(C9 (AC.mk b.Layers b.Outline b.Parts b.Nets [] [] [] [] [] [] [] [] []) (AB (Z2h v6'') 5).2).2
def Z2l:CT:=(34,(Hp:List Av).map (CC 1000 75),wrI 75 (.cells (AE.c (Z2k b v6'')) 94) (tI (AB (Z2k b v6'') 2).1) (.cells (AE.c (AB (Z2k b v6'') 2).2) 94))
abbrev UZ:=AB (AB (Z2k b v6'') 2).2 3
def Z2m:CT:=(34,(FZ:List Av).map (CC 1000 75),wrI 75 (.cells (AE.c (AB (Z2k b v6'') 2).2) 94) (tI (UZ b v6'').1) (.cells (AE.c (UZ b v6'').2) 94))
abbrev Z2n:AE:=(AB (AB (Z2k b v6'') 2).2 3).2
def Z2o:CT:=(34,(Hp:List Av).map (CC 1000 75),wrI 75 (.cells (AE.c (Z2n b v6'')) 94) (tI (AB (Z2n b v6'') 2).1) (.cells (AE.c (AB (Z2n b v6'') 2).2) 94))
abbrev UY:=AB (AB (Z2n b v6'') 2).2 4
def Z2p:CT:=(34,(KJ:List Av).map (CC 1000 75),wrI 75 (.cells (AE.c (AB (Z2n b v6'') 2).2) 94) (tI (UY b v6'').1) (.cells (AE.c (UY b v6'').2) 94))
abbrev Z2q:AE:=(AB (AB (Z2n b v6'') 2).2 4).2
def Z2r:CT:=(34,(N9:List Av).map (CC 1000 75),wrI 75 (.cells (AE.c (Z2q b v6'')) 94) (tI (AB (Z2q b v6'') 6).1) (.cells (AE.c (AB (Z2q b v6'') 6).2) 94))
abbrev NK:=[Ah.mk (AB v6'' 12).1 (KO v6'').1 (W64 ((W64 ((AB v6'' 12).1+1))+(AB (KO v6'').2 6).1)) (W64 ((W64 ((KO v6'').1+1))+(AB (Z2h v6'') 5).1))]
abbrev Qn (v12:Int) (b:AC) (v6'':AE) (t_:List Cl):List Cl:=(.i (W64 (31+v12)))::(.s (RG b v6'').1)::(.i (W64 (1+(AB (Z2k b v6'') 2).1)))::(.i (W64 (20+(W64 (5*(UZ b v6'').1)))))::(.i (AB (Z2n b v6'') 2).1)::(.i (([0,0,5,9]:List Int).getD (UY b v6'').1.toNat 0))::(.i (W64 (4+(AB (Z2q b v6'') 6).1)))::t_
def Z2s (v12:Int) (b:AC) (v6'':AE):Blk:=.cells (Qn v12 b v6'' [.own 158 4 ((NK v6'').length)]) 132
def Z2t:Blk:=.row 4 ((NK v6'').length) (AV Ah.c (NK v6'')) 99
def Z2u:CT:=(34,(FZ:List Av).map (CC 1000 75),wrI 75 (.cells (AE.c (AB (Z2q b v6'') 6).2) 94) (tI (AB (AB (Z2q b v6'') 6).2 3).1) (.cells (AE.c (AB (AB (Z2q b v6'') 6).2 3).2) 94))
abbrev Z2v:AE:=(AB (AB (Z2q b v6'') 6).2 3).2
abbrev Ub:=[Ah.mk (W64 ((AB v6'' 12).1-2)) (KO v6'').1 (W64 ((AB v6'' 12).1+1)) (W64 ((KO v6'').1+2))]
def Z2w:Blk:=.row 4 ((NK v6'')++(Ub v6'')).length (AV Ah.c ((NK v6'')++(Ub v6''))) 99
def Z2x:(List Ah):=bif decide (((AB (AB (Z2q b v6'') 6).2 3).1:Int)=0) then ([Ah.mk (AB v6'' 12).1 (AB (AB v6'' 12).2 12).1 (W64 ((W64 ((AB v6'' 12).1+1))+(AB (AB (AB v6'' 12).2 12).2 6).1)) (W64 ((W64 ((AB (AB v6'' 12).2 12).1+1))+(AB (Z2h v6'') 5).1))]++[Ah.mk (W64 ((AB v6'' 12).1-2)) (AB (AB v6'' 12).2 12).1 (W64 ((AB v6'' 12).1+1)) (W64 ((AB (AB v6'' 12).2 12).1+2))]) else [Ah.mk (AB v6'' 12).1 (AB (AB v6'' 12).2 12).1 (W64 ((W64 ((AB v6'' 12).1+1))+(AB (AB (AB v6'' 12).2 12).2 6).1)) (W64 ((W64 ((AB (AB v6'' 12).2 12).1+1))+(AB (Z2h v6'') 5).1))]
abbrev RL (v12:Int) (b:AC) (v6'':AE):=[A4.mk (W64 (31+v12)) (RG b v6'').1 (W64 (1+(AB (Z2k b v6'') 2).1)) (W64 (20+(W64 (5*(UZ b v6'').1)))) (AB (Z2n b v6'') 2).1 (([0,0,5,9]:List Int).getD (UY b v6'').1.toNat 0) (W64 (4+(AB (Z2q b v6'') 6).1)) (Z2x b v6'')]
def Z2y (A8:List A4) (v12:Int) (b:AC) (v6'':AE):Blk:=.row 8 (A8++(RL v12 b v6'')).length (AV A4.c (A8++(RL v12 b v6''))) 132
def Z2z (b:AC) (AW:List AO) (v9:Int) (v7:ByteArray) (v6:AE) (types:(List BA)):Blk:=.cells (BT b [.own 2000 6 (AW++(YP v9 v7 v6 b types)).length,vN,vN,vN,vN,vN,vN,vN,vN]) 62
def Z2A:Blk:=.cells (BT b [.own 2000 6 AW.length,.own 2001 8 ([]:List BW).length,vN,vN,vN,vN,vN,vN,vN]) 62
abbrev G0 (t_:List Cl):List Cl:=(.own 2000 6 AW.length)::(.own 2001 8 Ai.length)::t_
abbrev SS:List Cl:=(BT b (G0 AW Ai [vN,vN,vN,vN,vN,vN,vN]))
def Z2B:Blk:=.cells (SS b AW Ai) 62
def Z2C:Blk:=.cells (BT b (G0 AW Ai [.own 183 8 (A8++(RL v12 b v6'')).length,vN,vN,vN,vN,vN,vN])) 62
def Z2D (b:AC) (AW:List AO) (Ai:List BW) (v11:Int) (v6':AE) (types:(List BA)):Blk:=.cells (BT b [.own 2000 6 AW.length,.own 2001 8 (Ai++(RH v11 b v6' types)).length,vN,vN,vN,vN,vN,vN,vN]) 62
def Z2E:Blk:=.cells (BT b (G0 AW Ai [.own 2002 8 ([]:List A4).length,vN,vN,vN,vN,vN,vN])) 62
abbrev ST:List Cl:=(BT b (G0 AW Ai [.own 2002 8 A8.length,vN,vN,vN,vN,vN,vN]))
def Z2F:Blk:=.cells (ST b AW Ai A8) 62
abbrev Yr (b:AC) (AW:List AO) (Ai:List BW) (A8:List A4) (l:List (List Int)) (types:List BA):List Cl:=(BT b (G0 AW Ai [.own 2002 8 A8.length,lst 5 A5.c (Z1v l b types),vN,vN,vN,vN,vN]))
def Z2G (b:AC) (AW:List AO) (Ai:List BW) (A8:List A4) (l:(List (List Int))) (types:(List BA)):Blk:=.cells (Yr b AW Ai A8 l types) 62
def Z2H (v12:Int) (b:AC) (v6'':AE):Blk:=.cells (Qn v12 b v6'' [.own 2003 4 ((NK v6'')++(Ub v6'')).length]) 132
def Z2I (v12:Int) (b:AC) (v6'':AE):Blk:=.cells (Qn v12 b v6'' [.own 2003 4 ((NK v6'').length)]) 132
def Z2J:Blk:=.cells (BT b (G0 AW Ai [.own 2002 8 (A8++(RL v12 b v6'')).length,vN,vN,vN,vN,vN,vN])) 62
def Cb (b:AC) (types:(List BA)) (l:(List (List Int))) (AW:List AO) (v6:AE) (v7:ByteArray) (v9:Int) (Ai:List BW) (v6':AE) (v11:Int) (K0:List AO->AE->ByteArray->Int->AC) (K1:List BW->AE->Int->AC):Nat->List A4->AE->Int->AC
 | 0,_,_,_=>default
 | n2+1,A8,v6'',v12=>bif decide ((v12:Int)<(AB v6' 3).1) then ((Cb b types l AW v6 v7 v9 Ai v6' v11 K0 K1 n2) (A8++[A4.mk (W64 (31+v12)) (C9 (AC.mk b.Layers b.Outline b.Parts b.Nets [] [] [] [] [] [] [] [] []) (AB (Z2h v6'') 5).2).1 (W64 (1+(AB (Z2k b v6'') 2).1)) (W64 (20+(W64 (5*(AB (AB (Z2k b v6'') 2).2 3).1)))) (AB (Z2n b v6'') 2).1 (([0,0,5,9]:List Int).getD (AB (AB (Z2n b v6'') 2).2 4).1.toNat 0) (W64 (4+(AB (Z2q b v6'') 6).1)) (Z2x b v6'')]) (Z2v b v6'') (v12+1)) else (bif decide (((AB (Z1u l b types) 3).1:Int)=0) then (AC.mk b.Layers b.Outline b.Parts b.Nets AW Ai A8 (Z1v l b types) [BC.mk 51 (AX.mk 1 [Z1D b types l] (W64 (3+(AB (Z1A b types l) 4).1)))] [] [] [] []) else (AC.mk b.Layers b.Outline b.Parts b.Nets AW Ai A8 (Z1v l b types) [] [] [] [] []))
def Cq (b:AC) (types:(List BA)) (l:(List (List Int))) (AW:List AO) (v6:AE) (v7:ByteArray) (v9:Int) (K0:List AO->AE->ByteArray->Int->AC):Nat->List BW->AE->Int->AC
 | 0,_,_,_=>default
 | n1+1,Ai,v6',v11=>bif decide ((v11:Int)<(AB (AE.mk (Aa l 5) 0) 3).1) then ((Cq b types l AW v6 v7 v9 K0 n1) (Ai++[BW.mk (W64 (21+v11)) (C9 (AC.mk b.Layers b.Outline b.Parts b.Nets [] [] [] [] [] [] [] [] []) v6').1 (Z26 b types v6') (W64 (6+(AB (Z25 b types v6') 5).1)) (W64 (4+(W64 (2*(AB (AB (Z25 b types v6') 5).2 3).1)))) 1 2]) (Z29 b types v6') (v11+1)) else (Cb b types l AW v6 v7 v9 Ai v6' v11 K0 (Cq b types l AW v6 v7 v9 K0 n1) (((AB v6' 3).1-0).toNat+1) ([]:List A4) (AB v6' 3).2 0)
def CO (b:AC) (types:(List BA)) (l:(List (List Int))):Nat->List AO->AE->ByteArray->Int->AC
 | 0,_,_,_,_=>default
 | n0+1,AW,v6,v7,v9=>bif decide ((v9:Int)<(AB (Z1h b l) 6).1) then ((CO b types l n0) (AW++[AO.mk (W64 (11+v9)) v7 (W64 (1+(AB v6 2).1)) (AX.mk 1 (DD (Z1Q b types v6) (Z1T b types v6) (Z1S b types v6)).1 (W64 (3+(AB (AB v6 2).2 4).1)))]) (Z1Z b types v6) (C9 (AC.mk b.Layers b.Outline b.Parts b.Nets [] [] [] [] [] [] [] [] []) (Z1V b types v6)).1 (v9+1)) else (Cq b types l AW v6 v7 v9 (CO b types l n0) (((AB (AE.mk (Aa l 5) 0) 3).1-0).toNat+1) ([]:List BW) (AB (AE.mk (Aa l 5) 0) 3).2 0)
def BS (b:AC) (types:(List BA)) (l:(List (List Int))):AC:=CO b types l (((AB (Z1h b l) 6).1-0).toNat+1) ([]:List AO) (AB (Z1h b l) 6).2 (C9 (AC.mk b.Layers b.Outline b.Parts b.Nets [] [] [] [] [] [] [] [] []) (AE.mk (Aa l 4) 0)).1 0
abbrev Fr (t_:List (Nat×Tv)):List (Nat×Tv):=(0,tP 1000 0)::(KK types)::(2,Z1e l)::(6,tP 75 0)::t_
abbrev JM:Nat×Tv:=(8,tI (AB v6' 3).1)
abbrev RE (types:List BA) (l:List (List Int)) (v6':AE) (v12:Int):List (Nat×Tv):=(Fr types l [(JM v6'),(12,tI v12),(16,tP 16 0)])
abbrev DE:Nat×Blk:=(2000,Z1L AW)
abbrev Kr:Nat×Blk:=(75,.cells (AE.c (Z2v b v6'')) 94)
abbrev N8:List (Nat×Tv):=[(0,tP 1000 0),(KK types),(6,tP 189 0)]
abbrev ED:Nat×Blk:=(2001,Z1H Ai)
abbrev Kj:Nat×Tv:=(8,tI (AB (Z1h b l) 6).1)
abbrev Qp:List Av:=[.agg (jQ b AW),.one (lst 3 BA.c types),.one (.ptr 22 0)]
abbrev Yd (v12:Int) (b:AC) (v6'':AE) (t_:List Cl):List Cl:=(.i (W64 (31+v12)))::(.s (RG b v6'').1)::(.i (W64 (1+(AB (Z2k b v6'') 2).1)))::(.i (W64 (20+(W64 (5*(AB (AB (Z2k b v6'') 2).2 3).1)))))::(.i (AB (Z2n b v6'') 2).1)::(.i (([0,0,5,9]:List Int).getD (AB (AB (Z2n b v6'') 2).2 4).1.toNat 0))::(.i (W64 (4+(AB (Z2q b v6'') 6).1)))::t_
abbrev Ka (t_:List (Nat×Tv)):List (Nat×Tv):=(0,tP 1000 0)::(KK types)::(2,Z1e l)::(6,tP 22 0)::t_
theorem au6 {p:Prop} (h:p:=by repeat (first | with_reducible assumption | exact DA (Dv hll _) | with_reducible refine Bd ?_ | with_reducible refine FI ?_ | with_reducible refine EB ?_ | with_reducible refine Do ?_  | with_reducible refine DO ?_ ?_)):p:=h
set_option maxHeartbeats 2000000 in
theorem VC  (b:AC) (types:(List BA)) (l:(List (List Int))) (hb:(b.Parts.length:Int)<=1000000) (ht:(types.length:Int)<=1000000) (hg:Nn b types) (hn:1<=(b.Nets.length:Int)/\(b.Nets.length:Int)<=1000000) (hl:(l.length:Int)<=9223372036854775807) (hll:∀ x∈l,(x.length:Int)<=9223372036854775807):Wr Try.prog 57 1000 [.one (.ptr 1000 0),.one (lst 3 BA.c types),.one (lst 1 (fun x=>[lst 1 eIn x]) l)] (.cells [.i b.Layers,.i b.Outline.Kind,lst 7 AG.c b.Outline.Edges,.i b.Outline.R,lst 7 AU.c b.Parts,lst 2 A9.c b.Nets,vN,vN,vN,vN,vN,vN,vN,vN,vN] 62) (.tup []) (.cells [.i (BS b types l).Layers,.i (BS b types l).Outline.Kind,lst 7 AG.c (BS b types l).Outline.Edges,.i (BS b types l).Outline.R,lst 7 AU.c (BS b types l).Parts,lst 2 A9.c (BS b types l).Nets,lst 6 AO.c (BS b types l).Tracks,lst 8 BW.c (BS b types l).Vias,lst 8 A4.c (BS b types l).Pours,lst 5 A5.c (BS b types l).Keeps,lst 4 BC.c (BS b types l).Slots,vN,vN,vN,vN] 62):=by
 refine Hr Try.func57 rfl kr kr kr kr fun W0 M0 X hX => ?_
 refine AA<|oq 20 (E3 l 4) (GP l 4 au14)<|AF<|AA<|oc [(25,(Z1g b l))] [As (Z1g b l).2.1,Blk.cells (YL b) 62=Blk.cells (PT [6,7,8,9,10,11,12,13,14] 0 (YL b) (M5 b)) 62,CL (.cells [lst 1 eIn (Aa l 4),.i 0] 94)] (.cons (Iu (B0:=fun vs=>(BT b [.val (vs 6),.val (vs 7),.val (vs 8),.val (vs 9),.val (vs 10),.val (vs 11),.val (vs 12),.val (vs 13),.val (vs 14)])) (fun _ _=>kr) kr rfl rfl kr (fun vs=>by kernel_rfl) (fun vs=>by kernel_rfl) (fun vs=>Rc (AC.mk b.Layers b.Outline b.Parts b.Nets [] [] [] [] [] [] [] [] []) (AE.mk (Aa l 4) 0) vs au6 oM)) .nil) (.cons rfl (.cons rfl (.cons rfl .nil)))<|AF<|AA<|rb 27 (Z1j b l) (.cells (AE.c (Z1h b l)) 94) ⟨(Ka types l [(7,Z1i b l),(Kj b l)]),[(22,Z1k b l),(1000,Z1f b)]⟩ (cWr (Bg (Z1h b l) 6 au6 au10))<|AF<|AA<|AA<|rn ⟨(Ka types l [(7,Z1i b l),(Kj b l),(9,tI 0)]),[(22,Z1k b l),(1000,Z1f b)]⟩<|AM<|Al (Cv.trans (vg 2000 6 (fun _ _=>default) 81 [] [(1000,[6])] (K:=[1000]) hX) (Cv.trans (A6 2000 (CV 6 (fun _ _=>default) AO.c)) (ck (⟨(Ka types l [(7,Z1i b l),(Kj b l),(9,tI 0)]),[(22,Z1k b l),(1000,Z1J b),(2000,Z1I)]⟩)))) ?_
 refine BK (ι:=Nat×List AO×AE×ByteArray×Int) (fun x=>⟨(Ka types l [(7,tO (.s x.2.2.2.1)),(Kj b l),(9,tI x.2.2.2.2)]),[(22,.cells (AE.c x.2.2.1) 94),(1000,.cells (BT b [.own 2000 6 x.2.1.length,vN,vN,vN,vN,vN,vN,vN,vN]) 62),(2000,.row 6 x.2.1.length (AV AO.c x.2.1) 81)]⟩) (fun x=>((AB (Z1h b l) 6).1-x.2.2.2.2).toNat<x.1/\(Bz x.2.2.1/\0<=x.2.2.2.2/\(x.2.2.2.2<=(AB (Z1h b l) 6).1\/x.2.2.2.2=0)/\(x.2.1.length:Int)<=0+1*(x.2.2.2.2-0))/\CO b types l x.1 x.2.1 x.2.2.1 x.2.2.2.1 x.2.2.2.2=BS b types l) (fun x=>x.1) ?_ (((AB (Z1h b l) 6).1-0).toNat+1,([]:List AO),(AB (Z1h b l) 6).2,(C9 (AC.mk b.Layers b.Outline b.Parts b.Nets [] [] [] [] [] [] [] [] []) (AE.mk (Aa l 4) 0)).1,0) ⟨Nat.lt_succ_self _,⟨(by show Bz ((AB (Z1h b l) 6).2);repeat (first | with_reducible assumption | exact DA (Dv hll _) | with_reducible refine Bd ?_ | with_reducible refine FI ?_ | with_reducible refine EB ?_ | with_reducible refine Do ?_  | with_reducible refine DO ?_ ?_)),ax0,ax0,ax0⟩,(by simp only [BS,cond_true,cond_false])⟩
 rintro ⟨n0,AW,v6,v7,v9⟩ ⟨hm0,hinv0,hF0⟩
 try dsimp only at hm0 hinv0 hF0
 cases n0 with | zero=>exact nz hm0 | succ n0 => ?_
 have hi0_0:=hinv0.1
 refine AA<|AA<|rn ⟨(Ka types l [(7,tO (.s v7)),(Kj b l),(9,tI v9),(30,tB (decide ((v9:Int)<(AB (Z1h b l) 6).1)))]),[(22,.cells (AE.c v6) 94),(1000,Z1K b AW),(DE AW)]⟩<|AL _ rfl (fun h1 => ?_) (fun h1 => ?_)
 ·have g1:=oT h1
  have k1:=Rt g1 (by decide) (by decide)
  refine AQ<|AF<|AA<|AM<|AA<|rb 37 (Z1M v6) (.cells (AE.c v6) 94) ⟨(Ka types l [(Kj b l),(9,tI v9),(10,tP 10 0)]),[(10,.cells [.i (W64 (11+v9)),.s v7,.i (W64 (1+(AB v6 2).1)),.i 0,vN,.i 0] 81),(22,.cells (AE.c (AB v6 2).2) 94),(1000,Z1K b AW),(DE AW)]⟩ (cWr (Bg v6 2 au6 au10))<|AF<|AA ?_
  refine od [] [(41,(Z1N v6)),(48,ceI (Qp b AW types) (Z1O b types v6)),(54,ceI (Qp b AW types) (Z1R b types v6)),(56,(Z1U b types v6))] [As (Z1N v6).2.1,CL (.cells (AE.c (AB v6 2).2) 94),As (ceI (Qp b AW types) (Z1O b types v6)).2.1,CL (.cells (AE.c (AB (AB v6 2).2 4).2) 94),As (ceI (Qp b AW types) (Z1R b types v6)).2.1,CL (.cells (AE.c (Z1P b types v6)) 94),As (Z1U b types v6).2.1,CL (.cells (AE.c (Z1S b types v6)) 94)] (.cons (cWr (Bg (AB v6 2).2 4 au6 au10)) (.cons (C5 (cWr (LU (AC.mk b.Layers b.Outline b.Parts [] [] [] [] [] [] [] [] [] []) types (AB (AB v6 2).2 4).2 au6 oM oM (by assumption))) (.cons (.agg (rr5 (.cons (.any _) (.cons (.any _) (.cons (.any _) (.cons (.any _) (.cons (.any _) (.cons (.any _) (.cons (.any _) (.cons (.any _) (.cons (.any _) (.cons (.any _) .nil)))))))))))) (.cons (AvE.refl _) (.cons (AvE.refl _) .nil)))) (.cons (C5 (cWr (LU (AC.mk b.Layers b.Outline b.Parts [] [] [] [] [] [] [] [] [] []) types (Z1P b types v6) au6 oM oM (by assumption))) (.cons (.agg (rr5 (.cons (.any _) (.cons (.any _) (.cons (.any _) (.cons (.any _) (.cons (.any _) (.cons (.any _) (.cons (.any _) (.cons (.any _) (.cons (.any _) (.cons (.any _) .nil)))))))))))) (.cons (AvE.refl _) (.cons (AvE.refl _) .nil)))) (.cons (cWr (aK (Z1Q b types v6) (Z1T b types v6) (Z1S b types v6) au6)) .nil)))) (.cons rfl (.cons rfl (.cons rfl (.cons rfl (.cons rfl (.cons rfl (.cons rfl (.cons rfl .nil))))))))<|AF<|AA ?_
  refine od [] [] [AW.length=AW.length,AW.length+1<=maxLen,(AW.length+1)*72<=140737488355328] .nil (.cons rfl (.cons au3 (.cons au3 .nil)))<|AF<|Al (A6 66 (Ar (Af 6 AO.c AW) (A1 6 AO.c ([AO.mk (W64 (11+v9)) v7 (W64 (1+(AB v6 2).1)) (AX.mk 1 (DD (Z1Q b types v6) (Z1T b types v6) (Z1S b types v6)).1 (W64 (3+(AB (AB v6 2).2 4).1)))]:List AO))))<|oc [(71,(Z1Y b types v6))] [As (Z1Y b types v6).2.1,Blk.cells (YT b AW v9 v7 v6 types) 62=Blk.cells (PT [6,7,8,9,10,11,12,13,14] 0 (YT b AW v9 v7 v6 types) (M5 b)) 62,CL (.cells (AE.c (Z1V b types v6)) 94)] (.cons (Iu (B0:=fun vs=>(BT b [.val (vs 6),.val (vs 7),.val (vs 8),.val (vs 9),.val (vs 10),.val (vs 11),.val (vs 12),.val (vs 13),.val (vs 14)])) (fun _ _=>kr) kr rfl rfl kr (fun vs=>by kernel_rfl) (fun vs=>by kernel_rfl) (fun vs=>Rc (AC.mk b.Layers b.Outline b.Parts b.Nets [] [] [] [] [] [] [] [] []) (Z1V b types v6) vs au6 oM)) .nil) (.cons rfl (.cons rfl (.cons rfl .nil)))<|A0<|AF<|rg ⟨(Ka types l [(7,Z20 b types v6),(Kj b l),(9,tI (W64 (v9+1)))]),[(22,Z21 b types v6),(66,Z1W AW v9 v7 v6 b types),(1000,Z1X b AW v9 v7 v6 types)]⟩ ?_
  (try rw [(show W64 (v9+1)=v9+1 from Ap oM au8)])
  refine AF ?_
  refine ⟨(n0,AW++[AO.mk (W64 (11+v9)) v7 (W64 (1+(AB v6 2).1)) (AX.mk 1 (DD (Z1Q b types v6) (Z1T b types v6) (Z1S b types v6)).1 (W64 (3+(AB (AB v6 2).2 4).1)))],Z1Z b types v6,(C9 (AC.mk b.Layers b.Outline b.Parts b.Nets [] [] [] [] [] [] [] [] []) (Z1V b types v6)).1,v9+1),⟨?_,?_,(by rw [<- hF0];simp only [CO,h1,cond_true,cond_false])⟩,Nat.lt_succ_self _,Cv.trans (vr 66 2000 (K:=[1000]) hX) (Cv.trans (vk [0,1,2,6,7,8,9] [22,1000,2000]) (BG kr))⟩
  ·show ((AB (Z1h b l) 6).1-(v9+1)).toNat<n0;omega
  exact ⟨(by show Bz (Z1Z b types v6);repeat (first | with_reducible assumption | exact DA (Dv hll _) | with_reducible refine Bd ?_ | with_reducible refine FI ?_ | with_reducible refine EB ?_ | with_reducible refine Do ?_  | with_reducible refine DO ?_ ?_)),ax0,ax0,ax0⟩
 have g1:=oF h1
 refine BH<|A7<|A7<|BI<|AF<|AA<|oq 73 (E3 l 5) (GP l 5 au14)<|AF<|AA<|rb 77 (Z1l l) (.cells [lst 1 eIn (Aa l 5),.i 0] 94) ⟨(Fr types l [(8,tI (IU l).1)]),[(75,Z1m l),(1000,Z1K b AW),(DE AW)]⟩ (cWr (Bg (AE.mk (Aa l 5) 0) 3 au6 au10))<|AF<|AA<|AA<|rn ⟨(Fr types l [(8,tI (IU l).1),(11,tI 0)]),[(75,Z1m l),(1000,Z1K b AW),(DE AW)]⟩<|AM<|Al (Cv.trans (vg 2001 8 (fun _ _=>default) 129 [] [(1000,[7])] (K:=[1000]) hX) (Cv.trans (A6 2001 (CV 8 (fun _ _=>default) BW.c)) (ck (⟨(Fr types l [(8,tI (IU l).1),(11,tI 0)]),[(75,Z1m l),(1000,Z2A b AW),(DE AW),(2001,Z1G)]⟩)))) ?_
 refine BK (ι:=Nat×List BW×AE×Int) (fun x=>⟨(Fr types l [(8,tI (IU l).1),(11,tI x.2.2.2)]),[(75,.cells (AE.c x.2.2.1) 94),(1000,.cells (BT b [.own 2000 6 AW.length,.own 2001 8 x.2.1.length,vN,vN,vN,vN,vN,vN,vN]) 62),(DE AW),(2001,.row 8 x.2.1.length (AV BW.c x.2.1) 129)]⟩) (fun x=>((AB (AE.mk (Aa l 5) 0) 3).1-x.2.2.2).toNat<x.1/\(Bz x.2.2.1/\0<=x.2.2.2/\(x.2.2.2<=(AB (AE.mk (Aa l 5) 0) 3).1\/x.2.2.2=0)/\(x.2.1.length:Int)<=0+1*(x.2.2.2-0))/\Cq b types l AW v6 v7 v9 (CO b types l n0) x.1 x.2.1 x.2.2.1 x.2.2.2=BS b types l) (fun x=>x.1) ?_ (((AB (AE.mk (Aa l 5) 0) 3).1-0).toNat+1,([]:List BW),(AB (AE.mk (Aa l 5) 0) 3).2,0) ⟨Nat.lt_succ_self _,⟨(by show Bz ((AB (AE.mk (Aa l 5) 0) 3).2);repeat (first | with_reducible assumption | exact DA (Dv hll _) | with_reducible refine Bd ?_ | with_reducible refine FI ?_ | with_reducible refine EB ?_ | with_reducible refine Do ?_  | with_reducible refine DO ?_ ?_)),ax0,ax0,ax0⟩,(by rw [<- hF0];simp only [CO,h1,cond_true,cond_false])⟩
 rintro ⟨n1,Ai,v6',v11⟩ ⟨hm1,hinv1,hF1⟩
 try dsimp only at hm1 hinv1 hF1
 cases n1 with | zero=>exact nz hm1 | succ n1 => ?_
 have hi1_0:=hinv1.1
 refine AA<|AA<|rn ⟨(Fr types l [(8,tI (IU l).1),(11,tI v11),(80,tB (decide ((v11:Int)<(AB (AE.mk (Aa l 5) 0) 3).1)))]),[(75,.cells (AE.c v6') 94),(1000,Z2B b AW Ai),(DE AW),(ED Ai)]⟩<|AL _ rfl (fun h2 => ?_) (fun h2 => ?_)
 ·have g2:=oT h2
  have k2:=Rt g2 (by decide) (by decide)
  refine AQ<|AF<|AA<|AM ?_
  refine od [] [(92,(Z22 b v6')),(98,ceI [.agg (SS b AW Ai),.one (lst 3 BA.c types),.one (.ptr 75 0)] (Z24 b types v6')),(100,(Z27 b types v6')),(103,(Z28 b types v6'))] [As (Z22 b v6').2.1,Blk.cells (SS b AW Ai) 62=Blk.cells (PT [6,7,8,9,10,11,12,13,14] 0 (SS b AW Ai) (M5 b)) 62,CL (.cells (AE.c v6') 94),As (ceI [.agg (SS b AW Ai),.one (lst 3 BA.c types),.one (.ptr 75 0)] (Z24 b types v6')).2.1,CL (.cells (AE.c (Z23 b v6')) 94),As (Z27 b types v6').2.1,CL (.cells (AE.c (Z25 b types v6')) 94),As (Z28 b types v6').2.1,CL (.cells (AE.c (AB (Z25 b types v6') 5).2) 94),Ai.length=Ai.length,Ai.length+1<=maxLen,(Ai.length+1)*72<=140737488355328] (.cons (Iu (B0:=fun vs=>(BT b [.val (vs 6),.val (vs 7),.val (vs 8),.val (vs 9),.val (vs 10),.val (vs 11),.val (vs 12),.val (vs 13),.val (vs 14)])) (fun _ _=>kr) kr rfl rfl kr (fun vs=>by kernel_rfl) (fun vs=>by kernel_rfl) (fun vs=>Rc (AC.mk b.Layers b.Outline b.Parts b.Nets [] [] [] [] [] [] [] [] []) v6' vs au6 oM)) (.cons (C5 (cWr (LU (AC.mk b.Layers b.Outline b.Parts [] [] [] [] [] [] [] [] [] []) types (Z23 b v6') au6 oM oM (by assumption))) (.cons (.agg (rr5 (.cons (.any _) (.cons (.any _) (.cons (.any _) (.cons (.any _) (.cons (.any _) (.cons (.any _) (.cons (.any _) (.cons (.any _) (.cons (.any _) (.cons (.any _) .nil)))))))))))) (.cons (AvE.refl _) (.cons (AvE.refl _) .nil)))) (.cons (cWr (Bg (Z25 b types v6') 5 au6 au10)) (.cons (cWr (Bg (AB (Z25 b types v6') 5).2 3 au6 au10)) .nil)))) (.cons rfl (.cons rfl (.cons rfl (.cons rfl (.cons rfl (.cons rfl (.cons rfl (.cons rfl (.cons rfl (.cons rfl (.cons au3 (.cons au3 .nil))))))))))))<|A0<|AF ?_
  refine Al (A6 108 (Ar (Af 8 BW.c Ai) (A1 8 BW.c ([BW.mk (W64 (21+v11)) (C9 (AC.mk b.Layers b.Outline b.Parts b.Nets [] [] [] [] [] [] [] [] []) v6').1 (Z26 b types v6') (W64 (6+(AB (Z25 b types v6') 5).1)) (W64 (4+(W64 (2*(AB (AB (Z25 b types v6') 5).2 3).1)))) 1 2]:List BW))))<|rg ⟨(Fr types l [(8,tI (IU l).1),(11,tI (W64 (v11+1)))]),[(75,Z2a b types v6'),(108,Z2b Ai v11 b v6' types),(1000,Z2c b AW Ai v11 v6' types),(DE AW)]⟩ ?_
  (try rw [(show W64 (v11+1)=v11+1 from Ap oM au8)])
  refine AF ?_
  refine ⟨(n1,Ai++[BW.mk (W64 (21+v11)) (C9 (AC.mk b.Layers b.Outline b.Parts b.Nets [] [] [] [] [] [] [] [] []) v6').1 (Z26 b types v6') (W64 (6+(AB (Z25 b types v6') 5).1)) (W64 (4+(W64 (2*(AB (AB (Z25 b types v6') 5).2 3).1)))) 1 2],Z29 b types v6',v11+1),⟨?_,?_,(by rw [<- hF1];simp only [Cq,h2,cond_true,cond_false])⟩,Nat.lt_succ_self _,Cv.trans (vr 108 2001 (K:=[1000]) hX) (Cv.trans (vk [0,1,2,6,8,11] [75,1000,2000,2001]) (BG kr))⟩
  ·show ((AB (AE.mk (Aa l 5) 0) 3).1-(v11+1)).toNat<n1;omega
  exact ⟨(by show Bz (Z29 b types v6');repeat (first | with_reducible assumption | exact DA (Dv hll _) | with_reducible refine Bd ?_ | with_reducible refine FI ?_ | with_reducible refine EB ?_ | with_reducible refine Do ?_  | with_reducible refine DO ?_ ?_)),ax0,ax0,ax0⟩
 have g2:=oF h2
 refine BH<|A7<|A7<|BI<|AF<|AA<|rb 112 (Z2d v6') (.cells (AE.c v6') 94) ⟨(Fr types l [(JM v6')]),[(75,.cells (AE.c (AB v6' 3).2) 94),(1000,Z2B b AW Ai),(DE AW),(ED Ai)]⟩ (cWr (Bg v6' 3 au6 au10))<|AF<|AA<|AA<|rn ⟨(Fr types l [(JM v6'),(12,tI 0)]),[(75,.cells (AE.c (AB v6' 3).2) 94),(1000,Z2B b AW Ai),(DE AW),(ED Ai)]⟩<|AM<|Al (Cv.trans (vg 2002 8 (fun _ _=>default) 132 [] [(1000,[8])] (K:=[1000]) hX) (Cv.trans (A6 2002 (CV 8 (fun _ _=>default) A4.c)) (ck (⟨(Fr types l [(JM v6'),(12,tI 0)]),[(75,.cells (AE.c (AB v6' 3).2) 94),(1000,Z2E b AW Ai),(DE AW),(ED Ai),(2002,Z1E)]⟩)))) ?_
 refine BK (ι:=Nat×List A4×AE×Int) (fun x=>⟨(Fr types l [(JM v6'),(12,tI x.2.2.2)]),[(75,.cells (AE.c x.2.2.1) 94),(1000,.cells (BT b (G0 AW Ai [.own 2002 8 x.2.1.length,vN,vN,vN,vN,vN,vN])) 62),(DE AW),(ED Ai),(2002,.row 8 x.2.1.length (AV A4.c x.2.1) 132)]⟩) (fun x=>((AB v6' 3).1-x.2.2.2).toNat<x.1/\(Bz x.2.2.1/\0<=x.2.2.2/\(x.2.2.2<=(AB v6' 3).1\/x.2.2.2=0)/\(x.2.1.length:Int)<=0+1*(x.2.2.2-0))/\Cb b types l AW v6 v7 v9 Ai v6' v11 (CO b types l n0) (Cq b types l AW v6 v7 v9 (CO b types l n0) n1) x.1 x.2.1 x.2.2.1 x.2.2.2=BS b types l) (fun x=>x.1) ?_ (((AB v6' 3).1-0).toNat+1,([]:List A4),(AB v6' 3).2,0) ⟨Nat.lt_succ_self _,⟨(by show Bz ((AB v6' 3).2);repeat (first | with_reducible assumption | exact DA (Dv hll _) | with_reducible refine Bd ?_ | with_reducible refine FI ?_ | with_reducible refine EB ?_ | with_reducible refine Do ?_  | with_reducible refine DO ?_ ?_)),ax0,ax0,ax0⟩,(by rw [<- hF1];simp only [Cq,h2,cond_true,cond_false])⟩
 rintro ⟨n2,A8,v6'',v12⟩ ⟨hm2,hinv2,hF2⟩
 try dsimp only at hm2 hinv2 hF2
 cases n2 with | zero=>exact nz hm2 | succ n2 => ?_
 have hi2_0:=hinv2.1
 refine AA<|AA<|rn ⟨(Fr types l [(JM v6'),(12,tI v12),(115,tB (decide ((v12:Int)<(AB v6' 3).1)))]),[(75,.cells (AE.c v6'') 94),(1000,Z2F b AW Ai A8),(DE AW),(ED Ai),(2002,Z1F A8)]⟩<|AL _ rfl (fun h3 => ?_) (fun h3 => ?_)
 ·have g3:=oT h3
  have k3:=Rt g3 (by decide) (by decide)
  refine AQ<|AF<|AA<|AM<|AA<|oc [(119,(Z2e v6'')),(121,(Z2f v6''))] [As (Z2e v6'').2.1,CL (.cells (AE.c v6'') 94),As (Z2f v6'').2.1,CL (.cells (AE.c (AB v6'' 12).2) 94)] (.cons (cWr (Bg v6'' 12 au6 au10)) (.cons (cWr (Bg (AB v6'' 12).2 12 au6 au10)) .nil)) (.cons rfl (.cons rfl (.cons rfl (.cons rfl .nil))))<|AF<|AA<|oc [(127,(Z2g v6'')),(132,(Z2i v6''))] [As (Z2g v6'').2.1,CL (.cells (AE.c (AB (AB v6'' 12).2 12).2) 94),As (Z2i v6'').2.1,CL (.cells (AE.c (Z2h v6'')) 94)] (.cons (cWr (Bg (AB (AB v6'' 12).2 12).2 6 au6 au10)) (.cons (cWr (Bg (Z2h v6'') 5 au6 au10)) .nil)) (.cons rfl (.cons rfl (.cons rfl (.cons rfl .nil))))<|AF<|AA ?_
  refine od [158] [(139,(Z2j b v6'')),(141,(Z2l b v6'')),(144,(Z2m b v6'')),(148,(Z2o b v6'')),(151,(Z2p b v6'')),(155,(Z2r b v6''))] [As (Z2j b v6'').2.1,Blk.cells (ST b AW Ai A8) 62=Blk.cells (PT [6,7,8,9,10,11,12,13,14] 0 (ST b AW Ai A8) (M5 b)) 62,CL (.cells (AE.c (AB (Z2h v6'') 5).2) 94),As (Z2l b v6'').2.1,CL (.cells (AE.c (Z2k b v6'')) 94),As (Z2m b v6'').2.1,CL (.cells (AE.c (AB (Z2k b v6'') 2).2) 94),As (Z2o b v6'').2.1,CL (.cells (AE.c (Z2n b v6'')) 94),As (Z2p b v6'').2.1,CL (.cells (AE.c (AB (Z2n b v6'') 2).2) 94),0<=((AB (AB (Z2n b v6'') 2).2 4).1:Int)/\((AB (AB (Z2n b v6'') 2).2 4).1:Int)<((4:Nat):Int),As (Z2r b v6'').2.1,CL (.cells (AE.c (Z2q b v6'')) 94)] (.cons (Iu (B0:=fun vs=>(BT b [.val (vs 6),.val (vs 7),.val (vs 8),.val (vs 9),.val (vs 10),.val (vs 11),.val (vs 12),.val (vs 13),.val (vs 14)])) (fun _ _=>kr) kr rfl rfl kr (fun vs=>by kernel_rfl) (fun vs=>by kernel_rfl) (fun vs=>Rc (AC.mk b.Layers b.Outline b.Parts b.Nets [] [] [] [] [] [] [] [] []) (AB (Z2h v6'') 5).2 vs au6 oM)) (.cons (cWr (Bg (Z2k b v6'') 2 au6 au10)) (.cons (cWr (Bg (AB (Z2k b v6'') 2).2 3 au6 au10)) (.cons (cWr (Bg (Z2n b v6'') 2 au6 au10)) (.cons (cWr (Bg (AB (Z2n b v6'') 2).2 4 au6 au10)) (.cons (cWr (Bg (Z2q b v6'') 6 au6 au10)) .nil)))))) (.cons rfl (.cons rfl (.cons rfl (.cons rfl (.cons rfl (.cons rfl (.cons rfl (.cons rfl (.cons rfl (.cons rfl (.cons rfl (.cons (by first | exact Jy _ _ _ (by decide) (by decide) (by decide) | decide | omega) (.cons rfl (.cons rfl .nil))))))))))))))<|AF ?_
  refine Al (A6 158 (A1 4 Ah.c ([Ah.mk (AB v6'' 12).1 (AB (AB v6'' 12).2 12).1 (W64 ((W64 ((AB v6'' 12).1+1))+(AB (AB (AB v6'' 12).2 12).2 6).1)) (W64 ((W64 ((AB (AB v6'' 12).2 12).1+1))+(AB (Z2h v6'') 5).1))]:List Ah)))<|AA<|AA<|rb 161 (Z2u b v6'') (.cells (AE.c (AB (Z2q b v6'') 6).2) 94) ⟨(Fr types l [(JM v6'),(12,tI v12),(13,tI (AB v6'' 12).1),(14,tI (KO v6'').1),(16,tP 16 0),(162,tB (decide (((AB (AB (Z2q b v6'') 6).2 3).1:Int)=0)))]),[(16,Z2s v12 b v6''),(Kr b v6''),(158,Z2t v6''),(1000,Z2F b AW Ai A8),(DE AW),(ED Ai),(2002,Z1F A8)]⟩ (cWr (Bg (AB (Z2q b v6'') 6).2 3 au6 au10))<|AF<|CR (⟨[(0,tP 1000 0),(KK types),(2,.av (oL l)),(6,tP 75 0),(JM v6'),(12,tI v12),(16,tP 16 0)],[(16,.cells (Qn v12 b v6'' [.own 2003 4 (Z2x b v6'').length]) 132),(Kr b v6''),(1000,.cells (ST b AW Ai A8) 62),(2000,.row 6 AW.length (AV AO.c AW) 81),(2001,.row 8 Ai.length (AV BW.c Ai) 129),(2002,.row 8 A8.length (AV A4.c A8) 132),(2003,.row 4 (Z2x b v6'').length (AV Ah.c (Z2x b v6'')) 99)]⟩) ?_ ?_
  ·refine AL _ rfl (fun h4 => ?_) (fun h4 => ?_)
   ·have g4:=oT h4
    refine rc [] [[Ah.mk (AB v6'' 12).1 (AB (AB v6'' 12).2 12).1 (W64 ((W64 ((AB v6'' 12).1+1))+(AB (AB (AB v6'' 12).2 12).2 6).1)) (W64 ((W64 ((AB (AB v6'' 12).2 12).1+1))+(AB (Z2h v6'') 5).1))].length=[Ah.mk (AB v6'' 12).1 (AB (AB v6'' 12).2 12).1 (W64 ((W64 ((AB v6'' 12).1+1))+(AB (AB (AB v6'' 12).2 12).2 6).1)) (W64 ((W64 ((AB (AB v6'' 12).2 12).1+1))+(AB (Z2h v6'') 5).1))].length,([Ah.mk (AB v6'' 12).1 (AB (AB v6'' 12).2 12).1 (W64 ((W64 ((AB v6'' 12).1+1))+(AB (AB (AB v6'' 12).2 12).2 6).1)) (W64 ((W64 ((AB (AB v6'' 12).2 12).1+1))+(AB (Z2h v6'') 5).1))].length)+1<=maxLen,(([Ah.mk (AB v6'' 12).1 (AB (AB v6'' 12).2 12).1 (W64 ((W64 ((AB v6'' 12).1+1))+(AB (AB (AB v6'' 12).2 12).2 6).1)) (W64 ((W64 ((AB (AB v6'' 12).2 12).1+1))+(AB (Z2h v6'') 5).1))].length)+1)*32<=140737488355328] ⟨(RE types l v6' v12),[(16,.cells (Yd v12 b v6'' [.own 174 4 (((NK v6'').length)+1)]) 132),(Kr b v6''),(174,.row 4 (((NK v6'').length)+1) (fun i_ j_=>if i_<((NK v6'').length) then (AV Ah.c (NK v6'')) i_ j_ else (BF 4 1 [.i (W64 ((AB v6'' 12).1-2)),.i (KO v6'').1,.i (W64 ((AB v6'' 12).1+1)),.i (W64 ((KO v6'').1+2))]) (i_-((NK v6'').length)) j_) 99),(1000,Z2F b AW Ai A8),(DE AW),(ED Ai),(2002,Z1F A8)]⟩ .nil (.cons rfl (.cons au3 (.cons au3 .nil)))<|AF ?_
    refine Cv.trans (A6 174 (Ar (Af 4 Ah.c [Ah.mk (AB v6'' 12).1 (AB (AB v6'' 12).2 12).1 (W64 ((W64 ((AB v6'' 12).1+1))+(AB (AB (AB v6'' 12).2 12).2 6).1)) (W64 ((W64 ((AB (AB v6'' 12).2 12).1+1))+(AB (Z2h v6'') 5).1))]) (A1 4 Ah.c ([Ah.mk (W64 ((AB v6'' 12).1-2)) (AB (AB v6'' 12).2 12).1 (W64 ((AB v6'' 12).1+1)) (W64 ((AB (AB v6'' 12).2 12).1+2))]:List Ah)))) (Cv.trans (vr 174 2003 (K:=[1000]) hX) (Cv.trans (ck (⟨(RE types l v6' v12),[(16,Z2H v12 b v6''),(Kr b v6''),(1000,Z2F b AW Ai A8),(DE AW),(ED Ai),(2002,Z1F A8),(2003,Z2w v6'')]⟩)) (BG ?_)))
    first | rfl | (simp only [h4,Z2x,cond_true,cond_false] <;> rfl)
   refine AQ<|AF<|Cv.trans (vk [0,1,2,6,8,12,16] [16,75,158,1000,2000,2001,2002]) (Cv.trans (vr 158 2003 (K:=[1000]) hX) (Cv.trans (ck (⟨(RE types l v6' v12),[(16,Z2I v12 b v6''),(Kr b v6''),(1000,Z2F b AW Ai A8),(DE AW),(ED Ai),(2002,Z1F A8),(2003,Z2t v6'')]⟩)) (BG ?_)))
   first | rfl | (simp only [h4,Z2x,cond_true,cond_false] <;> rfl)
  refine Al (I8 (⟨(RE types l v6' v12),[(16,.cells (Yd v12 b v6'' [lst 4 Ah.c (Z2x b v6'')]) 132),(Kr b v6''),(1000,Z2F b AW Ai A8),(DE AW),(ED Ai),(2002,Z1F A8)]⟩) 2003 (K:=[1000]) hX)<|od [] [] [A8.length=A8.length,A8.length+1<=maxLen,(A8.length+1)*88<=140737488355328] .nil (.cons rfl (.cons au3 (.cons au3 .nil)))<|A0<|AF<|Al (A6 183 (Ar (Af 8 A4.c A8) (A1 8 A4.c ([A4.mk (W64 (31+v12)) (C9 (AC.mk b.Layers b.Outline b.Parts b.Nets [] [] [] [] [] [] [] [] []) (AB (Z2h v6'') 5).2).1 (W64 (1+(AB (Z2k b v6'') 2).1)) (W64 (20+(W64 (5*(AB (AB (Z2k b v6'') 2).2 3).1)))) (AB (Z2n b v6'') 2).1 (([0,0,5,9]:List Int).getD (AB (AB (Z2n b v6'') 2).2 4).1.toNat 0) (W64 (4+(AB (Z2q b v6'') 6).1)) (Z2x b v6'')]:List A4))))<|rg ⟨(Fr types l [(JM v6'),(12,tI (W64 (v12+1)))]),[(Kr b v6''),(183,Z2y A8 v12 b v6''),(1000,Z2C b AW Ai A8 v12 v6''),(DE AW),(ED Ai)]⟩ ?_
  (try rw [(show W64 (v12+1)=v12+1 from Ap oM au8)])
  refine AF ?_
  refine ⟨(n2,A8++[A4.mk (W64 (31+v12)) (C9 (AC.mk b.Layers b.Outline b.Parts b.Nets [] [] [] [] [] [] [] [] []) (AB (Z2h v6'') 5).2).1 (W64 (1+(AB (Z2k b v6'') 2).1)) (W64 (20+(W64 (5*(AB (AB (Z2k b v6'') 2).2 3).1)))) (AB (Z2n b v6'') 2).1 (([0,0,5,9]:List Int).getD (AB (AB (Z2n b v6'') 2).2 4).1.toNat 0) (W64 (4+(AB (Z2q b v6'') 6).1)) (Z2x b v6'')],Z2v b v6'',v12+1),⟨?_,?_,(by rw [<- hF2];simp only [Cb,h3,cond_true,cond_false])⟩,Nat.lt_succ_self _,Cv.trans (vr 183 2002 (K:=[1000]) hX) (Cv.trans (vk [0,1,2,6,8,12] [75,1000,2000,2001,2002]) (BG kr))⟩
  ·show ((AB v6' 3).1-(v12+1)).toNat<n2;omega
  exact ⟨(by show Bz (Z2v b v6'');repeat (first | with_reducible assumption | exact DA (Dv hll _) | with_reducible refine Bd ?_ | with_reducible refine FI ?_ | with_reducible refine EB ?_ | with_reducible refine Do ?_  | with_reducible refine DO ?_ ?_)),ax0,ax0,ax0⟩
 have g3:=oF h3
 refine BH<|A7<|A7<|BI<|AF<|AA<|oq 187 (E3 l 6) (GP l 6 au14)<|AF<|AA<|AA<|rb 191 (Z1n l) (.cells [lst 1 eIn (Aa l 6),.i 0] 94) ⟨[(0,tP 1000 0),(KK types),(6,tP 189 0),(192,tB (decide (((Ko l).1:Int)=0)))],[(189,Z1o l),(1000,Z2F b AW Ai A8),(DE AW),(ED Ai),(2002,Z1F A8)]⟩ (cWr (Bg (AE.mk (Aa l 6) 0) 3 au6 au10))<|AF<|CR (⟨(N8 types),[(189,.cells (AE.c (Z1u l b types)) 94),(1000,.cells (BT b (G0 AW Ai [.own 2002 8 A8.length,lst 5 A5.c (Z1v l b types),vN,vN,vN,vN,vN])) 62),(2000,.row 6 AW.length (AV AO.c AW) 81),(2001,.row 8 Ai.length (AV BW.c Ai) 129),(2002,.row 8 A8.length (AV A4.c A8) 132)]⟩) ?_ ?_
 ·refine AL _ rfl (fun h4 => ?_) (fun h4 => ?_)
  ·have g4:=oT h4
   refine AA<|rb 198 (ceI [.agg (ST b AW Ai A8),.one (lst 3 BA.c types),.one (.ptr 189 0)] (Z1p b types l)) (.cells (AE.c (AB (AE.mk (Aa l 6) 0) 3).2) 94) ⟨[(0,tP 1000 0),(KK types),(6,tP 189 0),(17,tP 17 0)],[(17,.cells (AD.c (Z1r b types l)) 31),(189,.cells (AE.c (Z1q b types l)) 94),(1000,Z2F b AW Ai A8),(DE AW),(ED Ai),(2002,Z1F A8)]⟩ (C5 (cWr (LU (AC.mk b.Layers b.Outline b.Parts [] [] [] [] [] [] [] [] [] []) types (AB (AE.mk (Aa l 6) 0) 3).2 au6 oM oM (by assumption))) (.cons (.agg (rr5 (.cons (.any _) (.cons (.any _) (.cons (.any _) (.cons (.any _) (.cons (.any _) (.cons (.any _) (.cons (.any _) (.cons (.any _) (.cons (.any _) (.cons (.any _) .nil)))))))))))) (.cons (AvE.refl _) (.cons (AvE.refl _) .nil))))<|AF ?_
   refine dw [] [(201,(Z1s b types l)),(213,Jk (Ah.mk (Z1r b types l).X (Z1r b types l).Y (W64 ((Z1r b types l).X+30)) (W64 ((Z1r b types l).Y+20))))] [As (Z1s b types l).2.1,CL (.cells (AE.c (Z1q b types l)) 94),As (Jk (Ah.mk (Z1r b types l).X (Z1r b types l).Y (W64 ((Z1r b types l).X+30)) (W64 ((Z1r b types l).Y+20)))).2.1] ⟨(N8 types),[(189,.cells (AE.c (AB (Z1q b types l) 3).2) 94),(1000,.cells (BT b (G0 AW Ai [.own 2002 8 A8.length,.list true 5 1 (BF 5 1 [.i 41,.i (AB (Z1q b types l) 3).1,.i (Z1t b types l).Kind,lst 7 AG.c (Z1t b types l).Edges,.i (Z1t b types l).R]),vN,vN,vN,vN,vN])) 62),(DE AW),(ED Ai),(2002,Z1F A8)]⟩ (.cons (cWr (Bg (Z1q b types l) 3 au6 au10)) (.cons (Nc (Ah.mk (Z1r b types l).X (Z1r b types l).Y (W64 ((Z1r b types l).X+30)) (W64 ((Z1r b types l).Y+20)))) .nil)) (.cons rfl (.cons rfl (.cons rfl .nil)))<|AF ?_
   refine Cv.trans (C1 (⟨(N8 types),[(189,.cells (AE.c (AB (Z1q b types l) 3).2) 94),(1000,.cells (BT b (G0 AW Ai [.own 2002 8 A8.length,lst 5 A5.c [A5.mk 41 (AB (Z1q b types l) 3).1 (Z1t b types l)],vN,vN,vN,vN,vN])) 62),(DE AW),(ED Ai),(2002,Z1F A8)]⟩) lr (.cons ⟨rfl,.refl _⟩ (.cons ⟨rfl,.cells _ (rr9 (.cons (BM true (BR (c:=A5.c) (xs:=([A5.mk 41 (AB (Z1q b types l) 3).1 (Z1t b types l)]:List A5)) rfl kr)) (rr (rr (rr (rr (rr .nil)))))))⟩ lr))) (BG ?_)
   first | rfl | (simp only [h4,Z1u,Z1v,cond_true,cond_false] <;> rfl)
  refine AQ<|AF<|Cv.trans (ck (⟨(N8 types),[(189,Z1o l),(1000,Z2F b AW Ai A8),(DE AW),(ED Ai),(2002,Z1F A8)]⟩)) (Cv.trans (C1 (⟨(N8 types),[(189,Z1o l),(1000,.cells (BT b (G0 AW Ai [.own 2002 8 A8.length,lst 5 A5.c [],vN,vN,vN,vN,vN])) 62),(DE AW),(ED Ai),(2002,Z1F A8)]⟩) lr (.cons ⟨rfl,.refl _⟩ (.cons ⟨rfl,.cells _ (rr9 (.cons (Bi 5 A5.c) (rr (rr (rr (rr (rr .nil)))))))⟩ lr))) (BG ?_))
  first | rfl | (simp only [h4,Z1u,Z1v,cond_true,cond_false] <;> rfl)
 refine AA<|rb 219 (Z1w l b types) (.cells (AE.c (Z1u l b types)) 94) ⟨[(0,tP 1000 0),(KK types),(6,tP 189 0),(220,Z1x l b types)],[(189,Z1y l b types),(1000,Z2G b AW Ai A8 l types),(DE AW),(ED Ai),(2002,Z1F A8)]⟩ (cWr (Bg (Z1u l b types) 3 au6 au10))<|AF<|AL _ rfl (fun h4 => ?_) (fun h4 => ?_)
 ·have g4:=oT h4
  refine AA<|rb 226 (ceI [.agg (Yr b AW Ai A8 l types),.one (lst 3 BA.c types),.one (.ptr 189 0)] (Z1z b types l)) (.cells (AE.c (AB (Z1u l b types) 3).2) 94) ⟨[(0,tP 1000 0),(6,tP 189 0),(18,tP 18 0)],[(18,.cells (AD.c (Z1B b types l)) 31),(189,.cells (AE.c (Z1A b types l)) 94),(1000,Z2G b AW Ai A8 l types),(DE AW),(ED Ai),(2002,Z1F A8)]⟩ (C5 (cWr (LU (AC.mk b.Layers b.Outline b.Parts [] [] [] [] [] [] [] [] [] []) types (AB (Z1u l b types) 3).2 au6 oM oM (by assumption))) (.cons (.agg (rr5 (.cons (.any _) (.cons (.any _) (.cons (.any _) (.cons (.any _) (.cons (.any _) (.cons (.any _) (.cons (.any _) (.cons (.any _) (.cons (.any _) (.cons (.any _) .nil)))))))))))) (.cons (AvE.refl _) (.cons (AvE.refl _) .nil))))<|AF<|od [] [(229,(Z1C b types l)),(239,C2 (Z1B b types l) (AD.mk (W64 ((Z1B b types l).X+25)) (W64 ((Z1B b types l).Y+10))))] [As (Z1C b types l).2.1,CL (.cells (AE.c (Z1A b types l)) 94),As (C2 (Z1B b types l) (AD.mk (W64 ((Z1B b types l).X+25)) (W64 ((Z1B b types l).Y+10)))).2.1] (.cons (cWr (Bg (Z1A b types l) 4 au6 au10)) (.cons (EL (Z1B b types l) (AD.mk (W64 ((Z1B b types l).X+25)) (W64 ((Z1B b types l).Y+10)))) .nil)) (.cons rfl (.cons rfl (.cons rfl .nil))) ?_
  exact yn (Cv.trans (vf 2000 (K:=[1000]) hX) (Cv.trans (vf 2001 (K:=[1000]) hX) (vf 2002 (K:=[1000]) hX))) (.tup []) ⟨BX rfl,.cells (BT b [lst 6 AO.c AW,lst 8 BW.c Ai,lst 8 A4.c A8,lst 5 A5.c (Z1v l b types),.list true 4 1 (BF 4 1 [.i 51,.i 1,.list true 7 1 (BF 7 1 (AG.c (Z1D b types l))),.i (W64 (3+(AB (Z1A b types l) 4).1))]),vN,vN,vN,vN]) 62,by kernel_rfl,SF (y:=.cells (BT b [lst 6 AO.c AW,lst 8 BW.c Ai,lst 8 A4.c A8,lst 5 A5.c (Z1v l b types),lst 4 BC.c [BC.mk 51 (AX.mk 1 [Z1D b types l] (W64 (3+(AB (Z1A b types l) 4).1)))],vN,vN,vN,vN]) 62) (.cells _ (rr9 (rr (.cons (BM true (Dh (c:=BC.c) (xs:=([BC.mk 51 (AX.mk 1 [Z1D b types l] (W64 (3+(AB (Z1A b types l) 4).1)))]:List BC)) (y:=[[.i 51,.i 1,.list true 7 1 (BF 7 1 (AG.c (Z1D b types l))),.i (W64 (3+(AB (Z1A b types l) 4).1))]]) (z:=[[.i 51,.i 1,lst 7 AG.c [Z1D b types l],.i (W64 (3+(AB (Z1A b types l) 4).1))]]) rfl kr kr (.cons (rr (rr (.cons (BM true (BR (c:=AG.c) (xs:=([Z1D b types l]:List AG)) rfl kr)) (rr .nil)))) .nil))) (rr (rr (rr (rr .nil)))))))) (by rw [<- hF2];first | (simp only [Cb,h3,h4,cond_true,cond_false];done) | (simp only [Cb,h3,h4,cond_true,cond_false];kernel_rfl))⟩
 exact AQ<|yn (Cv.trans (vf 2000 (K:=[1000]) hX) (Cv.trans (vf 2001 (K:=[1000]) hX) (vf 2002 (K:=[1000]) hX))) (.tup []) ⟨BX rfl,.cells (BT b [lst 6 AO.c AW,lst 8 BW.c Ai,lst 8 A4.c A8,lst 5 A5.c (Z1v l b types),vN,vN,vN,vN,vN]) 62,by kernel_rfl,SF (y:=.cells (BT b [lst 6 AO.c AW,lst 8 BW.c Ai,lst 8 A4.c A8,lst 5 A5.c (Z1v l b types),lst 4 BC.c [],vN,vN,vN,vN]) 62) (.cells _ (rr9 (rr (.cons (Bi 4 BC.c) (rr (rr (rr (rr .nil)))))))) (by rw [<- hF2];first | (simp only [Cb,h3,h4,cond_true,cond_false];done) | (simp only [Cb,h3,h4,cond_true,cond_false];kernel_rfl))⟩
end
structure L0 (b:AC) (B:AC):Prop where
 lay:B.Layers=b.Layers
 out:B.Outline=b.Outline
 par:B.Parts=b.Parts
 net:B.Nets=b.Nets
 trk:(B.Tracks.length:Int)<=6
 edg:∀ t∈B.Tracks,(t.Shape.Edges.length:Int)<=2
 via:(B.Vias.length:Int)<=3
 pou:(B.Pours.length:Int)<=2
 kee:(B.Keeps.length:Int)<=1
 slo:(B.Slots.length:Int)<=1
theorem gR {b B C:AC} {c:Bool} (h:L0 b B) (k:L0 b C):L0 b (bif c then B else C):=by cases c <;> assumption
theorem Rk {α:Type} {c:Bool} {x:α}:((bif c then [x] else []:List α).length:Int)<=1:=by cases c <;> simp
theorem QS (a c:AD) (d:AE):((DD a c d).1.length:Int)<=2:=by
 unfold DD
 generalize (bif _ then _ else false:Bool)=q
 cases q with
 | true=>simp
 | false =>
  simp only [cond_false]
  cases decide (((AB d 4).1:Int)=3) <;> simp
theorem WX (b:AC) (types:List BA) (l:List (List Int)) (v1:List AO) (v6:AE) (v7:ByteArray) (v9:Int) (v2:List BW) (v6':AE) (v11:Int) (K0:List AO->AE->ByteArray->Int->AC) (K1:List BW->AE->Int->AC) (h1:(v1.length:Int)<=6) (he:∀ t∈v1,(t.Shape.Edges.length:Int)<=2) (h2:(v2.length:Int)<=3):∀ (n:Nat) (v:List A4) (d:AE) (k:Int),0<=k->(v.length:Int)<=k->k<=2->((AB v6' 3).1-k).toNat<n->L0 b (Cb b types l v1 v6 v7 v9 v2 v6' v11 K0 K1 n v d k)
 | 0,v,d,k,_,_,_,h=>absurd h (Nat.not_lt_zero _)
 | n+1,v,d,k,k0,kv,k3,h=>by
  unfold Cb
  have hb:=Dl v6' 3 (by decide) (by decide)
  by_cases hc:k<(AB v6' 3).1
  ·simp only [hc,decide_true,cond_true]
   exact WX b types l v1 v6 v7 v9 v2 v6' v11 K0 K1 h1 he h2 n _ _ _ (by omega) (by simp only [List.length_append,List.length_cons,List.length_nil];omega) (by omega) (by omega)
  simp only [hc,decide_false,cond_false]
  have hv:(v.length:Int)<=2:=by omega
  repeat (first | exact ⟨rfl,rfl,rfl,rfl,h1,he,h2,hv,Rk,Rk⟩ | exact ⟨rfl,rfl,rfl,rfl,h1,he,h2,hv,Rk,(by simp:((([_]:List BC).length:Nat):Int)<=1)⟩ | exact ⟨rfl,rfl,rfl,rfl,h1,he,h2,hv,Rk,(by simp:((([]:List BC).length:Nat):Int)<=1)⟩ | refine gR ?_ ?_)
theorem WY (b:AC) (types:List BA) (l:List (List Int)) (v1:List AO) (v6:AE) (v7:ByteArray) (v9:Int) (K0:List AO->AE->ByteArray->Int->AC) (h1:(v1.length:Int)<=6) (he:∀ t∈v1,(t.Shape.Edges.length:Int)<=2):∀ (n:Nat) (v:List BW) (d:AE) (k:Int),0<=k->(v.length:Int)<=k->k<=3->((AB (AE.mk (Aa l 5) 0) 3).1-k).toNat<n->L0 b (Cq b types l v1 v6 v7 v9 K0 n v d k)
 | 0,v,d,k,_,_,_,h=>absurd h (Nat.not_lt_zero _)
 | n+1,v,d,k,k0,kv,k3,h=>by
  unfold Cq
  have hb:=Dl (AE.mk (Aa l 5) 0) 3 (by decide) (by decide)
  by_cases hc:k<(AB (AE.mk (Aa l 5) 0) 3).1
  ·simp only [hc,decide_true,cond_true]
   exact WY b types l v1 v6 v7 v9 K0 h1 he n _ _ _ (by omega) (by simp only [List.length_append,List.length_cons,List.length_nil];omega) (by omega) (by omega)
  simp only [hc,decide_false,cond_false]
  exact WX b types l v1 v6 v7 v9 v d k K0 _ h1 he (by omega) _ _ _ 0 (by omega) (by simp) (by omega) (by omega)
theorem WZ (b:AC) (types:List BA) (l:List (List Int)):∀ (n:Nat) (v:List AO) (d:AE) (s:ByteArray) (k:Int),0<=k->(v.length:Int)<=k->k<=6->(∀ t∈v,(t.Shape.Edges.length:Int)<=2)->((AB (Z1h b l) 6).1-k).toNat<n->L0 b (CO b types l n v d s k)
 | 0,v,d,s,k,_,_,_,_,h=>absurd h (Nat.not_lt_zero _)
 | n+1,v,d,s,k,k0,kv,k3,he,h=>by
  unfold CO
  have hb:=Dl (Z1h b l) 6 (by decide) (by decide)
  by_cases hc:k<(AB (Z1h b l) 6).1
  ·simp only [hc,decide_true,cond_true]
   refine WZ b types l n _ _ _ _ (by omega) (by simp only [List.length_append,List.length_cons,List.length_nil];omega) (by omega) (fun t ht => ?_) (by omega)
   rcases List.mem_append.1 ht with ht | ht
   ·exact he t ht
   rw [List.mem_singleton.1 ht];exact QS _ _ _
  simp only [hc,decide_false,cond_false]
  exact WY b types l v d s k _ (by omega) he _ _ _ 0 (by omega) (by simp) (by omega) (by omega)
theorem Gl (b:AC) (types:List BA) (l:List (List Int)):L0 b (BS b types l):=by
 have hb:=Dl (Z1h b l) 6 (by decide) (by decide)
 unfold BS
 exact WZ b types l _ _ _ _ 0 (by omega) (by simp) (by omega) (fun t ht=>by cases ht) (by omega)
section
open Go.RowKit
def AJ:Bl:=Bl.mk 1 (⟨#[]⟩) 0 (Ah.mk 0 0 0 0) (OpL.mk 0 (fun _ _=>default))
def Cm:CT:=(82,[],.val [] (.av (.agg (Bl.c AJ))))
abbrev Yu:Tv:=.av (.agg [.i 1,.s (⟨#[]⟩),.i 0,.i 0,.i 0,.i 0,.i 0,vN])
theorem XZ  : HT Try.prog 82 (Cm ).2.1 (.av (.agg (Bl.c AJ))):=by
 refine pwf Try.func82 fun W0 M0 => ?_
 exact AA<|on<|AA<|on<|AR<|xl Yu (Dk (y:=.av (.agg [.i 1,.s (⟨#[]⟩),.i 0,.i 0,.i 0,.i 0,.i 0,opL (OpL.mk 0 (fun _ _=>default))])) (.av (.agg (rr5 (rr2 (.cons (.nil _ _) .nil))))) (by rfl))
theorem Eu  : OKc (Cm ):=cPu<|XZ
def Z2K:Blk:=.cells [.i 0,.s (⟨#[]⟩),.i 0,.i 0,.i 0,.i 0,.i 0,vN] 144
variable (v3:List Int) (b:AC) (d:AE) (v4 v5:Int)
abbrev Gb:Blk:=.cells (AE.c (AB d 9).2) 94
def Z2L:CT:=(34,([.one (.ptr 1000 0),.one (.i 9)]:List Av).map (CC 1000 1000),wrI 1000 (Hh d) (tI (AB d 9).1) (Gb d))
abbrev Kh:=AB (AB d 9).2 2
def Z2M:CT:=(34,(Hp:List Av).map (CC 1000 1000),wrI 1000 (Gb d) (tI (Kh d).1) (.cells (AE.c (Kh d).2) 94))
def Z2N:Blk:=.cells (AE.c (Kh d).2) 94
def Z2O:CT:=(34,Ki.map (CC 1000 1000),wrI 1000 (Gb d) (tI (AB (AB d 9).2 5).1) (.cells (AE.c (AB (AB d 9).2 5).2) 94))
def Z2P:CT:=(34,(FZ:List Av).map (CC 1000 1000),wrI 1000 (Gb d) (tI (AB (AB d 9).2 3).1) (.cells (AE.c (AB (AB d 9).2 3).2) 94))
def Z2Q:CT:=(34,(N9:List Av).map (CC 1000 1000),wrI 1000 (Gb d) (tI (AB (AB d 9).2 6).1) (.cells (AE.c (AB (AB d 9).2 6).2) 94))
def Z2R:CT:=(34,(KJ:List Av).map (CC 1000 1000),wrI 1000 (.cells (AE.c (Kh d).2) 94) (tI (AB (Kh d).2 4).1) (.cells (AE.c (AB (Kh d).2 4).2) 94))
abbrev Z2S:AE:=(AB (AB (AB d 9).2 2).2 4).2
def BP (d:AE):(Bl×AE):=bif decide (((AB d 9).1:Int)=0) then (Bl.mk 2 (([({ data := #[78,49] }:ByteArray),({ data := #[71,78,68] }:ByteArray)]:List ByteArray).getD (AB (AB d 9).2 2).1.toNat ⟨#[]⟩) 0 (Ah.mk 0 0 0 0) (OpL.mk 0 (fun _ _=>default)),(AB (AB d 9).2 2).2) else (bif decide (((AB d 9).1:Int)=1) then (Bl.mk 3 ({ data := #[112,111,119,101,114] }:ByteArray) 0 (Ah.mk 0 0 0 0) (OpL.mk 0 (fun _ _=>default)),(AB d 9).2) else (bif decide (((AB d 9).1:Int)=2) then (Bl.mk 4 (⟨#[]⟩) (W64 (1+(AB (AB d 9).2 5).1)) (Ah.mk 0 0 0 0) (OpL.mk 0 (fun _ _=>default)),(AB (AB d 9).2 5).2) else (bif decide (((AB d 9).1:Int)=3) then (Bl.mk 5 (⟨#[]⟩) (W64 (1+(AB (AB d 9).2 2).1)) (Ah.mk 0 0 0 0) (OpL.mk 0 (fun _ _=>default)),(AB (AB d 9).2 2).2) else (bif decide (((AB d 9).1:Int)=4) then (Bl.mk 6 (⟨#[]⟩) (W64 (1+(AB (AB d 9).2 3).1)) (Ah.mk 0 0 0 0) (OpL.mk 0 (fun _ _=>default)),(AB (AB d 9).2 3).2) else (bif decide (((AB d 9).1:Int)=5) then (Bl.mk 7 (⟨#[]⟩) 0 (Ah.mk 0 0 (W64 (100+(W64 (50*(AB (AB d 9).2 6).1)))) 400) (OpL.mk 0 (fun _ _=>default)),(AB (AB d 9).2 6).2) else (bif decide (((AB d 9).1:Int)=6) then (Bl.mk 8 (⟨#[]⟩) 0 (Ah.mk 0 0 0 0) (OpL.mk 1 (BF 8 1 [.i 5,.s (⟨#[]⟩),.i (W64 (1+(AB (AB d 9).2 2).1)),.i 0,.i 0,.i 0,.i 0,vN])),(AB (AB d 9).2 2).2) else (bif decide (((AB d 9).1:Int)=7) then (Bl.mk (W64 (9+(AB (AB d 9).2 2).1)) (⟨#[]⟩) 0 (Ah.mk 0 0 0 0) (OpL.mk 2 (BF 8 2 [.i 4,.s (⟨#[]⟩),.i (W64 (1+(AB (AB (AB d 9).2 2).2 4).1)),.i 0,.i 0,.i 0,.i 0,vN,.i 2,.s ({ data := #[71,78,68] }:ByteArray),.i 0,.i 0,.i 0,.i 0,.i 0,vN])),Z2S d) else (Bl.mk 1 (⟨#[]⟩) 0 (Ah.mk 0 0 0 0) (OpL.mk 0 (fun _ _=>default)),(AB d 9).2))))))))
abbrev LM:List (Nat×Blk):=[(2,Z2K),(1000,.cells (AE.c (AB d 9).2) 94)]
abbrev V3:List Cl:=[.i 5,.s (⟨#[]⟩),.i (W64 (1+(Kh d).1)),.i 0,.i 0,.i 0,.i 0,vN]
abbrev Y4:List Cl:=[.i 7,.s (⟨#[]⟩),.i 0,.i 0,.i 0,.i (W64 (100+(W64 (50*(AB (AB d 9).2 6).1)))),.i 400,vN]
abbrev kP:Nat×Tv:=(4,tI (AB d 9).1)
abbrev Yp:List Cl:=[.i 4,.s (⟨#[]⟩),.i (W64 (1+(AB (AB d 9).2 5).1)),.i 0,.i 0,.i 0,.i 0,vN]
abbrev Yo:List Cl:=[.i 6,.s (⟨#[]⟩),.i (W64 (1+(AB (AB d 9).2 3).1)),.i 0,.i 0,.i 0,.i 0,vN]
abbrev Yj:List Cl:=[.i 8,.s (⟨#[]⟩),.i 0,.i 0,.i 0,.i 0,.i 0,.list true 8 1 (BF 8 1 (V3 d))]
abbrev JD (t_:List (Nat×Tv)):List (Nat×Tv):=(0,tP 1000 0)::(2,tP 2 0)::(kP d)::t_
theorem WR  (d:AE) (hd:Bz d):Wr Try.prog 83 1000 [.one (.ptr 1000 0)] (.cells (AE.c d) 94) (.av (.agg (Bl.c (BP d).1))) (.cells (AE.c (BP d).2) 94):=by
 refine Hr Try.func83 rfl kr kr kr kr fun W0 M0 X hX => ?_
 refine AA<|on<|AA<|AA<|rb 4 (Z2L d) (Hh d) ⟨(JD d []),(LM d)⟩ (cWr (Bg d 9 au6 au10))<|AF<|AM<|AA<|rn ⟨(JD d [(5,tB (decide (((AB d 9).1:Int)=0)))]),(LM d)⟩<|AL _ rfl (fun h1 => ?_) (fun h1 => ?_)
 ·have g1:=oT h1
  exact AA<|oc [(9,(Z2M d))] [As (Z2M d).2.1,CL (Gb d),0<=((AB (AB d 9).2 2).1:Int)/\((AB (AB d 9).2 2).1:Int)<((2:Nat):Int)] (.cons (cWr (Bg (AB d 9).2 2 au6 au10)) .nil) (.cons rfl (.cons rfl (.cons (by first | exact Jy _ _ _ (by decide) (by decide) (by decide) | decide | omega) .nil)))<|AF<|AR<|BN<|Au<|xl (.av (.agg [.i 2,.s (([({ data := #[78,49] }:ByteArray),({ data := #[71,78,68] }:ByteArray)]:List ByteArray).getD (AB (AB d 9).2 2).1.toNat ⟨#[]⟩),.i 0,.i 0,.i 0,.i 0,.i 0,vN])) ⟨Dk (y:=.av (.agg [.i 2,.s (([({ data := #[78,49] }:ByteArray),({ data := #[71,78,68] }:ByteArray)]:List ByteArray).getD (AB (AB d 9).2 2).1.toNat ⟨#[]⟩),.i 0,.i 0,.i 0,.i 0,.i 0,opL (OpL.mk 0 (fun _ _=>default))])) (.av (.agg (rr5 (rr2 (.cons (.nil _ _) .nil))))) (by unfold BP;rw [h1];rfl),.cells (AE.c (AB (AB d 9).2 2).2) 94,by kernel_rfl,EI (by unfold BP;rw [h1];kernel_rfl)⟩
 have g1:=oF h1
 refine AA<|rn ⟨(JD d [(13,tB (decide (((AB d 9).1:Int)=1)))]),(LM d)⟩<|AL _ rfl (fun h2 => ?_) (fun h2 => ?_)
 ·exact AA<|on<|AR<|BN<|Au<|xl (.av (.agg [.i 3,.s ({ data := #[112,111,119,101,114] }:ByteArray),.i 0,.i 0,.i 0,.i 0,.i 0,vN])) ⟨Dk (y:=.av (.agg [.i 3,.s ({ data := #[112,111,119,101,114] }:ByteArray),.i 0,.i 0,.i 0,.i 0,.i 0,opL (OpL.mk 0 (fun _ _=>default))])) (.av (.agg (rr5 (rr2 (.cons (.nil _ _) .nil))))) (by unfold BP;rw [h1,h2];rfl),.cells (AE.c (AB d 9).2) 94,by kernel_rfl,EI (by unfold BP;rw [h1,h2];kernel_rfl)⟩
 have g2:=oF h2
 refine AA<|rn ⟨(JD d [(16,tB (decide (((AB d 9).1:Int)=2)))]),(LM d)⟩<|AL _ rfl (fun h3 => ?_) (fun h3 => ?_)
 ·have g3:=oT h3
  exact AA<|rb 19 (Z2O d) (Gb d) ⟨[(2,tP 2 0)],[(2,.cells (Yp d) 144),(1000,.cells (AE.c (AB (AB d 9).2 5).2) 94)]⟩ (cWr (Bg (AB d 9).2 5 au6 au10))<|AF<|AR<|BN<|Au<|xl (.av (.agg (Yp d))) ⟨Dk (y:=.av (.agg [.i 4,.s (⟨#[]⟩),.i (W64 (1+(AB (AB d 9).2 5).1)),.i 0,.i 0,.i 0,.i 0,opL (OpL.mk 0 (fun _ _=>default))])) (.av (.agg (rr5 (rr2 (.cons (.nil _ _) .nil))))) (by unfold BP;rw [h1,h2,h3];rfl),.cells (AE.c (AB (AB d 9).2 5).2) 94,by kernel_rfl,EI (by unfold BP;rw [h1,h2,h3];kernel_rfl)⟩
 have g3:=oF h3
 refine AA<|rn ⟨(JD d [(22,tB (decide (((AB d 9).1:Int)=3)))]),(LM d)⟩<|AL _ rfl (fun h4 => ?_) (fun h4 => ?_)
 ·have g4:=oT h4
  exact AA<|rb 25 (Z2M d) (Gb d) ⟨[(2,tP 2 0)],[(2,.cells (V3 d) 144),(1000,Z2N d)]⟩ (cWr (Bg (AB d 9).2 2 au6 au10))<|AF<|AR<|BN<|Au<|xl (.av (.agg (V3 d))) ⟨Dk (y:=.av (.agg [.i 5,.s (⟨#[]⟩),.i (W64 (1+(AB (AB d 9).2 2).1)),.i 0,.i 0,.i 0,.i 0,opL (OpL.mk 0 (fun _ _=>default))])) (.av (.agg (rr5 (rr2 (.cons (.nil _ _) .nil))))) (by unfold BP;rw [h1,h2,h3,h4];rfl),.cells (AE.c (AB (AB d 9).2 2).2) 94,by kernel_rfl,EI (by unfold BP;rw [h1,h2,h3,h4];kernel_rfl)⟩
 have g4:=oF h4
 refine AA<|rn ⟨(JD d [(28,tB (decide (((AB d 9).1:Int)=4)))]),(LM d)⟩<|AL _ rfl (fun h5 => ?_) (fun h5 => ?_)
 ·have g5:=oT h5
  exact AA<|rb 31 (Z2P d) (Gb d) ⟨[(2,tP 2 0)],[(2,.cells (Yo d) 144),(1000,.cells (AE.c (AB (AB d 9).2 3).2) 94)]⟩ (cWr (Bg (AB d 9).2 3 au6 au10))<|AF<|AR<|BN<|Au<|xl (.av (.agg (Yo d))) ⟨Dk (y:=.av (.agg [.i 6,.s (⟨#[]⟩),.i (W64 (1+(AB (AB d 9).2 3).1)),.i 0,.i 0,.i 0,.i 0,opL (OpL.mk 0 (fun _ _=>default))])) (.av (.agg (rr5 (rr2 (.cons (.nil _ _) .nil))))) (by unfold BP;rw [h1,h2,h3,h4,h5];rfl),.cells (AE.c (AB (AB d 9).2 3).2) 94,by kernel_rfl,EI (by unfold BP;rw [h1,h2,h3,h4,h5];kernel_rfl)⟩
 have g5:=oF h5
 refine AA<|rn ⟨(JD d [(34,tB (decide (((AB d 9).1:Int)=5)))]),(LM d)⟩<|AL _ rfl (fun h6 => ?_) (fun h6 => ?_)
 ·have g6:=oT h6
  exact AA<|rb 37 (Z2Q d) (Gb d) ⟨[(2,tP 2 0)],[(2,.cells (Y4 d) 144),(1000,.cells (AE.c (AB (AB d 9).2 6).2) 94)]⟩ (cWr (Bg (AB d 9).2 6 au6 au10))<|AF<|AR<|BN<|Au<|xl (.av (.agg (Y4 d))) ⟨Dk (y:=.av (.agg [.i 7,.s (⟨#[]⟩),.i 0,.i 0,.i 0,.i (W64 (100+(W64 (50*(AB (AB d 9).2 6).1)))),.i 400,opL (OpL.mk 0 (fun _ _=>default))])) (.av (.agg (rr5 (rr2 (.cons (.nil _ _) .nil))))) (by unfold BP;rw [h1,h2,h3,h4,h5,h6];rfl),.cells (AE.c (AB (AB d 9).2 6).2) 94,by kernel_rfl,EI (by unfold BP;rw [h1,h2,h3,h4,h5,h6];kernel_rfl)⟩
 have g6:=oF h6
 refine AA<|rn ⟨(JD d [(42,tB (decide (((AB d 9).1:Int)=6)))]),(LM d)⟩<|AL _ rfl (fun h7 => ?_) (fun h7 => ?_)
 ·have g7:=oT h7
  exact AA<|rb 45 (Z2M d) (Gb d) ⟨[(2,tP 2 0)],[(2,.cells (Yj d) 144),(1000,Z2N d)]⟩ (cWr (Bg (AB d 9).2 2 au6 au10))<|AF<|AR<|BN<|Au<|xl (.av (.agg (Yj d))) ⟨Dk (y:=.av (.agg [.i 8,.s (⟨#[]⟩),.i 0,.i 0,.i 0,.i 0,.i 0,opL (OpL.mk 1 (BF 8 1 (V3 d)))])) (.av (.agg (rr5 (rr2 (.cons (.list true false _ _ _ _ (fun _ _ _ _=>.refl _) (fun h=>by cases h)) .nil))))) (by unfold BP;rw [h1,h2,h3,h4,h5,h6,h7];rfl),.cells (AE.c (AB (AB d 9).2 2).2) 94,by kernel_rfl,EI (by unfold BP;rw [h1,h2,h3,h4,h5,h6,h7];kernel_rfl)⟩
 have g7:=oF h7
 refine AA<|rn ⟨[(0,tP 1000 0),(2,tP 2 0),(50,tB (decide (((AB d 9).1:Int)=7)))],(LM d)⟩<|AL _ rfl (fun h8 => ?_) (fun h8 => ?_)
 ·have g8:=oT h8
  exact AA<|oc [(53,(Z2M d)),(56,(Z2R d))] [As (Z2M d).2.1,CL (Gb d),As (Z2R d).2.1,CL (.cells (AE.c (AB (AB d 9).2 2).2) 94)] (.cons (cWr (Bg (AB d 9).2 2 au6 au10)) (.cons (cWr (Bg (AB (AB d 9).2 2).2 4 au6 au10)) .nil)) (.cons rfl (.cons rfl (.cons rfl (.cons rfl .nil))))<|AF<|AR<|BN<|Au<|xl (.av (.agg [.i (W64 (9+(AB (AB d 9).2 2).1)),.s (⟨#[]⟩),.i 0,.i 0,.i 0,.i 0,.i 0,.list true 8 2 (BF 8 2 [.i 4,.s (⟨#[]⟩),.i (W64 (1+(AB (AB (AB d 9).2 2).2 4).1)),.i 0,.i 0,.i 0,.i 0,vN,.i 2,.s ({ data := #[71,78,68] }:ByteArray),.i 0,.i 0,.i 0,.i 0,.i 0,vN])])) ⟨Dk (y:=.av (.agg [.i (W64 (9+(AB (AB d 9).2 2).1)),.s (⟨#[]⟩),.i 0,.i 0,.i 0,.i 0,.i 0,opL (OpL.mk 2 (BF 8 2 [.i 4,.s (⟨#[]⟩),.i (W64 (1+(AB (AB (AB d 9).2 2).2 4).1)),.i 0,.i 0,.i 0,.i 0,vN,.i 2,.s ({ data := #[71,78,68] }:ByteArray),.i 0,.i 0,.i 0,.i 0,.i 0,vN]))])) (.av (.agg (rr5 (rr2 (.cons (.list true false _ _ _ _ (fun _ _ _ _=>.refl _) (fun h=>by cases h)) .nil))))) (by unfold BP;rw [h1,h2,h3,h4,h5,h6,h7,h8];rfl),.cells (AE.c (Z2S d)) 94,by kernel_rfl,EI (by unfold BP;rw [h1,h2,h3,h4,h5,h6,h7,h8];kernel_rfl)⟩
 exact AQ<|A0<|AF<|AA<|on<|AR<|xl Yu ⟨Dk (y:=.av (.agg [.i 1,.s (⟨#[]⟩),.i 0,.i 0,.i 0,.i 0,.i 0,opL (OpL.mk 0 (fun _ _=>default))])) (.av (.agg (rr5 (rr2 (.cons (.nil _ _) .nil))))) (by unfold BP;rw [h1,h2,h3,h4,h5,h6,h7,h8];rfl),.cells (AE.c (AB d 9).2) 94,by kernel_rfl,EI (by unfold BP;rw [h1,h2,h3,h4,h5,h6,h7,h8];kernel_rfl)⟩
theorem YA {d:AE} (h:Bz d):Bz (BP d).2:=by
 unfold BP
 exact EG (Bd (Bd h)) (EG (Bd h) (EG (Bd (Bd h)) (EG (Bd (Bd h)) (EG (Bd (Bd h)) (EG (Bd (Bd h)) (EG (Bd (Bd h)) (EG (Bd (Bd (Bd h))) (Bd h))))))))
abbrev ZV:List Cl:=[.i b.Layers,.any,.any,.any,lst 7 AU.c b.Parts,.any,lst 6 AO.c b.Tracks,lst 8 BW.c b.Vias,lst 8 A4.c b.Pours,lst 5 A5.c b.Keeps,lst 4 BC.c b.Slots,.any,.any,.any,.any]
def Z2T:Blk:=.cells (ZV b) 62
def Z2U:Blk:=.row 1 ([]:List Int).length (AV eIn ([]:List Int)) 3
def Z2V:Tv:=.av (.one (.own 2000 1 ([]:List Int).length))
def Z2W:Blk:=.row 1 (v3++[(b.Parts.getD v4.toNat default).Id]).length (AV eIn (v3++[(b.Parts.getD v4.toNat default).Id])) 3
abbrev EE:=b.Tracks.getD v5.toNat default
def Z2X (v3':List Int) (b:AC) (v5:Int):Blk:=.row 1 (v3'++[(EE b v5).Id]).length (AV eIn (v3'++[(EE b v5).Id])) 3
def Z2Y (v3'':List Int) (b:AC) (v6:Int):Blk:=.row 1 (v3''++[(b.Vias.getD v6.toNat default).Id]).length (AV eIn (v3''++[(b.Vias.getD v6.toNat default).Id])) 3
def Z2Z (v3''':List Int) (b:AC) (v7:Int):Blk:=.row 1 (v3'''++[(b.Pours.getD v7.toNat default).Id]).length (AV eIn (v3'''++[(b.Pours.getD v7.toNat default).Id])) 3
def Z30 (v3'''':List Int) (b:AC) (v8:Int):Blk:=.row 1 (v3''''++[(b.Keeps.getD v8.toNat default).Id]).length (AV eIn (v3''''++[(b.Keeps.getD v8.toNat default).Id])) 3
def Z31 (v3''''':List Int) (b:AC) (v9:Int):Blk:=.row 1 (v3'''''++[(b.Slots.getD v9.toNat default).Id]).length (AV eIn (v3'''''++[(b.Slots.getD v9.toNat default).Id])) 3
def GF (b:AC) (v3:List Int) (v4:Int) (v3':List Int) (v5:Int) (v3'':List Int) (v6:Int) (v3''':List Int) (v7:Int) (v3'''':List Int) (v8:Int) (K0:List Int->Int->(List Int)) (K1:List Int->Int->(List Int)) (K2:List Int->Int->(List Int)) (K3:List Int->Int->(List Int)) (K4:List Int->Int->(List Int)):Nat->List Int->Int->(List Int)
 | 0,_,_=>default
 | n5+1,v3''''',v9=>bif decide ((v9:Int)<(b.Slots.length:Int)) then ((GF b v3 v4 v3' v5 v3'' v6 v3''' v7 v3'''' v8 K0 K1 K2 K3 K4 n5) (v3'''''++[(b.Slots.getD v9.toNat default).Id]) (v9+1)) else v3'''''
def E9 (b:AC) (v3:List Int) (v4:Int) (v3':List Int) (v5:Int) (v3'':List Int) (v6:Int) (v3''':List Int) (v7:Int) (K0:List Int->Int->(List Int)) (K1:List Int->Int->(List Int)) (K2:List Int->Int->(List Int)) (K3:List Int->Int->(List Int)):Nat->List Int->Int->(List Int)
 | 0,_,_=>default
 | n4+1,v3'''',v8=>bif decide ((v8:Int)<(b.Keeps.length:Int)) then ((E9 b v3 v4 v3' v5 v3'' v6 v3''' v7 K0 K1 K2 K3 n4) (v3''''++[(b.Keeps.getD v8.toNat default).Id]) (v8+1)) else (GF b v3 v4 v3' v5 v3'' v6 v3''' v7 v3'''' v8 K0 K1 K2 K3 (E9 b v3 v4 v3' v5 v3'' v6 v3''' v7 K0 K1 K2 K3 n4) (((b.Slots.length:Int)-0).toNat+1) v3'''' 0)
def EK (b:AC) (v3:List Int) (v4:Int) (v3':List Int) (v5:Int) (v3'':List Int) (v6:Int) (K0:List Int->Int->(List Int)) (K1:List Int->Int->(List Int)) (K2:List Int->Int->(List Int)):Nat->List Int->Int->(List Int)
 | 0,_,_=>default
 | n3+1,v3''',v7=>bif decide ((v7:Int)<(b.Pours.length:Int)) then ((EK b v3 v4 v3' v5 v3'' v6 K0 K1 K2 n3) (v3'''++[(b.Pours.getD v7.toNat default).Id]) (v7+1)) else (E9 b v3 v4 v3' v5 v3'' v6 v3''' v7 K0 K1 K2 (EK b v3 v4 v3' v5 v3'' v6 K0 K1 K2 n3) (((b.Keeps.length:Int)-0).toNat+1) v3''' 0)
def DH (b:AC) (v3:List Int) (v4:Int) (v3':List Int) (v5:Int) (K0:List Int->Int->(List Int)) (K1:List Int->Int->(List Int)):Nat->List Int->Int->(List Int)
 | 0,_,_=>default
 | n2+1,v3'',v6=>bif decide ((v6:Int)<(b.Vias.length:Int)) then ((DH b v3 v4 v3' v5 K0 K1 n2) (v3''++[(b.Vias.getD v6.toNat default).Id]) (v6+1)) else (EK b v3 v4 v3' v5 v3'' v6 K0 K1 (DH b v3 v4 v3' v5 K0 K1 n2) (((b.Pours.length:Int)-0).toNat+1) v3'' 0)
def CB (b:AC) (v3:List Int) (v4:Int) (K0:List Int->Int->(List Int)):Nat->List Int->Int->(List Int)
 | 0,_,_=>default
 | n1+1,v3',v5=>bif decide ((v5:Int)<(b.Tracks.length:Int)) then ((CB b v3 v4 K0 n1) (v3'++[(b.Tracks.getD v5.toNat default).Id]) (v5+1)) else (DH b v3 v4 v3' v5 K0 (CB b v3 v4 K0 n1) (((b.Vias.length:Int)-0).toNat+1) v3' 0)
def BL (b:AC):Nat->List Int->Int->(List Int)
 | 0,_,_=>default
 | n0+1,v3,v4=>bif decide ((v4:Int)<(b.Parts.length:Int)) then ((BL b n0) (v3++[(b.Parts.getD v4.toNat default).Id]) (v4+1)) else (CB b v3 v4 (BL b n0) (((b.Tracks.length:Int)-0).toNat+1) v3 0)
def FJ (b:AC):(List Int):=BL b (((b.Parts.length:Int)-0).toNat+1) ([]:List Int) 0
def Vq:CT:=(84,[.agg (ZV b)],.val [] (.av (.one (lst 1 eIn (FJ b)))))
theorem lI (b:AC) (h0:(b.Parts.length:Int)<=1000000) (h1:(b.Tracks.length:Int)<=1000000) (h2:(b.Vias.length:Int)<=1000000) (h3:(b.Pours.length:Int)<=1000000) (h4:(b.Keeps.length:Int)<=1000000) (h5:(b.Slots.length:Int)<=1000000):PuP 84 (Vq b).2.1 (tO (lst 1 eIn (FJ b))):=by
 refine pwf Try.func84 fun W0 M0 => ?_
 refine AA<|on<|AA<|on<|AA<|AA<|rn ⟨[(1,tP 1 0),(3,.av (.one vN)),(4,tI 0)],[(1,Z2T b)]⟩<|AM<|Al (Cv.trans (vg 2000 1 (fun _ _=>default) 3 [(3,[0])] [] hk0) (Cv.trans (A6 2000 (CV 1 (fun _ _=>default) eIn)) (ck (⟨[(1,tP 1 0),(3,Z2V),(4,tI 0)],[(1,Z2T b),(2000,Z2U)]⟩))))<|BK (ι:=Nat×List Int×Int) (fun x=>⟨[(1,tP 1 0),(3,tO (.own 2000 1 x.2.1.length)),(4,tI x.2.2)],[(1,Z2T b),(2000,.row 1 x.2.1.length (AV eIn x.2.1) 3)]⟩) (fun x=>((b.Parts.length:Int)-x.2.2).toNat<x.1/\(0<=x.2.2/\(x.2.2<=(b.Parts.length:Int)\/x.2.2=0)/\(x.2.1.length:Int)<=0+1*(x.2.2-0))/\BL b x.1 x.2.1 x.2.2=FJ b) (fun x=>x.1) ?_ (((b.Parts.length:Int)-0).toNat+1,([]:List Int),0) ⟨Nat.lt_succ_self _,⟨ax0,ax0,ax0⟩,(by simp only [FJ,cond_true,cond_false])⟩
 rintro ⟨n0,v3,v4⟩ ⟨hm0,hinv0,hF0⟩
 try dsimp only at hm0 hinv0 hF0
 cases n0 with | zero=>exact nz hm0 | succ n0 => ?_
 refine AA<|AA<|rn ⟨[(1,tP 1 0),(3,tO (.own 2000 1 v3.length)),(4,tI v4),(14,tB (decide ((v4:Int)<(b.Parts.length:Int))))],[(1,Z2T b),(2000,.row 1 v3.length (AV eIn v3) 3)]⟩<|AL _ rfl (fun h1 => ?_) (fun h1 => ?_)
 ·have g1:=oT h1
  refine AQ<|AF<|AA<|AM<|oc [] [0<=(v4:Int)/\(v4:Int)<((b.Parts.length:Nat):Int),v3.length=v3.length,v3.length+1<=maxLen,(v3.length+1)*8<=140737488355328] .nil (.cons au1 (.cons rfl (.cons au3 (.cons au3 .nil))))<|A0<|AF<|Al (A6 25 (Ar (Af 1 eIn v3) (A1 1 eIn ([(b.Parts.getD v4.toNat default).Id]:List Int))))<|rg ⟨[(1,tP 1 0),(3,tO (.own 25 1 (v3++[(b.Parts.getD v4.toNat default).Id]).length)),(4,tI (W64 (v4+1)))],[(1,Z2T b),(25,Z2W v3 b v4)]⟩ ?_
  (try rw [(show W64 (v4+1)=v4+1 from Ap oM au8)])
  refine AF ?_
  refine ⟨(n0,v3++[(b.Parts.getD v4.toNat default).Id],v4+1),⟨?_,?_,(by rw [<- hF0];simp only [BL,h1,cond_true,cond_false])⟩,Nat.lt_succ_self _,Cv.trans (vr 25 2000 hk0) (BG kr)⟩
  ·show ((b.Parts.length:Int)-(v4+1)).toNat<n0;omega
  exact ⟨ax0,ax0,ax0⟩
 have g1:=oF h1
 refine BH<|A7<|A7<|BI<|AF<|AA<|AA<|rn ⟨[(1,tP 1 0),(3,tO (.own 2000 1 v3.length)),(5,tI 0)],[(1,Z2T b),(2000,.row 1 v3.length (AV eIn v3) 3)]⟩<|AM<|BK (ι:=Nat×List Int×Int) (fun x=>⟨[(1,tP 1 0),(3,tO (.own 2000 1 x.2.1.length)),(5,tI x.2.2)],[(1,Z2T b),(2000,.row 1 x.2.1.length (AV eIn x.2.1) 3)]⟩) (fun x=>((b.Tracks.length:Int)-x.2.2).toNat<x.1/\(0<=x.2.2/\(x.2.2<=(b.Tracks.length:Int)\/x.2.2=0)/\(x.2.1.length:Int)<=(v3.length:Int)+1*(x.2.2-0))/\CB b v3 v4 (BL b n0) x.1 x.2.1 x.2.2=FJ b) (fun x=>x.1) ?_ (((b.Tracks.length:Int)-0).toNat+1,v3,0) ⟨Nat.lt_succ_self _,⟨ax0,ax0,ax0⟩,(by rw [<- hF0];simp only [BL,h1,cond_true,cond_false])⟩
 rintro ⟨n1,v3',v5⟩ ⟨hm1,hinv1,hF1⟩
 try dsimp only at hm1 hinv1 hF1
 cases n1 with | zero=>exact nz hm1 | succ n1 => ?_
 refine AA<|AA<|rn ⟨[(1,tP 1 0),(3,tO (.own 2000 1 v3'.length)),(5,tI v5),(30,tB (decide ((v5:Int)<(b.Tracks.length:Int))))],[(1,Z2T b),(2000,.row 1 v3'.length (AV eIn v3') 3)]⟩<|AL _ rfl (fun h2 => ?_) (fun h2 => ?_)
 ·have g2:=oT h2
  refine AQ<|AF<|AA<|AM<|oc [] [0<=(v5:Int)/\(v5:Int)<((b.Tracks.length:Nat):Int),v3'.length=v3'.length,v3'.length+1<=maxLen,(v3'.length+1)*8<=140737488355328] .nil (.cons au1 (.cons rfl (.cons au3 (.cons au3 .nil))))<|A0<|AF<|Al (A6 41 (Ar (Af 1 eIn v3') (A1 1 eIn ([(b.Tracks.getD v5.toNat default).Id]:List Int))))<|rg ⟨[(1,tP 1 0),(3,tO (.own 41 1 (v3'++[(EE b v5).Id]).length)),(5,tI (W64 (v5+1)))],[(1,Z2T b),(41,Z2X v3' b v5)]⟩ ?_
  (try rw [(show W64 (v5+1)=v5+1 from Ap oM au8)])
  refine AF ?_
  refine ⟨(n1,v3'++[(b.Tracks.getD v5.toNat default).Id],v5+1),⟨?_,?_,(by rw [<- hF1];simp only [CB,h2,cond_true,cond_false])⟩,Nat.lt_succ_self _,Cv.trans (vr 41 2000 hk0) (BG kr)⟩
  ·show ((b.Tracks.length:Int)-(v5+1)).toNat<n1;omega
  exact ⟨ax0,ax0,ax0⟩
 have g2:=oF h2
 refine BH<|A7<|A7<|BI<|AF<|AA<|AA<|rn ⟨[(1,tP 1 0),(3,tO (.own 2000 1 v3'.length)),(6,tI 0)],[(1,Z2T b),(2000,.row 1 v3'.length (AV eIn v3') 3)]⟩<|AM<|BK (ι:=Nat×List Int×Int) (fun x=>⟨[(1,tP 1 0),(3,tO (.own 2000 1 x.2.1.length)),(6,tI x.2.2)],[(1,Z2T b),(2000,.row 1 x.2.1.length (AV eIn x.2.1) 3)]⟩) (fun x=>((b.Vias.length:Int)-x.2.2).toNat<x.1/\(0<=x.2.2/\(x.2.2<=(b.Vias.length:Int)\/x.2.2=0)/\(x.2.1.length:Int)<=(v3'.length:Int)+1*(x.2.2-0))/\DH b v3 v4 v3' v5 (BL b n0) (CB b v3 v4 (BL b n0) n1) x.1 x.2.1 x.2.2=FJ b) (fun x=>x.1) ?_ (((b.Vias.length:Int)-0).toNat+1,v3',0) ⟨Nat.lt_succ_self _,⟨ax0,ax0,ax0⟩,(by rw [<- hF1];simp only [CB,h2,cond_true,cond_false])⟩
 rintro ⟨n2,v3'',v6⟩ ⟨hm2,hinv2,hF2⟩
 try dsimp only at hm2 hinv2 hF2
 cases n2 with | zero=>exact nz hm2 | succ n2 => ?_
 refine AA<|AA<|rn ⟨[(1,tP 1 0),(3,tO (.own 2000 1 v3''.length)),(6,tI v6),(46,tB (decide ((v6:Int)<(b.Vias.length:Int))))],[(1,Z2T b),(2000,.row 1 v3''.length (AV eIn v3'') 3)]⟩<|AL _ rfl (fun h3 => ?_) (fun h3 => ?_)
 ·have g3:=oT h3
  refine AQ<|AF<|AA<|AM<|oc [] [0<=(v6:Int)/\(v6:Int)<((b.Vias.length:Nat):Int),v3''.length=v3''.length,v3''.length+1<=maxLen,(v3''.length+1)*8<=140737488355328] .nil (.cons au1 (.cons rfl (.cons au3 (.cons au3 .nil))))<|A0<|AF<|Al (A6 57 (Ar (Af 1 eIn v3'') (A1 1 eIn ([(b.Vias.getD v6.toNat default).Id]:List Int))))<|rg ⟨[(1,tP 1 0),(3,tO (.own 57 1 (v3''++[(b.Vias.getD v6.toNat default).Id]).length)),(6,tI (W64 (v6+1)))],[(1,Z2T b),(57,Z2Y v3'' b v6)]⟩ ?_
  (try rw [(show W64 (v6+1)=v6+1 from Ap oM au8)])
  refine AF ?_
  refine ⟨(n2,v3''++[(b.Vias.getD v6.toNat default).Id],v6+1),⟨?_,?_,(by rw [<- hF2];simp only [DH,h3,cond_true,cond_false])⟩,Nat.lt_succ_self _,Cv.trans (vr 57 2000 hk0) (BG kr)⟩
  ·show ((b.Vias.length:Int)-(v6+1)).toNat<n2;omega
  exact ⟨ax0,ax0,ax0⟩
 have g3:=oF h3
 refine BH<|A7<|A7<|BI<|AF<|AA<|AA<|rn ⟨[(1,tP 1 0),(3,tO (.own 2000 1 v3''.length)),(7,tI 0)],[(1,Z2T b),(2000,.row 1 v3''.length (AV eIn v3'') 3)]⟩<|AM<|BK (ι:=Nat×List Int×Int) (fun x=>⟨[(1,tP 1 0),(3,tO (.own 2000 1 x.2.1.length)),(7,tI x.2.2)],[(1,Z2T b),(2000,.row 1 x.2.1.length (AV eIn x.2.1) 3)]⟩) (fun x=>((b.Pours.length:Int)-x.2.2).toNat<x.1/\(0<=x.2.2/\(x.2.2<=(b.Pours.length:Int)\/x.2.2=0)/\(x.2.1.length:Int)<=(v3''.length:Int)+1*(x.2.2-0))/\EK b v3 v4 v3' v5 v3'' v6 (BL b n0) (CB b v3 v4 (BL b n0) n1) (DH b v3 v4 v3' v5 (BL b n0) (CB b v3 v4 (BL b n0) n1) n2) x.1 x.2.1 x.2.2=FJ b) (fun x=>x.1) ?_ (((b.Pours.length:Int)-0).toNat+1,v3'',0) ⟨Nat.lt_succ_self _,⟨ax0,ax0,ax0⟩,(by rw [<- hF2];simp only [DH,h3,cond_true,cond_false])⟩
 rintro ⟨n3,v3''',v7⟩ ⟨hm3,hinv3,hF3⟩
 try dsimp only at hm3 hinv3 hF3
 cases n3 with | zero=>exact nz hm3 | succ n3 => ?_
 refine AA<|AA<|rn ⟨[(1,tP 1 0),(3,tO (.own 2000 1 v3'''.length)),(7,tI v7),(62,tB (decide ((v7:Int)<(b.Pours.length:Int))))],[(1,Z2T b),(2000,.row 1 v3'''.length (AV eIn v3''') 3)]⟩<|AL _ rfl (fun h4 => ?_) (fun h4 => ?_)
 ·have g4:=oT h4
  refine AQ<|AF<|AA<|AM<|oc [] [0<=(v7:Int)/\(v7:Int)<((b.Pours.length:Nat):Int),v3'''.length=v3'''.length,v3'''.length+1<=maxLen,(v3'''.length+1)*8<=140737488355328] .nil (.cons au1 (.cons rfl (.cons au3 (.cons au3 .nil))))<|A0<|AF<|Al (A6 73 (Ar (Af 1 eIn v3''') (A1 1 eIn ([(b.Pours.getD v7.toNat default).Id]:List Int))))<|rg ⟨[(1,tP 1 0),(3,tO (.own 73 1 (v3'''++[(b.Pours.getD v7.toNat default).Id]).length)),(7,tI (W64 (v7+1)))],[(1,Z2T b),(73,Z2Z v3''' b v7)]⟩ ?_
  (try rw [(show W64 (v7+1)=v7+1 from Ap oM au8)])
  refine AF ?_
  refine ⟨(n3,v3'''++[(b.Pours.getD v7.toNat default).Id],v7+1),⟨?_,?_,(by rw [<- hF3];simp only [EK,h4,cond_true,cond_false])⟩,Nat.lt_succ_self _,Cv.trans (vr 73 2000 hk0) (BG kr)⟩
  ·show ((b.Pours.length:Int)-(v7+1)).toNat<n3;omega
  exact ⟨ax0,ax0,ax0⟩
 have g4:=oF h4
 refine BH<|A7<|A7<|BI<|AF<|AA<|AA<|rn ⟨[(1,tP 1 0),(3,tO (.own 2000 1 v3'''.length)),(8,tI 0)],[(1,Z2T b),(2000,.row 1 v3'''.length (AV eIn v3''') 3)]⟩<|AM<|BK (ι:=Nat×List Int×Int) (fun x=>⟨[(1,tP 1 0),(3,tO (.own 2000 1 x.2.1.length)),(8,tI x.2.2)],[(1,Z2T b),(2000,.row 1 x.2.1.length (AV eIn x.2.1) 3)]⟩) (fun x=>((b.Keeps.length:Int)-x.2.2).toNat<x.1/\(0<=x.2.2/\(x.2.2<=(b.Keeps.length:Int)\/x.2.2=0)/\(x.2.1.length:Int)<=(v3'''.length:Int)+1*(x.2.2-0))/\E9 b v3 v4 v3' v5 v3'' v6 v3''' v7 (BL b n0) (CB b v3 v4 (BL b n0) n1) (DH b v3 v4 v3' v5 (BL b n0) (CB b v3 v4 (BL b n0) n1) n2) (EK b v3 v4 v3' v5 v3'' v6 (BL b n0) (CB b v3 v4 (BL b n0) n1) (DH b v3 v4 v3' v5 (BL b n0) (CB b v3 v4 (BL b n0) n1) n2) n3) x.1 x.2.1 x.2.2=FJ b) (fun x=>x.1) ?_ (((b.Keeps.length:Int)-0).toNat+1,v3''',0) ⟨Nat.lt_succ_self _,⟨ax0,ax0,ax0⟩,(by rw [<- hF3];simp only [EK,h4,cond_true,cond_false])⟩
 rintro ⟨n4,v3'''',v8⟩ ⟨hm4,hinv4,hF4⟩
 try dsimp only at hm4 hinv4 hF4
 cases n4 with | zero=>exact nz hm4 | succ n4 => ?_
 refine AA<|AA<|rn ⟨[(1,tP 1 0),(3,tO (.own 2000 1 v3''''.length)),(8,tI v8),(78,tB (decide ((v8:Int)<(b.Keeps.length:Int))))],[(1,Z2T b),(2000,.row 1 v3''''.length (AV eIn v3'''') 3)]⟩<|AL _ rfl (fun h5 => ?_) (fun h5 => ?_)
 ·have g5:=oT h5
  refine AQ<|AF<|AA<|AM<|oc [] [0<=(v8:Int)/\(v8:Int)<((b.Keeps.length:Nat):Int),v3''''.length=v3''''.length,v3''''.length+1<=maxLen,(v3''''.length+1)*8<=140737488355328] .nil (.cons au1 (.cons rfl (.cons au3 (.cons au3 .nil))))<|A0<|AF<|Al (A6 89 (Ar (Af 1 eIn v3'''') (A1 1 eIn ([(b.Keeps.getD v8.toNat default).Id]:List Int))))<|rg ⟨[(1,tP 1 0),(3,tO (.own 89 1 (v3''''++[(b.Keeps.getD v8.toNat default).Id]).length)),(8,tI (W64 (v8+1)))],[(1,Z2T b),(89,Z30 v3'''' b v8)]⟩ ?_
  (try rw [(show W64 (v8+1)=v8+1 from Ap oM au8)])
  refine AF ?_
  refine ⟨(n4,v3''''++[(b.Keeps.getD v8.toNat default).Id],v8+1),⟨?_,?_,(by rw [<- hF4];simp only [E9,h5,cond_true,cond_false])⟩,Nat.lt_succ_self _,Cv.trans (vr 89 2000 hk0) (BG kr)⟩
  ·show ((b.Keeps.length:Int)-(v8+1)).toNat<n4;omega
  exact ⟨ax0,ax0,ax0⟩
 have g5:=oF h5
 refine BH<|A7<|A7<|BI<|AF<|AA<|AA<|rn ⟨[(1,tP 1 0),(3,tO (.own 2000 1 v3''''.length)),(9,tI 0)],[(1,Z2T b),(2000,.row 1 v3''''.length (AV eIn v3'''') 3)]⟩<|AM ?_
 refine BK (ι:=Nat×List Int×Int) (fun x=>⟨[(1,tP 1 0),(3,tO (.own 2000 1 x.2.1.length)),(9,tI x.2.2)],[(1,Z2T b),(2000,.row 1 x.2.1.length (AV eIn x.2.1) 3)]⟩) (fun x=>((b.Slots.length:Int)-x.2.2).toNat<x.1/\(0<=x.2.2/\(x.2.2<=(b.Slots.length:Int)\/x.2.2=0)/\(x.2.1.length:Int)<=(v3''''.length:Int)+1*(x.2.2-0))/\GF b v3 v4 v3' v5 v3'' v6 v3''' v7 v3'''' v8 (BL b n0) (CB b v3 v4 (BL b n0) n1) (DH b v3 v4 v3' v5 (BL b n0) (CB b v3 v4 (BL b n0) n1) n2) (EK b v3 v4 v3' v5 v3'' v6 (BL b n0) (CB b v3 v4 (BL b n0) n1) (DH b v3 v4 v3' v5 (BL b n0) (CB b v3 v4 (BL b n0) n1) n2) n3) (E9 b v3 v4 v3' v5 v3'' v6 v3''' v7 (BL b n0) (CB b v3 v4 (BL b n0) n1) (DH b v3 v4 v3' v5 (BL b n0) (CB b v3 v4 (BL b n0) n1) n2) (EK b v3 v4 v3' v5 v3'' v6 (BL b n0) (CB b v3 v4 (BL b n0) n1) (DH b v3 v4 v3' v5 (BL b n0) (CB b v3 v4 (BL b n0) n1) n2) n3) n4) x.1 x.2.1 x.2.2=FJ b) (fun x=>x.1) ?_ (((b.Slots.length:Int)-0).toNat+1,v3'''',0) ⟨Nat.lt_succ_self _,⟨ax0,ax0,ax0⟩,(by rw [<- hF4];simp only [E9,h5,cond_true,cond_false])⟩
 rintro ⟨n5,v3''''',v9⟩ ⟨hm5,hinv5,hF5⟩
 try dsimp only at hm5 hinv5 hF5
 cases n5 with | zero=>exact nz hm5 | succ n5 => ?_
 refine AA<|AA<|rn ⟨[(1,tP 1 0),(3,tO (.own 2000 1 v3'''''.length)),(9,tI v9),(94,tB (decide ((v9:Int)<(b.Slots.length:Int))))],[(1,Z2T b),(2000,.row 1 v3'''''.length (AV eIn v3''''') 3)]⟩<|AL _ rfl (fun h6 => ?_) (fun h6 => ?_)
 ·have g6:=oT h6
  refine AQ<|AF<|AA<|AM<|oc [] [0<=(v9:Int)/\(v9:Int)<((b.Slots.length:Nat):Int),v3'''''.length=v3'''''.length,v3'''''.length+1<=maxLen,(v3'''''.length+1)*8<=140737488355328] .nil (.cons au1 (.cons rfl (.cons au3 (.cons au3 .nil))))<|A0<|AF<|Al (A6 105 (Ar (Af 1 eIn v3''''') (A1 1 eIn ([(b.Slots.getD v9.toNat default).Id]:List Int))))<|rg ⟨[(1,tP 1 0),(3,tO (.own 105 1 (v3'''''++[(b.Slots.getD v9.toNat default).Id]).length)),(9,tI (W64 (v9+1)))],[(1,Z2T b),(105,Z31 v3''''' b v9)]⟩ ?_
  (try rw [(show W64 (v9+1)=v9+1 from Ap oM au8)])
  refine AF ?_
  refine ⟨(n5,v3'''''++[(b.Slots.getD v9.toNat default).Id],v9+1),⟨?_,?_,(by rw [<- hF5];simp only [GF,h6,cond_true,cond_false])⟩,Nat.lt_succ_self _,Cv.trans (vr 105 2000 hk0) (BG kr)⟩
  ·show ((b.Slots.length:Int)-(v9+1)).toNat<n5;omega
  exact ⟨ax0,ax0,ax0⟩
 exact BH<|A7<|A7<|BI<|AF<|AA<|on<|AR<|zy (vf 2000 hk0) (by rw [<- hF5];simp only [GF,h6,cond_true,cond_false] <;> kernel_rfl)
theorem gO (b:AC) (h0:(b.Parts.length:Int)<=1000000) (h1:(b.Tracks.length:Int)<=1000000) (h2:(b.Vias.length:Int)<=1000000) (h3:(b.Pours.length:Int)<=1000000) (h4:(b.Keeps.length:Int)<=1000000) (h5:(b.Slots.length:Int)<=1000000):OKc (Vq b):=cPu<|lI b h0 h1 h2 h3 h4 h5
theorem cE (b:AC) (v3:List Int) (v4:Int) (v3':List Int) (v5:Int) (v3'':List Int) (v6:Int) (v3''':List Int) (v7:Int) (v3'''':List Int) (v8:Int) (K0:List Int->Int->List Int) (K1:List Int->Int->List Int) (K2:List Int->Int->List Int) (K3:List Int->Int->List Int) (K4:List Int->Int->List Int):∀ (n:Nat) (v:List Int) (i:Int),0<=i->i<=b.Slots.length->((b.Slots.length:Int)-i).toNat<n->((GF b v3 v4 v3' v5 v3'' v6 v3''' v7 v3'''' v8 K0 K1 K2 K3 K4 n v i).length:Int)=v.length+((b.Slots.length:Int)-i)
 | 0,v,i,h0,h1,h2=>absurd h2 (Nat.not_lt_zero _)
 | n+1,v,i,h0,h1,h2=>by
  unfold GF
  by_cases h:i<(b.Slots.length:Int)
  ·simp only [h,decide_true,cond_true]
   have:=cE b v3 v4 v3' v5 v3'' v6 v3''' v7 v3'''' v8 K0 K1 K2 K3 K4 n (v++[(b.Slots.getD i.toNat default).Id]) (i+1) (by omega) (by omega) (by omega)
   rw [this]
   simp only [List.length_append,List.length_cons,List.length_nil]
   omega
  simp only [h,decide_false,cond_false]
  omega
theorem cF (b:AC) (v3:List Int) (v4:Int) (v3':List Int) (v5:Int) (v3'':List Int) (v6:Int) (v3''':List Int) (v7:Int) (K0:List Int->Int->List Int) (K1:List Int->Int->List Int) (K2:List Int->Int->List Int) (K3:List Int->Int->List Int):∀ (n:Nat) (v:List Int) (i:Int),0<=i->i<=b.Keeps.length->((b.Keeps.length:Int)-i).toNat<n->((E9 b v3 v4 v3' v5 v3'' v6 v3''' v7 K0 K1 K2 K3 n v i).length:Int)=v.length+((b.Keeps.length:Int)-i)+(b.Slots.length:Int)
 | 0,v,i,h0,h1,h2=>absurd h2 (Nat.not_lt_zero _)
 | n+1,v,i,h0,h1,h2=>by
  unfold E9
  by_cases h:i<(b.Keeps.length:Int)
  ·simp only [h,decide_true,cond_true]
   have:=cF b v3 v4 v3' v5 v3'' v6 v3''' v7 K0 K1 K2 K3 n (v++[(b.Keeps.getD i.toNat default).Id]) (i+1) (by omega) (by omega) (by omega)
   rw [this]
   simp only [List.length_append,List.length_cons,List.length_nil]
   omega
  simp only [h,decide_false,cond_false]
  rw [cE _ _ _ _ _ _ _ _ _ _ _ _ _ _ _ _ _ v 0 (by omega) (by omega) (by omega)]
  omega
theorem cG (b:AC) (v3:List Int) (v4:Int) (v3':List Int) (v5:Int) (v3'':List Int) (v6:Int) (K0:List Int->Int->List Int) (K1:List Int->Int->List Int) (K2:List Int->Int->List Int):∀ (n:Nat) (v:List Int) (i:Int),0<=i->i<=b.Pours.length->((b.Pours.length:Int)-i).toNat<n->((EK b v3 v4 v3' v5 v3'' v6 K0 K1 K2 n v i).length:Int)=v.length+((b.Pours.length:Int)-i)+(b.Keeps.length:Int)+(b.Slots.length:Int)
 | 0,v,i,h0,h1,h2=>absurd h2 (Nat.not_lt_zero _)
 | n+1,v,i,h0,h1,h2=>by
  unfold EK
  by_cases h:i<(b.Pours.length:Int)
  ·simp only [h,decide_true,cond_true]
   have:=cG b v3 v4 v3' v5 v3'' v6 K0 K1 K2 n (v++[(b.Pours.getD i.toNat default).Id]) (i+1) (by omega) (by omega) (by omega)
   rw [this]
   simp only [List.length_append,List.length_cons,List.length_nil]
   omega
  simp only [h,decide_false,cond_false]
  rw [cF _ _ _ _ _ _ _ _ _ _ _ _ _ _ v 0 (by omega) (by omega) (by omega)]
  omega
theorem cH (b:AC) (v3:List Int) (v4:Int) (v3':List Int) (v5:Int) (K0:List Int->Int->List Int) (K1:List Int->Int->List Int):∀ (n:Nat) (v:List Int) (i:Int),0<=i->i<=b.Vias.length->((b.Vias.length:Int)-i).toNat<n->((DH b v3 v4 v3' v5 K0 K1 n v i).length:Int)=v.length+((b.Vias.length:Int)-i)+(b.Pours.length:Int)+(b.Keeps.length:Int)+(b.Slots.length:Int)
 | 0,v,i,h0,h1,h2=>absurd h2 (Nat.not_lt_zero _)
 | n+1,v,i,h0,h1,h2=>by
  unfold DH
  by_cases h:i<(b.Vias.length:Int)
  ·simp only [h,decide_true,cond_true]
   have:=cH b v3 v4 v3' v5 K0 K1 n (v++[(b.Vias.getD i.toNat default).Id]) (i+1) (by omega) (by omega) (by omega)
   rw [this]
   simp only [List.length_append,List.length_cons,List.length_nil]
   omega
  simp only [h,decide_false,cond_false]
  rw [cG _ _ _ _ _ _ _ _ _ _ _ v 0 (by omega) (by omega) (by omega)]
  omega
theorem cI (b:AC) (v3:List Int) (v4:Int) (K0:List Int->Int->List Int):∀ (n:Nat) (v:List Int) (i:Int),0<=i->i<=b.Tracks.length->((b.Tracks.length:Int)-i).toNat<n->((CB b v3 v4 K0 n v i).length:Int)=v.length+((b.Tracks.length:Int)-i)+(b.Vias.length:Int)+(b.Pours.length:Int)+(b.Keeps.length:Int)+(b.Slots.length:Int)
 | 0,v,i,h0,h1,h2=>absurd h2 (Nat.not_lt_zero _)
 | n+1,v,i,h0,h1,h2=>by
  unfold CB
  by_cases h:i<(b.Tracks.length:Int)
  ·simp only [h,decide_true,cond_true]
   have:=cI b v3 v4 K0 n (v++[(b.Tracks.getD i.toNat default).Id]) (i+1) (by omega) (by omega) (by omega)
   rw [this]
   simp only [List.length_append,List.length_cons,List.length_nil]
   omega
  simp only [h,decide_false,cond_false]
  rw [cH _ _ _ _ _ _ _ _ v 0 (by omega) (by omega) (by omega)]
  omega
theorem cJ (b:AC)   : ∀ (n:Nat) (v:List Int) (i:Int),0<=i->i<=b.Parts.length->((b.Parts.length:Int)-i).toNat<n->((BL b n v i).length:Int)=v.length+((b.Parts.length:Int)-i)+(b.Tracks.length:Int)+(b.Vias.length:Int)+(b.Pours.length:Int)+(b.Keeps.length:Int)+(b.Slots.length:Int)
 | 0,v,i,h0,h1,h2=>absurd h2 (Nat.not_lt_zero _)
 | n+1,v,i,h0,h1,h2=>by
  unfold BL
  by_cases h:i<(b.Parts.length:Int)
  ·simp only [h,decide_true,cond_true]
   have:=cJ b n (v++[(b.Parts.getD i.toNat default).Id]) (i+1) (by omega) (by omega) (by omega)
   rw [this]
   simp only [List.length_append,List.length_cons,List.length_nil]
   omega
  simp only [h,decide_false,cond_false]
  rw [cI _ _ _ _ _ v 0 (by omega) (by omega) (by omega)]
  omega
theorem Ws (b:AC):((FJ b).length:Int)=(b.Parts.length:Int)+(b.Tracks.length:Int)+(b.Vias.length:Int)+(b.Pours.length:Int)+(b.Keeps.length:Int)+(b.Slots.length:Int):=by
 unfold FJ
 rw [cJ b _ _ 0 (by omega) (by omega) (by omega)]
 simp only [List.length_nil]
 omega
end
section
open Go.RowKit
theorem Tb {b:AC} (d:AE) (hp:1<=(b.Parts.length:Int)) (h0:(b.Parts.length:Int)<=1000000) (h1:(b.Tracks.length:Int)<=1000000) (h2:(b.Vias.length:Int)<=1000000) (h3:(b.Pours.length:Int)<=1000000) (h4:(b.Keeps.length:Int)<=1000000) (h5:(b.Slots.length:Int)<=1000000):0<=(AB d ((FJ b).length:Int)).1/\(AB d ((FJ b).length:Int)).1<((FJ b).length:Int):=by
 have hq:=Ws b
 exact Jy _ _ _ (by omega) (by omega) (by omega)
theorem mS {b:AC} (hp:1<=(b.Parts.length:Int)):((FJ b).length:Int)≠0:=by
 have hq:=Ws b
 omega
theorem gX {α:Type} {c:Bool} {a b:List α} {k n:Nat} (ha:a.length+k<=n) (hb:b.length+k<=n):(bif c then a else b).length+k<=n:=by cases c <;> assumption
theorem bU {α:Type} {c:Bool} {a b:List α} {k n m:Nat} (ha:(a.length+k)*m<=n) (hb:(b.length+k)*m<=n):((bif c then a else b).length+k)*m<=n:=by cases c <;> assumption
variable (b:AC) (d:AE)
def Z32:CT:=(34,([.one (.ptr 1000 0),.one (.i 10)]:List Av).map (CC 1000 1001),wrI 1001 (Hh d) (tI (AB d 10).1) (.cells (AE.c (AB d 10).2) 94))
abbrev Fs:=AB (AB d 10).2 8
def Z33:CT:=(34,([.one (.ptr 1000 0),.one (.i 8)]:List Av).map (CC 1000 1001),wrI 1001 (.cells (AE.c (AB d 10).2) 94) (tI (Fs d).1) (.cells (AE.c (Fs d).2) 94))
def Z34:Blk:=.cells (AE.c (Fs d).2) 94
def Z35:Blk:=.row 20 ([Az.mk ({ data := #[99,49] }:ByteArray) 1 1 AJ AJ (W64 (3+(AB d 10).1)),Az.mk ({ data := #[101,49] }:ByteArray) 1 3 AJ AJ (W64 (2+(Fs d).1))].length) (AV Az.c [Az.mk ({ data := #[99,49] }:ByteArray) 1 1 AJ AJ (W64 (3+(AB d 10).1)),Az.mk ({ data := #[101,49] }:ByteArray) 1 3 AJ AJ (W64 (2+(Fs d).1))]) 146
abbrev C6 (t_:List Cl):List Cl:=(lst 6 AO.c b.Tracks)::(lst 8 BW.c b.Vias)::(lst 8 A4.c b.Pours)::(lst 5 A5.c b.Keeps)::(lst 4 BC.c b.Slots)::t_
def Z36:Blk:=.cells (BT b (C6 b [vN,.own 18 20 ([Az.mk ({ data := #[99,49] }:ByteArray) 1 1 AJ AJ (W64 (3+(AB d 10).1)),Az.mk ({ data := #[101,49] }:ByteArray) 1 3 AJ AJ (W64 (2+(Fs d).1))].length),vN,vN])) 62
def Z37:CT:=(34,(Hp:List Av).map (CC 1000 1001),wrI 1001 (.cells (AE.c (Fs d).2) 94) (tI (AB (Fs d).2 2).1) (.cells (AE.c (AB (Fs d).2 2).2) 94))
abbrev Z38:AE:=(AB (AB (AB d 10).2 8).2 2).2
def Z39:CT:=(34,Ki.map (CC 1000 1001),wrI 1001 (.cells (AE.c (Z38 d)) 94) (tI (AB (Z38 d) 5).1) (.cells (AE.c (AB (Z38 d) 5).2) 94))
abbrev MH:=AB (AB (Z38 d) 5).2 4
def Z3a:CT:=(34,(KJ:List Av).map (CC 1000 1001),wrI 1001 (.cells (AE.c (AB (Z38 d) 5).2) 94) (tI (MH d).1) (.cells (AE.c (MH d).2) 94))
def Z3b:Blk:=.cells (AE.c (MH d).2) 94
def Z3c:Blk:=.row 20 ([Az.mk ({ data := #[99,49] }:ByteArray) 1 1 AJ AJ (W64 (3+(AB d 10).1)),Az.mk ({ data := #[101,49] }:ByteArray) 1 3 AJ AJ (W64 (2+(Fs d).1))]++[Az.mk ({ data := #[119,49] }:ByteArray) 1 2 AJ AJ (W64 (6+(AB (Z38 d) 5).1)),Az.mk ({ data := #[114,49] }:ByteArray) 1 4 AJ AJ (W64 (2+(MH d).1))]).length (AV Az.c ([Az.mk ({ data := #[99,49] }:ByteArray) 1 1 AJ AJ (W64 (3+(AB d 10).1)),Az.mk ({ data := #[101,49] }:ByteArray) 1 3 AJ AJ (W64 (2+(Fs d).1))]++[Az.mk ({ data := #[119,49] }:ByteArray) 1 2 AJ AJ (W64 (6+(AB (Z38 d) 5).1)),Az.mk ({ data := #[114,49] }:ByteArray) 1 4 AJ AJ (W64 (2+(MH d).1))])) 146
def Z3d:Blk:=.cells (BT b (C6 b [vN,.own 2000 20 ([Az.mk ({ data := #[99,49] }:ByteArray) 1 1 AJ AJ (W64 (3+(AB d 10).1)),Az.mk ({ data := #[101,49] }:ByteArray) 1 3 AJ AJ (W64 (2+(Fs d).1))]++[Az.mk ({ data := #[119,49] }:ByteArray) 1 2 AJ AJ (W64 (6+(AB (Z38 d) 5).1)),Az.mk ({ data := #[114,49] }:ByteArray) 1 4 AJ AJ (W64 (2+(MH d).1))]).length,vN,vN])) 62
def Z3e:Blk:=.cells (BT b (C6 b [vN,.own 2000 20 ([Az.mk ({ data := #[99,49] }:ByteArray) 1 1 AJ AJ (W64 (3+(AB d 10).1)),Az.mk ({ data := #[101,49] }:ByteArray) 1 3 AJ AJ (W64 (2+(Fs d).1))].length),vN,vN])) 62
abbrev Z3f:AE:=bif decide (((AB (AB (AB d 10).2 8).2 2).1:Int)=1) then (AB (AB (Z38 d) 5).2 4).2 else (Z38 d)
def Z3g:(List Az):=bif decide (((AB (AB (AB d 10).2 8).2 2).1:Int)=1) then ([Az.mk ({ data := #[99,49] }:ByteArray) 1 1 AJ AJ (W64 (3+(AB d 10).1)),Az.mk ({ data := #[101,49] }:ByteArray) 1 3 AJ AJ (W64 (2+(AB (AB d 10).2 8).1))]++[Az.mk ({ data := #[119,49] }:ByteArray) 1 2 AJ AJ (W64 (6+(AB (Z38 d) 5).1)),Az.mk ({ data := #[114,49] }:ByteArray) 1 4 AJ AJ (W64 (2+(AB (AB (Z38 d) 5).2 4).1))]) else [Az.mk ({ data := #[99,49] }:ByteArray) 1 1 AJ AJ (W64 (3+(AB d 10).1)),Az.mk ({ data := #[101,49] }:ByteArray) 1 3 AJ AJ (W64 (2+(AB (AB d 10).2 8).1))]
def Z3h:CT:=(34,(Hp:List Av).map (CC 1000 1001),wrI 1001 (.cells (AE.c (Z3f d)) 94) (tI (AB (Z3f d) 2).1) (.cells (AE.c (AB (Z3f d) 2).2) 94))
def Z3i:Blk:=.cells (BT b (C6 b [vN,.own 2000 20 (Z3g d).length,vN,vN])) 62
def Z3j:Blk:=.cells (AE.c (AB (Z3f d) 2).2) 94
def Z3k:Blk:=.row 20 (Z3g d).length (AV Az.c (Z3g d)) 146
abbrev JN:=AB (AB (Z3f d) 2).2 2
def Z3l:CT:=(34,(Hp:List Av).map (CC 1000 1001),wrI 1001 (.cells (AE.c (AB (Z3f d) 2).2) 94) (tI (JN d).1) (.cells (AE.c (JN d).2) 94))
def Z3m:CT:=(83,([.one (.ptr 1000 0)]:List Av).map (CC 1000 1001),wrI 1001 (.cells (AE.c (JN d).2) 94) (.av (.agg (Bl.c (BP (JN d).2).1))) (.cells (AE.c (BP (JN d).2).2) 94))
abbrev Z3n:AE:=(BP (AB (AB (Z3f d) 2).2 2).2).2
def Z3o:Bl:=(BP (AB (AB (Z3f d) 2).2 2).2).1
def Z3p:CT:=(83,([.one (.ptr 1000 0)]:List Av).map (CC 1000 1001),wrI 1001 (.cells (AE.c (Z3n d)) 94) (.av (.agg (Bl.c (BP (Z3n d)).1))) (.cells (AE.c (BP (Z3n d)).2) 94))
abbrev Ny:=AB (BP (Z3n d)).2 14
def Z3q:CT:=(34,([.one (.ptr 1000 0),.one (.i 14)]:List Av).map (CC 1000 1001),wrI 1001 (.cells (AE.c (BP (Z3n d)).2) 94) (tI (Ny d).1) (.cells (AE.c (Ny d).2) 94))
abbrev Z3r:AE:=(AB (BP (Z3n d)).2 14).2
def Z3s:Blk:=.row 20 ((Z3g d)++[Az.mk ({ data := #[99,50] }:ByteArray) (W64 (1+(JN d).1)) 1 (Z3o d) (BP (Z3n d)).1 (W64 (1+(Ny d).1))]).length (AV Az.c ((Z3g d)++[Az.mk ({ data := #[99,50] }:ByteArray) (W64 (1+(JN d).1)) 1 (Z3o d) (BP (Z3n d)).1 (W64 (1+(Ny d).1))])) 146
def Z3t:Blk:=.cells (BT b (C6 b [vN,.own 2001 20 ((Z3g d)++[Az.mk ({ data := #[99,50] }:ByteArray) (W64 (1+(JN d).1)) 1 (Z3o d) (BP (Z3n d)).1 (W64 (1+(Ny d).1))]).length,vN,vN])) 62
abbrev Z3u:AE:=bif decide (((AB (Z3f d) 2).1:Int)=1) then (Z3r d) else (AB (Z3f d) 2).2
def Z3v:(List Az):=bif decide (((AB (Z3f d) 2).1:Int)=1) then ((Z3g d)++[Az.mk ({ data := #[99,50] }:ByteArray) (W64 (1+(AB (AB (Z3f d) 2).2 2).1)) 1 (Z3o d) (BP (Z3n d)).1 (W64 (1+(AB (BP (Z3n d)).2 14).1))]) else (Z3g d)
def Z3w:CT:=(34,(FZ:List Av).map (CC 1000 1001),wrI 1001 (.cells (AE.c (Z3u d)) 94) (tI (AB (Z3u d) 3).1) (.cells (AE.c (AB (Z3u d) 3).2) 94))
def Z3x:Blk:=.cells (BT b (C6 b [vN,.own 2001 20 (Z3v d).length,vN,vN])) 62
def Z3y:Blk:=.cells (AE.c (AB (Z3u d) 3).2) 94
def Z3z:Blk:=.row 20 (Z3v d).length (AV Az.c (Z3v d)) 146
def Z3A:(List BE):=bif decide (((AB (Z3u d) 3).1:Int)=0) then [BE.mk ({ data := #[112,111,119,101,114] }:ByteArray) [({ data := #[71,78,68] }:ByteArray)]] else []
def Z3B:CT:=(34,(KJ:List Av).map (CC 1000 1001),wrI 1001 (.cells (AE.c (AB (Z3u d) 3).2) 94) (tI (AB (AB (Z3u d) 3).2 4).1) (.cells (AE.c (AB (AB (Z3u d) 3).2 4).2) 94))
abbrev Z3C:AE:=(AB (AB (Z3u d) 3).2 4).2
abbrev Qe (t_:List Cl):List Cl:=(lst 2 BE.c (Z3A d))::(.own 2001 20 (Z3v d).length)::t_
abbrev Ze:List Cl:=(BT b (C6 b (Qe d [vN,vN])))
def Z3D:Blk:=.cells (Ze b d) 62
def Z3E:(List Int):=FJ (AC.mk b.Layers (AX.mk 0 [] 0) b.Parts [] b.Tracks b.Vias b.Pours b.Keeps b.Slots [] [] [] [])
def Z3F:CT:=(34,([.one (.ptr 1000 0),.one (.i ((Z3E b).length:Int))]:List Av).map (CC 1000 1001),wrI 1001 (.cells (AE.c (Z3C d)) 94) (tI (AB (Z3C d) ((Z3E b).length:Int)).1) (.cells (AE.c (AB (Z3C d) ((Z3E b).length:Int)).2) 94))
abbrev Z3G (d:AE) (b:AC):AE:=(AB (Z3C d) ((Z3E b).length:Int)).2
def Z3H:CT:=(34,([.one (.ptr 1000 0),.one (.i ((Z3E b).length:Int))]:List Av).map (CC 1000 1001),wrI 1001 (.cells (AE.c (Z3G d b)) 94) (tI (AB (Z3G d b) ((Z3E b).length:Int)).1) (.cells (AE.c (AB (Z3G d b) ((Z3E b).length:Int)).2) 94))
abbrev Z3I (d:AE) (b:AC):AE:=(AB (Z3G d b) ((Z3E b).length:Int)).2
abbrev Z3J (d:AE) (b:AC):AE:=bif decide (((AB (AB (Z3u d) 3).2 4).1:Int)=0) then (Z3I d b) else (Z3C d)
def Z3K (d:AE) (b:AC):(List An):=bif decide (((AB (AB (Z3u d) 3).2 4).1:Int)=0) then [An.mk ((Z3E b).getD (AB (Z3C d) ((Z3E b).length:Int)).1.toNat default) ((Z3E b).getD (AB (Z3G d b) ((Z3E b).length:Int)).1.toNat default) ({ data := #[99,49] }:ByteArray)] else []
def Z3L (d:AE) (b:AC):CT:=(34,(KJ:List Av).map (CC 1000 1001),wrI 1001 (.cells (AE.c (Z3J d b)) 94) (tI (AB (Z3J d b) 4).1) (.cells (AE.c (AB (Z3J d b) 4).2) 94))
def Z3M (d:AE) (b:AC):CT:=(34,([.one (.ptr 1000 0),.one (.i 8)]:List Av).map (CC 1000 1001),wrI 1001 (.cells (AE.c (AB (Z3J d b) 4).2) 94) (tI (AB (AB (Z3J d b) 4).2 8).1) (.cells (AE.c (AB (AB (Z3J d b) 4).2 8).2) 94))
abbrev Z3N (d:AE) (b:AC):AE:=(AB (AB (Z3J d b) 4).2 8).2
def DB (b:AC) (d:AE):(AC×AE):=bif decide (((AB (Z3J d b) 4).1:Int)=0) then (AC.mk b.Layers b.Outline b.Parts b.Nets b.Tracks b.Vias b.Pours b.Keeps b.Slots (Z3A d) (Z3v d) (Z3K d b) [AN.mk ({ data := #[109,49] }:ByteArray) [({ data := #[78,49] }:ByteArray),({ data := #[78,50] }:ByteArray)] (W64 (10*(AB (AB (Z3J d b) 4).2 8).1))],Z3N d b) else (AC.mk b.Layers b.Outline b.Parts b.Nets b.Tracks b.Vias b.Pours b.Keeps b.Slots (Z3A d) (Z3v d) (Z3K d b) [],(AB (Z3J d b) 4).2)
abbrev Fo:List (Nat×Tv):=[(0,tP 1000 0),(1,tP 1001 0)]
abbrev Qg (d:AE) (b:AC) (t_:List Cl):List Cl:=(lst 2 BE.c (Z3A d))::(lst 20 Az.c (Z3v d))::(lst 3 An.c (Z3K d b))::t_
theorem au7 {p:Prop} (h:p:=by repeat (first | with_reducible assumption | exact DA (Dv hll _) | with_reducible refine Bd ?_ | with_reducible refine FI ?_ | with_reducible refine EB ?_ | with_reducible refine YA ?_  | with_reducible refine DO ?_ ?_)):p:=h
theorem au11 {p:Prop} (h:p:=by first | decide | omega | exact mS (b:=AC.mk b.Layers (AX.mk 0 [] 0) b.Parts [] b.Tracks b.Vias b.Pours b.Keeps b.Slots [] [] [] []) hi | (simp only [E6];omega)):p:=h
theorem au27 {p:Prop} (h:p:=by first | (simp only [List.length_append,List.length_cons,List.length_nil];decide) | exact gX (by simp only [List.length_append,List.length_cons,List.length_nil];decide) (by simp only [List.length_append,List.length_cons,List.length_nil];decide) | exact bU (by simp only [List.length_append,List.length_cons,List.length_nil];decide) (by simp only [List.length_append,List.length_cons,List.length_nil];decide) | (unfold maxLen;omega)):p:=h
set_option maxHeartbeats 2000000 in
theorem aD  (b:AC) (d:AE) (hd:Bz d) (h0:(b.Parts.length:Int)<=1000000) (h1:(b.Tracks.length:Int)<=1000000) (h2:(b.Vias.length:Int)<=1000000) (h3:(b.Pours.length:Int)<=1000000) (h4:(b.Keeps.length:Int)<=1000000) (h5:(b.Slots.length:Int)<=1000000) (hi:1<=(b.Parts.length:Int)):Wr2 Try.prog 58 1000 1001 [.one (.ptr 1000 0),.one (.ptr 1001 0)] (.cells [.i b.Layers,.i b.Outline.Kind,lst 7 AG.c b.Outline.Edges,.i b.Outline.R,lst 7 AU.c b.Parts,lst 2 A9.c b.Nets,lst 6 AO.c b.Tracks,lst 8 BW.c b.Vias,lst 8 A4.c b.Pours,lst 5 A5.c b.Keeps,lst 4 BC.c b.Slots,vN,vN,vN,vN] 62) (.cells (AE.c d) 94) (.tup []) (.cells (AC.c (DB b d).1) 62) (.cells (AE.c (DB b d).2) 94):=by
 refine OO Try.func58 rfl kr kr kr rfl kr kr kr fun W0 M0 X hX => ?_
 refine AA ?_
 refine CN DU [18] [] [(6,Cm),(7,Cm),(9,(Z32 d)),(12,Cm),(13,Cm),(15,(Z33 d))] [0,1] [18,1000,1001] [As Cm.2.1,As Cm.2.1,As (Z32 d).2.1,CL (Hh d),As Cm.2.1,As Cm.2.1,As (Z33 d).2.1,CL (.cells (AE.c (AB d 10).2) 94)] ⟨Fo,[(18,.row 20 2 (BF 20 2 [.s ({ data := #[99,49] }:ByteArray),.i 1,.i 1,.i AJ.Op,.s AJ.Text,.i AJ.N,.i AJ.Box.X0,.i AJ.Box.Y0,.i AJ.Box.X1,.i AJ.Box.Y1,opL AJ.L,.i AJ.Op,.s AJ.Text,.i AJ.N,.i AJ.Box.X0,.i AJ.Box.Y0,.i AJ.Box.X1,.i AJ.Box.Y1,opL AJ.L,.i (W64 (3+(AB d 10).1)),.s ({ data := #[101,49] }:ByteArray),.i 1,.i 3,.i AJ.Op,.s AJ.Text,.i AJ.N,.i AJ.Box.X0,.i AJ.Box.Y0,.i AJ.Box.X1,.i AJ.Box.Y1,opL AJ.L,.i AJ.Op,.s AJ.Text,.i AJ.N,.i AJ.Box.X0,.i AJ.Box.Y0,.i AJ.Box.X1,.i AJ.Box.Y1,opL AJ.L,.i (W64 (2+(AB (AB d 10).2 8).1))]) 146),(1000,.cells (BT b (C6 b [vN,.own 18 20 2,vN,vN])) 62),(1001,Z34 d)]⟩ (.cons Eu (.cons Eu (.cons (cWr (Bg d 10 au7 au11)) (.cons Eu (.cons Eu (.cons (cWr (Bg (AB d 10).2 8 au7 au11)) .nil)))))) kr (.cons rfl (.cons rfl (.cons rfl (.cons rfl (.cons rfl (.cons rfl (.cons rfl (.cons rfl .nil))))))))<|AF ?_
 refine Al (A6 18 (A1 20 Az.c ([Az.mk ({ data := #[99,49] }:ByteArray) 1 1 AJ AJ (W64 (3+(AB d 10).1)),Az.mk ({ data := #[101,49] }:ByteArray) 1 3 AJ AJ (W64 (2+(AB (AB d 10).2 8).1))]:List Az)))<|AA<|AA<|rb 22 (Z37 d) (.cells (AE.c (AB (AB d 10).2 8).2) 94) ⟨[(0,tP 1000 0),(1,tP 1001 0),(23,tB (decide (((AB (Fs d).2 2).1:Int)=1)))],[(18,Z35 d),(1000,Z36 b d),(1001,.cells (AE.c (Z38 d)) 94)]⟩ (cWr (Bg (AB (AB d 10).2 8).2 2 au7 au11))<|AF<|CR (⟨Fo,[(1000,.cells (BT b (C6 b [vN,.own 2000 20 (Z3g d).length,vN,vN])) 62),(1001,.cells (AE.c (Z3f d)) 94),(2000,.row 20 (Z3g d).length (AV Az.c (Z3g d)) 146)]⟩) ?_ ?_
 ·refine AL _ rfl (fun h1 => ?_) (fun h1 => ?_)
  ·have g1:=oT h1
   refine dw [] [(29,Cm),(30,Cm),(32,(Z39 d)),(35,Cm),(36,Cm),(38,(Z3a d))] [As Cm.2.1,As Cm.2.1,As (Z39 d).2.1,CL (.cells (AE.c (Z38 d)) 94),As Cm.2.1,As Cm.2.1,As (Z3a d).2.1,CL (.cells (AE.c (AB (Z38 d) 5).2) 94),[Az.mk ({ data := #[99,49] }:ByteArray) 1 1 AJ AJ (W64 (3+(AB d 10).1)),Az.mk ({ data := #[101,49] }:ByteArray) 1 3 AJ AJ (W64 (2+(AB (AB d 10).2 8).1))].length=[Az.mk ({ data := #[99,49] }:ByteArray) 1 1 AJ AJ (W64 (3+(AB d 10).1)),Az.mk ({ data := #[101,49] }:ByteArray) 1 3 AJ AJ (W64 (2+(AB (AB d 10).2 8).1))].length,([Az.mk ({ data := #[99,49] }:ByteArray) 1 1 AJ AJ (W64 (3+(AB d 10).1)),Az.mk ({ data := #[101,49] }:ByteArray) 1 3 AJ AJ (W64 (2+(AB (AB d 10).2 8).1))].length)+2<=maxLen,(([Az.mk ({ data := #[99,49] }:ByteArray) 1 1 AJ AJ (W64 (3+(AB d 10).1)),Az.mk ({ data := #[101,49] }:ByteArray) 1 3 AJ AJ (W64 (2+(AB (AB d 10).2 8).1))].length)+2)*216<=140737488355328] ⟨Fo,[(42,.row 20 (([Az.mk ({ data := #[99,49] }:ByteArray) 1 1 AJ AJ (W64 (3+(AB d 10).1)),Az.mk ({ data := #[101,49] }:ByteArray) 1 3 AJ AJ (W64 (2+(AB (AB d 10).2 8).1))].length)+2) (fun i_ j_=>if i_<([Az.mk ({ data := #[99,49] }:ByteArray) 1 1 AJ AJ (W64 (3+(AB d 10).1)),Az.mk ({ data := #[101,49] }:ByteArray) 1 3 AJ AJ (W64 (2+(AB (AB d 10).2 8).1))].length) then (AV Az.c [Az.mk ({ data := #[99,49] }:ByteArray) 1 1 AJ AJ (W64 (3+(AB d 10).1)),Az.mk ({ data := #[101,49] }:ByteArray) 1 3 AJ AJ (W64 (2+(AB (AB d 10).2 8).1))]) i_ j_ else (BF 20 2 [.s ({ data := #[119,49] }:ByteArray),.i 1,.i 2,.i AJ.Op,.s AJ.Text,.i AJ.N,.i AJ.Box.X0,.i AJ.Box.Y0,.i AJ.Box.X1,.i AJ.Box.Y1,opL AJ.L,.i AJ.Op,.s AJ.Text,.i AJ.N,.i AJ.Box.X0,.i AJ.Box.Y0,.i AJ.Box.X1,.i AJ.Box.Y1,opL AJ.L,.i (W64 (6+(AB (Z38 d) 5).1)),.s ({ data := #[114,49] }:ByteArray),.i 1,.i 4,.i AJ.Op,.s AJ.Text,.i AJ.N,.i AJ.Box.X0,.i AJ.Box.Y0,.i AJ.Box.X1,.i AJ.Box.Y1,opL AJ.L,.i AJ.Op,.s AJ.Text,.i AJ.N,.i AJ.Box.X0,.i AJ.Box.Y0,.i AJ.Box.X1,.i AJ.Box.Y1,opL AJ.L,.i (W64 (2+(AB (AB (Z38 d) 5).2 4).1))]) (i_-([Az.mk ({ data := #[99,49] }:ByteArray) 1 1 AJ AJ (W64 (3+(AB d 10).1)),Az.mk ({ data := #[101,49] }:ByteArray) 1 3 AJ AJ (W64 (2+(AB (AB d 10).2 8).1))].length)) j_) 146),(1000,.cells (BT b (C6 b [vN,.own 42 20 (([Az.mk ({ data := #[99,49] }:ByteArray) 1 1 AJ AJ (W64 (3+(AB d 10).1)),Az.mk ({ data := #[101,49] }:ByteArray) 1 3 AJ AJ (W64 (2+(AB (AB d 10).2 8).1))].length)+2),vN,vN])) 62),(1001,Z3b d)]⟩ (.cons Eu (.cons Eu (.cons (cWr (Bg (Z38 d) 5 au7 au11)) (.cons Eu (.cons Eu (.cons (cWr (Bg (AB (Z38 d) 5).2 4 au7 au11)) .nil)))))) (.cons rfl (.cons rfl (.cons rfl (.cons rfl (.cons rfl (.cons rfl (.cons rfl (.cons rfl (.cons rfl (.cons au27 (.cons au27 .nil)))))))))))<|AF ?_
   refine Cv.trans (A6 42 (Ar (Af 20 Az.c [Az.mk ({ data := #[99,49] }:ByteArray) 1 1 AJ AJ (W64 (3+(AB d 10).1)),Az.mk ({ data := #[101,49] }:ByteArray) 1 3 AJ AJ (W64 (2+(AB (AB d 10).2 8).1))]) (A1 20 Az.c ([Az.mk ({ data := #[119,49] }:ByteArray) 1 2 AJ AJ (W64 (6+(AB (Z38 d) 5).1)),Az.mk ({ data := #[114,49] }:ByteArray) 1 4 AJ AJ (W64 (2+(AB (AB (Z38 d) 5).2 4).1))]:List Az)))) (Cv.trans (vr 42 2000 (K:=[1000,1001]) hX) (Cv.trans (ck (⟨Fo,[(1000,Z3d b d),(1001,Z3b d),(2000,Z3c d)]⟩)) (BG ?_)))
   first | rfl | (simp only [h1,Z3f,Z3g,cond_true,cond_false] <;> rfl)
  refine AQ<|AF<|Cv.trans (vk [0,1] [18,1000,1001]) (Cv.trans (vr 18 2000 (K:=[1000,1001]) hX) (Cv.trans (ck (⟨Fo,[(1000,Z3e b d),(1001,.cells (AE.c (Z38 d)) 94),(2000,Z35 d)]⟩)) (BG ?_)))
  first | rfl | (simp only [h1,Z3f,Z3g,cond_true,cond_false] <;> rfl)
 refine AA<|AA<|rb 46 (Z3h d) (.cells (AE.c (Z3f d)) 94) ⟨[(0,tP 1000 0),(1,tP 1001 0),(47,tB (decide (((AB (Z3f d) 2).1:Int)=1)))],[(1000,Z3i b d),(1001,Z3j d),(2000,Z3k d)]⟩ (cWr (Bg (Z3f d) 2 au7 au11))<|AF<|CR (⟨Fo,[(1000,.cells (BT b (C6 b [vN,.own 2001 20 (Z3v d).length,vN,vN])) 62),(1001,.cells (AE.c (Z3u d)) 94),(2001,.row 20 (Z3v d).length (AV Az.c (Z3v d)) 146)]⟩) ?_ ?_
 ·refine AL _ rfl (fun h1 => ?_) (fun h1 => ?_)
  ·have g1:=oT h1
   refine dw [] [(54,(Z3l d)),(57,(Z3m d)),(59,(Z3p d)),(61,(Z3q d))] [As (Z3l d).2.1,CL (.cells (AE.c (AB (Z3f d) 2).2) 94),As (Z3m d).2.1,CL (.cells (AE.c (AB (AB (Z3f d) 2).2 2).2) 94),As (Z3p d).2.1,CL (.cells (AE.c (Z3n d)) 94),As (Z3q d).2.1,CL (.cells (AE.c (BP (Z3n d)).2) 94),(Z3g d).length=(Z3g d).length,(Z3g d).length+1<=maxLen,((Z3g d).length+1)*216<=140737488355328] ⟨Fo,[(65,.row 20 ((Z3g d).length+1) (fun i_ j_=>if i_<(Z3g d).length then (AV Az.c (Z3g d)) i_ j_ else (BF 20 1 [.s ({ data := #[99,50] }:ByteArray),.i (W64 (1+(AB (AB (Z3f d) 2).2 2).1)),.i 1,.i (Z3o d).Op,.s (Z3o d).Text,.i (Z3o d).N,.i (Z3o d).Box.X0,.i (Z3o d).Box.Y0,.i (Z3o d).Box.X1,.i (Z3o d).Box.Y1,opL (Z3o d).L,.i (BP (Z3n d)).1.Op,.s (BP (Z3n d)).1.Text,.i (BP (Z3n d)).1.N,.i (BP (Z3n d)).1.Box.X0,.i (BP (Z3n d)).1.Box.Y0,.i (BP (Z3n d)).1.Box.X1,.i (BP (Z3n d)).1.Box.Y1,opL (BP (Z3n d)).1.L,.i (W64 (1+(AB (BP (Z3n d)).2 14).1))]) (i_-(Z3g d).length) j_) 146),(1000,.cells (BT b (C6 b [vN,.own 65 20 ((Z3g d).length+1),vN,vN])) 62),(1001,.cells (AE.c (Z3r d)) 94)]⟩ (.cons (cWr (Bg (AB (Z3f d) 2).2 2 au7 au11)) (.cons (cWr (WR (AB (AB (Z3f d) 2).2 2).2 au7)) (.cons (cWr (WR (Z3n d) au7)) (.cons (cWr (Bg (BP (Z3n d)).2 14 au7 au11)) .nil)))) (.cons rfl (.cons rfl (.cons rfl (.cons rfl (.cons rfl (.cons rfl (.cons rfl (.cons rfl (.cons rfl (.cons au27 (.cons au27 .nil)))))))))))<|AF ?_
   refine Cv.trans (A6 65 (Ar (Af 20 Az.c (Z3g d)) (A1 20 Az.c ([Az.mk ({ data := #[99,50] }:ByteArray) (W64 (1+(AB (AB (Z3f d) 2).2 2).1)) 1 (Z3o d) (BP (Z3n d)).1 (W64 (1+(AB (BP (Z3n d)).2 14).1))]:List Az)))) (Cv.trans (vr 65 2001 (K:=[1000,1001]) hX) (Cv.trans (ck (⟨Fo,[(1000,Z3t b d),(1001,.cells (AE.c (Z3r d)) 94),(2001,Z3s d)]⟩)) (BG ?_)))
   first | rfl | (simp only [h1,Z3u,Z3v,cond_true,cond_false] <;> rfl)
  refine AQ<|AF<|Cv.trans (vk [0,1] [1000,1001,2000]) (Cv.trans (wr (⟨Fo,[(1000,.cells (BT b (C6 b [vN,.own 2001 20 (Z3g d).length,vN,vN])) 62),(1001,Z3j d),(2001,Z3k d)]⟩) 2000 2001 (K:=[1000,1001]) hX) (BG ?_))
  first | rfl | (simp only [h1,Z3u,Z3v,cond_true,cond_false] <;> rfl)
 refine AA<|AA<|rb 69 (Z3w d) (.cells (AE.c (Z3u d)) 94) ⟨[(0,tP 1000 0),(1,tP 1001 0),(70,tB (decide (((AB (Z3u d) 3).1:Int)=0)))],[(1000,Z3x b d),(1001,Z3y d),(2001,Z3z d)]⟩ (cWr (Bg (Z3u d) 3 au7 au11))<|AF<|CR (⟨Fo,[(1000,.cells (BT b (C6 b [lst 2 BE.c (Z3A d),.own 2001 20 (Z3v d).length,vN,vN])) 62),(1001,.cells (AE.c (AB (Z3u d) 3).2) 94),(2001,.row 20 (Z3v d).length (AV Az.c (Z3v d)) 146)]⟩) ?_ ?_
 ·refine AL _ rfl (fun h1 => ?_) (fun h1 => ?_)
  ·refine rn ⟨Fo,[(1000,.cells (BT b (C6 b [.list true 2 1 (BF 2 1 [.s ({ data := #[112,111,119,101,114] }:ByteArray),.list true 1 1 (BF 1 1 [.s ({ data := #[71,78,68] }:ByteArray)])]),.own 2001 20 (Z3v d).length,vN,vN])) 62),(1001,Z3y d),(2001,Z3z d)]⟩<|Cv.trans (C1 (⟨Fo,[(1000,.cells (BT b (C6 b [lst 2 BE.c [BE.mk ({ data := #[112,111,119,101,114] }:ByteArray) [({ data := #[71,78,68] }:ByteArray)]],.own 2001 20 (Z3v d).length,vN,vN])) 62),(1001,Z3y d),(2001,Z3z d)]⟩) lr (.cons ⟨rfl,.cells _ (rr9 (rr2 (.cons (BM true (Dh (c:=BE.c) (xs:=([BE.mk ({ data := #[112,111,119,101,114] }:ByteArray) [({ data := #[71,78,68] }:ByteArray)]]:List BE)) (y:=[[.s ({ data := #[112,111,119,101,114] }:ByteArray),.list true 1 1 (BF 1 1 [.s ({ data := #[71,78,68] }:ByteArray)])]]) (z:=[[.s ({ data := #[112,111,119,101,114] }:ByteArray),lst 1 (fun x=>[.s x]) [({ data := #[71,78,68] }:ByteArray)]]]) rfl kr kr (.cons (rr (.cons (BM true (BR (c:=(fun x=>[.s x])) (xs:=([({ data := #[71,78,68] }:ByteArray)]:List ByteArray)) rfl kr)) .nil)) .nil))) (rr (rr (rr .nil))))))⟩ lr)) (BG ?_)
   first | rfl | (simp only [h1,Z3A,cond_true,cond_false] <;> rfl)
  refine AQ<|AF<|Cv.trans (ck (⟨Fo,[(1000,Z3x b d),(1001,Z3y d),(2001,Z3z d)]⟩)) (Cv.trans (C1 (⟨Fo,[(1000,.cells (BT b (C6 b [lst 2 BE.c [],.own 2001 20 (Z3v d).length,vN,vN])) 62),(1001,Z3y d),(2001,Z3z d)]⟩) lr (.cons ⟨rfl,.cells _ (rr9 (rr2 (.cons (Bi 2 BE.c) (rr (rr (rr .nil))))))⟩ lr)) (BG ?_))
  first | rfl | (simp only [h1,Z3A,cond_true,cond_false] <;> rfl)
 refine AA<|AA<|rb 78 (Z3B d) (.cells (AE.c (AB (Z3u d) 3).2) 94) ⟨[(0,tP 1000 0),(1,tP 1001 0),(79,tB (decide (((AB (AB (Z3u d) 3).2 4).1:Int)=0)))],[(1000,Z3D b d),(1001,.cells (AE.c (Z3C d)) 94),(2001,Z3z d)]⟩ (cWr (Bg (AB (Z3u d) 3).2 4 au7 au11))<|AF<|CR (⟨Fo,[(1000,.cells (BT b (C6 b [lst 2 BE.c (Z3A d),.own 2001 20 (Z3v d).length,lst 3 An.c (Z3K d b),vN])) 62),(1001,.cells (AE.c (Z3J d b)) 94),(2001,.row 20 (Z3v d).length (AV Az.c (Z3v d)) 146)]⟩) ?_ ?_
 ·refine AL _ rfl (fun h1 => ?_) (fun h1 => ?_)
  ·have g1:=oT h1
   refine AA<|oq 83 (ceI [.agg (Ze b d)] (Vq (AC.mk b.Layers (AX.mk 0 [] 0) b.Parts [] b.Tracks b.Vias b.Pours b.Keeps b.Slots [] [] [] []))) (C5 (gO (AC.mk b.Layers (AX.mk 0 [] 0) b.Parts [] b.Tracks b.Vias b.Pours b.Keeps b.Slots [] [] [] []) au14 au14 au14 au14 au14 au14) (.cons (.agg (rr (.cons (.any _) (.cons (.any _) (.cons (.any _) (rr (.cons (.any _) (rr5 (.cons (.any _) (.cons (.any _) (.cons (.any _) (.cons (.any _) .nil)))))))))))) .nil))<|AF ?_
   refine dw [] [(89,(Z3F b d)),(96,(Z3H b d))] [As (Z3F b d).2.1,CL (.cells (AE.c (Z3C d)) 94),0<=((AB (Z3C d) ((Z3E b).length:Int)).1:Int)/\((AB (Z3C d) ((Z3E b).length:Int)).1:Int)<(((Z3E b).length:Nat):Int),As (Z3H b d).2.1,CL (.cells (AE.c (Z3G d b)) 94),0<=((AB (Z3G d b) ((Z3E b).length:Int)).1:Int)/\((AB (Z3G d b) ((Z3E b).length:Int)).1:Int)<(((Z3E b).length:Nat):Int)] ⟨Fo,[(1000,.cells (BT b (C6 b (Qe d [.list true 3 1 (BF 3 1 [.i ((Z3E b).getD (AB (Z3C d) ((Z3E b).length:Int)).1.toNat default),.i ((Z3E b).getD (AB (Z3G d b) ((Z3E b).length:Int)).1.toNat default),.s ({ data := #[99,49] }:ByteArray)]),vN]))) 62),(1001,.cells (AE.c (Z3I d b)) 94),(2001,Z3z d)]⟩ (.cons (cWr (Bg (Z3C d) ((Z3E b).length:Int) au7 au11)) (.cons (cWr (Bg (Z3G d b) ((Z3E b).length:Int) au7 au11)) .nil)) (.cons rfl (.cons rfl (.cons (by first | exact Jy _ _ _ (by decide) (by decide) (by decide) | exact Tb (b:=AC.mk b.Layers (AX.mk 0 [] 0) b.Parts [] b.Tracks b.Vias b.Pours b.Keeps b.Slots [] [] [] []) _ hi (by assumption) (by assumption) (by assumption) (by assumption) (by assumption) (by assumption) | decide | omega) (.cons rfl (.cons rfl (.cons (by first | exact Jy _ _ _ (by decide) (by decide) (by decide) | exact Tb (b:=AC.mk b.Layers (AX.mk 0 [] 0) b.Parts [] b.Tracks b.Vias b.Pours b.Keeps b.Slots [] [] [] []) _ hi (by assumption) (by assumption) (by assumption) (by assumption) (by assumption) (by assumption) | decide | omega) .nil))))))<|AF ?_
   refine Cv.trans (C1 (⟨Fo,[(1000,.cells (BT b (C6 b [lst 2 BE.c (Z3A d),.own 2001 20 (Z3v d).length,lst 3 An.c [An.mk ((Z3E b).getD (AB (Z3C d) ((Z3E b).length:Int)).1.toNat default) ((Z3E b).getD (AB (Z3G d b) ((Z3E b).length:Int)).1.toNat default) ({ data := #[99,49] }:ByteArray)],vN])) 62),(1001,.cells (AE.c (Z3I d b)) 94),(2001,Z3z d)]⟩) lr (.cons ⟨rfl,.cells _ (rr9 (rr4 (.cons (BM true (BR (c:=An.c) (xs:=([An.mk ((Z3E b).getD (AB (Z3C d) ((Z3E b).length:Int)).1.toNat default) ((Z3E b).getD (AB (Z3G d b) ((Z3E b).length:Int)).1.toNat default) ({ data := #[99,49] }:ByteArray)]:List An)) rfl kr)) (rr .nil))))⟩ lr)) (BG ?_)
   first | rfl | (simp only [h1,Z3J,Z3K,cond_true,cond_false] <;> rfl)
  refine AQ<|AF<|Cv.trans (ck (⟨Fo,[(1000,Z3D b d),(1001,.cells (AE.c (Z3C d)) 94),(2001,Z3z d)]⟩)) (Cv.trans (C1 (⟨Fo,[(1000,.cells (BT b (C6 b [lst 2 BE.c (Z3A d),.own 2001 20 (Z3v d).length,lst 3 An.c [],vN])) 62),(1001,.cells (AE.c (Z3C d)) 94),(2001,Z3z d)]⟩) lr (.cons ⟨rfl,.cells _ (rr9 (rr4 (.cons (Bi 3 An.c) (rr .nil))))⟩ lr)) (BG ?_))
  first | rfl | (simp only [h1,Z3J,Z3K,cond_true,cond_false] <;> rfl)
 refine AA<|rb 104 (Z3L d b) (.cells (AE.c (Z3J d b)) 94) ⟨[(0,tP 1000 0),(1,tP 1001 0),(105,tB (decide (((AB (Z3J d b) 4).1:Int)=0)))],[(1000,.cells (BT b (C6 b (Qe d [lst 3 An.c (Z3K d b),vN]))) 62),(1001,.cells (AE.c (AB (Z3J d b) 4).2) 94),(2001,Z3z d)]⟩ (cWr (Bg (Z3J d b) 4 au7 au11))<|AF<|AL _ rfl (fun h1 => ?_) (fun h1 => ?_)
 ·have g1:=oT h1
  refine rb 109 (Z3M d b) (.cells (AE.c (AB (Z3J d b) 4).2) 94) ⟨[],[(1000,.cells (BT b (C6 b (Qe d [lst 3 An.c (Z3K d b),.list true 3 1 (BF 3 1 [.s ({ data := #[109,49] }:ByteArray),.list true 1 2 (BF 1 2 [.s ({ data := #[78,49] }:ByteArray),.s ({ data := #[78,50] }:ByteArray)]),.i (W64 (10*(AB (AB (Z3J d b) 4).2 8).1))])]))) 62),(1001,.cells (AE.c (Z3N d b)) 94),(2001,Z3z d)]⟩ (cWr (Bg (AB (Z3J d b) 4).2 8 au7 au11)) ?_
  exact yn (vf 2001 (K:=[1000,1001]) hX) (.tup []) ⟨BX rfl,⟨.cells (BT b (C6 b (Qg d b [.list true 3 1 (BF 3 1 [.s ({ data := #[109,49] }:ByteArray),.list true 1 2 (BF 1 2 [.s ({ data := #[78,49] }:ByteArray),.s ({ data := #[78,50] }:ByteArray)]),.i (W64 (10*(AB (AB (Z3J d b) 4).2 8).1))])]))) 62,by kernel_rfl,SF (y:=.cells (BT b (C6 b (Qg d b [lst 3 AN.c [AN.mk ({ data := #[109,49] }:ByteArray) [({ data := #[78,49] }:ByteArray),({ data := #[78,50] }:ByteArray)] (W64 (10*(AB (AB (Z3J d b) 4).2 8).1))]]))) 62) (.cells _ (rr9 (rr5 (.cons (BM true (Dh (c:=AN.c) (xs:=([AN.mk ({ data := #[109,49] }:ByteArray) [({ data := #[78,49] }:ByteArray),({ data := #[78,50] }:ByteArray)] (W64 (10*(AB (AB (Z3J d b) 4).2 8).1))]:List AN)) (y:=[[.s ({ data := #[109,49] }:ByteArray),.list true 1 2 (BF 1 2 [.s ({ data := #[78,49] }:ByteArray),.s ({ data := #[78,50] }:ByteArray)]),.i (W64 (10*(AB (AB (Z3J d b) 4).2 8).1))]]) (z:=[[.s ({ data := #[109,49] }:ByteArray),lst 1 (fun x=>[.s x]) [({ data := #[78,49] }:ByteArray),({ data := #[78,50] }:ByteArray)],.i (W64 (10*(AB (AB (Z3J d b) 4).2 8).1))]]) rfl kr kr (.cons (rr (.cons (BM true (BR (c:=(fun x=>[.s x])) (xs:=([({ data := #[78,49] }:ByteArray),({ data := #[78,50] }:ByteArray)]:List ByteArray)) rfl kr)) (rr .nil))) .nil))) .nil)))) (by first | (simp only [DB,h1,cond_true,cond_false];done) | (simp only [DB,h1,cond_true,cond_false];kernel_rfl))⟩,.cells (AE.c (Z3N d b)) 94,by kernel_rfl,EI (by first | (simp only [DB,h1,cond_true,cond_false];done) | (simp only [DB,h1,cond_true,cond_false];kernel_rfl))⟩
 have g1:=oF h1
 exact AQ<|yn (vf 2001 (K:=[1000,1001]) hX) (.tup []) ⟨BX rfl,⟨.cells (BT b (C6 b (Qg d b [vN]))) 62,by kernel_rfl,SF (y:=.cells (BT b (C6 b (Qg d b [lst 3 AN.c []]))) 62) (.cells _ (rr9 (rr5 (.cons (Bi 3 AN.c) .nil)))) (by first | (simp only [DB,h1,cond_true,cond_false];done) | (simp only [DB,h1,cond_true,cond_false];kernel_rfl))⟩,.cells (AE.c (AB (Z3J d b) 4).2) 94,by kernel_rfl,EI (by first | (simp only [DB,h1,cond_true,cond_false];done) | (simp only [DB,h1,cond_true,cond_false];kernel_rfl))⟩
end
end Go.Proofs.Ytgmhnkoifdpemaa
