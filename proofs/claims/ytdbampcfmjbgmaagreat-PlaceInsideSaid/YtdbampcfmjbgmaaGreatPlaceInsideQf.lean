/-
  No statement is proved in this text. It holds a part of what the proof of PlaceInside needs.
-/
import Derived.Test.YtdbampcfmjbgmaaGreatPlaceInsideQe
namespace Go.Proofs.YtdbampcfmjbgmaaGreat
set_option maxRecDepth 100000
set_option linter.unusedVariables false
set_option linter.unusedSimpArgs false
section
open Go.RowKit
theorem Pn (l:List Int) (name:ByteArray):∀ (n:Nat) (v:List Ay) (d:AD) (k:Int),0<=k->k<=W64 (2+(AA (AD.mk l 0) 5).1)->((W64 (2+(AA (AD.mk l 0) 5).1))-k).toNat<n ->
  (Cp l name n v d k).Name=name/\((Cp l name n v d k).Pads.length:Int)=v.length+(W64 (2+(AA (AD.mk l 0) 5).1)-k)
 | 0,v,d,k,_,_,h=>absurd h (Nat.not_lt_zero _)
 | n+1,v,d,k,h0,h1,h2=>by
  unfold Cp
  by_cases h:k<W64 (2+(AA (AD.mk l 0) 5).1)
  ·simp only [h,decide_true,cond_true]
   obtain ⟨e1,e2⟩:=Pn l name n (v++[_]) _ (k+1) (by omega) (by omega) (by omega)
   refine ⟨e1,e2.trans ?_⟩
   simp only [List.length_append,List.length_cons,List.length_nil]
   omega
  ·simp only [h,decide_false,cond_false]
   refine ⟨by first | trivial | rfl,?_⟩
   show (v.length:Int)=_
   omega
theorem Dc (l:List Int) (name:ByteArray):(A1 l name).Name=name/\2<=((A1 l name).Pads.length:Int)/\((A1 l name).Pads.length:Int)<=6:=by
 have hn:=Cx (AD.mk l 0) 5 (by decide) (by decide)
 have hw:W64 (2+(AA (AD.mk l 0) 5).1)=2+(AA (AD.mk l 0) 5).1:=Al (by omega) (by omega)
 obtain ⟨e1,e2⟩:=Pn l name (((W64 (2+(AA (AD.mk l 0) 5).1))-0).toNat+1) [] (AA (AD.mk l 0) 5).2 0 (by omega) (by omega) (by omega)
 refine ⟨e1,?_⟩
 unfold A1
 rw [e2,hw]
 simp only [List.length_nil]
 omega
theorem Py {a c:AL}:BX [a,c] a.Name=(a,true):=by
 unfold BX Dm
 simp [Z0z]
theorem Px {a c:AL} (h:¬ a.Name.toList=c.Name.toList):BX [a,c] c.Name=(c,true):=by
 have hb:(a.Name.toList==c.Name.toList)=false:=by simp [h]
 unfold BX Dm
 simp [Dm,Z0z,hb]
def PA (types:List AL) (xs:List AG):Prop:=∀ k:Int,0<=k->k<(xs.length:Int)->1<=((BX types (xs.getD k.toNat default).Type').1.Pads.length:Int)/\((BX types (xs.getD k.toNat default).Type').1.Pads.length:Int)<=6
theorem VW {types:List AL}:PA types ([]:List AG):=fun k h0 h1=>absurd h1 (by simp only [List.length_nil];omega)
theorem VX {types:List AL} {xs:List AG} {p:AG} (h:PA types xs) (hp:1<=((BX types p.Type').1.Pads.length:Int)/\((BX types p.Type').1.Pads.length:Int)<=6):PA types (xs++[p]):=by
 intro k h0 h1
 simp only [List.length_append,List.length_cons,List.length_nil] at h1
 by_cases hk:k.toNat<xs.length
 ·rw [List.getD_eq_getElem?_getD,List.getElem?_append_left hk,<- List.getD_eq_getElem?_getD]
  exact h k h0 (by omega)
 ·rw [List.getD_eq_getElem?_getD,List.getElem?_append_right (by omega),show k.toNat-xs.length=0 by omega]
  exact hp
theorem Pc (a c:List Int) (i:Int) (hi:0<=i/\i<2):1<=((BX [A1 a { data := #[82] },A1 c { data := #[81] }] (([A1 a { data := #[82] },A1 c { data := #[81] }]:List AL).getD i.toNat default).Name).1.Pads.length:Int)/\((BX [A1 a { data := #[82] },A1 c { data := #[81] }] (([A1 a { data := #[82] },A1 c { data := #[81] }]:List AL).getD i.toNat default).Name).1.Pads.length:Int)<=6:=by
 have ha:=Dc a { data := #[82] }
 have hc:=Dc c { data := #[81] }
 have h01:i=0\/i=1:=by omega
 rcases h01 with rfl | rfl
 ·show 1<=((BX [A1 a { data := #[82] },A1 c { data := #[81] }] (A1 a { data := #[82] }).Name).1.Pads.length:Int)/\((BX [A1 a { data := #[82] },A1 c { data := #[81] }] (A1 a { data := #[82] }).Name).1.Pads.length:Int)<=6
  rw [Py]
  exact ⟨by show 1<=((A1 a { data := #[82] }).Pads.length:Int);omega,ha.2.2⟩
 ·show 1<=((BX [A1 a { data := #[82] },A1 c { data := #[81] }] (A1 c { data := #[81] }).Name).1.Pads.length:Int)/\((BX [A1 a { data := #[82] },A1 c { data := #[81] }] (A1 c { data := #[81] }).Name).1.Pads.length:Int)<=6
  rw [Px (by rw [ha.1,hc.1];decide +kernel)]
  exact ⟨by show 1<=((A1 c { data := #[81] }).Pads.length:Int);omega,hc.2.2⟩
theorem W6 {d:AD} (h:(AA d 5).1<3) (h0:¬ (AA d 5).1=0) (h1:¬ (AA d 5).1=1):(AA d 5).1=2:=by
 have:=Cx d 5 (by decide) (by decide)
 omega
theorem Yk {b:AF} {types:List AL} (h:PA types b.Parts):NE b types:=fun k h0 h1=>(h k h0 h1).1
def Cz (v:List Ac) (m:Int):Prop:=(v.length:Int)<=m
theorem Ec {α:Type} {c:Bool} {a b:List α} {m:Int} (ha:(a.length:Int)<=m) (hb:(b.length:Int)<=m):((bif c then a else b).length:Int)<=m:=by cases c <;> assumption
theorem Ed {α:Type} {a:List α} {x:α} {m:Int} (h:(a.length:Int)+1<=m):((a++[x]).length:Int)<=m:=by simp only [List.length_append,List.length_cons,List.length_nil];omega
theorem gQ {d:AD} {a c:AL}:0<=(AA d 2).1/\(AA d 2).1<((([a,c]:List AL).length:Nat):Int):=Cx d 2 (by decide) (by decide)
theorem YJ {v:Int} {a b c:ByteArray} (h0:0<=v) (h:v<3):0<=v/\v<((([a,b,c]:List ByteArray).length:Nat):Int):=⟨h0,h⟩
theorem iL {b B:AF} (h:LN b B) (hb:(b.Parts.length:Int)<=1000000):(B.Parts.length:Int)<=1000000:=by rw [h.par];exact hb
theorem cS {b B:AF} (h:LN b B) (hb:1<=(b.Parts.length:Int)):1<=(B.Parts.length:Int):=by rw [h.par];exact hb
theorem iI {b B:AF} (h:LN b B):(B.Tracks.length:Int)<=1000000:=by have:=h.trk;omega
theorem iH {b B:AF} (h:LN b B):(B.Vias.length:Int)<=1000000:=by have:=h.via;omega
theorem iK {b B:AF} (h:LN b B):(B.Pours.length:Int)<=1000000:=by have:=h.pou;omega
theorem iM {b B:AF} (h:LN b B):(B.Keeps.length:Int)<=1000000:=by have:=h.kee;omega
theorem iJ {b B:AF} (h:LN b B):(B.Slots.length:Int)<=1000000:=by have:=h.slo;omega
def Z5f (l:(List (List Int))):Tv:=.av (oL l)
def Z5g:Blk:=.cells Ry 40
def Z5h (l:(List (List Int))):AL:=A1 (AU l 0) ({ data := #[82] }:ByteArray)
def Z5i (l:(List (List Int))):AL:=A1 (AU l 1) ({ data := #[81] }:ByteArray)
def Z5j (l:(List (List Int))):Tv:=.av (.one (lst 3 AL.c [Z5h l,Z5i l]))
def Z5k (l:(List (List Int))):Blk:=.cells [lst 1 (fun x=>[.i x]) (AU l 2),.i 0] 146
abbrev KA:=An.mk 0 0 400 400
def Z5l:Blk:=.cells [.i 2,.i (Cn KA).Kind,lst 7 AE.c (Cn KA).Edges,.i (Cn KA).R,vN,.own 31 2 3,vN,vN,vN,vN,vN,vN,vN,vN,vN] 40
def Z5m:Blk:=.rowx 2 3 (fun _ _=>default) 84 [(0,[.s ({ data := #[78,49] }:ByteArray),vN]),(1,[.s ({ data := #[78,50] }:ByteArray),vN]),(2,[.s ({ data := #[71,78,68] }:ByteArray),vN])]
abbrev GJ (l:List (List Int)):=AA (AD.mk (AU l 2) 0) 3
def Z5n (l:(List (List Int))):FuncId×List Av×Ef:=(48,(Ep:List Av).map (Bh 1000 25),wrI 25 (.cells [lst 1 (fun x=>[.i x]) (AU l 2),.i 0] 146) (tI (GJ l).1) (.cells (AD.c (GJ l).2) 146))
def Z5o (l:(List (List Int))):Blk:=.cells (AD.c (GJ l).2) 146
def Z5p (l:(List (List Int))):AW:=bif decide (((AA (AD.mk (AU l 2) 0) 3).1:Int)=0) then (GB (An.mk 0 0 400 400) 50) else (Cn (An.mk 0 0 400 400))
def Z5q (l:(List (List Int))):FuncId×List Av×Ef:=(48,(Ep:List Av).map (Bh 1000 25),wrI 25 (.cells (AD.c (GJ l).2) 146) (tI (AA (GJ l).2 3).1) (.cells (AD.c (AA (GJ l).2 3).2) 146))
abbrev Z5r (l:(List (List Int))):AD:=(AA (AA (AD.mk (AU l 2) 0) 3).2 3).2
def Z5s (l:(List (List Int))):Tv:=tI (W64 (1+(AA (GJ l).2 3).1))
abbrev LX (l:List (List Int)) (t_:List Cl):List Cl:=(.i 2)::(.i (Z5p l).Kind)::(lst 7 AE.c (Z5p l).Edges)::(.i (Z5p l).R)::t_
def Z5t (l:(List (List Int))):Blk:=.cells (LX l [vN,.own 31 2 3,vN,vN,vN,vN,vN,vN,vN,vN,vN]) 40
def Z5u (l:(List (List Int))):Blk:=.cells [lst 1 (fun x=>[.i x]) (AU l 3),.i 0] 146
def Z5v:Blk:=.row 7 ([]:List AG).length (Ak AG.c ([]:List AG)) 49
def Z5w (l:(List (List Int))):Blk:=.cells (LX l [.own 100000 7 ([]:List AG).length,.own 31 2 3,vN,vN,vN,vN,vN,vN,vN,vN,vN]) 40
def Z5x (l:(List (List Int))) (v6_4:List AG):Blk:=.cells (LX l [.own 100000 7 v6_4.length,.own 31 2 3,vN,vN,vN,vN,vN,vN,vN,vN,vN]) 40
def Z5y (v6_4:List AG):Blk:=.row 7 v6_4.length (Ak AG.c v6_4) 49
def Z5z (v5:AD):FuncId×List Av×Ef:=(48,(HC:List Av).map (Bh 1000 25),wrI 25 (La v5) (tI (AA v5 2).1) (Lk v5))
abbrev GI (v5:AD):=AA (AA v5 2).2 4
def Z5A (v5:AD):FuncId×List Av×Ef:=(48,(Jh:List Av).map (Bh 1000 25),wrI 25 (Lk v5) (tI (GI v5).1) (.cells (AD.c (GI v5).2) 146))
def Z5B (v5:AD):FuncId×List Av×Ef:=(48,(Ep:List Av).map (Bh 1000 25),wrI 25 (.cells (AD.c (GI v5).2) 146) (tI (AA (GI v5).2 3).1) (.cells (AD.c (AA (GI v5).2 3).2) 146))
abbrev Z5C (v5:AD):AD:=(AA (AA (AA v5 2).2 4).2 3).2
abbrev GF (v5:AD):=AA (Z5C v5) 5
def Z5D (v5:AD):FuncId×List Av×Ef:=(48,(KE:List Av).map (Bh 1000 25),wrI 25 (.cells (AD.c (Z5C v5)) 146) (tI (GF v5).1) (.cells (AD.c (GF v5).2) 146))
def Z5E (v5:AD):FuncId×List Av×Ef:=(48,(Ep:List Av).map (Bh 1000 25),wrI 25 (.cells (AD.c (GF v5).2) 146) (tI (AA (GF v5).2 3).1) (.cells (AD.c (AA (GF v5).2 3).2) 146))
abbrev Z5F (v5:AD):AD:=(AA (AA (Z5C v5) 5).2 3).2
def Z5G (v5:AD):FuncId×List Av×Ef:=(48,(Ep:List Av).map (Bh 1000 25),wrI 25 (.cells (AD.c (Z5F v5)) 146) (tI (AA (Z5F v5) 3).1) (.cells (AD.c (AA (Z5F v5) 3).2) 146))
def Z5H (v5:AD):Blk:=.cells (AD.c (AA (Z5F v5) 3).2) 146
abbrev Km (v5:AD):Bool:=(decide (((AA (GI v5).2 3).1:Int)=0))
abbrev Xm (v8:Int) (v5:AD):=AB.mk (W64 ((W64 (80+(W64 (100*v8))))+(W64 (5*(GF v5).1)))) (W64 ((W64 (100+(W64 (80*(AA (GF v5).2 3).1))))+(W64 (5*(AA (Z5F v5) 3).1))))
def Z5I (l:(List (List Int))) (v6_4:List AG) (v8:Int) (v5:AD):Blk:=.cells (LX l [.own 86 7 (v6_4++[AG.mk (W64 (1+v8)) (([({ data := #[82,49] }:ByteArray),({ data := #[82,50] }:ByteArray),({ data := #[120,47,82,49] }:ByteArray)]:List ByteArray).getD v8.toNat ⟨#[]⟩) ([Z5h l,Z5i l].getD (AA v5 2).1.toNat default).Name (Xm v8 v5) (GI v5).1 (Km v5)]).length,.own 31 2 3,vN,vN,vN,vN,vN,vN,vN,vN,vN]) 40
def Z5J (v6_4:List AG) (v8:Int) (l:(List (List Int))) (v5:AD):Blk:=.row 7 (v6_4++[AG.mk (W64 (1+v8)) (([({ data := #[82,49] }:ByteArray),({ data := #[82,50] }:ByteArray),({ data := #[120,47,82,49] }:ByteArray)]:List ByteArray).getD v8.toNat ⟨#[]⟩) ([Z5h l,Z5i l].getD (AA v5 2).1.toNat default).Name (Xm v8 v5) (GI v5).1 (Km v5)]).length (Ak AG.c (v6_4++[AG.mk (W64 (1+v8)) (([({ data := #[82,49] }:ByteArray),({ data := #[82,50] }:ByteArray),({ data := #[120,47,82,49] }:ByteArray)]:List ByteArray).getD v8.toNat ⟨#[]⟩) ([Z5h l,Z5i l].getD (AA v5 2).1.toNat default).Name (Xm v8 v5) (GI v5).1 (Km v5)])) 49
def Z5K:Blk:=.row 2 ([]:List Ac).length (Ak Ac.c ([]:List Ac)) 65
def Z5L (v31_1:List Ac):Blk:=.row 2 v31_1.length (Ak Ac.c v31_1) 65
def Z5M (v31_3:List Ac):Blk:=.row 2 v31_3.length (Ak Ac.c v31_3) 65
def Z5N (v31_5:List Ac):Blk:=.row 2 v31_5.length (Ak Ac.c v31_5) 65
def Z5O (l:(List (List Int))) (v6_4:List AG):Blk:=.cells (LX l [lst 7 AG.c v6_4,.own 31 2 3,vN,vN,vN,vN,vN,vN,vN,vN,vN]) 40
def Z5P (v10:Int) (l:(List (List Int))):Tv:=tB (decide ((v10:Int)<(W64 (1+(AA (GJ l).2 3).1))))
def Z5Q (l:(List (List Int))) (v6_4:List AG) (v10:Int):AL:=(BX [Z5h l,Z5i l] (v6_4.getD v10.toNat default).Type').1
def Z5R (l:(List (List Int))) (v6_4:List AG) (v10:Int):Blk:=.cells (AL.c (Z5Q l v6_4 v10)) 61
def Z5S (v31_1':List Ac):Blk:=.row 2 v31_1'.length (Ak Ac.c v31_1') 65
def Z5T (v31_3':List Ac):Blk:=.row 2 v31_3'.length (Ak Ac.c v31_3') 65
def Z5U (v31_5':List Ac):Blk:=.row 2 v31_5'.length (Ak Ac.c v31_5') 65
def Z5V (v5'':AD):FuncId×List Av×Ef:=(48,(KE:List Av).map (Bh 1000 91),wrI 91 (.cells (AD.c v5'') 146) (tI (AA v5'' 5).1) (.cells (AD.c (AA v5'' 5).2) 146))
abbrev IJ (v6_4:List AG) (v10:Int) (l:List (List Int)) (v13:Int):=[Ac.mk (v6_4.getD v10.toNat default).Ref ((Z5Q l v6_4 v10).Pads.getD v13.toNat default).Name]
def Z5W (v31_1':List Ac) (v6_4:List AG) (v10:Int) (l:(List (List Int))) (v13:Int):Blk:=.row 2 (v31_1'++(IJ v6_4 v10 l v13)).length (Ak Ac.c (v31_1'++(IJ v6_4 v10 l v13))) 65
def Z5X (v31_3':List Ac) (v6_4:List AG) (v10:Int) (l:(List (List Int))) (v13:Int):Blk:=.row 2 (v31_3'++(IJ v6_4 v10 l v13)).length (Ak Ac.c (v31_3'++(IJ v6_4 v10 l v13))) 65
def Z5Y (v31_5':List Ac) (v6_4:List AG) (v10:Int) (l:(List (List Int))) (v13:Int):Blk:=.row 2 (v31_5'++(IJ v6_4 v10 l v13)).length (Ak Ac.c (v31_5'++(IJ v6_4 v10 l v13))) 65
def Z5Z (v5'':AD) (v31_1':List Ac) (v6_4:List AG) (v10:Int) (l:(List (List Int))) (v13:Int):(List Ac):=bif decide (((AA v5'' 5).1:Int)<3) then (bif decide (((AA v5'' 5).1:Int)=0) then (v31_1'++[Ac.mk (v6_4.getD v10.toNat default).Ref ((Z5Q l v6_4 v10).Pads.getD v13.toNat default).Name]) else v31_1') else v31_1'
def Z60 (v5'':AD) (v31_3':List Ac) (v6_4:List AG) (v10:Int) (l:(List (List Int))) (v13:Int):(List Ac):=bif decide (((AA v5'' 5).1:Int)<3) then (bif decide (((AA v5'' 5).1:Int)=0) then v31_3' else (bif decide (((AA v5'' 5).1:Int)=1) then (v31_3'++[Ac.mk (v6_4.getD v10.toNat default).Ref ((Z5Q l v6_4 v10).Pads.getD v13.toNat default).Name]) else v31_3')) else v31_3'
def Z61 (v5'':AD) (v31_5':List Ac) (v6_4:List AG) (v10:Int) (l:(List (List Int))) (v13:Int):(List Ac):=bif decide (((AA v5'' 5).1:Int)<3) then (bif decide (((AA v5'' 5).1:Int)=0) then v31_5' else (bif decide (((AA v5'' 5).1:Int)=1) then v31_5' else (v31_5'++[Ac.mk (v6_4.getD v10.toNat default).Ref ((Z5Q l v6_4 v10).Pads.getD v13.toNat default).Name]))) else v31_5'
def Z62 (v5'':AD) (v31_1':List Ac) (v6_4:List AG) (v10:Int) (l:(List (List Int))) (v13:Int):Blk:=.row 2 (Z5Z v5'' v31_1' v6_4 v10 l v13).length (Ak Ac.c (Z5Z v5'' v31_1' v6_4 v10 l v13)) 65
def Z63 (v5'':AD) (v31_3':List Ac) (v6_4:List AG) (v10:Int) (l:(List (List Int))) (v13:Int):Blk:=.row 2 (Z60 v5'' v31_3' v6_4 v10 l v13).length (Ak Ac.c (Z60 v5'' v31_3' v6_4 v10 l v13)) 65
def Z64 (v5'':AD) (v31_5':List Ac) (v6_4:List AG) (v10:Int) (l:(List (List Int))) (v13:Int):Blk:=.row 2 (Z61 v5'' v31_5' v6_4 v10 l v13).length (Ak Ac.c (Z61 v5'' v31_5' v6_4 v10 l v13)) 65
def Z65 (l:(List (List Int))) (v6_4:List AG) (v31_1:List Ac) (v31_3:List Ac) (v31_5:List Ac):AF:=BA (AF.mk 2 (Z5p l) v6_4 [BO.mk ({ data := #[78,49] }:ByteArray) v31_1,BO.mk ({ data := #[78,50] }:ByteArray) v31_3,BO.mk ({ data := #[71,78,68] }:ByteArray) v31_5] [] [] [] [] [] [] [] [] []) [Z5h l,Z5i l] l
abbrev bA (l:List (List Int)) (v6_4:List AG) (v31_1:List Ac) (v31_3:List Ac) (v31_5:List Ac):List Cl:=[.i (Z65 l v6_4 v31_1 v31_3 v31_5).Layers,.i (Z65 l v6_4 v31_1 v31_3 v31_5).Outline.Kind,lst 7 AE.c (Z65 l v6_4 v31_1 v31_3 v31_5).Outline.Edges,.i (Z65 l v6_4 v31_1 v31_3 v31_5).Outline.R,lst 7 AG.c (Z65 l v6_4 v31_1 v31_3 v31_5).Parts,lst 2 BO.c (Z65 l v6_4 v31_1 v31_3 v31_5).Nets,lst 6 Az.c (Z65 l v6_4 v31_1 v31_3 v31_5).Tracks,lst 8 CG.c (Z65 l v6_4 v31_1 v31_3 v31_5).Vias,lst 8 Bk.c (Z65 l v6_4 v31_1 v31_3 v31_5).Pours,lst 5 Cs.c (Z65 l v6_4 v31_1 v31_3 v31_5).Keeps,lst 4 Dh.c (Z65 l v6_4 v31_1 v31_3 v31_5).Slots,vN,vN,vN,vN]
def Z66 (l:(List (List Int))) (v6_4:List AG) (v31_1:List Ac) (v31_3:List Ac) (v31_5:List Ac):FuncId×List Av×Ef:=(50,([.one (.ptr 1000 0),.one (lst 3 AL.c [Z5h l,Z5i l]),.one (lst 1 (fun x=>[lst 1 (fun x=>[.i x]) x]) l)]:List Av).map (Bh 1000 6),wrI 6 (.cells (LX l [lst 7 AG.c v6_4,lst 2 BO.c [BO.mk ({ data := #[78,49] }:ByteArray) v31_1,BO.mk ({ data := #[78,50] }:ByteArray) v31_3,BO.mk ({ data := #[71,78,68] }:ByteArray) v31_5],vN,vN,vN,vN,vN,vN,vN,vN,vN]) 40) (.tup []) (.cells (bA l v6_4 v31_1 v31_3 v31_5) 40))
def Z67 (l:(List (List Int))) (v6_4:List AG) (v31_1:List Ac) (v31_3:List Ac) (v31_5:List Ac):AF×AD:=DN (AF.mk (Z65 l v6_4 v31_1 v31_3 v31_5).Layers (Z65 l v6_4 v31_1 v31_3 v31_5).Outline (Z65 l v6_4 v31_1 v31_3 v31_5).Parts (Z65 l v6_4 v31_1 v31_3 v31_5).Nets (Z65 l v6_4 v31_1 v31_3 v31_5).Tracks (Z65 l v6_4 v31_1 v31_3 v31_5).Vias (Z65 l v6_4 v31_1 v31_3 v31_5).Pours (Z65 l v6_4 v31_1 v31_3 v31_5).Keeps (Z65 l v6_4 v31_1 v31_3 v31_5).Slots [] [] [] []) (AD.mk (AU l 7) 0)
def Z68 (l:(List (List Int))) (v6_4:List AG) (v31_1:List Ac) (v31_3:List Ac) (v31_5:List Ac):FuncId×List Av×Ef:=(51,(Np:List Av).map (E9 1000 6 1001 151),gO 6 151 (.cells (bA l v6_4 v31_1 v31_3 v31_5) 40) (.cells [lst 1 (fun x=>[.i x]) (AU l 7),.i 0] 146) (.tup []) (.cells (AF.c (Z67 l v6_4 v31_1 v31_3 v31_5).1) 40) (.cells (AD.c (Z67 l v6_4 v31_1 v31_3 v31_5).2) 146))
def Z69:Blk:=.rowx 2 3 (fun _ _=>default) 84 [(0,[.s ({ data := #[78,49] }:ByteArray),.own 100001 2 ([]:List Ac).length]),(1,[.s ({ data := #[78,50] }:ByteArray),.own 100002 2 ([]:List Ac).length]),(2,[.s ({ data := #[71,78,68] }:ByteArray),.own 100003 2 ([]:List Ac).length])]
def Z6a (v31_1:List Ac) (v31_3:List Ac) (v31_5:List Ac):Blk:=.rowx 2 3 (fun _ _=>default) 84 [(0,[.s ({ data := #[78,49] }:ByteArray),.own 100001 2 v31_1.length]),(1,[.s ({ data := #[78,50] }:ByteArray),.own 100002 2 v31_3.length]),(2,[.s ({ data := #[71,78,68] }:ByteArray),.own 100003 2 v31_5.length])]
def Z6b (v31_1':List Ac) (v31_3':List Ac) (v31_5':List Ac):Blk:=.rowx 2 3 (fun _ _=>default) 84 [(0,[.s ({ data := #[78,49] }:ByteArray),.own 100001 2 v31_1'.length]),(1,[.s ({ data := #[78,50] }:ByteArray),.own 100002 2 v31_3'.length]),(2,[.s ({ data := #[71,78,68] }:ByteArray),.own 100003 2 v31_5'.length])]
def Z6c (v31_1':List Ac) (v6_4:List AG) (v10:Int) (l:(List (List Int))) (v13:Int) (v31_3':List Ac) (v31_5':List Ac):Blk:=.rowx 2 3 (fun _ _=>default) 84 [(0,[.s ({ data := #[78,49] }:ByteArray),.own 100004 2 (v31_1'++(IJ v6_4 v10 l v13)).length]),(1,[.s ({ data := #[78,50] }:ByteArray),.own 100005 2 v31_3'.length]),(2,[.s ({ data := #[71,78,68] }:ByteArray),.own 100006 2 v31_5'.length])]
def Z6d (v31_1':List Ac) (v31_3':List Ac) (v6_4:List AG) (v10:Int) (l:(List (List Int))) (v13:Int) (v31_5':List Ac):Blk:=.rowx 2 3 (fun _ _=>default) 84 [(0,[.s ({ data := #[78,49] }:ByteArray),.own 100004 2 v31_1'.length]),(1,[.s ({ data := #[78,50] }:ByteArray),.own 100005 2 (v31_3'++(IJ v6_4 v10 l v13)).length]),(2,[.s ({ data := #[71,78,68] }:ByteArray),.own 100006 2 v31_5'.length])]
def Z6e (v31_1':List Ac) (v31_3':List Ac) (v31_5':List Ac) (v6_4:List AG) (v10:Int) (l:(List (List Int))) (v13:Int):Blk:=.rowx 2 3 (fun _ _=>default) 84 [(0,[.s ({ data := #[78,49] }:ByteArray),.own 100004 2 v31_1'.length]),(1,[.s ({ data := #[78,50] }:ByteArray),.own 100005 2 v31_3'.length]),(2,[.s ({ data := #[71,78,68] }:ByteArray),.own 100006 2 (v31_5'++(IJ v6_4 v10 l v13)).length])]
def C6 (l:(List (List Int))) (v6_4:List AG) (v5:AD) (v8:Int) (v31_1:List Ac) (v31_3:List Ac) (v31_5:List Ac) (v5':AD) (v10:Int) (K0:List AG->AD->Int->(AF×(List AL))) (K1:List Ac->List Ac->List Ac->AD->Int->(AF×(List AL))):Nat->List Ac->List Ac->List Ac->AD->Int->(AF×(List AL))
 | 0,_,_,_,_,_=>default
 | n2+1,v31_1',v31_3',v31_5',v5'',v13=>bif decide ((v13:Int)<((Z5Q l v6_4 v10).Pads.length:Int)) then ((C6 l v6_4 v5 v8 v31_1 v31_3 v31_5 v5' v10 K0 K1 n2) (Z5Z v5'' v31_1' v6_4 v10 l v13) (Z60 v5'' v31_3' v6_4 v10 l v13) (Z61 v5'' v31_5' v6_4 v10 l v13) (AA v5'' 5).2 (v13+1)) else (K1 v31_1' v31_3' v31_5' v5'' (v10+1))
def Co (l:(List (List Int))) (v6_4:List AG) (v5:AD) (v8:Int) (K0:List AG->AD->Int->(AF×(List AL))):Nat->List Ac->List Ac->List Ac->AD->Int->(AF×(List AL))
 | 0,_,_,_,_,_=>default
 | n1+1,v31_1,v31_3,v31_5,v5',v10=>bif decide ((v10:Int)<(W64 (1+(AA (AA (AD.mk (AU l 2) 0) 3).2 3).1))) then (C6 l v6_4 v5 v8 v31_1 v31_3 v31_5 v5' v10 K0 (Co l v6_4 v5 v8 K0 n1) ((((Z5Q l v6_4 v10).Pads.length:Int)-0).toNat+1) v31_1 v31_3 v31_5 v5' 0) else ((Z67 l v6_4 v31_1 v31_3 v31_5).1,[Z5h l,Z5i l])
def CM (l:(List (List Int))):Nat->List AG->AD->Int->(AF×(List AL))
 | 0,_,_,_=>default
 | n0+1,v6_4,v5,v8=>bif decide ((v8:Int)<(W64 (1+(AA (AA (AD.mk (AU l 2) 0) 3).2 3).1))) then ((CM l n0) (v6_4++[AG.mk (W64 (1+v8)) (([({ data := #[82,49] }:ByteArray),({ data := #[82,50] }:ByteArray),({ data := #[120,47,82,49] }:ByteArray)]:List ByteArray).getD v8.toNat ⟨#[]⟩) ([Z5h l,Z5i l].getD (AA v5 2).1.toNat default).Name (AB.mk (W64 ((W64 (80+(W64 (100*v8))))+(W64 (5*(AA (Z5C v5) 5).1)))) (W64 ((W64 (100+(W64 (80*(AA (AA (Z5C v5) 5).2 3).1))))+(W64 (5*(AA (Z5F v5) 3).1))))) (AA (AA v5 2).2 4).1 (decide (((AA (AA (AA v5 2).2 4).2 3).1:Int)=0))]) (AA (Z5F v5) 3).2 (v8+1)) else (Co l v6_4 v5 v8 (CM l n0) (((W64 (1+(AA (AA (AD.mk (AU l 2) 0) 3).2 3).1))-0).toNat+1) ([]:List Ac) ([]:List Ac) ([]:List Ac) (AD.mk (AU l 3) 0) 0)
def Cj (l:(List (List Int))):(AF×(List AL)):=CM l (((W64 (1+(AA (AA (AD.mk (AU l 2) 0) 3).2 3).1))-0).toNat+1) ([]:List AG) (Z5r l) 0
def JR (l:(List (List Int))):FuncId×List Av×Ef:=(20,[.one (lst 1 (fun x=>[lst 1 (fun x=>[.i x]) x]) l)],.val [] (.tup [.agg (AF.c (Cj l).1),.one (lst 3 AL.c (Cj l).2)]))
abbrev Gk (v5'':AD):Nat×Blk:=(91,.cells (AD.c (AA v5'' 5).2) 146)
abbrev Ii (v5':AD):Nat×Blk:=(91,.cells (AD.c v5') 146)
abbrev Tr (v6_4:List AG) (v10:Int) (l:List (List Int)) (v13:Int):=A8 2 1 [.s (v6_4.getD v10.toNat default).Ref,.s ((Z5Q l v6_4 v10).Pads.getD v13.toNat default).Name]
abbrev Nc (l:List (List Int)):Nat×Blk:=(25,.cells (AD.c (Z5r l)) 146)
abbrev CP (l:List (List Int)) (t_:List (Nat×Tv)):List (Nat×Tv):=(0,Z5f l)::(2,tP 2 0)::(4,Z5j l)::(5,tP 91 0)::(6,tP 6 0)::(7,Z5s l)::t_
abbrev D0 (l:List (List Int)) (t_:List (Nat×Tv)):List (Nat×Tv):=(0,Z5f l)::(2,tP 2 0)::(4,Z5j l)::(5,tP 25 0)::t_
abbrev D5 (l:List (List Int)) (v6_4:List AG) (v10:Int) (t_:List (Nat×Blk)):List (Nat×Blk):=(2,Z5g)::(6,Z5x l v6_4)::(11,Z5R l v6_4 v10)::t_
theorem au10 {p:Prop} (h:p:=by first | (with_reducible exact DH hll _) | with_reducible assumption | omega | decide | (simp only [List.length_cons,List.length_nil,List.length_append];omega) | (exact Yk (by assumption)) | ((refine And.intro ?_ ?_ <;> simp;done)) | ((simp only;exact iL (Gr _ _ _) (by show (v6_4.length:Int)≤_;omega))) | ((simp only;exact cS (Gr _ _ _) (by show 1≤(v6_4.length:Int);omega))) | ((simp only;exact iI (Gr _ _ _))) | ((simp only;exact iH (Gr _ _ _))) | ((simp only;exact iK (Gr _ _ _))) | ((simp only;exact iM (Gr _ _ _))) | ((simp only;exact iJ (Gr _ _ _))) | assumption):p:=h
theorem au11 {p:Prop} (h:p:=by first | exact JG _ _ _ (by decide) (by decide) (by decide) | exact gQ | exact YJ (by omega) (by omega) | decide | omega):p:=h
theorem au16 {p:Prop} (h:p:=by first | (unfold Cz at *;unfold maxLen;omega) | (unfold Cz at *;omega) | (unfold maxLen;omega) | omega | (simp only [dD,dC,dB];omega)):p:=h
set_option maxHeartbeats 4000000 in
theorem cI (l:(List (List Int))) (hl:(l.length:Int)<=9223372036854775807) (hll:∀ x∈l,(x.length:Int)<=9223372036854775807):BH Tryz.prog 20 (JR l).2.1 (.tup [.agg (AF.c (Cj l).1),.one (lst 3 AL.c (Cj l).2)]):=by
 refine AO Tryz.func20 rfl kr kr fun W0 M0 => ?_
 have hmany:1<=W64 (1+(AA (AA (AD.mk (AU l 2) 0) 3).2 3).1):=by have:=Cx (AA (AD.mk (AU l 2) 0) 3).2 3 (by decide) (by decide);rw [Al (by omega) (by omega)];omega
 refine AC<|rn ⟨[(0,Z5f l),(2,tP 2 0)],[(2,Z5g)]⟩<|AC ?_
 refine rc [(16,Du l 0),(17,Gv (AU l 0) ({ data := #[82] }:ByteArray)),(19,Du l 1),(20,Gv (AU l 1) ({ data := #[81] }:ByteArray))] [Ap (Du l 0).2.1,Ap (Gv (AU l 0) ({ data := #[82] }:ByteArray)).2.1,Ap (Du l 1).2.1,Ap (Gv (AU l 1) ({ data := #[81] }:ByteArray)).2.1] ⟨[(0,Z5f l),(2,tP 2 0),(4,.av (.one (.list true 3 2 (A8 3 2 [.s (Z5h l).Name,lst 7 Ay.c (Z5h l).Pads,lst 2 A0.c (Z5h l).Gates,.s (Z5i l).Name,lst 7 Ay.c (Z5i l).Pads,lst 2 A0.c (Z5i l).Gates]))))],[(2,Z5g)]⟩ (.cons (FY l 0 au10) (.cons (Sb (AU l 0) ({ data := #[82] }:ByteArray) au10) (.cons (FY l 1 au10) (.cons (Sb (AU l 1) ({ data := #[81] }:ByteArray) au10) .nil)))) (.cons rfl (.cons rfl (.cons rfl (.cons rfl .nil))))<|AH ?_
 refine Bq (Cv.trans (BS (⟨[(0,Z5f l),(2,tP 2 0),(4,Z5j l)],[(2,Z5g)]⟩) (.cons ⟨rfl,.refl _⟩ (.cons ⟨rfl,.refl _⟩ (.cons ⟨rfl,.av (.one (Bj true (A3 (c:=AL.c) (xs:=([Z5h l,Z5i l]:List AL)) rfl kr)))⟩ .nil))) lr) (Cv.refl _))<|AC ?_
 refine rs 23 (Du l 2) ⟨(D0 l []),[(2,Z5g),(25,Z5k l)]⟩ (FY l 2 au10)<|AH<|AC ?_
 refine DF D3 [31] [] [(27,Ga KA)] [0,2,4,5,6] [2,6,25,31] [Ap (Ga (An.mk 0 0 400 400)).2.1] ⟨(D0 l [(6,tP 6 0)]),[(2,Z5g),(6,Z5l),(25,Z5k l),(31,.row 2 3 (A8 2 3 [.s ({ data := #[78,49] }:ByteArray),vN,.s ({ data := #[78,50] }:ByteArray),vN,.s ({ data := #[71,78,68] }:ByteArray),vN]) 84)]⟩ (.cons (M7 (An.mk 0 0 400 400)) .nil) kr (.cons rfl .nil)<|AH ?_
 refine Bq (Cv.trans (Z2 (⟨(D0 l [(6,tP 6 0)]),[(2,Z5g),(6,Z5l),(25,Z5k l),(31,Z5m)]⟩) 31 2 3 (A8 2 3 [.s ({ data := #[78,49] }:ByteArray),vN,.s ({ data := #[78,50] }:ByteArray),vN,.s ({ data := #[71,78,68] }:ByteArray),vN]) 84 kr kr kr) (Cv.refl _))<|AC<|AC ?_
 refine rb 34 (Z5n l) (.cells [lst 1 (fun x=>[.i x]) (AU l 2),.i 0] 146) ⟨(D0 l [(6,tP 6 0),(35,tB (decide (((GJ l).1:Int)=0)))]),[(2,Z5g),(6,Z5l),(25,Z5o l),(31,Z5m)]⟩ (Ag (fun _ _=>kr) kr kr (BJ (AD.mk (AU l 2) 0) 3 au5 au8))<|AH ?_
 refine Bc (⟨[(0,.av (oL l)),(2,tP 2 0),(4,tO (lst 3 AL.c [Z5h l,Z5i l])),(5,tP 25 0),(6,tP 6 0)],[(2,.cells Ry 40),(6,.cells [.i 2,.i (Z5p l).Kind,lst 7 AE.c (Z5p l).Edges,.i (Z5p l).R,vN,.own 31 2 3,vN,vN,vN,vN,vN,vN,vN,vN,vN] 40),(25,.cells (AD.c (GJ l).2) 146),(31,.rowx 2 3 (fun _ _=>default) 84 [(0,[.s ({ data := #[78,49] }:ByteArray),vN]),(1,[.s ({ data := #[78,50] }:ByteArray),vN]),(2,[.s ({ data := #[71,78,68] }:ByteArray),vN])])]⟩) ?_ ?_
 ·refine AY _ rfl (fun h1 => ?_) (fun h1 => ?_)
  ·have g1:=oT h1
   refine rs 37 (HX (An.mk 0 0 400 400) 50) ⟨(D0 l [(6,tP 6 0)]),[(2,Z5g),(6,.cells [.i 2,.i (GB KA 50).Kind,lst 7 AE.c (GB KA 50).Edges,.i (GB KA 50).R,vN,.own 31 2 3,vN,vN,vN,vN,vN,vN,vN,vN,vN] 40),(25,Z5o l),(31,Z5m)]⟩ (UY (An.mk 0 0 400 400) 50)<|AH ?_
   refine A4 ?_
   first | rfl | (simp only [h1,Z5p,cond_true,cond_false] <;> rfl)
  ·have g1:=oF h1
   refine Ae<|AH ?_
   refine Cv.trans (ck (⟨(D0 l [(6,tP 6 0)]),[(2,Z5g),(6,Z5l),(25,Z5o l),(31,Z5m)]⟩)) (A4 ?_)
   first | rfl | (simp only [h1,Z5p,cond_true,cond_false] <;> rfl)
 refine AC<|rb 40 (Z5q l) (.cells (AD.c (AA (AD.mk (AU l 2) 0) 3).2) 146) ⟨(D0 l [(6,tP 6 0),(7,Z5s l)]),[(2,Z5g),(6,Z5t l),(Nc l),(31,Z5m)]⟩ (Ag (fun _ _=>kr) kr kr (BJ (AA (AD.mk (AU l 2) 0) 3).2 3 au5 au8))<|AH ?_
 refine AC<|AC ?_
 refine rn ⟨(D0 l [(6,tP 6 0),(7,Z5s l),(8,tI 0)]),[(2,Z5g),(6,Z5t l),(Nc l),(31,Z5m)]⟩<|Af ?_
 refine Bq (Cv.trans (wg (⟨(D0 l [(6,tP 6 0),(7,Z5s l),(8,tI 0)]),[(100000,.row 7 0 (fun _ _=>default) 49),(2,Z5g),(6,.cells [.i 2,.i (Z5p l).Kind,lst 7 AE.c (Z5p l).Edges,.i (Z5p l).R,.own 100000 7 0,.own 31 2 3,vN,vN,vN,vN,vN,vN,vN,vN,vN] 40),(Nc l),(31,Z5m)]⟩) 100000 7 (fun _ _=>default) 49 [] [(6,[4])] (K:=[]) (fun k x h=>by cases h)) (Cv.trans (BS (⟨(D0 l [(6,tP 6 0),(7,Z5s l),(8,tI 0)]),[(100000,Z5v),(2,Z5g),(6,Z5w l),(Nc l),(31,Z5m)]⟩) lr (.cons ⟨rfl,Aw 49 (C3 7 (fun _ _=>default) AG.c)⟩ (.cons ⟨rfl,.refl _⟩ (.cons ⟨rfl,.cells _ (rr (rr (rr (rr (.cons (.own _ _ au2) (rr (rr (rr (rr (rr (rr (rr (rr (rr (rr .nil)))))))))))))))⟩ lr)))) (Cv.trans (ck (⟨(D0 l [(6,tP 6 0),(7,Z5s l),(8,tI 0)]),[(2,Z5g),(6,Z5w l),(Nc l),(31,Z5m),(100000,Z5v)]⟩)) (Cv.refl _)))) ?_
 refine BL (ι:=Nat×List AG×AD×Int) (fun x=>⟨(D0 l [(6,tP 6 0),(7,Z5s l),(8,tI x.2.2.2)]),[(2,Z5g),(6,.cells [.i 2,.i (Z5p l).Kind,lst 7 AE.c (Z5p l).Edges,.i (Z5p l).R,.own 100000 7 x.2.1.length,.own 31 2 3,vN,vN,vN,vN,vN,vN,vN,vN,vN] 40),(25,.cells (AD.c x.2.2.1) 146),(31,Z5m),(100000,.row 7 x.2.1.length (Ak AG.c x.2.1) 49)]⟩) (fun x=>((W64 (1+(AA (AA (AD.mk (AU l 2) 0) 3).2 3).1))-x.2.2.2).toNat<x.1/\((x.2.1.length:Int)=x.2.2.2/\PA [A1 (AU l 0) ({ data := #[82] }:ByteArray),A1 (AU l 1) ({ data := #[81] }:ByteArray)] x.2.1/\Ba x.2.2.1/\0<=x.2.2.2/\(x.2.2.2<=(W64 (1+(AA (AA (AD.mk (AU l 2) 0) 3).2 3).1))\/x.2.2.2=0)/\(x.2.1.length:Int)<=0+1*(x.2.2.2-0))/\CM l x.1 x.2.1 x.2.2.1 x.2.2.2=Cj l) (fun x=>x.1) ?_ (((W64 (1+(AA (AA (AD.mk (AU l 2) 0) 3).2 3).1))-0).toNat+1,([]:List AG),Z5r l,0) ⟨Nat.lt_succ_self _,⟨ax0,(by show PA [A1 (AU l 0) ({ data := #[82] }:ByteArray),A1 (AU l 1) ({ data := #[81] }:ByteArray)] ([]:List AG);first | exact VW | exact VX (by assumption) (Pc _ _ _ (Cx _ 2 (by decide) (by decide))) | assumption),(by show Ba (Z5r l);repeat (first | with_reducible assumption | exact CX (DH hll _) | with_reducible refine BI ?_ | with_reducible refine EU ?_ | with_reducible refine DY ?_ | with_reducible refine C5 ?_  | with_reducible refine Ce ?_ ?_)),ax0,ax0,ax0⟩,(by simp only [Cj,cond_true,cond_false])⟩
 rintro ⟨n0,v6_4,v5,v8⟩ ⟨hn,hinv,hF⟩
 have hm0:=hn;have hinv0:=hinv;have hF0:=hF;try dsimp only at hm0 hinv0 hF0
 clear hn hinv hF
 cases n0 with
 | zero=>exact absurd hm0 (Nat.not_lt_zero _)
 | succ n0 =>
  have hi0_1:=hinv0.2.1
  have hi0_2:=hinv0.2.2.1
  refine AC<|AC ?_
  refine rn ⟨(D0 l [(6,tP 6 0),(7,Z5s l),(8,tI v8),(44,tB (decide ((v8:Int)<(W64 (1+(AA (AA (AD.mk (AU l 2) 0) 3).2 3).1)))))]),[(2,Z5g),(6,Z5x l v6_4),(25,.cells (AD.c v5) 146),(31,Z5m),(100000,Z5y v6_4)]⟩ ?_
  refine AY (decide ((v8:Int)<(W64 (1+(AA (AA (AD.mk (AU l 2) 0) 3).2 3).1)))) kr (fun h1 => ?_) (fun h1 => ?_)
  ·have g1:=oT h1
   have k1:=RS g1 (by decide) (by decide) (by decide) (by decide)
   have kk1:=OV g1 (by decide) (by decide) (by decide) (by decide)
   refine Ae<|AH ?_
   refine AC<|Af<|AC ?_
   refine dw [] [(55,(Z5z v5)),(60,(Z5A v5)),(62,(Z5B v5))] [0<=(v8:Int)/\(v8:Int)<((3:Nat):Int),Ap (Z5z v5).2.1,Bo (La v5),0<=((AA v5 2).1:Int)/\((AA v5 2).1:Int)<(([Z5h l,Z5i l].length:Nat):Int),Ap (Z5A v5).2.1,Bo (Lk v5),Ap (Z5B v5).2.1,Bo (.cells (AD.c (AA (AA v5 2).2 4).2) 146)] ⟨(D0 l [(6,tP 6 0),(7,Z5s l),(8,tI v8),(9,tP 9 0)]),[(2,Z5g),(6,Z5x l v6_4),(9,.cells [.i (W64 (1+v8)),.s (([({ data := #[82,49] }:ByteArray),({ data := #[82,50] }:ByteArray),({ data := #[120,47,82,49] }:ByteArray)]:List ByteArray).getD v8.toNat ⟨#[]⟩),.s ([Z5h l,Z5i l].getD (AA v5 2).1.toNat default).Name,.i 0,.i 0,.i (GI v5).1,.b (Km v5)] 49),(25,.cells (AD.c (Z5C v5)) 146),(31,Z5m),(100000,Z5y v6_4)]⟩ (.cons (Ag (fun _ _=>kr) kr kr (BJ v5 2 au5 au8)) (.cons (Ag (fun _ _=>kr) kr kr (BJ (AA v5 2).2 4 au5 au8)) (.cons (Ag (fun _ _=>kr) kr kr (BJ (AA (AA v5 2).2 4).2 3 au5 au8)) .nil))) (.cons au11 (.cons rfl (.cons rfl (.cons au11 (.cons rfl (.cons rfl (.cons rfl (.cons rfl .nil))))))))<|AH<|AC ?_
   refine rc [(69,(Z5D v5)),(73,(Z5E v5)),(77,(Z5G v5))] [Ap (Z5D v5).2.1,Bo (.cells (AD.c (Z5C v5)) 146),Ap (Z5E v5).2.1,Bo (.cells (AD.c (AA (Z5C v5) 5).2) 146),Ap (Z5G v5).2.1,Bo (.cells (AD.c (Z5F v5)) 146)] ⟨(D0 l [(6,tP 6 0),(7,Z5s l),(8,tI v8),(9,tP 9 0)]),[(2,Z5g),(6,Z5x l v6_4),(9,.cells [.i (W64 (1+v8)),.s (([({ data := #[82,49] }:ByteArray),({ data := #[82,50] }:ByteArray),({ data := #[120,47,82,49] }:ByteArray)]:List ByteArray).getD v8.toNat ⟨#[]⟩),.s ([Z5h l,Z5i l].getD (AA v5 2).1.toNat default).Name,.i (W64 ((W64 (80+(W64 (100*v8))))+(W64 (5*(GF v5).1)))),.i (W64 ((W64 (100+(W64 (80*(AA (GF v5).2 3).1))))+(W64 (5*(AA (Z5F v5) 3).1)))),.i (GI v5).1,.b (Km v5)] 49),(25,Z5H v5),(31,Z5m),(100000,Z5y v6_4)]⟩ (.cons (Ag (fun _ _=>kr) kr kr (BJ (Z5C v5) 5 au5 au8)) (.cons (Ag (fun _ _=>kr) kr kr (BJ (AA (Z5C v5) 5).2 3 au5 au8)) (.cons (Ag (fun _ _=>kr) kr kr (BJ (Z5F v5) 3 au5 au8)) .nil))) (.cons rfl (.cons rfl (.cons rfl (.cons rfl (.cons rfl (.cons rfl .nil))))))<|AH ?_
   refine rc [] [v6_4.length=v6_4.length,v6_4.length+1<=maxLen,(v6_4.length+1)*72<=140737488355328] ⟨(D0 l [(6,tP 6 0),(7,Z5s l),(8,tI v8)]),[(2,Z5g),(6,.cells [.i 2,.i (Z5p l).Kind,lst 7 AE.c (Z5p l).Edges,.i (Z5p l).R,.own 86 7 (v6_4.length+1),.own 31 2 3,vN,vN,vN,vN,vN,vN,vN,vN,vN] 40),(25,Z5H v5),(31,Z5m),(86,.row 7 (v6_4.length+1) (fun i_ j_=>if i_<v6_4.length then (Ak AG.c v6_4) i_ j_ else (A8 7 1 [.i (W64 (1+v8)),.s (([({ data := #[82,49] }:ByteArray),({ data := #[82,50] }:ByteArray),({ data := #[120,47,82,49] }:ByteArray)]:List ByteArray).getD v8.toNat ⟨#[]⟩),.s ([Z5h l,Z5i l].getD (AA v5 2).1.toNat default).Name,.i (W64 ((W64 (80+(W64 (100*v8))))+(W64 (5*(GF v5).1)))),.i (W64 ((W64 (100+(W64 (80*(AA (GF v5).2 3).1))))+(W64 (5*(AA (Z5F v5) 3).1)))),.i (GI v5).1,.b (Km v5)]) (i_-v6_4.length) j_) 49)]⟩ .nil (.cons rfl (.cons au16 (.cons au16 .nil)))<|BZ<|AH ?_
   refine Bq (Cv.trans (BS (⟨(D0 l [(6,tP 6 0),(7,Z5s l),(8,tI v8)]),[(2,Z5g),(6,Z5I l v6_4 v8 v5),(25,Z5H v5),(31,Z5m),(86,Z5J v6_4 v8 l v5)]⟩) lr (.cons ⟨rfl,.refl _⟩ (.cons ⟨rfl,.cells _ (rr (rr (rr (rr (.cons (.own _ _ au2) (rr (rr (rr (rr (rr (rr (rr (rr (rr (rr .nil)))))))))))))))⟩ (.cons ⟨rfl,.refl _⟩ (.cons ⟨rfl,.refl _⟩ (.cons ⟨rfl,Aw 49 (Bi (BR 7 AG.c v6_4) (A3 (c:=AG.c) (xs:=([AG.mk (W64 (1+v8)) (([({ data := #[82,49] }:ByteArray),({ data := #[82,50] }:ByteArray),({ data := #[120,47,82,49] }:ByteArray)]:List ByteArray).getD v8.toNat ⟨#[]⟩) ([Z5h l,Z5i l].getD (AA v5 2).1.toNat default).Name (AB.mk (W64 ((W64 (80+(W64 (100*v8))))+(W64 (5*(AA (Z5C v5) 5).1)))) (W64 ((W64 (100+(W64 (80*(AA (AA (Z5C v5) 5).2 3).1))))+(W64 (5*(AA (Z5F v5) 3).1))))) (AA (AA v5 2).2 4).1 (Km v5)]:List AG)) rfl kr))⟩ .nil)))))) (Cv.refl _)) ?_
   refine rg ⟨(D0 l [(6,tP 6 0),(7,Z5s l),(8,tI (W64 (v8+1)))]),[(2,Z5g),(6,Z5I l v6_4 v8 v5),(25,Z5H v5),(31,Z5m),(86,Z5J v6_4 v8 l v5)]⟩ ?_
   (try rw [(show W64 (v8+1)=v8+1 from Al (by omega) au9)])
   refine AH ?_
   refine ⟨(n0,v6_4++[AG.mk (W64 (1+v8)) (([({ data := #[82,49] }:ByteArray),({ data := #[82,50] }:ByteArray),({ data := #[120,47,82,49] }:ByteArray)]:List ByteArray).getD v8.toNat ⟨#[]⟩) ([Z5h l,Z5i l].getD (AA v5 2).1.toNat default).Name (AB.mk (W64 ((W64 (80+(W64 (100*v8))))+(W64 (5*(AA (Z5C v5) 5).1)))) (W64 ((W64 (100+(W64 (80*(AA (AA (Z5C v5) 5).2 3).1))))+(W64 (5*(AA (Z5F v5) 3).1))))) (AA (AA v5 2).2 4).1 (Km v5)],(AA (Z5F v5) 3).2,v8+1),⟨?_,?_,(by rw [<- hF0];simp only [CM,h1,cond_true,cond_false])⟩,Nat.lt_succ_self _,Cv.trans (vr 86 100000 (K:=[]) (fun k x h=>by cases h)) (A4 kr)⟩
   ·show ((W64 (1+(AA (AA (AD.mk (AU l 2) 0) 3).2 3).1))-(v8+1)).toNat<n0;omega
   ·exact ⟨ax0,(by show PA [A1 (AU l 0) ({ data := #[82] }:ByteArray),A1 (AU l 1) ({ data := #[81] }:ByteArray)] (v6_4++[AG.mk (W64 (1+v8)) (([({ data := #[82,49] }:ByteArray),({ data := #[82,50] }:ByteArray),({ data := #[120,47,82,49] }:ByteArray)]:List ByteArray).getD v8.toNat ⟨#[]⟩) ([Z5h l,Z5i l].getD (AA v5 2).1.toNat default).Name (AB.mk (W64 ((W64 (80+(W64 (100*v8))))+(W64 (5*(AA (Z5C v5) 5).1)))) (W64 ((W64 (100+(W64 (80*(AA (AA (Z5C v5) 5).2 3).1))))+(W64 (5*(AA (Z5F v5) 3).1))))) (AA (AA v5 2).2 4).1 (Km v5)]);first | exact VW | exact VX (by assumption) (Pc _ _ _ (Cx _ 2 (by decide) (by decide))) | assumption),(by show Ba ((AA (Z5F v5) 3).2);repeat (first | with_reducible assumption | exact CX (DH hll _) | with_reducible refine BI ?_ | with_reducible refine EU ?_ | with_reducible refine DY ?_ | with_reducible refine C5 ?_  | with_reducible refine Ce ?_ ?_)),ax0,ax0,ax0⟩
  ·have g1:=oF h1
   have k1:=Rc g1 (by decide) (by decide) (by decide) (by decide)
   refine BP<|BE ?_
   refine BE<|BQ ?_
   refine AH<|AC ?_
   refine rs 89 (Du l 3) ⟨(CP l []),[(2,Z5g),(6,Z5x l v6_4),(31,Z5m),(91,Z5u l),(100000,Z5y v6_4)]⟩ (FY l 3 au10)<|AH ?_
   refine AC<|AC ?_
   refine rn ⟨(CP l [(10,tI 0)]),[(2,Z5g),(6,Z5x l v6_4),(31,Z5m),(91,Z5u l),(100000,Z5y v6_4)]⟩<|Af ?_
   refine Bq (Cv.trans (vg 100001 2 (fun _ _=>default) 65 [] [(31,[1])] (K:=[]) (fun k x h=>by cases h)) (Cv.trans (vg 100002 2 (fun _ _=>default) 65 [] [(31,[3])] (K:=[]) (fun k x h=>by cases h)) (Cv.trans (wg (⟨(CP l [(10,tI 0)]),[(100003,.row 2 0 (fun _ _=>default) 65),(100002,.row 2 0 (fun _ _=>default) 65),(100001,.row 2 0 (fun _ _=>default) 65),(2,Z5g),(6,Z5x l v6_4),(31,.rowx 2 3 (fun _ _=>default) 84 [(0,[.s ({ data := #[78,49] }:ByteArray),.own 100001 2 0]),(1,[.s ({ data := #[78,50] }:ByteArray),.own 100002 2 0]),(2,[.s ({ data := #[71,78,68] }:ByteArray),.own 100003 2 0])]),(91,Z5u l),(100000,Z5y v6_4)]⟩) 100003 2 (fun _ _=>default) 65 [] [(31,[5])] (K:=[]) (fun k x h=>by cases h)) (Cv.trans (BS (⟨(CP l [(10,tI 0)]),[(100003,Z5K),(100002,Z5K),(100001,Z5K),(2,Z5g),(6,Z5x l v6_4),(31,Z69),(91,Z5u l),(100000,Z5y v6_4)]⟩) lr (.cons ⟨rfl,Aw 65 (C3 2 (fun _ _=>default) Ac.c)⟩ (.cons ⟨rfl,Aw 65 (C3 2 (fun _ _=>default) Ac.c)⟩ (.cons ⟨rfl,Aw 65 (C3 2 (fun _ _=>default) Ac.c)⟩ (.cons ⟨rfl,.refl _⟩ (.cons ⟨rfl,.refl _⟩ (.cons ⟨rfl,.rowx _ _ _ _ (.cons ⟨rfl,(rr (.cons (.own _ _ au2) .nil))⟩ (.cons ⟨rfl,(rr (.cons (.own _ _ au2) .nil))⟩ (.cons ⟨rfl,(rr (.cons (.own _ _ au2) .nil))⟩ .nil)))⟩ lr))))))) (Cv.trans (ck (⟨(CP l [(10,tI 0)]),[(2,Z5g),(6,Z5x l v6_4),(31,Z69),(91,Z5u l),(100000,Z5y v6_4),(100001,Z5K),(100002,Z5K),(100003,Z5K)]⟩)) (Cv.refl _)))))) ?_
   refine BL (ι:=Nat×List Ac×List Ac×List Ac×AD×Int) (fun x=>⟨(CP l [(10,tI x.2.2.2.2.2)]),[(2,Z5g),(6,Z5x l v6_4),(31,.rowx 2 3 (fun _ _=>default) 84 [(0,[.s ({ data := #[78,49] }:ByteArray),.own 100001 2 x.2.1.length]),(1,[.s ({ data := #[78,50] }:ByteArray),.own 100002 2 x.2.2.1.length]),(2,[.s ({ data := #[71,78,68] }:ByteArray),.own 100003 2 x.2.2.2.1.length])]),(91,.cells (AD.c x.2.2.2.2.1) 146),(100000,Z5y v6_4),(100001,.row 2 x.2.1.length (Ak Ac.c x.2.1) 65),(100002,.row 2 x.2.2.1.length (Ak Ac.c x.2.2.1) 65),(100003,.row 2 x.2.2.2.1.length (Ak Ac.c x.2.2.2.1) 65)]⟩) (fun x=>((W64 (1+(AA (AA (AD.mk (AU l 2) 0) 3).2 3).1))-x.2.2.2.2.2).toNat<x.1/\(Cz x.2.1 (6*x.2.2.2.2.2)/\Cz x.2.2.1 (6*x.2.2.2.2.2)/\Cz x.2.2.2.1 (6*x.2.2.2.2.2)/\Ba x.2.2.2.2.1/\0<=x.2.2.2.2.2/\(x.2.2.2.2.2<=(W64 (1+(AA (AA (AD.mk (AU l 2) 0) 3).2 3).1))\/x.2.2.2.2.2=0))/\Co l v6_4 v5 v8 (CM l n0) x.1 x.2.1 x.2.2.1 x.2.2.2.1 x.2.2.2.2.1 x.2.2.2.2.2=Cj l) (fun x=>x.1) ?_ (((W64 (1+(AA (AA (AD.mk (AU l 2) 0) 3).2 3).1))-0).toNat+1,([]:List Ac),([]:List Ac),([]:List Ac),AD.mk (AU l 3) 0,0) ⟨Nat.lt_succ_self _,⟨(by show Cz ([]:List Ac) (6*0);unfold Cz at *;repeat (first | omega | exact Ed (by omega) | refine Ec ?_ ?_ | (simp;done))),(by show Cz ([]:List Ac) (6*0);unfold Cz at *;repeat (first | omega | exact Ed (by omega) | refine Ec ?_ ?_ | (simp;done))),(by show Cz ([]:List Ac) (6*0);unfold Cz at *;repeat (first | omega | exact Ed (by omega) | refine Ec ?_ ?_ | (simp;done))),(by show Ba (AD.mk (AU l 3) 0);repeat (first | with_reducible assumption | exact CX (DH hll _) | with_reducible refine BI ?_ | with_reducible refine EU ?_ | with_reducible refine DY ?_ | with_reducible refine C5 ?_  | with_reducible refine Ce ?_ ?_)),ax0,ax0⟩,(by rw [<- hF0];simp only [CM,h1,cond_true,cond_false])⟩
   rintro ⟨n1,v31_1,v31_3,v31_5,v5',v10⟩ ⟨hn,hinv,hF⟩
   have hm1:=hn;have hinv1:=hinv;have hF1:=hF;try dsimp only at hm1 hinv1 hF1
   clear hn hinv hF
   cases n1 with
   | zero=>exact absurd hm1 (Nat.not_lt_zero _)
   | succ n1 =>
    have hi1_0:=hinv1.1
    have hi1_1:=hinv1.2.1
    have hi1_2:=hinv1.2.2.1
    have hi1_3:=hinv1.2.2.2.1
    refine AC<|AC ?_
    refine rn ⟨(CP l [(10,tI v10),(94,Z5P v10 l)]),[(2,Z5g),(6,Z5x l v6_4),(31,Z6a v31_1 v31_3 v31_5),(Ii v5'),(100000,Z5y v6_4),(100001,Z5L v31_1),(100002,Z5M v31_3),(100003,Z5N v31_5)]⟩ ?_
    refine AY (decide ((v10:Int)<(W64 (1+(AA (AA (AD.mk (AU l 2) 0) 3).2 3).1)))) kr (fun h2 => ?_) (fun h2 => ?_)
    ·have g2:=oT h2
     have k2:=RS g2 (by decide) (by decide) (by decide) (by decide)
     have kk2:=OV g2 (by decide) (by decide) (by decide) (by decide)
     refine Ae<|AH ?_
     refine AC<|Af<|AC ?_
     refine rc [(105,Ka [Z5h l,Z5i l] (v6_4.getD v10.toNat default).Type')] [0<=(v10:Int)/\(v10:Int)<((v6_4.length:Nat):Int),v10.toNat<v6_4.length,Ap (Ka [Z5h l,Z5i l] (v6_4.getD v10.toNat default).Type').2.1] ⟨(CP l [(10,tI v10),(11,tP 11 0)]),(D5 l v6_4 v10 [(31,Z6a v31_1 v31_3 v31_5),(Ii v5'),(100000,Z5y v6_4),(100001,Z5L v31_1),(100002,Z5M v31_3),(100003,Z5N v31_5)])⟩ (.cons (Vi [Z5h l,Z5i l] (v6_4.getD v10.toNat default).Type' au10) .nil) (.cons au11 (.cons au11 (.cons rfl .nil)))<|AH<|AC ?_
     refine rn ⟨(CP l [(10,tI v10),(11,tP 11 0),(13,tI 0)]),(D5 l v6_4 v10 [(31,Z6a v31_1 v31_3 v31_5),(Ii v5'),(100000,Z5y v6_4),(100001,Z5L v31_1),(100002,Z5M v31_3),(100003,Z5N v31_5)])⟩<|Af ?_
     refine BL (ι:=Nat×List Ac×List Ac×List Ac×AD×Int) (fun x=>⟨(CP l [(10,tI v10),(11,tP 11 0),(13,tI x.2.2.2.2.2)]),(D5 l v6_4 v10 [(31,.rowx 2 3 (fun _ _=>default) 84 [(0,[.s ({ data := #[78,49] }:ByteArray),.own 100001 2 x.2.1.length]),(1,[.s ({ data := #[78,50] }:ByteArray),.own 100002 2 x.2.2.1.length]),(2,[.s ({ data := #[71,78,68] }:ByteArray),.own 100003 2 x.2.2.2.1.length])]),(91,.cells (AD.c x.2.2.2.2.1) 146),(100000,Z5y v6_4),(100001,.row 2 x.2.1.length (Ak Ac.c x.2.1) 65),(100002,.row 2 x.2.2.1.length (Ak Ac.c x.2.2.1) 65),(100003,.row 2 x.2.2.2.1.length (Ak Ac.c x.2.2.2.1) 65)])⟩) (fun x=>(((Z5Q l v6_4 v10).Pads.length:Int)-x.2.2.2.2.2).toNat<x.1/\(Cz x.2.1 (6*v10+x.2.2.2.2.2)/\Cz x.2.2.1 (6*v10+x.2.2.2.2.2)/\Cz x.2.2.2.1 (6*v10+x.2.2.2.2.2)/\Ba x.2.2.2.2.1/\0<=x.2.2.2.2.2/\(x.2.2.2.2.2<=((Z5Q l v6_4 v10).Pads.length:Int)\/x.2.2.2.2.2=0))/\C6 l v6_4 v5 v8 v31_1 v31_3 v31_5 v5' v10 (CM l n0) (Co l v6_4 v5 v8 (CM l n0) n1) x.1 x.2.1 x.2.2.1 x.2.2.2.1 x.2.2.2.2.1 x.2.2.2.2.2=Cj l) (fun x=>x.1) ?_ ((((Z5Q l v6_4 v10).Pads.length:Int)-0).toNat+1,v31_1,v31_3,v31_5,v5',0) ⟨Nat.lt_succ_self _,⟨(by show Cz v31_1 (6*v10+0);unfold Cz at *;repeat (first | omega | exact Ed (by omega) | refine Ec ?_ ?_ | (simp;done))),(by show Cz v31_3 (6*v10+0);unfold Cz at *;repeat (first | omega | exact Ed (by omega) | refine Ec ?_ ?_ | (simp;done))),(by show Cz v31_5 (6*v10+0);unfold Cz at *;repeat (first | omega | exact Ed (by omega) | refine Ec ?_ ?_ | (simp;done))),(by show Ba v5';repeat (first | with_reducible assumption | exact CX (DH hll _) | with_reducible refine BI ?_ | with_reducible refine EU ?_ | with_reducible refine DY ?_ | with_reducible refine C5 ?_  | with_reducible refine Ce ?_ ?_)),ax0,ax0⟩,(by rw [<- hF1];simp only [Co,h2,cond_true,cond_false])⟩
     rintro ⟨n2,v31_1',v31_3',v31_5',v5'',v13⟩ ⟨hn,hinv,hF⟩
     have hm2:=hn;have hinv2:=hinv;have hF2:=hF;try dsimp only at hm2 hinv2 hF2
     clear hn hinv hF
     cases n2 with
     | zero=>exact absurd hm2 (Nat.not_lt_zero _)
     | succ n2 =>
      have hi2_0:=hinv2.1
      have hi2_1:=hinv2.2.1
      have hi2_2:=hinv2.2.2.1
      have hi2_3:=hinv2.2.2.2.1
      have hp6:((Z5Q l v6_4 v10).Pads.length:Int)<=6:=(hi0_1 v10 (by omega) (by omega)).2
      refine AC<|AC ?_
      refine rn ⟨(CP l [(10,tI v10),(11,tP 11 0),(13,tI v13),(112,tB (decide ((v13:Int)<((Z5Q l v6_4 v10).Pads.length:Int))))]),(D5 l v6_4 v10 [(31,Z6b v31_1' v31_3' v31_5'),(91,.cells (AD.c v5'') 146),(100000,Z5y v6_4),(100001,Z5S v31_1'),(100002,Z5T v31_3'),(100003,Z5U v31_5')])⟩ ?_
      refine AY _ rfl (fun h3 => ?_) (fun h3 => ?_)
      ·have g3:=oT h3
       refine Ae<|AH<|AC ?_
       refine Bc (⟨[(0,.av (oL l)),(2,tP 2 0),(4,tO (lst 3 AL.c [Z5h l,Z5i l])),(5,tP 91 0),(6,tP 6 0),(7,tI (W64 (1+(AA (GJ l).2 3).1))),(10,tI v10),(11,tP 11 0),(13,tI v13)],[(2,.cells Ry 40),(6,.cells [.i 2,.i (Z5p l).Kind,lst 7 AE.c (Z5p l).Edges,.i (Z5p l).R,.own 100000 7 v6_4.length,.own 31 2 3,vN,vN,vN,vN,vN,vN,vN,vN,vN] 40),(11,.cells (AL.c (Z5Q l v6_4 v10)) 61),(31,.rowx 2 3 (fun _ _=>default) 84 [(0,[.s ({ data := #[78,49] }:ByteArray),.own 100004 2 (Z5Z v5'' v31_1' v6_4 v10 l v13).length]),(1,[.s ({ data := #[78,50] }:ByteArray),.own 100005 2 (Z60 v5'' v31_3' v6_4 v10 l v13).length]),(2,[.s ({ data := #[71,78,68] }:ByteArray),.own 100006 2 (Z61 v5'' v31_5' v6_4 v10 l v13).length])]),(Gk v5''),(100000,.row 7 v6_4.length (Ak AG.c v6_4) 49),(100004,.row 2 (Z5Z v5'' v31_1' v6_4 v10 l v13).length (Ak Ac.c (Z5Z v5'' v31_1' v6_4 v10 l v13)) 65),(100005,.row 2 (Z60 v5'' v31_3' v6_4 v10 l v13).length (Ak Ac.c (Z60 v5'' v31_3' v6_4 v10 l v13)) 65),(100006,.row 2 (Z61 v5'' v31_5' v6_4 v10 l v13).length (Ak Ac.c (Z61 v5'' v31_5' v6_4 v10 l v13)) 65)]⟩) ?_ ?_
       ·refine Af<|AC ?_
        refine rb 116 (Z5V v5'') (.cells (AD.c v5'') 146) ⟨(CP l [(10,tI v10),(11,tP 11 0),(13,tI v13),(14,tI (AA v5'' 5).1)]),(D5 l v6_4 v10 [(31,Z6b v31_1' v31_3' v31_5'),(Gk v5''),(100000,Z5y v6_4),(100001,Z5S v31_1'),(100002,Z5T v31_3'),(100003,Z5U v31_5')])⟩ (Ag (fun _ _=>kr) kr kr (BJ v5'' 5 au5 au8))<|AH<|AC ?_
        refine rn ⟨(CP l [(10,tI v10),(11,tP 11 0),(13,tI v13),(14,tI (AA v5'' 5).1),(118,tB (decide (((AA v5'' 5).1:Int)<3)))]),(D5 l v6_4 v10 [(31,Z6b v31_1' v31_3' v31_5'),(Gk v5''),(100000,Z5y v6_4),(100001,Z5S v31_1'),(100002,Z5T v31_3'),(100003,Z5U v31_5')])⟩ ?_
        refine AY _ rfl (fun h4 => ?_) (fun h4 => ?_)
        ·have g4:=oT h4
         refine TY (decide (((AA v5'' 5).1:Int)=0)) (fun h5 => ?_) (fun h5 => ?_)
         ·have g5:=oT h5
          (try rw [g5])
          refine dw [] [] [0<=(0:Int)/\(0:Int)<((3:Nat):Int),0<=(v10:Int)/\(v10:Int)<((v6_4.length:Nat):Int),v10.toNat<v6_4.length,0<=(v13:Int)/\(v13:Int)<(((Z5Q l v6_4 v10).Pads.length:Nat):Int),v31_1'.length=v31_1'.length,v31_1'.length+1<=maxLen,(v31_1'.length+1)*32<=140737488355328,0<=(0:Int)/\(0:Int)<((3:Nat):Int)] ⟨(CP l [(10,tI v10),(11,tP 11 0),(13,tI v13)]),(D5 l v6_4 v10 [(31,.rowx 2 3 (fun _ _=>default) 84 [(0,[.s ({ data := #[78,49] }:ByteArray),.own 142 2 (v31_1'.length+1)]),(1,[.s ({ data := #[78,50] }:ByteArray),.own 100002 2 v31_3'.length]),(2,[.s ({ data := #[71,78,68] }:ByteArray),.own 100003 2 v31_5'.length])]),(Gk v5''),(142,.row 2 (v31_1'.length+1) (fun i_ j_=>if i_<v31_1'.length then (Ak Ac.c v31_1') i_ j_ else (Tr v6_4 v10 l v13) (i_-v31_1'.length) j_) 65),(100000,Z5y v6_4),(100002,Z5T v31_3'),(100003,Z5U v31_5')])⟩ .nil (.cons au11 (.cons au11 (.cons au11 (.cons au11 (.cons rfl (.cons au16 (.cons au16 (.cons au11 .nil))))))))<|BZ<|AH ?_
          refine Cv.trans (BS (⟨(CP l [(10,tI v10),(11,tP 11 0),(13,tI v13)]),(D5 l v6_4 v10 [(31,.rowx 2 3 (fun _ _=>default) 84 [(0,[.s ({ data := #[78,49] }:ByteArray),.own 142 2 (v31_1'++(IJ v6_4 v10 l v13)).length]),(1,[.s ({ data := #[78,50] }:ByteArray),.own 100002 2 v31_3'.length]),(2,[.s ({ data := #[71,78,68] }:ByteArray),.own 100003 2 v31_5'.length])]),(Gk v5''),(142,Z5W v31_1' v6_4 v10 l v13),(100000,Z5y v6_4),(100002,Z5T v31_3'),(100003,Z5U v31_5')])⟩) lr (.cons ⟨rfl,.refl _⟩ (.cons ⟨rfl,.refl _⟩ (.cons ⟨rfl,.refl _⟩ (.cons ⟨rfl,.rowx _ _ _ _ (.cons ⟨rfl,(rr (.cons (.own _ _ au2) .nil))⟩ (.cons ⟨rfl,(rr (rr .nil))⟩ (.cons ⟨rfl,(rr (rr .nil))⟩ .nil)))⟩ (.cons ⟨rfl,.refl _⟩ (.cons ⟨rfl,Aw 65 (Bi (BR 2 Ac.c v31_1') (A3 (c:=Ac.c) (xs:=([Ac.mk (v6_4.getD v10.toNat default).Ref ((Z5Q l v6_4 v10).Pads.getD v13.toNat default).Name]:List Ac)) rfl kr))⟩ lr))))))) (Cv.trans (vr 142 100004 (K:=[]) (fun k x h=>by cases h)) (Cv.trans (vr 100002 100005 (K:=[]) (fun k x h=>by cases h)) (Cv.trans (vr 100003 100006 (K:=[]) (fun k x h=>by cases h)) (Cv.trans (ck (⟨(CP l [(10,tI v10),(11,tP 11 0),(13,tI v13)]),(D5 l v6_4 v10 [(31,Z6c v31_1' v6_4 v10 l v13 v31_3' v31_5'),(Gk v5''),(100000,Z5y v6_4),(100004,Z5W v31_1' v6_4 v10 l v13),(100005,Z5T v31_3'),(100006,Z5U v31_5')])⟩)) (A4 ?_)))))
          first | rfl | (simp only [h4,h5,Z5Z,Z60,Z61,cond_true,cond_false] <;> rfl)
         ·have g5:=oF h5
          refine TY (decide (((AA v5'' 5).1:Int)=1)) (fun h6 => ?_) (fun h6 => ?_)
          ·have g6:=oT h6
           (try rw [g6])
           refine dw [] [] [0<=(1:Int)/\(1:Int)<((3:Nat):Int),0<=(v10:Int)/\(v10:Int)<((v6_4.length:Nat):Int),v10.toNat<v6_4.length,0<=(v13:Int)/\(v13:Int)<(((Z5Q l v6_4 v10).Pads.length:Nat):Int),v31_3'.length=v31_3'.length,v31_3'.length+1<=maxLen,(v31_3'.length+1)*32<=140737488355328,0<=(1:Int)/\(1:Int)<((3:Nat):Int)] ⟨(CP l [(10,tI v10),(11,tP 11 0),(13,tI v13)]),(D5 l v6_4 v10 [(31,.rowx 2 3 (fun _ _=>default) 84 [(0,[.s ({ data := #[78,49] }:ByteArray),.own 100001 2 v31_1'.length]),(1,[.s ({ data := #[78,50] }:ByteArray),.own 142 2 (v31_3'.length+1)]),(2,[.s ({ data := #[71,78,68] }:ByteArray),.own 100003 2 v31_5'.length])]),(Gk v5''),(142,.row 2 (v31_3'.length+1) (fun i_ j_=>if i_<v31_3'.length then (Ak Ac.c v31_3') i_ j_ else (Tr v6_4 v10 l v13) (i_-v31_3'.length) j_) 65),(100000,Z5y v6_4),(100001,Z5S v31_1'),(100003,Z5U v31_5')])⟩ .nil (.cons au11 (.cons au11 (.cons au11 (.cons au11 (.cons rfl (.cons au16 (.cons au16 (.cons au11 .nil))))))))<|BZ<|AH ?_
           refine Cv.trans (BS (⟨(CP l [(10,tI v10),(11,tP 11 0),(13,tI v13)]),(D5 l v6_4 v10 [(31,.rowx 2 3 (fun _ _=>default) 84 [(0,[.s ({ data := #[78,49] }:ByteArray),.own 100001 2 v31_1'.length]),(1,[.s ({ data := #[78,50] }:ByteArray),.own 142 2 (v31_3'++(IJ v6_4 v10 l v13)).length]),(2,[.s ({ data := #[71,78,68] }:ByteArray),.own 100003 2 v31_5'.length])]),(Gk v5''),(142,Z5X v31_3' v6_4 v10 l v13),(100000,Z5y v6_4),(100001,Z5S v31_1'),(100003,Z5U v31_5')])⟩) lr (.cons ⟨rfl,.refl _⟩ (.cons ⟨rfl,.refl _⟩ (.cons ⟨rfl,.refl _⟩ (.cons ⟨rfl,.rowx _ _ _ _ (.cons ⟨rfl,(rr (rr .nil))⟩ (.cons ⟨rfl,(rr (.cons (.own _ _ au2) .nil))⟩ (.cons ⟨rfl,(rr (rr .nil))⟩ .nil)))⟩ (.cons ⟨rfl,.refl _⟩ (.cons ⟨rfl,Aw 65 (Bi (BR 2 Ac.c v31_3') (A3 (c:=Ac.c) (xs:=([Ac.mk (v6_4.getD v10.toNat default).Ref ((Z5Q l v6_4 v10).Pads.getD v13.toNat default).Name]:List Ac)) rfl kr))⟩ lr))))))) (Cv.trans (vr 100001 100004 (K:=[]) (fun k x h=>by cases h)) (Cv.trans (vr 142 100005 (K:=[]) (fun k x h=>by cases h)) (Cv.trans (vr 100003 100006 (K:=[]) (fun k x h=>by cases h)) (Cv.trans (ck (⟨(CP l [(10,tI v10),(11,tP 11 0),(13,tI v13)]),(D5 l v6_4 v10 [(31,Z6d v31_1' v31_3' v6_4 v10 l v13 v31_5'),(Gk v5''),(100000,Z5y v6_4),(100004,Z5S v31_1'),(100005,Z5X v31_3' v6_4 v10 l v13),(100006,Z5U v31_5')])⟩)) (A4 ?_)))))
           first | rfl | (simp only [h4,h5,h6,Z5Z,Z60,Z61,cond_true,cond_false] <;> rfl)
          ·have g6:=oF h6
           have g7:((AA v5'' 5).1:Int)=2:=W6 (by with_reducible assumption) (by with_reducible assumption) (by with_reducible assumption)
           (try rw [g7])
           refine dw [] [] [0<=(2:Int)/\(2:Int)<((3:Nat):Int),0<=(v10:Int)/\(v10:Int)<((v6_4.length:Nat):Int),v10.toNat<v6_4.length,0<=(v13:Int)/\(v13:Int)<(((Z5Q l v6_4 v10).Pads.length:Nat):Int),v31_5'.length=v31_5'.length,v31_5'.length+1<=maxLen,(v31_5'.length+1)*32<=140737488355328,0<=(2:Int)/\(2:Int)<((3:Nat):Int)] ⟨(CP l [(10,tI v10),(11,tP 11 0),(13,tI v13)]),(D5 l v6_4 v10 [(31,.rowx 2 3 (fun _ _=>default) 84 [(0,[.s ({ data := #[78,49] }:ByteArray),.own 100001 2 v31_1'.length]),(1,[.s ({ data := #[78,50] }:ByteArray),.own 100002 2 v31_3'.length]),(2,[.s ({ data := #[71,78,68] }:ByteArray),.own 142 2 (v31_5'.length+1)])]),(Gk v5''),(142,.row 2 (v31_5'.length+1) (fun i_ j_=>if i_<v31_5'.length then (Ak Ac.c v31_5') i_ j_ else (Tr v6_4 v10 l v13) (i_-v31_5'.length) j_) 65),(100000,Z5y v6_4),(100001,Z5S v31_1'),(100002,Z5T v31_3')])⟩ .nil (.cons au11 (.cons au11 (.cons au11 (.cons au11 (.cons rfl (.cons au16 (.cons au16 (.cons au11 .nil))))))))<|BZ<|AH ?_
           refine Cv.trans (BS (⟨(CP l [(10,tI v10),(11,tP 11 0),(13,tI v13)]),(D5 l v6_4 v10 [(31,.rowx 2 3 (fun _ _=>default) 84 [(0,[.s ({ data := #[78,49] }:ByteArray),.own 100001 2 v31_1'.length]),(1,[.s ({ data := #[78,50] }:ByteArray),.own 100002 2 v31_3'.length]),(2,[.s ({ data := #[71,78,68] }:ByteArray),.own 142 2 (v31_5'++(IJ v6_4 v10 l v13)).length])]),(Gk v5''),(142,Z5Y v31_5' v6_4 v10 l v13),(100000,Z5y v6_4),(100001,Z5S v31_1'),(100002,Z5T v31_3')])⟩) lr (.cons ⟨rfl,.refl _⟩ (.cons ⟨rfl,.refl _⟩ (.cons ⟨rfl,.refl _⟩ (.cons ⟨rfl,.rowx _ _ _ _ (.cons ⟨rfl,(rr (rr .nil))⟩ (.cons ⟨rfl,(rr (rr .nil))⟩ (.cons ⟨rfl,(rr (.cons (.own _ _ au2) .nil))⟩ .nil)))⟩ (.cons ⟨rfl,.refl _⟩ (.cons ⟨rfl,Aw 65 (Bi (BR 2 Ac.c v31_5') (A3 (c:=Ac.c) (xs:=([Ac.mk (v6_4.getD v10.toNat default).Ref ((Z5Q l v6_4 v10).Pads.getD v13.toNat default).Name]:List Ac)) rfl kr))⟩ lr))))))) (Cv.trans (vr 100001 100004 (K:=[]) (fun k x h=>by cases h)) (Cv.trans (vr 100002 100005 (K:=[]) (fun k x h=>by cases h)) (Cv.trans (vr 142 100006 (K:=[]) (fun k x h=>by cases h)) (Cv.trans (ck (⟨(CP l [(10,tI v10),(11,tP 11 0),(13,tI v13)]),(D5 l v6_4 v10 [(31,Z6e v31_1' v31_3' v31_5' v6_4 v10 l v13),(Gk v5''),(100000,Z5y v6_4),(100004,Z5S v31_1'),(100005,Z5T v31_3'),(100006,Z5Y v31_5' v6_4 v10 l v13)])⟩)) (A4 ?_)))))
           first | rfl | (simp only [h4,h5,h6,Z5Z,Z60,Z61,cond_true,cond_false] <;> rfl)
        ·have g4:=oF h4
         refine Ae<|BZ<|AH ?_
         refine Cv.trans (vk [0,2,4,5,6,7,10,11,13] [2,6,11,31,91,100000,100001,100002,100003]) (Cv.trans (vr 100001 100004 (K:=[]) (fun k x h=>by cases h)) (Cv.trans (vr 100002 100005 (K:=[]) (fun k x h=>by cases h)) (Cv.trans (wr (⟨(CP l [(10,tI v10),(11,tP 11 0),(13,tI v13)]),(D5 l v6_4 v10 [(31,.rowx 2 3 (fun _ _=>default) 84 [(0,[.s ({ data := #[78,49] }:ByteArray),.own 100004 2 v31_1'.length]),(1,[.s ({ data := #[78,50] }:ByteArray),.own 100005 2 v31_3'.length]),(2,[.s ({ data := #[71,78,68] }:ByteArray),.own 100006 2 v31_5'.length])]),(Gk v5''),(100000,Z5y v6_4),(100004,Z5S v31_1'),(100005,Z5T v31_3'),(100006,Z5U v31_5')])⟩) 100003 100006 (K:=[]) (fun k x h=>by cases h)) (A4 ?_))))
         first | rfl | (simp only [h4,Z5Z,Z60,Z61,cond_true,cond_false] <;> rfl)
       refine rg ⟨(CP l [(10,tI v10),(11,tP 11 0),(13,tI (W64 (v13+1)))]),(D5 l v6_4 v10 [(31,.rowx 2 3 (fun _ _=>default) 84 [(0,[.s ({ data := #[78,49] }:ByteArray),.own 100004 2 (Z5Z v5'' v31_1' v6_4 v10 l v13).length]),(1,[.s ({ data := #[78,50] }:ByteArray),.own 100005 2 (Z60 v5'' v31_3' v6_4 v10 l v13).length]),(2,[.s ({ data := #[71,78,68] }:ByteArray),.own 100006 2 (Z61 v5'' v31_5' v6_4 v10 l v13).length])]),(Gk v5''),(100000,Z5y v6_4),(100004,Z62 v5'' v31_1' v6_4 v10 l v13),(100005,Z63 v5'' v31_3' v6_4 v10 l v13),(100006,Z64 v5'' v31_5' v6_4 v10 l v13)])⟩ ?_
       (try rw [(show W64 (v13+1)=v13+1 from Al (by omega) au9)])
       refine AH ?_
       refine ⟨(n2,Z5Z v5'' v31_1' v6_4 v10 l v13,Z60 v5'' v31_3' v6_4 v10 l v13,Z61 v5'' v31_5' v6_4 v10 l v13,(AA v5'' 5).2,v13+1),⟨?_,?_,(by rw [<- hF2];simp only [C6,h3,cond_true,cond_false])⟩,Nat.lt_succ_self _,Cv.trans (vr 100004 100001 (K:=[]) (fun k x h=>by cases h)) (Cv.trans (vr 100005 100002 (K:=[]) (fun k x h=>by cases h)) (Cv.trans (vr 100006 100003 (K:=[]) (fun k x h=>by cases h)) (A4 kr)))⟩
       ·show (((Z5Q l v6_4 v10).Pads.length:Int)-(v13+1)).toNat<n2;omega
       ·exact ⟨(by show Cz (Z5Z v5'' v31_1' v6_4 v10 l v13) (6*v10+(v13+1));unfold Cz at *;repeat (first | omega | exact Ed (by omega) | refine Ec ?_ ?_ | (simp;done))),(by show Cz (Z60 v5'' v31_3' v6_4 v10 l v13) (6*v10+(v13+1));unfold Cz at *;repeat (first | omega | exact Ed (by omega) | refine Ec ?_ ?_ | (simp;done))),(by show Cz (Z61 v5'' v31_5' v6_4 v10 l v13) (6*v10+(v13+1));unfold Cz at *;repeat (first | omega | exact Ed (by omega) | refine Ec ?_ ?_ | (simp;done))),(by show Ba ((AA v5'' 5).2);repeat (first | with_reducible assumption | exact CX (DH hll _) | with_reducible refine BI ?_ | with_reducible refine EU ?_ | with_reducible refine DY ?_ | with_reducible refine C5 ?_  | with_reducible refine Ce ?_ ?_)),ax0,ax0⟩
      ·have g3:=oF h3
       refine BP<|BE ?_
       refine BE<|BQ ?_
       refine BZ<|AH ?_
       refine rg ⟨(CP l [(10,tI (W64 (v10+1)))]),[(2,Z5g),(6,Z5x l v6_4),(31,Z6b v31_1' v31_3' v31_5'),(91,.cells (AD.c v5'') 146),(100000,Z5y v6_4),(100001,Z5S v31_1'),(100002,Z5T v31_3'),(100003,Z5U v31_5')]⟩ ?_
       (try rw [(show W64 (v10+1)=v10+1 from Al (by omega) au9)])
       refine AH ?_
       refine ⟨(n1,v31_1',v31_3',v31_5',v5'',v10+1),⟨?_,?_,(by rw [<- hF2];simp only [C6,h3,cond_true,cond_false])⟩,Nat.lt_succ_self _,A4 kr⟩
       ·show ((W64 (1+(AA (AA (AD.mk (AU l 2) 0) 3).2 3).1))-(v10+1)).toNat<n1;omega
       ·exact ⟨(by show Cz v31_1' (6*(v10+1));unfold Cz at *;repeat (first | omega | exact Ed (by omega) | refine Ec ?_ ?_ | (simp;done))),(by show Cz v31_3' (6*(v10+1));unfold Cz at *;repeat (first | omega | exact Ed (by omega) | refine Ec ?_ ?_ | (simp;done))),(by show Cz v31_5' (6*(v10+1));unfold Cz at *;repeat (first | omega | exact Ed (by omega) | refine Ec ?_ ?_ | (simp;done))),(by show Ba v5'';repeat (first | with_reducible assumption | exact CX (DH hll _) | with_reducible refine BI ?_ | with_reducible refine EU ?_ | with_reducible refine DY ?_ | with_reducible refine C5 ?_  | with_reducible refine Ce ?_ ?_)),ax0,ax0⟩
    ·have g2:=oF h2
     have k2:=Rc g2 (by decide) (by decide) (by decide) (by decide)
     refine BP<|BE ?_
     refine BE<|BQ ?_
     refine AH<|AC ?_
     refine Bq (Cv.trans (wf (⟨(CP l [(10,tI v10),(94,Z5P v10 l)]),[(2,Z5g),(6,Z5O l v6_4),(31,Z6a v31_1 v31_3 v31_5),(Ii v5'),(100001,Z5L v31_1),(100002,Z5M v31_3),(100003,Z5N v31_5)]⟩) 100000 7 v6_4.length (Ak AG.c v6_4) 49 (K:=[]) (fun k x h=>by cases h) (.cons ⟨rfl,rfl⟩ .nil)) (Cv.refl _)) ?_
     refine Bq (Cv.trans (vf 100001 2 v31_1.length (Ak Ac.c v31_1) 65 (K:=[]) (fun k x h=>by cases h) (.cons ⟨rfl,rfl⟩ .nil)) (Cv.trans (vf 100002 2 v31_3.length (Ak Ac.c v31_3) 65 (K:=[]) (fun k x h=>by cases h) (.cons ⟨rfl,rfl⟩ .nil)) (Cv.trans (wf (⟨(CP l [(10,tI v10),(94,Z5P v10 l)]),[(2,Z5g),(6,Z5O l v6_4),(31,.rowx 2 3 (fun _ _=>default) 84 [(0,[.s ({ data := #[78,49] }:ByteArray),lst 2 Ac.c v31_1]),(1,[.s ({ data := #[78,50] }:ByteArray),lst 2 Ac.c v31_3]),(2,[.s ({ data := #[71,78,68] }:ByteArray),lst 2 Ac.c v31_5])]),(Ii v5')]⟩) 100003 2 v31_5.length (Ak Ac.c v31_5) 65 (K:=[]) (fun k x h=>by cases h) (.cons ⟨rfl,rfl⟩ .nil)) (Cv.trans (Z4 (⟨(CP l [(10,tI v10),(94,Z5P v10 l)]),[(2,Z5g),(6,Z5O l v6_4),(31,.row 2 3 (A8 2 3 [.s ({ data := #[78,49] }:ByteArray),lst 2 Ac.c v31_1,.s ({ data := #[78,50] }:ByteArray),lst 2 Ac.c v31_3,.s ({ data := #[71,78,68] }:ByteArray),lst 2 Ac.c v31_5]) 84),(Ii v5')]⟩) 31 2 3 (fun _ _=>default) 84 [[.s ({ data := #[78,49] }:ByteArray),lst 2 Ac.c v31_1],[.s ({ data := #[78,50] }:ByteArray),lst 2 Ac.c v31_3],[.s ({ data := #[71,78,68] }:ByteArray),lst 2 Ac.c v31_5]] kr kr kr kr) (Cv.trans (BS (⟨(CP l [(10,tI v10),(94,Z5P v10 l)]),[(2,Z5g),(6,.cells [.i 2,.i (Z5p l).Kind,lst 7 AE.c (Z5p l).Edges,.i (Z5p l).R,lst 7 AG.c v6_4,.own 31 2 ([BO.mk ({ data := #[78,49] }:ByteArray) v31_1,BO.mk ({ data := #[78,50] }:ByteArray) v31_3,BO.mk ({ data := #[71,78,68] }:ByteArray) v31_5].length),vN,vN,vN,vN,vN,vN,vN,vN,vN] 40),(31,.row 2 ([BO.mk ({ data := #[78,49] }:ByteArray) v31_1,BO.mk ({ data := #[78,50] }:ByteArray) v31_3,BO.mk ({ data := #[71,78,68] }:ByteArray) v31_5].length) (Ak BO.c [BO.mk ({ data := #[78,49] }:ByteArray) v31_1,BO.mk ({ data := #[78,50] }:ByteArray) v31_3,BO.mk ({ data := #[71,78,68] }:ByteArray) v31_5]) 84),(Ii v5')]⟩) lr (.cons ⟨rfl,.refl _⟩ (.cons ⟨rfl,.cells _ (rr (rr (rr (rr (rr (.cons (.own _ _ au2) (rr (rr (rr (rr (rr (rr (rr (rr (rr .nil)))))))))))))))⟩ (.cons ⟨rfl,Aw 84 (A3 (c:=BO.c) (xs:=([BO.mk ({ data := #[78,49] }:ByteArray) v31_1,BO.mk ({ data := #[78,50] }:ByteArray) v31_3,BO.mk ({ data := #[71,78,68] }:ByteArray) v31_5]:List BO)) rfl kr)⟩ lr)))) (Cv.trans (wf (⟨(CP l [(10,tI v10),(94,Z5P v10 l)]),[(2,Z5g),(6,.cells [.i 2,.i (Z5p l).Kind,lst 7 AE.c (Z5p l).Edges,.i (Z5p l).R,lst 7 AG.c v6_4,lst 2 BO.c [BO.mk ({ data := #[78,49] }:ByteArray) v31_1,BO.mk ({ data := #[78,50] }:ByteArray) v31_3,BO.mk ({ data := #[71,78,68] }:ByteArray) v31_5],vN,vN,vN,vN,vN,vN,vN,vN,vN] 40),(Ii v5')]⟩) 31 2 ([BO.mk ({ data := #[78,49] }:ByteArray) v31_1,BO.mk ({ data := #[78,50] }:ByteArray) v31_3,BO.mk ({ data := #[71,78,68] }:ByteArray) v31_5].length) (Ak BO.c [BO.mk ({ data := #[78,49] }:ByteArray) v31_1,BO.mk ({ data := #[78,50] }:ByteArray) v31_3,BO.mk ({ data := #[71,78,68] }:ByteArray) v31_5]) 84 (K:=[]) (fun k x h=>by cases h) (.cons ⟨rfl,rfl⟩ .nil)) (Cv.refl _))))))) ?_
     refine rb 147 (Z66 l v6_4 v31_1 v31_3 v31_5) (.cells [.i 2,.i (Z5p l).Kind,lst 7 AE.c (Z5p l).Edges,.i (Z5p l).R,lst 7 AG.c v6_4,lst 2 BO.c [BO.mk ({ data := #[78,49] }:ByteArray) v31_1,BO.mk ({ data := #[78,50] }:ByteArray) v31_3,BO.mk ({ data := #[71,78,68] }:ByteArray) v31_5],vN,vN,vN,vN,vN,vN,vN,vN,vN] 40) ⟨[(0,Z5f l),(2,tP 2 0),(4,Z5j l),(6,tP 6 0)],[(2,Z5g),(6,.cells (bA l v6_4 v31_1 v31_3 v31_5) 40)]⟩ (Ag (fun _ _=>kr) kr kr (UJ (AF.mk 2 (Z5p l) v6_4 [BO.mk ({ data := #[78,49] }:ByteArray) v31_1,BO.mk ({ data := #[78,50] }:ByteArray) v31_3,BO.mk ({ data := #[71,78,68] }:ByteArray) v31_5] [] [] [] [] [] [] [] [] []) [Z5h l,Z5i l] l au10 au10 au10 au10 au10 au10))<|AH<|AC ?_
     refine rc [(149,Du l 7),(152,(Z68 l v6_4 v31_1 v31_3 v31_5))] [Ap (Du l 7).2.1,Ap (Z68 l v6_4 v31_1 v31_3 v31_5).2.1,O4 [.cells (bA l v6_4 v31_1 v31_3 v31_5) 40,.cells [lst 1 (fun x=>[.i x]) (AU l 7),.i 0] 146]] ⟨[(2,tP 2 0),(4,Z5j l),(6,tP 6 0)],[(2,Z5g),(6,.cells (AF.c (Z67 l v6_4 v31_1 v31_3 v31_5).1) 40)]⟩ (.cons (FY l 7 au10) (.cons (U3 (fun _ _=>kr) kr rfl rfl kr kr (Yf (AF.mk (Z65 l v6_4 v31_1 v31_3 v31_5).Layers (Z65 l v6_4 v31_1 v31_3 v31_5).Outline (Z65 l v6_4 v31_1 v31_3 v31_5).Parts (Z65 l v6_4 v31_1 v31_3 v31_5).Nets (Z65 l v6_4 v31_1 v31_3 v31_5).Tracks (Z65 l v6_4 v31_1 v31_3 v31_5).Vias (Z65 l v6_4 v31_1 v31_3 v31_5).Pours (Z65 l v6_4 v31_1 v31_3 v31_5).Keeps (Z65 l v6_4 v31_1 v31_3 v31_5).Slots [] [] [] []) (AD.mk (AU l 7) 0) au5 au10 au10 au10 au10 au10 au10 au10)) .nil)) (.cons rfl (.cons rfl (.cons rfl .nil)))<|AH<|AC ?_
     refine rn ⟨[(2,tP 2 0),(3,Z5j l)],[(2,.cells (AF.c (Z67 l v6_4 v31_1 v31_3 v31_5).1) 40)]⟩<|AZ ?_
     exact ⟨_,Cv.refl _,.inl rfl,.tup [.agg (AF.c (Z67 l v6_4 v31_1 v31_3 v31_5).1),.one (lst 3 AL.c [Z5h l,Z5i l])],by kernel_rfl,Ad (by rw [<- hF1];first | (simp only [Co,h2,cond_true,cond_false] <;> rfl))⟩
theorem Y5 (l:(List (List Int))) (hl:(l.length:Int)<=9223372036854775807) (hll:∀ x∈l,(x.length:Int)<=9223372036854775807):Aq Tryz.prog (JR l).1 (JR l).2.1 (JR l).2.2:=AR (fun _ _=>kr) fun _=>cI l hl hll
end
section
open Go.RowKit
abbrev nN1:ByteArray:={ data := #[78,49] }
abbrev nN2:ByteArray:={ data := #[78,50] }
abbrev dL:ByteArray:={ data := #[71,78,68] }
structure Hc (B:AF):Prop where
 lay:B.Layers=2
 par:1<=(B.Parts.length:Int)/\(B.Parts.length:Int)<=3
 net:∃ p q r,B.Nets=[BO.mk nN1 p,BO.mk nN2 q,BO.mk dL r]
 trk:(B.Tracks.length:Int)<=6
 edg:∀ t∈B.Tracks,(t.Shape.Edges.length:Int)<=2
 via:(B.Vias.length:Int)<=3
 pou:(B.Pours.length:Int)<=3
 kee:(B.Keeps.length:Int)<=1
 slo:(B.Slots.length:Int)<=1
theorem iU {α:Type} {c:Bool} {a b:AF×α} (h:Hc a.1) (k:Hc b.1):Hc (bif c then a else b).1:=by cases c <;> assumption
theorem bJ {b:AF} {d:AD} (h:Hc b):Hc (DN b d).1:=by
 unfold DN
 obtain ⟨h1,h2,h3,h4,h5,h6,h7,h8,h9⟩:=h
 exact iU ⟨h1,h2,h3,h4,h5,h6,h7,h8,h9⟩ ⟨h1,h2,h3,h4,h5,h6,h7,h8,h9⟩
theorem iS {b:AF} {types:List AL} {l:List (List Int)} {x y z w:List Unit} (h1:b.Layers=2) (h2:1<=(b.Parts.length:Int)/\(b.Parts.length:Int)<=3) (h3:∃ p q r,b.Nets=[BO.mk nN1 p,BO.mk nN2 q,BO.mk dL r]) {c:List B5} {ru:List A5} {wa:List B1} {ma:List Di} :
  Hc (AF.mk (BA b types l).Layers (BA b types l).Outline (BA b types l).Parts (BA b types l).Nets (BA b types l).Tracks (BA b types l).Vias (BA b types l).Pours (BA b types l).Keeps (BA b types l).Slots c ru wa ma):=by
 obtain ⟨k1,k2,k3,k4,k5,k6,k7,k8,k9,k10⟩:=Gr b types l
 exact ⟨k1.trans h1,by show 1<=((BA b types l).Parts.length:Int)/\((BA b types l).Parts.length:Int)<=3;rw [k3];exact h2,by rw [<- k4] at h3;exact h3,k5,k6,k7,k8,k9,k10⟩
theorem Vu (l:List (List Int)) (v6_4:List AG) (v5:AD) (v8:Int) (a1 a3 a5:List Ac) (d1:AD) (v10:Int) (K0:List AG->AD->Int->(AF×(List AL))) (K1:List Ac->List Ac->List Ac->AD->Int->(AF×(List AL))) (hK:∀ a b c d,Hc (K1 a b c d (v10+1)).1):∀ (n:Nat) (x y z:List Ac) (d:AD) (k:Int),0<=k->(((BX [A1 (AU l 0) ({ data := #[82] }:ByteArray),A1 (AU l 1) ({ data := #[81] }:ByteArray)] (v6_4.getD v10.toNat default).Type').1.Pads.length:Int)-k).toNat<n->Hc (C6 l v6_4 v5 v8 a1 a3 a5 d1 v10 K0 K1 n x y z d k).1
 | 0,x,y,z,d,k,_,h=>absurd h (Nat.not_lt_zero _)
 | n+1,x,y,z,d,k,k0,h=>by
  unfold C6
  show Hc (bif decide ((k:Int)<((BX [A1 (AU l 0) ({ data := #[82] }:ByteArray),A1 (AU l 1) ({ data := #[81] }:ByteArray)] (v6_4.getD v10.toNat default).Type').1.Pads.length:Int)) then (_:AF×List AL) else _).1
  by_cases hc:(k:Int)<((BX [A1 (AU l 0) ({ data := #[82] }:ByteArray),A1 (AU l 1) ({ data := #[81] }:ByteArray)] (v6_4.getD v10.toNat default).Type').1.Pads.length:Int)
  ·rw [decide_eq_true hc]
   exact Vu l v6_4 v5 v8 a1 a3 a5 d1 v10 K0 K1 hK n _ _ _ _ _ (by omega) (by omega)
  ·rw [decide_eq_false hc]
   exact hK _ _ _ _
theorem Vv (l:List (List Int)) (v6_4:List AG) (v5:AD) (v8:Int) (K0:List AG->AD->Int->(AF×(List AL))) (hp:1<=(v6_4.length:Int)/\(v6_4.length:Int)<=3):∀ (n:Nat) (x y z:List Ac) (d:AD) (k:Int),0<=k->(W64 (1+(AA (AA (AD.mk (AU l 2) 0) 3).2 3).1)-k).toNat<n->Hc (Co l v6_4 v5 v8 K0 n x y z d k).1
 | 0,x,y,z,d,k,_,h=>absurd h (Nat.not_lt_zero _)
 | n+1,x,y,z,d,k,k0,h=>by
  unfold Co
  by_cases hc:k<W64 (1+(AA (AA (AD.mk (AU l 2) 0) 3).2 3).1)
  ·simp only [hc,decide_true,cond_true]
   exact Vu l v6_4 v5 v8 x y z d k K0 _ (fun a b c e=>Vv l v6_4 v5 v8 K0 hp n a b c e (k+1) (by omega) (by omega)) _ _ _ _ _ 0 (by omega) (Nat.lt_succ_self _)
  ·simp only [hc,decide_false,cond_false]
   exact bJ (iS (x:=[]) (y:=[]) (z:=[]) (w:=[]) rfl hp ⟨_,_,_,rfl⟩)
theorem Vw (l:List (List Int)):∀ (n:Nat) (v:List AG) (d:AD) (k:Int),0<=k->(v.length:Int)=k->k<=W64 (1+(AA (AA (AD.mk (AU l 2) 0) 3).2 3).1)->(W64 (1+(AA (AA (AD.mk (AU l 2) 0) 3).2 3).1)-k).toNat<n->Hc (CM l n v d k).1
 | 0,v,d,k,_,_,_,h=>absurd h (Nat.not_lt_zero _)
 | n+1,v,d,k,k0,kv,k1,h=>by
  have hmany:1<=W64 (1+(AA (AA (AD.mk (AU l 2) 0) 3).2 3).1)/\W64 (1+(AA (AA (AD.mk (AU l 2) 0) 3).2 3).1)<=3:=by
   have:=Cx (AA (AD.mk (AU l 2) 0) 3).2 3 (by decide) (by decide)
   rw [Al (by omega) (by omega)];omega
  unfold CM
  by_cases hc:k<W64 (1+(AA (AA (AD.mk (AU l 2) 0) 3).2 3).1)
  ·simp only [hc,decide_true,cond_true]
   exact Vw l n _ _ _ (by omega) (by simp only [List.length_append,List.length_cons,List.length_nil];omega) (by omega) (by omega)
  ·simp only [hc,decide_false,cond_false]
   exact Vv l v d k _ (by omega) _ _ _ _ _ 0 (by omega) (Nat.lt_succ_self _)
theorem iY (l:List (List Int)):Hc (Cj l).1:=by
 have hmany:1<=W64 (1+(AA (AA (AD.mk (AU l 2) 0) 3).2 3).1):=by
  have:=Cx (AA (AD.mk (AU l 2) 0) 3).2 3 (by decide) (by decide)
  rw [Al (by omega) (by omega)];omega
 unfold Cj
 exact Vw l _ _ _ 0 (by omega) rfl (by omega) (Nat.lt_succ_self _)
end
section
open Go.RowKit
theorem Wa (r:An):(Cn r).Edges.length=4:=rfl
theorem XT (p:AB) (r:Int):(DD p r).Edges.length=1:=rfl
def MG (n:Nat) (l:List A0):Prop:=l.length<=n/\∀ g∈l,Kh g
theorem Up {n:Nat} {c:Bool} {a b:List A0} (ha:MG n a) (hb:MG n b):MG n (bif c then a else b):=by cases c <;> assumption
theorem Uo {n:Nat}:MG n []:=⟨Nat.zero_le _,fun g hg=>by cases hg⟩
theorem Ra {n:Nat} {g:A0} {l:List A0} (hg:Kh g) (h:MG n l):MG (n+1) (g::l):=⟨Nat.succ_le_succ h.1,fun x hx=>(List.mem_cons.1 hx).elim (fun e=>e▸hg) (h.2 x)⟩
theorem jL {n:Nat} {g:A0} {l:List A0} (hg:Kh g) (h:MG n l):MG (n+1) (l++[g]):=⟨by rw [List.length_append];exact Nat.succ_le_succ h.1,fun x hx=>(List.mem_append.1 hx).elim (h.2 x) (fun e=>by rw [List.mem_singleton.1 e];exact hg)⟩
theorem WB {k:Int} {a c:Bd}:Kh (A0.mk k [a,c]):=(by decide:((2:Nat):Int)<=1000000)
theorem gs_up {n m:Nat} {l:List A0} (h:MG n l) (k:n<=m):MG m l:=⟨Nat.le_trans h.1 k,h.2⟩
theorem XD (l:List Int) (d:AD):MG 3 (Z4G l d):=by
 have h1:MG 2 (Z4s l d):=Up (Ra WB Uo) Uo
 have h2:MG 2 (Z4A l d):=Up (Ra WB (Ra WB Uo)) h1
 exact Up (jL WB h2) (gs_up h2 (by decide))
theorem RQ (d:AD) (k:Int):((Z4i d k).length:Int)<=1000000:=by
 unfold Z4i Z4d Z4g
 cases decide ((AA (AA d 2).2 3).1=0) with
 | true=>rw [cond_true,Wa];decide
 | false =>
  rw [cond_false]
  cases decide ((AA (AA d 2).2 3).1=1) with
  | true=>rw [cond_true,XT];decide
  | false=>exact (by decide:((1:Nat):Int)<=1000000)
theorem Pm (l:List Int) (name:ByteArray):∀ (n:Nat) (v:List Ay) (d:AD) (k:Int),(∀ p∈v,Tb p)->(v.length:Int)<=1000000->((v.length:Int)+(W64 (2+(AA (AD.mk l 0) 5).1)-k)<=1000000)->((W64 (2+(AA (AD.mk l 0) 5).1))-k).toNat<n ->
  Ke (Cp l name n v d k)
 | 0,v,d,k,_,_,_,h=>absurd h (Nat.not_lt_zero _)
 | n+1,v,d,k,hv,h0,h1,h2=>by
  unfold Cp
  by_cases h:k<W64 (2+(AA (AD.mk l 0) 5).1)
  ·rw [decide_eq_true h,cond_true]
   refine Pm l name n _ _ (k+1) (fun p hp => ?_) (by simp only [List.length_append,List.length_cons,List.length_nil];omega) (by simp only [List.length_append,List.length_cons,List.length_nil];omega) (by omega)
   rcases List.mem_append.1 hp with hp | hp
   ·exact hv p hp
   ·rw [List.mem_singleton.1 hp]
    exact RQ d k
  ·rw [decide_eq_false h,cond_false]
   have hg:=XD l d
   exact ⟨h0,by have:=hg.1;show ((Z4G l d).length:Int)<=1000000;omega,hv,hg.2⟩
theorem Su (l:List Int) (name:ByteArray):Ke (A1 l name):=by
 have hn:=Cx (AD.mk l 0) 5 (by decide) (by decide)
 have hw:W64 (2+(AA (AD.mk l 0) 5).1)=2+(AA (AD.mk l 0) 5).1:=Al (by omega) (by omega)
 unfold A1
 exact Pm l name _ [] _ 0 (fun p hp=>by cases hp) (by decide) (by simp only [List.length_nil];omega) (by omega)
theorem Vr (l:List (List Int)) (v6_4:List AG) (v5:AD) (v8:Int) (a1 a3 a5:List Ac) (d1:AD) (v10:Int) (K0:List AG->AD->Int->(AF×(List AL))) (K1:List Ac->List Ac->List Ac->AD->Int->(AF×(List AL))) (hK:∀ a b c d,CS (K1 a b c d (v10+1)).2):∀ (n:Nat) (x y z:List Ac) (d:AD) (k:Int),0<=k->(((BX [A1 (AU l 0) ({ data := #[82] }:ByteArray),A1 (AU l 1) ({ data := #[81] }:ByteArray)] (v6_4.getD v10.toNat default).Type').1.Pads.length:Int)-k).toNat<n->CS (C6 l v6_4 v5 v8 a1 a3 a5 d1 v10 K0 K1 n x y z d k).2
 | 0,x,y,z,d,k,_,h=>absurd h (Nat.not_lt_zero _)
 | n+1,x,y,z,d,k,k0,h=>by
  unfold C6
  show CS (bif decide ((k:Int)<((BX [A1 (AU l 0) ({ data := #[82] }:ByteArray),A1 (AU l 1) ({ data := #[81] }:ByteArray)] (v6_4.getD v10.toNat default).Type').1.Pads.length:Int)) then (_:AF×List AL) else _).2
  by_cases hc:(k:Int)<((BX [A1 (AU l 0) ({ data := #[82] }:ByteArray),A1 (AU l 1) ({ data := #[81] }:ByteArray)] (v6_4.getD v10.toNat default).Type').1.Pads.length:Int)
  ·rw [decide_eq_true hc]
   exact Vr l v6_4 v5 v8 a1 a3 a5 d1 v10 K0 K1 hK n _ _ _ _ _ (by omega) (by omega)
  ·rw [decide_eq_false hc]
   exact hK _ _ _ _
theorem gP (a c:List Int) (x y:ByteArray):CS [A1 a x,A1 c y]:=by
 refine ⟨(by decide:((2:Nat):Int)<=1000000),fun t ht => ?_⟩
 simp only [List.mem_cons,List.not_mem_nil,or_false] at ht
 rcases ht with rfl | rfl <;> exact Su _ _
theorem Vs (l:List (List Int)) (v6_4:List AG) (v5:AD) (v8:Int) (K0:List AG->AD->Int->(AF×(List AL))):∀ (n:Nat) (x y z:List Ac) (d:AD) (k:Int),0<=k->(W64 (1+(AA (AA (AD.mk (AU l 2) 0) 3).2 3).1)-k).toNat<n->CS (Co l v6_4 v5 v8 K0 n x y z d k).2
 | 0,x,y,z,d,k,_,h=>absurd h (Nat.not_lt_zero _)
 | n+1,x,y,z,d,k,k0,h=>by
  unfold Co
  by_cases hc:k<W64 (1+(AA (AA (AD.mk (AU l 2) 0) 3).2 3).1)
  ·simp only [hc,decide_true,cond_true]
   exact Vr l v6_4 v5 v8 x y z d k K0 _ (fun a b c e=>Vs l v6_4 v5 v8 K0 n a b c e (k+1) (by omega) (by omega)) _ _ _ _ _ 0 (by omega) (Nat.lt_succ_self _)
  ·simp only [hc,decide_false,cond_false]
   exact gP _ _ _ _
theorem Vt (l:List (List Int)):∀ (n:Nat) (v:List AG) (d:AD) (k:Int),0<=k->(W64 (1+(AA (AA (AD.mk (AU l 2) 0) 3).2 3).1)-k).toNat<n->CS (CM l n v d k).2
 | 0,v,d,k,_,h=>absurd h (Nat.not_lt_zero _)
 | n+1,v,d,k,k0,h=>by
  unfold CM
  by_cases hc:k<W64 (1+(AA (AA (AD.mk (AU l 2) 0) 3).2 3).1)
  ·simp only [hc,decide_true,cond_true]
   exact Vt l n _ _ _ (by omega) (by omega)
  ·simp only [hc,decide_false,cond_false]
   exact Vs l v d k _ _ _ _ _ _ 0 (by omega) (Nat.lt_succ_self _)
theorem Uf (l:List (List Int)):CS (Cj l).2:=by
 unfold Cj
 exact Vt l _ _ _ 0 (by omega) (Nat.lt_succ_self _)
end
section
open Go.RowKit
def Ix {α:Type} [Inhabited α] (P:Nat->α->Prop) (v:List α):Prop:=∀ k,k<v.length->P k (v.getD k default)
theorem RV {α:Type} [Inhabited α] {P:Nat->α->Prop}:Ix P ([]:List α):=fun k h=>absurd h (Nat.not_lt_zero _)
theorem RW {α:Type} [Inhabited α] {P:Nat->α->Prop} {v:List α} {x:α} (h:Ix P v) (hx:P v.length x):Ix P (v++[x]):=by
 intro k hk
 by_cases h1:k<v.length
 ·rw [List.getD_eq_getElem?_getD,List.getElem?_append_left h1,<- List.getD_eq_getElem?_getD];exact h k h1
 ·have e:k=v.length:=by simp only [List.length_append,List.length_cons,List.length_nil] at hk;omega
  subst e
  rw [List.getD_eq_getElem?_getD,List.getElem?_append_right (Nat.le_refl _),Nat.sub_self];exact hx
theorem OY {α:Type} [Inhabited α] {P:Nat->α->Prop} {v:List α} {x:α} (h:Ix P v) (hx:x∈v):∃ k,k<v.length/\v.getD k default=x/\P k x:=by
 obtain ⟨k,hk,e⟩:=List.getElem_of_mem hx
 have e2:v.getD k default=x:=by rw [List.getD_eq_getElem?_getD,List.getElem?_eq_getElem hk];exact e
 exact ⟨k,hk,e2,e2▸h k hk⟩
structure Tc (k:Nat) (p:Ay):Prop where
 lt:k<6
 name:p.Name=Aj k
 drill:0<=p.Drill/\p.Drill<=6
 shp:∃ y:Int,0<=y/\y<=10/\p.At=AB.mk (30*(k:Int)) y/\(p.Shape=Cn (An.mk (30*(k:Int)-6) (y-6) (30*(k:Int)+6) (y+6))\/(∃ r:Int,4<=r/\r<=6/\p.Shape=DD (AB.mk (30*(k:Int)) y) r)\/p.Shape=AW.mk 1 [AE.mk 1 (AB.mk (30*(k:Int)-2) y) (AB.mk (30*(k:Int)+2) y) (AB.mk 0 0)] 4)
theorem CD {d:AD} {n:Int} (h0:0<n) (h1:n<=1000000):0<=(AA d n).1/\(AA d n).1<n:=Cx d n h0 (by omega)
theorem Po (l:List Int) (name:ByteArray):∀ (n:Nat) (v:List Ay) (d:AD) (k:Int),Ix Tc v->(v.length:Int)=k->k<=W64 (2+(AA (AD.mk l 0) 5).1)->(W64 (2+(AA (AD.mk l 0) 5).1)-k).toNat<n->Ix Tc (Cp l name n v d k).Pads
 | 0,v,d,k,_,_,_,h=>absurd h (Nat.not_lt_zero _)
 | n+1,v,d,k,hv,hl,hk,h=>by
  have hn:=CD (d:=AD.mk l 0) (n:=5) (by decide) (by decide)
  have hw:W64 (2+(AA (AD.mk l 0) 5).1)=2+(AA (AD.mk l 0) 5).1:=Al (by omega) (by omega)
  unfold Cp
  by_cases hc:k<W64 (2+(AA (AD.mk l 0) 5).1)
  ·rw [decide_eq_true hc,cond_true]
   refine Po l name n _ _ _ (RW hv ?_) (by simp only [List.length_append,List.length_cons,List.length_nil];omega) (by omega) (by omega)
   have hk6:v.length<6:=by omega
   have hy:=CD (d:=d) (n:=2) (by decide) (by decide)
   have hr:=CD (d:=(AA (AA d 2).2 3).2) (n:=3) (by decide) (by decide)
   have h4:=CD (d:=Z4h d) (n:=4) (by decide) (by decide)
   have h2:=CD (d:=(AA (Z4h d) 4).2) (n:=2) (by decide) (by decide)
   have e1:W64 (30*k)=30*(v.length:Int):=by rw [Al (by omega) (by omega)];omega
   have e2:W64 (10*(AA d 2).1)=10*(AA d 2).1:=Al (by omega) (by omega)
   refine ⟨hk6,by rw [<- hl],?_,10*(AA d 2).1,by omega,by omega,by show AB.mk _ _=_;rw [e1,e2],?_⟩
   ·show 0<=W64 (W64 (2*(AA (Z4h d) 4).1)*(AA (AA (Z4h d) 4).2 2).1)/\W64 (W64 (2*(AA (Z4h d) 4).1)*(AA (AA (Z4h d) 4).2 2).1)<=6
    rw [Al (x:=2*(AA (Z4h d) 4).1) (by omega) (by omega)]
    have h01:(AA (AA (Z4h d) 4).2 2).1=0\/(AA (AA (Z4h d) 4).2 2).1=1:=by omega
    rcases h01 with h01 | h01 <;> rw [h01] <;> rw [Al (by omega) (by omega)] <;> omega
   ·show (AW.mk _ (Z4i d k) _=_)\/_
    unfold Z4i Z4d Z4g
    rw [e1,e2]
    cases decide ((AA (AA d 2).2 3).1=0) with
    | true =>
     simp only [cond_true]
     left
     rw [Al (x:=30*(v.length:Int)-6) (by omega) (by omega),Al (x:=10*(AA d 2).1-6) (by omega) (by omega),Al (x:=30*(v.length:Int)+6) (by omega) (by omega),Al (x:=10*(AA d 2).1+6) (by omega) (by omega)]
    | false =>
     simp only [cond_false]
     right
     cases decide ((AA (AA d 2).2 3).1=1) with
     | true =>
      simp only [cond_true]
      left
      exact ⟨W64 (4+(AA (AA (AA d 2).2 3).2 3).1),by rw [Al (by omega) (by omega)];omega,by rw [Al (by omega) (by omega)];omega,rfl⟩
     | false =>
      simp only [cond_false]
      right
      rw [Al (x:=30*(v.length:Int)-2) (by omega) (by omega),Al (x:=30*(v.length:Int)+2) (by omega) (by omega)]
  ·rw [decide_eq_false hc,cond_false]
   exact hv
theorem Iv (l:List Int) (name:ByteArray):Ix Tc (A1 l name).Pads:=by
 have hn:=CD (d:=AD.mk l 0) (n:=5) (by decide) (by decide)
 have hw:W64 (2+(AA (AD.mk l 0) 5).1)=2+(AA (AD.mk l 0) 5).1:=Al (by omega) (by omega)
 unfold A1
 exact Po l name _ [] _ 0 RV rfl (by omega) (by omega)
abbrev nR:ByteArray:={ data := #[82] }
abbrev nQ:ByteArray:={ data := #[81] }
abbrev SG:List ByteArray:=[({ data := #[82,49] }:ByteArray),({ data := #[82,50] }:ByteArray),({ data := #[120,47,82,49] }:ByteArray)]
structure PB (k:Nat) (p:AG):Prop where
 id:p.Id=1+(k:Int)
 ref:p.Ref=SG.getD k ⟨#[]⟩
 typ:p.Type'=nR\/p.Type'=nQ
 turn:0<=p.Turn/\p.Turn<4
 x:80<=p.At.X/\p.At.X<=300
 y:100<=p.At.Y/\p.At.Y<=270
abbrev KL (l:List (List Int)):List AL:=[Z5h l,Z5i l]
theorem WT (l:List (List Int)) {i:Int} (hi:0<=i/\i<2):((KL l).getD i.toNat default).Name=nR\/((KL l).getD i.toNat default).Name=nQ:=by
 have h01:i=0\/i=1:=by omega
 rcases h01 with rfl | rfl
 ·exact .inl (Dc _ _).1
 ·exact .inr (Dc _ _).1
theorem Nw (l:List (List Int)) {x:ByteArray} (h:x=nR\/x=nQ):∃ a,BX (KL l) x=(A1 a x,true)/\A1 a x∈KL l:=by
 have h0:=(Dc (AU l 0) nR).1
 have h1:=(Dc (AU l 1) nQ).1
 rcases h with rfl | rfl
 ·refine ⟨AU l 0,?_,List.mem_cons_self ..⟩
  have:=Py (a:=Z5h l) (c:=Z5i l)
  rw [show (Z5h l).Name=nR from h0] at this
  exact this
 ·refine ⟨AU l 1,?_,List.mem_cons_of_mem _ (List.mem_cons_self ..)⟩
  have:=Px (a:=Z5h l) (c:=Z5i l) (by rw [show (Z5h l).Name=nR from h0,show (Z5i l).Name=nQ from h1];decide +kernel)
  rw [show (Z5i l).Name=nQ from h1] at this
  exact this
theorem TG (l:List (List Int)) {x:ByteArray} (h:x=nR\/x=nQ):((BX (KL l) x).1.Pads.length:Int)<=6:=by
 obtain ⟨a,e,_⟩:=Nw l h
 rw [e]
 exact (Dc a x).2.2
theorem OD (v5'':AD) (v:List Ac) (v6_4:List AG) (v10:Int) (l:List (List Int)) (v13:Int):(Z5Z v5'' v v6_4 v10 l v13).length<=v.length+1/\(Z60 v5'' v v6_4 v10 l v13).length<=v.length+1/\(Z61 v5'' v v6_4 v10 l v13).length<=v.length+1:=by
 unfold Z5Z Z60 Z61
 cases decide ((AA v5'' 5).1<3) <;> cases decide ((AA v5'' 5).1=0) <;> cases decide ((AA v5'' 5).1=1) <;> simp
theorem Vx (l:List (List Int)) (v6_4:List AG) (v5:AD) (v8:Int) (a1 a3 a5:List Ac) (d1:AD) (v10:Int) (K0:List AG->AD->Int->(AF×(List AL))) (K1:List Ac->List Ac->List Ac->AD->Int->(AF×(List AL))) (Q:AF×List AL->Prop) (M:Nat) (hK:∀ a b c d,a.length<=M->b.length<=M->c.length<=M->Q (K1 a b c d (v10+1))) :
  ∀ (n:Nat) (x y z:List Ac) (d:AD) (k:Int),0<=k->(x.length:Int)+((Z5Q l v6_4 v10).Pads.length-k)<=M->(y.length:Int)+((Z5Q l v6_4 v10).Pads.length-k)<=M->(z.length:Int)+((Z5Q l v6_4 v10).Pads.length-k)<=M->k<=(Z5Q l v6_4 v10).Pads.length->(((Z5Q l v6_4 v10).Pads.length:Int)-k).toNat<n->Q (C6 l v6_4 v5 v8 a1 a3 a5 d1 v10 K0 K1 n x y z d k)
 | 0,x,y,z,d,k,_,_,_,_,_,h=>absurd h (Nat.not_lt_zero _)
 | n+1,x,y,z,d,k,k0,hx,hy,hz,hk,h=>by
  unfold C6
  by_cases hc:(k:Int)<((Z5Q l v6_4 v10).Pads.length:Int)
  ·rw [decide_eq_true hc,cond_true]
   have p1:=(OD d x v6_4 v10 l k).1
   have p2:=(OD d y v6_4 v10 l k).2.1
   have p3:=(OD d z v6_4 v10 l k).2.2
   exact Vx l v6_4 v5 v8 a1 a3 a5 d1 v10 K0 K1 Q M hK n _ _ _ _ _ (by omega) (by omega) (by omega) (by omega) (by omega) (by omega)
  ·rw [decide_eq_false hc,cond_false]
   exact hK _ _ _ _ (by omega) (by omega) (by omega)
theorem Vy (l:List (List Int)) (v6_4:List AG) (v5:AD) (v8:Int) (K0:List AG->AD->Int->(AF×(List AL))) (Q:AF×List AL->Prop) (hp:Ix PB v6_4) (hm:(v6_4.length:Int)=W64 (1+(AA (AA (AD.mk (AU l 2) 0) 3).2 3).1)) (h3:v6_4.length<=3) (hQ:∀ x y z:List Ac,x.length<=18->y.length<=18->z.length<=18->Q ((Z67 l v6_4 x y z).1,KL l)) :
  ∀ (n:Nat) (x y z:List Ac) (d:AD) (k:Int),0<=k->(x.length:Int)<=6*k->(y.length:Int)<=6*k->(z.length:Int)<=6*k->k<=(v6_4.length:Int)->((v6_4.length:Int)-k).toNat<n->Q (Co l v6_4 v5 v8 K0 n x y z d k)
 | 0,x,y,z,d,k,_,_,_,_,_,h=>absurd h (Nat.not_lt_zero _)
 | n+1,x,y,z,d,k,k0,hx,hy,hz,hk,h=>by
  unfold Co
  rw [<- hm]
  by_cases hc:k<(v6_4.length:Int)
  ·rw [decide_eq_true hc,cond_true]
   have hg:=TG l (hp k.toNat (by omega)).typ
   have hg:((Z5Q l v6_4 k).Pads.length:Int)<=6:=hg
   exact Vx l v6_4 v5 v8 x y z d k K0 _ Q (6*(k+1)).toNat (fun a b c e ha hb hc'=>Vy l v6_4 v5 v8 K0 Q hp hm h3 hQ n a b c e (k+1) (by omega) (by omega) (by omega) (by omega) (by omega) (by omega)) _ _ _ _ _ 0 (by omega) (by omega) (by omega) (by omega) (by omega) (by omega)
  ·rw [decide_eq_false hc,cond_false]
   exact hQ _ _ _ (by omega) (by omega) (by omega)
theorem Vz (l:List (List Int)) (Q:AF×List AL->Prop) (hQ:∀ (v:List AG) (x y z:List Ac),Ix PB v->1<=v.length->v.length<=3->x.length<=18->y.length<=18->z.length<=18->Q ((Z67 l v x y z).1,KL l)) :
  ∀ (n:Nat) (v:List AG) (d:AD) (k:Int),Ix PB v->(v.length:Int)=k->k<=W64 (1+(AA (AA (AD.mk (AU l 2) 0) 3).2 3).1)->(W64 (1+(AA (AA (AD.mk (AU l 2) 0) 3).2 3).1)-k).toNat<n->Q (CM l n v d k)
 | 0,v,d,k,_,_,_,h=>absurd h (Nat.not_lt_zero _)
 | n+1,v,d,k,hv,hl,hk,h=>by
  have hn:=CD (d:=(AA (AD.mk (AU l 2) 0) 3).2) (n:=3) (by decide) (by decide)
  have hw:W64 (1+(AA (AA (AD.mk (AU l 2) 0) 3).2 3).1)=1+(AA (AA (AD.mk (AU l 2) 0) 3).2 3).1:=Al (by omega) (by omega)
  unfold CM
  by_cases hc:k<W64 (1+(AA (AA (AD.mk (AU l 2) 0) 3).2 3).1)
  ·rw [decide_eq_true hc,cond_true]
   refine Vz l Q hQ n _ _ _ (RW hv ?_) (by simp only [List.length_append,List.length_cons,List.length_nil];omega) (by omega) (by omega)
   have h2:=CD (d:=d) (n:=2) (by decide) (by decide)
   have h4:=CD (d:=(AA d 2).2) (n:=4) (by decide) (by decide)
   have h5:=CD (d:=Z5C d) (n:=5) (by decide) (by decide)
   have h6:=CD (d:=(AA (Z5C d) 5).2) (n:=3) (by decide) (by decide)
   have h7:=CD (d:=Z5F d) (n:=3) (by decide) (by decide)
   refine ⟨?_,by rw [<- hl];rfl,WT l h2,h4,?_,?_⟩
   ·show W64 (1+k)=_
    rw [Al (by omega) (by omega)];omega
   ·show 80<=W64 (W64 (80+W64 (100*k))+W64 (5*(AA (Z5C d) 5).1))/\W64 (W64 (80+W64 (100*k))+W64 (5*(AA (Z5C d) 5).1))<=300
    rw [Al (x:=100*k) (by omega) (by omega),Al (x:=80+100*k) (by omega) (by omega),Al (x:=5*(AA (Z5C d) 5).1) (by omega) (by omega),Al (by omega) (by omega)]
    omega
   ·show 100<=W64 (W64 (100+W64 (80*(AA (AA (Z5C d) 5).2 3).1))+W64 (5*(AA (Z5F d) 3).1))/\W64 (W64 (100+W64 (80*(AA (AA (Z5C d) 5).2 3).1))+W64 (5*(AA (Z5F d) 3).1))<=270
    rw [Al (x:=80*(AA (AA (Z5C d) 5).2 3).1) (by omega) (by omega),Al (x:=100+80*(AA (AA (Z5C d) 5).2 3).1) (by omega) (by omega),Al (x:=5*(AA (Z5F d) 3).1) (by omega) (by omega),Al (by omega) (by omega)]
    omega
  ·rw [decide_eq_false hc,cond_false]
   exact Vy l v d k _ Q hv (by omega) (by omega) (fun x y z hx hy hz=>hQ v x y z hv (by omega) (by omega) hx hy hz) _ [] [] [] _ 0 (by omega) (by simp) (by simp) (by simp) (by omega) (by omega)
theorem ZK (l:List (List Int)) (Q:AF×List AL->Prop) (hQ:∀ (v:List AG) (x y z:List Ac),Ix PB v->1<=v.length->v.length<=3->x.length<=18->y.length<=18->z.length<=18->Q ((Z67 l v x y z).1,KL l)):Q (Cj l):=by
 have hn:=CD (d:=(AA (AD.mk (AU l 2) 0) 3).2) (n:=3) (by decide) (by decide)
 have hw:W64 (1+(AA (AA (AD.mk (AU l 2) 0) 3).2 3).1)=1+(AA (AA (AD.mk (AU l 2) 0) 3).2 3).1:=Al (by omega) (by omega)
 unfold Cj
 exact Vz l Q hQ _ [] _ 0 RV rfl (by omega) (by omega)
end
section
open Go.RowKit
def PtB (p:AB):Prop:=(-900<=p.X/\p.X<=900) /\ -900<=p.Y/\p.Y<=900
theorem OR {x:Int} (h : -500<=x/\x<=500) : -500<=W64 (0-x)/\W64 (0-x)<=500:=by rw [Al (by omega) (by omega)];omega
theorem aS {x y:Int} (h : -500<=x/\x<=500) (k : -400<=y/\y<=400) : -900<=W64 (x+y)/\W64 (x+y)<=900:=by rw [Al (by omega) (by omega)];omega
theorem aO {m:Ab} {p:AB} (hp:(-500<=p.X/\p.X<=500) /\ -500<=p.Y/\p.Y<=500) (ha:(-400<=m.At.X/\m.At.X<=400) /\ -400<=m.At.Y/\m.At.Y<=400):PtB (Ew m p):=by
 have h1:(-500<=(B3 p m.Mirror).X/\(B3 p m.Mirror).X<=500) /\ -500<=(B3 p m.Mirror).Y/\(B3 p m.Mirror).Y<=500:=by
  unfold B3
  cases m.Mirror with
  | true=>exact ⟨OR hp.1,hp.2⟩
  | false=>exact hp
 have h2:∀ q:AB,((-500<=q.X/\q.X<=500) /\ -500<=q.Y/\q.Y<=500)->(-500<=(CK q m.Turn).X/\(CK q m.Turn).X<=500) /\ -500<=(CK q m.Turn).Y/\(CK q m.Turn).Y<=500:=fun q hq=>by
  unfold CK
  cases decide (CE m.Turn=1) with
  | true=>exact ⟨OR hq.2,hq.1⟩
  | false =>
   cases decide (CE m.Turn=2) with
   | true=>exact ⟨OR hq.1,OR hq.2⟩
   | false =>
    cases decide (CE m.Turn=3) with
    | true=>exact ⟨hq.2,OR hq.1⟩
    | false=>exact hq
 have h3:=h2 _ h1
 exact ⟨aS h3.1 ha.1,aS h3.2 ha.2⟩
theorem bD (b:AF) (l:List (List Int)) (d:AD) (hP:Ix PB b.Parts):PtB (Be b (KL l) d).1:=by
 have h12:=CD (d:=d) (n:=12) (by decide) (by decide)
 have h6:=CD (d:=(AA d 12).2) (n:=6) (by decide) (by decide)
 unfold Be
 cases hq:(bif decide ((AA d 12).1<8) then decide ((0:Int)<(b.Parts.length:Int)) else false) with
 | true =>
  have hi:=R9 hq
  rw [cond_true]
  show PtB (Z1i b d (KL l))
  have hp:=hP (Int.tmod (AA d 12).1 (b.Parts.length:Int)).toNat (by omega)
  obtain ⟨a,e,_⟩:=Nw l hp.typ
  have hx:=hp.x
  have hy:=hp.y
  unfold Z1i
  refine aO ?_ (by show (-400<=(Z1g b d).At.X/\(Z1g b d).At.X<=400) /\ -400<=(Z1g b d).At.Y/\(Z1g b d).At.Y<=400;unfold Z1g;omega)
  unfold Z1h Z1g
  rw [e]
  generalize (Int.tmod (AA (AA d 12).2 6).1 _).toNat=k
  by_cases hk:k<(A1 a (b.Parts.getD (Int.tmod (AA d 12).1 (b.Parts.length:Int)).toNat default).Type').Pads.length
  ·obtain ⟨h1,_,_,y,hy0,hy1,hat,_⟩:=Iv a _ k hk
   show (-500<=((A1 a (b.Parts.getD (Int.tmod (AA d 12).1 (b.Parts.length:Int)).toNat default).Type').Pads.getD k default).At.X/\_)/\_
   rw [hat]
   simp only
   omega
  ·rw [List.getD_eq_getElem?_getD,List.getElem?_eq_none (by show (A1 a (b.Parts.getD (Int.tmod (AA d 12).1 (b.Parts.length:Int)).toNat default).Type').Pads.length<=k;omega)]
   exact (by decide:(-500<=(0:Int)/\(0:Int)<=500) /\ -500<=(0:Int)/\(0:Int)<=500)
 | false =>
  rw [cond_false]
  show (-900<=W64 (30+Int.tmod (W64 (40*(AA d 12).1)) 360)/\W64 (30+Int.tmod (W64 (40*(AA d 12).1)) 360)<=900) /\ -900<=W64 (30+W64 (60*(AA (AA d 12).2 6).1))/\W64 (30+W64 (60*(AA (AA d 12).2 6).1))<=900
  rw [Al (x:=40*(AA d 12).1) (by omega) (by omega),Int.tmod_eq_emod_of_nonneg (by omega),Al (x:=60*(AA (AA d 12).2 6).1) (by omega) (by omega),Al (by omega) (by omega),Al (by omega) (by omega)]
  omega
structure O3 (k:Nat) (t:Az):Prop where
 id:t.Id=11+(k:Int)
 lay:1<=t.Layer/\t.Layer<=2
 kind:t.Shape.Kind=1
 r:3<=t.Shape.R/\t.Shape.R<=6
 edg:∃ a c d,PtB a/\PtB c/\t.Shape.Edges=(CO a c d).1
structure eX (k:Nat) (v:CG):Prop where
 id:v.Id=21+(k:Int)
 lay:v.From=1/\v.To=2
 r:6<=v.R/\v.R<=10
 at_:PtB v.At
 drill:4<=v.Drill/\v.Drill<=8
def gJ (s:Dh):Prop:=∃ r p,3<=r/\r<=6/\PtB p/\s.Shape=AW.mk 1 [Em p (AB.mk (W64 (p.X+25)) (W64 (p.Y+10)))] r
abbrev WO (b:AF) (types:List AL):Prop:=∀ d,PtB (Be (AF.mk b.Layers b.Outline b.Parts [] [] [] [] [] [] [] [] [] []) types d).1
abbrev eZ (b:AF) (Q:AF->Prop):Prop:=∀ (v1:List Az) (v2:List CG) (v3:List Bk) (v4:List Cs) (v5:List Dh),Ix O3 v1->v1.length<=5->Ix eX v2->v2.length<=2->v3.length<=2->v4.length<=1->v5.length<=1->(∀ s∈v5,gJ s)->Q (AF.mk b.Layers b.Outline b.Parts b.Nets v1 v2 v3 v4 v5 [] [] [] [])
theorem Y7 (b:AF) (types:List AL) (l:List (List Int)) (v1:List Az) (v6:AD) (v7:ByteArray) (v9:Int) (v2:List CG) (v6':AD) (v11:Int) (K0:List Az->AD->ByteArray->Int->AF) (K1:List CG->AD->Int->AF) (Q:AF->Prop) (hs:WO b types) (hQ:eZ b Q) (h1:Ix O3 v1) (h1l:v1.length<=5) (h2:Ix eX v2) (h2l:v2.length<=2) :
  ∀ (n:Nat) (v:List Bk) (d:AD) (k:Int),0<=k->(v.length:Int)<=k->k<=(AA v6' 3).1->((AA v6' 3).1-k).toNat<n->Q (B4 b types l v1 v6 v7 v9 v2 v6' v11 K0 K1 n v d k)
 | 0,v,d,k,_,_,_,h=>absurd h (Nat.not_lt_zero _)
 | n+1,v,d,k,k0,kv,kk,h=>by
  have hb:=CD (d:=v6') (n:=3) (by decide) (by decide)
  unfold B4
  by_cases hc:k<(AA v6' 3).1
  ·rw [decide_eq_true hc,cond_true]
   exact Y7 b types l v1 v6 v7 v9 v2 v6' v11 K0 K1 Q hs hQ h1 h1l h2 h2l n _ _ _ (by omega) (by simp only [List.length_append,List.length_cons,List.length_nil];omega) (by omega) (by omega)
  ·rw [decide_eq_false hc,cond_false]
   have h4:(Z1B l b types).length<=1:=by
    unfold Z1B
    cases decide ((AA (AD.mk (AU l 6) 0) 3).1=0) <;> simp
   cases decide ((AA (Z1A l b types) 3).1=0) with
   | true =>
    rw [cond_true]
    refine hQ _ _ _ _ _ h1 h1l h2 h2l (by omega) h4 (by simp) (fun s hm => ?_)
    rw [List.mem_singleton.1 hm]
    have hr:=CD (d:=Z1G b types l) (n:=4) (by decide) (by decide)
    exact ⟨W64 (3+(AA (Z1G b types l) 4).1),Z1H b types l,by rw [Al (by omega) (by omega)];omega,by rw [Al (by omega) (by omega)];omega,hs _,rfl⟩
   | false =>
    rw [cond_false]
    exact hQ _ _ _ _ _ h1 h1l h2 h2l (by omega) h4 (by simp) (fun s hm=>by cases hm)
theorem Y8 (b:AF) (types:List AL) (l:List (List Int)) (v1:List Az) (v6:AD) (v7:ByteArray) (v9:Int) (K0:List Az->AD->ByteArray->Int->AF) (Q:AF->Prop) (hs:WO b types) (hQ:eZ b Q) (h1:Ix O3 v1) (h1l:v1.length<=5) :
  ∀ (n:Nat) (v:List CG) (d:AD) (k:Int),Ix eX v->(v.length:Int)=k->k<=(AA (AD.mk (AU l 5) 0) 3).1->((AA (AD.mk (AU l 5) 0) 3).1-k).toNat<n->Q (CI b types l v1 v6 v7 v9 K0 n v d k)
 | 0,v,d,k,_,_,_,h=>absurd h (Nat.not_lt_zero _)
 | n+1,v,d,k,hv,kv,kk,h=>by
  have hb:=CD (d:=AD.mk (AU l 5) 0) (n:=3) (by decide) (by decide)
  unfold CI
  by_cases hc:k<(AA (AD.mk (AU l 5) 0) 3).1
  ·rw [decide_eq_true hc,cond_true]
   refine Y8 b types l v1 v6 v7 v9 K0 Q hs hQ h1 h1l n _ _ _ (RW hv ?_) (by simp only [List.length_append,List.length_cons,List.length_nil];omega) (by omega) (by omega)
   have h5:=CD (d:=Z2b b types d) (n:=5) (by decide) (by decide)
   have h3:=CD (d:=(AA (Z2b b types d) 5).2) (n:=3) (by decide) (by decide)
   refine ⟨?_,⟨rfl,rfl⟩,?_,hs _,?_⟩
   ·show W64 (21+k)=_
    rw [Al (by omega) (by omega)];omega
   ·show 6<=W64 (6+_)/\W64 (6+_)<=10
    rw [Al (by omega) (by omega)];omega
   ·show 4<=W64 (4+W64 (2*_))/\W64 (4+W64 (2*_))<=8
    rw [Al (x:=2*_) (by omega) (by omega),Al (by omega) (by omega)];omega
  ·rw [decide_eq_false hc,cond_false]
   have hd:=CD (d:=d) (n:=3) (by decide) (by decide)
   exact Y7 b types l v1 v6 v7 v9 v d k K0 _ Q hs hQ h1 h1l hv (by omega) _ [] _ 0 (by omega) (by simp) (by omega) (by omega)
theorem Y9 (b:AF) (types:List AL) (l:List (List Int)) (Q:AF->Prop) (hs:WO b types) (hQ:eZ b Q) :
  ∀ (n:Nat) (v:List Az) (d:AD) (s:ByteArray) (k:Int),Ix O3 v->(v.length:Int)=k->k<=(AA (Z1m b l) 6).1->((AA (Z1m b l) 6).1-k).toNat<n->Q (Bv b types l n v d s k)
 | 0,v,d,s,k,_,_,_,h=>absurd h (Nat.not_lt_zero _)
 | n+1,v,d,s,k,hv,kv,kk,h=>by
  have hb:=CD (d:=Z1m b l) (n:=6) (by decide) (by decide)
  unfold Bv
  by_cases hc:k<(AA (Z1m b l) 6).1
  ·rw [decide_eq_true hc,cond_true]
   refine Y9 b types l Q hs hQ n _ _ _ _ (RW hv ?_) (by simp only [List.length_append,List.length_cons,List.length_nil];omega) (by omega) (by omega)
   have h2:=CD (d:=d) (n:=2) (by decide) (by decide)
   have h4:=CD (d:=(AA d 2).2) (n:=4) (by decide) (by decide)
   refine ⟨?_,?_,rfl,?_,_,_,_,?_,?_,rfl⟩
   ·show W64 (11+k)=_
    rw [Al (by omega) (by omega)];omega
   ·show 1<=W64 (1+_)/\W64 (1+_)<=2
    rw [Al (by omega) (by omega)];omega
   ·show 3<=W64 (3+_)/\W64 (3+_)<=6
    rw [Al (by omega) (by omega)];omega
   ·exact hs _
   ·exact hs _
  ·rw [decide_eq_false hc,cond_false]
   exact Y8 b types l v d s k _ Q hs hQ hv (by omega) _ [] _ 0 RV rfl (by have:=CD (d:=AD.mk (AU l 5) 0) (n:=3) (by decide) (by decide);omega) (by omega)
theorem cZ (b:AF) (types:List AL) (l:List (List Int)) (Q:AF->Prop) (hs:WO b types) (hQ:eZ b Q):Q (BA b types l):=by
 have hb:=CD (d:=Z1m b l) (n:=6) (by decide) (by decide)
 unfold BA
 exact Y9 b types l Q hs hQ _ [] _ _ 0 RV rfl (by omega) (by omega)
structure Fx (B:AF) (T:List AL) (l:List (List Int)):Prop where
 lay:B.Layers=2
 types:T=KL l
 par:Ix PB B.Parts
 parl:1<=B.Parts.length/\B.Parts.length<=3
 net:∃ p q r,B.Nets=[BO.mk nN1 p,BO.mk nN2 q,BO.mk dL r]/\p.length<=18/\q.length<=18/\r.length<=18
 trk:Ix O3 B.Tracks
 trkl:B.Tracks.length<=5
 via:Ix eX B.Vias
 vial:B.Vias.length<=2
 slot:∀ s∈B.Slots,gJ s
 slotl:B.Slots.length<=1
 poul:B.Pours.length<=2
 keel:B.Keeps.length<=1
theorem iT {α:Type} {c:Bool} {a b:AF×α} {T:List AL} {l:List (List Int)} (h:Fx a.1 T l) (k:Fx b.1 T l):Fx (bif c then a else b).1 T l:=by cases c <;> assumption
theorem iX (l:List (List Int)):Fx (Cj l).1 (Cj l).2 l:=by
 refine ZK l (fun x=>Fx x.1 x.2 l) fun v x y z hv h1 h3 hx hy hz => ?_
 show Fx (Z67 l v x y z).1 (KL l) l
 unfold Z67
 have ho:=cZ (AF.mk 2 (Z5p l) v [BO.mk nN1 x,BO.mk nN2 y,BO.mk dL z] [] [] [] [] [] [] [] [] []) (KL l) l
  (fun B=>Fx B (KL l) l) (fun d=>bD _ l d hv) (fun v1 v2 v3 v4 v5 a b c e f g h i=>⟨rfl,rfl,hv,⟨h1,h3⟩,⟨x,y,z,rfl,hx,hy,hz⟩,a,b,c,e,i,h,f,g⟩)
 have ho:Fx (Z65 l v x y z) (KL l) l:=ho
 obtain ⟨a1,a2,a3,a4,a5,a6,a7,a8,a9,a10,a11,a12,a13⟩:=ho
 unfold DN
 exact iT ⟨a1,a2,a3,a4,a5,a6,a7,a8,a9,a10,a11,a12,a13⟩ ⟨a1,a2,a3,a4,a5,a6,a7,a8,a9,a10,a11,a12,a13⟩
end
section
open Go.RowKit
def Z6f (l:(List (List Int))):AF:=(Cj (l.take (min (l.length:Int) 8:Int).toNat)).1
def AP (l:(List (List Int))):(AF×(List AL)):=(Z6f l,(Cj (l.take (min (l.length:Int) 8:Int).toNat)).2)
abbrev Jj (l:List (List Int)):=lst 3 AL.c (AP l).2
def LF (l:(List (List Int))):FuncId×List Av×Ef:=(6,[.one (lst 1 (fun x=>[lst 1 (fun x=>[.i x]) x]) l)],.val [] (.tup [.agg (AF.c (AP l).1),.one (Jj l)]))
theorem bY (l:(List (List Int))) (hl:(l.length:Int)<=9223372036854775807) (hll:∀ x∈l,(x.length:Int)<=9223372036854775807):BH Tryz.prog 6 (LF l).2.1 (.tup [.agg (AF.c (AP l).1),.one (lst 3 AL.c (AP l).2)]):=by
 refine AO Tryz.func6 rfl kr kr fun W0 M0 => ?_
 refine AC<|rn ⟨[(0,.av (oL l)),(2,tP 2 0)],[(2,.cells Ry 40)]⟩<|AC ?_
 refine rc [(9,ceI [.one (.list false 1 ((min (l.length:Int) 8:Int).toNat-(0:Int).toNat) (fun i_ j_=>(Ak (fun x=>[lst 1 (fun x=>[.i x]) x]) l) (i_+(0:Int).toNat) j_))] (JR (l.take (min (l.length:Int) 8:Int).toNat)))] [0<=(0:Int)/\(0:Int)<=(min (l.length:Int) 8:Int)/\(min (l.length:Int) 8:Int)<=((l.length:Nat):Int),Ap (ceI [.one (.list false 1 ((min (l.length:Int) 8:Int).toNat-(0:Int).toNat) (fun i_ j_=>(Ak (fun x=>[lst 1 (fun x=>[.i x]) x]) l) (i_+(0:Int).toNat) j_))] (JR (l.take (min (l.length:Int) 8:Int).toNat))).2.1] ⟨[(2,tP 2 0),(3,tO (lst 3 AL.c (Cj (l.take (min (l.length:Int) 8:Int).toNat)).2))],[(2,.cells (AF.c (Z6f l)) 40)]⟩ (.cons (C1 (Y5 (l.take (min (l.length:Int) 8:Int).toNat) (by first | (exact fun x hx=>hll x (List.mem_of_mem_take hx)) | (simp only [List.length_take];omega) | with_reducible assumption | omega | decide | (simp only [List.length_cons,List.length_nil,List.length_append];omega) | assumption) (by first | (exact fun x hx=>hll x (List.mem_of_mem_take hx)) | (simp only [List.length_take];omega) | with_reducible assumption | omega | decide | (simp only [List.length_cons,List.length_nil,List.length_append];omega) | assumption)) (.cons (.one (Bj false (WU (b:=min (l.length:Int) 8) (BR 1 (fun x=>[lst 1 (fun x=>[.i x]) x]) l) (by have hc:=(show 0<=(0:Int)/\(0:Int)<=(min (l.length:Int) 8:Int)/\(min (l.length:Int) 8:Int)<=((l.length:Nat):Int) from au0);exact hc.2.1) (by have hc:=(show 0<=(0:Int)/\(0:Int)<=(min (l.length:Int) 8:Int)/\(min (l.length:Int) 8:Int)<=((l.length:Nat):Int) from au0);exact hc.2.2)))) .nil)) .nil) (.cons au0 (.cons rfl .nil))<|AH<|AZ ?_
 exact ⟨_,Cv.refl _,.inl rfl,.tup [.agg (AF.c (Z6f l)),.one (lst 3 AL.c (Cj (l.take (min (l.length:Int) 8:Int).toNat)).2)],by kernel_rfl,Ad (by rfl)⟩
theorem Yy (l:(List (List Int))) (hl:(l.length:Int)<=9223372036854775807) (hll:∀ x∈l,(x.length:Int)<=9223372036854775807):Aq Tryz.prog (LF l).1 (LF l).2.1 (LF l).2.2:=AR (fun _ _=>kr) fun _=>bY l hl hll
theorem E1 (l:List (List Int)):CS (AP l).2:=Uf _
theorem Sr (l:List (List Int)):Hc (AP l).1:=iY _
end
section
open Go.RowKit
theorem Iu (l:List (List Int)):∃ k,Fx (AP l).1 (AP l).2 k:=⟨_,iX _⟩
theorem Ss (l:List (List Int)):((AP l).1.Nets.length:Int)<=1000000:=by
 obtain ⟨k,h⟩:=Iu l
 obtain ⟨p,q,r,e,_⟩:=h.net
 rw [e];show ((3:Nat):Int)<=1000000;decide
theorem Sq (l:List (List Int)):∀ n∈(AP l).1.Nets,(n.Pins.length:Int)<=1000000:=by
 obtain ⟨k,h⟩:=Iu l
 obtain ⟨p,q,r,e,h1,h2,h3⟩:=h.net
 rw [e]
 intro n hn
 simp only [List.mem_cons,List.not_mem_nil,or_false] at hn
 rcases hn with rfl | rfl | rfl <;> (simp only;omega)
theorem Sp (l:List (List Int)):((Ai (AP l).1 (AP l).2).length:Int)<=20000000:=by
 have h:=(Sr l).par
 exact Wp (by omega) (E1 l)
end
section
open Go.RowKit
theorem cA  (l:(List AE)) (closed:Bool):BH Tryz.prog 74 [.one (lst 7 AE.c l),.one (.b closed)] (.av (.one (.clo 100 2 (BU [.eptr 1 1 (gD [lst 7 AE.c l]) 0 0,.eptr 1 1 (gD [.b closed]) 0 0])))):=by
 refine AO Tryz.func74 rfl kr kr fun W0 M0 => ?_
 refine AC<|rn ⟨Il,[(2,.cells [lst 7 AE.c l] 25),(3,.cells [.b closed] 4)]⟩<|AC ?_
 refine rn ⟨[(4,tO (.clo 100 2 (BU [.ptr 2 0,.ptr 3 0])))],[(2,.cells [lst 7 AE.c l] 25),(3,.cells [.b closed] 4)]⟩<|AZ ?_
 exact ⟨_,Cv.trans (I2 (⟨[(4,.av (.one (.clo 100 2 (BU [.eptr 1 1 (gD [lst 7 AE.c l]) 0 0,.ptr 3 0]))))],[(3,.cells [.b closed] 4)]⟩) 2 [lst 7 AE.c l] 25 (K:=[]) (fun k x h=>by cases h) kr kr kr kr) (Cv.trans (I2 (⟨[(4,.av (.one (.clo 100 2 (BU [.eptr 1 1 (gD [lst 7 AE.c l]) 0 0,.eptr 1 1 (gD [.b closed]) 0 0]))))],[]⟩) 3 [.b closed] 4 (K:=[]) (fun k x h=>by cases h) kr kr kr kr) (Cv.refl _)),.inl rfl,.av (.one (.clo 100 2 (BU [.eptr 1 1 (gD [lst 7 AE.c l]) 0 0,.eptr 1 1 (gD [.b closed]) 0 0]))),by kernel_rfl,Ad rfl⟩
end
section
open Go.RowKit
def jnN (l:List AE) (closed:Bool):Nat:=(l.length-1)+(bif closed then 1 else 0)
def jnA (l:List AE) (x:Nat):AE:=if x+1<l.length then l.getD x default else l.getD (l.length-1) default
def jnB (l:List AE) (x:Nat):AE:=if x+1<l.length then l.getD (x+1) default else l.getD 0 default
abbrev Mw (l:List AE):Cl:=.eptr 1 1 (fun _ j=>([lst 7 AE.c l]:List Cl).getD j default) 0 0
abbrev Mx (c:Bool):Cl:=.eptr 1 1 (fun _ j=>([.b c]:List Cl).getD j default) 0 0
abbrev ylV (ly:Nat):Tv:=.av (.one (.val (.func (.yield ly) #[] #[])))
abbrev tOj (c:Cl):Tv:=.av (.one c)
theorem Ky:∀ x:AE,∀ y∈AE.c x,NM y:=by
 intro x y hy
 simp only [AE.c,List.mem_cons,List.not_mem_nil,or_false] at hy
 rcases hy with rfl | rfl | rfl | rfl | rfl | rfl | rfl <;> exact .val _
theorem RK (l:List AE):NM (Mw l):=ET fun y hy=>by rw [List.mem_singleton.1 hy];exact CH Ky
theorem RL (c:Bool):NM (Mx c):=ET fun y hy=>by rw [List.mem_singleton.1 hy];exact .val _
theorem Zz (x:AE):(AE.c x).all Cl.isV=true:=rfl
section
variable (l:List AE) (closed:Bool)
theorem XH (h:closed=true->1<=l.length) (hl:(l.length:Int)<=1000000):Ru Tryz.prog 100 2 (BU [Mw l,Mx closed]) (jnN l closed) (fun x=>[.agg (AE.c (jnA l x.val)),.agg (AE.c (jnB l x.val))]):=by
 refine eD Tryz.func100 rfl rfl (fun x=>rfl) (fun x e he c hc => ?_) kr (fun i hi => ?_) ?_
 ·have:c.isV=true:=by
   simp only [List.mem_cons,List.not_mem_nil,or_false] at he
   rcases he with rfl | rfl
   ·exact List.all_eq_true.1 (Zz _) c hc
   ·exact List.all_eq_true.1 (Zz _) c hc
  simp only [List.mem_cons,List.not_mem_nil,or_false] at he
  rcases he with rfl | rfl <;> (simp only [Av.cells,AE.c,List.mem_cons,List.not_mem_nil,or_false] at hc;rcases hc with rfl | rfl | rfl | rfl | rfl | rfl | rfl <;> rfl)
 ·match i,hi with
  | 0,_=>rfl
  | 1,_=>rfl
 intro Ow n0 ly JJ Jx hO hJg hY
 have hT:∀ (v:Int) i u,get [(0,ylV ly),(1,tOj (Mw l)),(2,tOj (Mx closed)),(4,tI v)] i=some u->u.dv=true/\TvM u:=fun v=>BW (p:=fun u=>Tv.dv u=true/\TvM u) (by
  simp only [List.forall_mem_cons]
  exact ⟨⟨rfl,BC (.val _)⟩,⟨rfl,BC (RK l)⟩,⟨rfl,BC (RL closed)⟩,⟨rfl,BC (.val _)⟩,fun x hx=>by cases hx⟩)
 have hd0:∀ (v:Int) i u,get [(0,ylV ly),(1,tOj (Mw l)),(2,tOj (Mx closed)),(4,tI v)] i=some u->u.dv=true:=fun v i u h=>(hT v i u h).1
 refine Cy ?_
 refine Cy ?_
 refine DZ hO (BW (p:=fun u=>Tv.dv u=true) (by simp [EB,CW,Tv.dv,Av.dv,Cl.dv,List.range,List.range.loop,BU])) rfl fun W0 X1 M1 => ?_
 refine DF D3 [] [] [] [0,1,2,4] [] [] ⟨[(0,ylV ly),(1,tOj (Mw l)),(2,tOj (Mx closed)),(4,tI 1)],[]⟩ .nil kr .nil ?_
 refine DA ?_
 refine Fb ?_
 have eA:∀ k:Nat,k+1<l.length->[Av.agg (AE.c (l.getD ((W64 (((k:Int)+1)-1)).toNat) default)),Av.agg (AE.c (l.getD ((k:Int)+1).toNat default))]=[.agg (AE.c (jnA l k)),.agg (AE.c (jnB l k))]:=fun k hk=>by
  have e1:W64 (((k:Int)+1)-1)=(k:Int):=by rw [Al (by omega) (by omega)];omega
  have e2:((k:Int)+1).toNat=k+1:=by omega
  rw [e1,e2,Int.toNat_natCast]
  unfold jnA jnB
  rw [if_pos hk,if_pos hk]
 refine M9 (ι:=Nat) (fun k=>⟨[(0,ylV ly),(1,tOj (Mw l)),(2,tOj (Mx closed)),(4,tI ((k:Int)+1))],[]⟩) (fun k=>JJ k) (fun k=>k<=l.length-1) (fun k=>l.length-k) (fun k hk => ?_) 0 (Nat.zero_le _)
 refine Cy ?_
 refine Cy ?_
 refine DZ hO (hd0 _) rfl fun W0 X1 M1 => ?_
 refine DF D3 [] [] [] [0,1,2,4,8] [] [] ⟨[(0,ylV ly),(1,tOj (Mw l)),(2,tOj (Mx closed)),(4,tI ((k:Int)+1)),(8,tB (decide ((((k:Int)+1):Int)<((l.length:Int)))))],[]⟩ .nil kr .nil ?_
 refine DA ?_
 refine FO (decide ((((k:Int)+1):Int)<((l.length:Int)))) kr (fun hc => ?_) (fun hc => ?_)
 ·have hlt:k+1<l.length:=by have:=of_decide_eq_true hc;omega
  refine Gs ?_
  refine DA ?_
  refine Cy ?_
  refine Fb ?_
  refine Cy ?_
  refine Pr (ly:=ly) hO Vq D3 10 rfl [] [] [0,1,2,4,11,16,20] [0,1,2,4,22] [0<=(W64 (((k:Int)+1)-1):Int)/\(W64 (((k:Int)+1)-1):Int)<((l.length:Nat):Int),0<=(((k:Int)+1):Int)/\(((k:Int)+1):Int)<((l.length:Nat):Int)]
   [(0,ylV ly),(1,tOj (Mw l)),(2,tOj (Mx closed)),(4,tI ((k:Int)+1)),(11,ylV ly),(16,.av (.agg (AE.c (l.getD ((W64 (((k:Int)+1)-1)).toNat) default)))),(20,.av (.agg (AE.c (l.getD ((k:Int)+1).toNat default))))] kr kr ?conds kr kr [Av.agg (AE.c (l.getD ((W64 (((k:Int)+1)-1)).toNat) default)),Av.agg (AE.c (l.getD ((k:Int)+1).toNat default))] rfl rfl kr kr kr rfl kr ?hT1 (hJg k) (JJ (k+1)) (Jx (k+1)) ?hY [] [] ⟨[(0,ylV ly),(1,tOj (Mw l)),(2,tOj (Mx closed)),(4,tI ((k:Int)+1)),(22,tB (!true))],[]⟩ ⟨[(22,tB (!false))],[]⟩ kr .nil kr .nil ?hQt ?hQf ?hdv rfl
  case conds =>
   have e1:W64 (((k:Int)+1)-1)=(k:Int):=by rw [Al (by omega) (by omega)];omega
   exact .cons ⟨by rw [e1];omega,by rw [e1];omega⟩ (.cons ⟨by omega,by omega⟩ .nil)
  case hT1=>exact BW (p:=fun u=>Tv.dv u=true/\TvM u) (by
   simp only [List.forall_mem_cons]
   exact ⟨⟨rfl,BC (.val _)⟩,⟨rfl,BC (RK l)⟩,⟨rfl,BC (RL closed)⟩,⟨rfl,BC (.val _)⟩,⟨rfl,BC (.val _)⟩,⟨rfl,Ky _⟩,⟨rfl,Ky _⟩,fun x hx=>by cases hx⟩)
  case hY =>
   intro W hW
   have hk2:k<jnN l closed:=by unfold jnN;omega
   rw [eA k hlt]
   exact hY k hk2 W hW
  case hQt =>
   refine DA ?_
   refine FO false kr (fun h=>by cases h) (fun _ => ?_)
   refine Gs ?_
   refine V7 ?_
   refine DA ?_
   refine DZ hO (fun i u h => ?_) rfl fun W0 X1 M1 => ?_
   ·exact BW (p:=fun u=>Tv.dv u=true) (by simp only [List.forall_mem_cons];exact ⟨rfl,rfl,rfl,rfl,rfl,fun x hx=>by cases hx⟩) i u h
   refine DF D3 [] [] [] [0,1,2,4] [] [] ⟨[(0,ylV ly),(1,tOj (Mw l)),(2,tOj (Mx closed)),(4,tI (W64 (((k:Int)+1)+1)))],[]⟩ .nil kr .nil ?_
   refine DA ?_
   refine ⟨k+1,by omega,by omega,?_,rfl,rfl⟩
   have e3:W64 (((k:Int)+1)+1)=((k+1:Nat):Int)+1:=by rw [Al (by omega) (by omega)];omega
   rw [e3]
  case hQf =>
   refine DA ?_
   refine FO true kr (fun _ => ?_) (fun h=>by cases h)
   refine ZW ?_
   exact ⟨.inl rfl,.inr ⟨k,by unfold jnN;omega,rfl⟩⟩
  case hdv=>exact BW (p:=fun u=>Tv.dv u=true) (by simp only [List.forall_mem_cons];exact ⟨rfl,rfl,rfl,rfl,rfl,fun x hx=>by cases hx⟩)
 ·have hge:¬ k+1<l.length:=by have:=of_decide_eq_false hc;omega
  refine NA ?_
  refine Ma ?_
  refine Ma ?_
  refine NB ?_
  refine DA ?_
  refine Cy ?_
  refine DZ hO (fun i u h => ?_) rfl fun W0 X1 M1 => ?_
  ·exact BW (p:=fun u=>Tv.dv u=true) (by simp only [List.forall_mem_cons];exact ⟨rfl,rfl,rfl,rfl,rfl,fun x hx=>by cases hx⟩) i u h
  refine DF D3 [] [] [] [0,1,2,23] [] [] ⟨[(0,ylV ly),(1,tOj (Mw l)),(2,tOj (Mx closed)),(23,tB closed)],[]⟩ .nil kr .nil ?_
  refine DA ?_
  refine FO closed kr (fun hcl => ?_) (fun hcl => ?_)
  ·have h1:=h hcl
   have hkl:k=l.length-1:=by omega
   have hk2:k<jnN l closed:=by unfold jnN;rw [hcl];show k<l.length-1+1;omega
   have hn:k+1=jnN l closed:=by unfold jnN;rw [hcl];show k+1=l.length-1+1;omega
   have e1:W64 (((l.length:Int))-1)=((l.length-1:Nat):Int):=by rw [Al (by omega) (by omega)];omega
   refine Pr (ly:=ly) hO Vq D3 10 rfl [] [] [0,1,2,24,30,33] [0] [0<=(W64 (((l.length:Int))-1):Int)/\(W64 (((l.length:Int))-1):Int)<((l.length:Nat):Int),0<=(0:Int)/\(0:Int)<((l.length:Nat):Int)]
    [(0,ylV ly),(1,tOj (Mw l)),(2,tOj (Mx closed)),(24,ylV ly),(30,.av (.agg (AE.c (l.getD ((W64 (((l.length:Int))-1)).toNat) default)))),(33,.av (.agg (AE.c (l.getD 0 default))))] kr kr ?conds kr kr [Av.agg (AE.c (l.getD ((W64 (((l.length:Int))-1)).toNat) default)),Av.agg (AE.c (l.getD 0 default))] rfl rfl kr kr kr rfl kr ?hT1 (hJg k) (JJ (k+1)) (Jx (k+1)) ?hY [] [] ⟨[(0,ylV ly)],[]⟩ ⟨[],[]⟩ kr .nil kr .nil ?hQt ?hQf ?hdv rfl
   case conds=>exact .cons ⟨by rw [e1];omega,by rw [e1];omega⟩ (.cons ⟨by omega,by omega⟩ .nil)
   case hT1=>exact BW (p:=fun u=>Tv.dv u=true/\TvM u) (by
    simp only [List.forall_mem_cons]
    exact ⟨⟨rfl,BC (.val _)⟩,⟨rfl,BC (RK l)⟩,⟨rfl,BC (RL closed)⟩,⟨rfl,BC (.val _)⟩,⟨rfl,Ky _⟩,⟨rfl,Ky _⟩,fun x hx=>by cases hx⟩)
   case hY =>
    intro W hW
    have:=hY k hk2 W hW
    have eL:[Av.agg (AE.c (l.getD ((W64 (((l.length:Int))-1)).toNat) default)),Av.agg (AE.c (l.getD 0 default))]=[.agg (AE.c (jnA l k)),.agg (AE.c (jnB l k))]:=by
     unfold jnA jnB
     rw [if_neg hge,if_neg hge,e1,Int.toNat_natCast]
    rw [eL]
    exact this
   case hQt =>
    refine ⟨.inr rfl,.inl ?_⟩
    rw [hn]
   case hQf=>exact ⟨.inr rfl,.inr ⟨k,hk2,rfl⟩⟩
   case hdv=>exact BW (p:=fun u=>Tv.dv u=true) (by simp only [List.forall_mem_cons];exact ⟨rfl,rfl,rfl,rfl,fun x hx=>by cases hx⟩)
  ·refine Gs ?_
   refine ⟨.inr rfl,.inl ?_⟩
   have:k=jnN l closed:=by unfold jnN;rw [hcl];show k=l.length-1+0;omega
   rw [<- this]
end
end
section
open Go.RowKit
theorem eK {l:Nat} {b c:Bool} (h:(bif b then b else (bif decide (((l:Nat):Int)=0) then decide (((l:Nat):Int)=0) else c))=false):1<=l:=by
 cases b with
 | true=>cases h
 | false =>
  by_cases e:((l:Nat):Int)=0
  ·rw [decide_eq_true e] at h;cases h
  ·omega
abbrev C2 (s:AW):Bool:=(decide ((s.Kind:Int)=2))
abbrev Ei (s:AW):=lst 7 AE.c s.Edges
abbrev Ig (s:AW):List Cl:=[lst 7 AE.c s.Edges]
def Z6g (s:AW):FuncId×List Av×Ef:=(74,[.one (Ei s),.one (.b (C2 s))],.val [] (.av (.one (.clo 100 2 (BU [.eptr 1 1 (fun _ j=>((Ig s):List Cl).getD j default) 0 0,.eptr 1 1 (fun _ j=>([.b (C2 s)]:List Cl).getD j default) 0 0])))))
def Cb (s:AW) (v39:Int) (K0:Int->Int):Nat->Nat->Int
 | 0,_=>bif bif bif bif decide ((s.Kind:Int)=2) then !decide ((s.R:Int)=0) else false then true else decide ((s.R:Int)<0) then true else decide ((4194304:Int)<s.R) then 3 else 0
 | m+1,x=>bif !(decide ((jnA s.Edges x).B.X=(jnB s.Edges x).A.X)&&(decide ((jnA s.Edges x).B.Y=(jnB s.Edges x).A.Y)&&true)) then 12 else (Cb s v39 K0 m (x+1))
def CU (s:AW):Nat->Int->Int
 | 0,_=>default
 | n0+1,v39=>bif decide ((v39:Int)<(s.Edges.length:Int)) then (bif !decide (((Dv (s.Edges.getD v39.toNat default)):Int)=0) then (Dv (s.Edges.getD v39.toNat default)) else ((CU s n0) (v39+1))) else (Cb s v39 (CU s n0) (jnN s.Edges (decide ((s.Kind:Int)=2))) 0)
def Ck (s:AW):Int:=bif bif bif !decide ((s.Kind:Int)=1) then !(decide ((s.Kind:Int)=2)) else false then (bif !decide ((s.Kind:Int)=1) then !(decide ((s.Kind:Int)=2)) else false) else (bif decide (((s.Edges.length:Int):Int)=0) then (decide (((s.Edges.length:Int):Int)=0)) else (bif decide ((s.Kind:Int)=2) then decide (((s.Edges.length:Int):Int)<2) else false)) then 12 else (bif decide ((40:Int)<(s.Edges.length:Int)) then 2 else (CU s (((s.Edges.length:Int)-0).toNat+1) 0))
def JS (s:AW):FuncId×List Av×Ef:=(39,[.agg (AW.c s)],.val [] (.av (.one (.i (Ck s)))))
abbrev PZ (s:AW):Nat×Tv:=(3,tB (decide ((s.Kind:Int)=2)))
abbrev Gl (s:AW):List (Nat×Blk):=[(IG s),(2,.cells [.i 0] 132)]
abbrev Im:Nat×Blk:=(200002,.cells [.i 0] 132)
abbrev KB (s:AW):Nat×Tv:=(38,tI (s.Edges.length:Int))
abbrev Lj (s:AW):Nat×Blk:=(200001,.cells (AW.c s) 27)
abbrev Hf (s:AW) (t_:List (Nat×Tv)):List (Nat×Tv):=(1,tP 1 0)::(2,tP 2 0)::(3,tB (C2 s))::t_
abbrev NP (s:AW) (t_:List (Nat×Tv)):List (Nat×Tv):=(1,tP 200001 0)::(2,tP 200002 0)::(3,tB (C2 s))::t_
theorem cK (s:AW) (hl:(s.Edges.length:Int)<=9223372036854775807):BH Tryz.prog 39 (JS s).2.1 (tO (.i (Ck s))):=by
 refine AO Tryz.func39 rfl kr kr fun W0 M0 => ?_
 refine AC<|rn ⟨[(1,tP 1 0),(2,tP 2 0)],[(1,.cells (AW.c s) 27),(2,.cells [.i 0] 132)]⟩<|AC ?_
 refine rn ⟨[(1,tP 1 0),(2,tP 2 0),(3,tB (decide ((s.Kind:Int)=2)))],[(1,.cells (AW.c s) 27),(2,.cells [.i 0] 132)]⟩ ?_
 refine AC<|Af ?_
 refine AC<|AC ?_
 refine rc [] [gt (!decide ((s.Kind:Int)=1)),gt (!decide ((s.Kind:Int)=1))] ⟨[(1,tP 1 0),(2,tP 2 0),(3,tB (decide ((s.Kind:Int)=2))),(12,tB (bif !decide ((s.Kind:Int)=1) then !(decide ((s.Kind:Int)=2)) else false))],[(1,.cells (AW.c s) 27),(2,.cells [.i 0] 132)]⟩ .nil (ci (ci .nil))<|AH ?_
 refine Bc (⟨[(1,tP 1 0),(2,tP 2 0),(3,tB (decide ((s.Kind:Int)=2))),(12,tB (bif bif !decide ((s.Kind:Int)=1) then !(decide ((s.Kind:Int)=2)) else false then (bif !decide ((s.Kind:Int)=1) then !(decide ((s.Kind:Int)=2)) else false) else (bif decide (((s.Edges.length:Int):Int)=0) then (decide (((s.Edges.length:Int):Int)=0)) else (bif decide ((s.Kind:Int)=2) then decide (((s.Edges.length:Int):Int)<2) else false))))],[(1,.cells (AW.c s) 27),(2,.cells [.i 0] 132)]⟩) ?_ ?_
 ·refine AY _ rfl (fun h1 => ?_) (fun h1 => ?_)
  ·refine Ae<|AH ?_
   refine A4 ?_
   first | rfl | (simp only [h1,cond_true,cond_false] <;> rfl)
  ·refine AC<|rn ⟨[(1,tP 1 0),(2,tP 2 0),(3,tB (decide ((s.Kind:Int)=2))),(12,tB (decide (((s.Edges.length:Int):Int)=0)))],[(1,.cells (AW.c s) 27),(2,.cells [.i 0] 132)]⟩ ?_
   refine AY _ rfl (fun h2 => ?_) (fun h2 => ?_)
   ·have g2:=oT h2
    refine Ae<|AH ?_
    refine A4 ?_
    first | rfl | (simp only [h1,h2,cond_true,cond_false] <;> rfl)
   ·have g2:=oF h2
    refine rc [] [gt (decide ((s.Kind:Int)=2)),gt (decide ((s.Kind:Int)=2)),gt (decide ((s.Kind:Int)=2)),gt (decide ((s.Kind:Int)=2))] ⟨[(1,tP 1 0),(2,tP 2 0),(3,tB (decide ((s.Kind:Int)=2))),(12,tB (bif decide ((s.Kind:Int)=2) then decide (((s.Edges.length:Int):Int)<2) else false))],[(1,.cells (AW.c s) 27),(2,.cells [.i 0] 132)]⟩ .nil (ci (ci (ci (ci .nil))))<|AH ?_
    refine A4 ?_
    first | rfl | (simp only [h1,h2,cond_true,cond_false] <;> rfl)
 refine AY _ rfl (fun h1 => ?_) (fun h1 => ?_)
 ·refine AC<|rn ⟨[(2,tP 2 0)],[(2,.cells [.i 12] 132)]⟩ ?_
  refine AZ<|B2<|A9 ?_
  exact ⟨_,Cv.refl _,.inl rfl,tO (.i 12),by kernel_rfl,Ad (by first | (simp only [Ck,h1,cond_true,cond_false] <;> rfl))⟩
 ·refine AC<|rn ⟨[(1,tP 1 0),(2,tP 2 0),(3,tB (decide ((s.Kind:Int)=2))),(31,tB (decide ((40:Int)<(s.Edges.length:Int))))],[(1,.cells (AW.c s) 27),(2,.cells [.i 0] 132)]⟩ ?_
  refine AY _ rfl (fun h2 => ?_) (fun h2 => ?_)
  ·have g2:=oT h2
   refine AC<|rn ⟨[(2,tP 2 0)],[(2,.cells [.i 2] 132)]⟩ ?_
   refine AZ<|B2<|A9 ?_
   exact ⟨_,Cv.refl _,.inl rfl,tO (.i 2),by kernel_rfl,Ad (by first | (simp only [Ck,h1,h2,cond_true,cond_false] <;> rfl))⟩
  ·have g2:=oF h2
   refine Ae<|BZ ?_
   refine AH<|AC<|AC ?_
   refine rn ⟨[(1,tP 1 0),(2,tP 2 0),(3,tB (decide ((s.Kind:Int)=2))),(37,tO (lst 7 AE.c s.Edges)),(38,tI (s.Edges.length:Int)),(39,tI 0)],[(1,.cells (AW.c s) 27),(2,.cells [.i 0] 132)]⟩<|Af ?_
   refine BL (ι:=Nat×Int) (fun x=>⟨[(1,tP 1 0),(2,tP 2 0),(3,tB (decide ((s.Kind:Int)=2))),(37,tO (lst 7 AE.c s.Edges)),(38,tI (s.Edges.length:Int)),(39,tI x.2)],[(1,.cells (AW.c s) 27),(2,.cells [.i 0] 132)]⟩) (fun x=>((s.Edges.length:Int)-x.2).toNat<x.1/\(0<=x.2/\(x.2<=(s.Edges.length:Int)\/x.2=0))/\CU s x.1 x.2=Ck s) (fun x=>x.1) ?_ (((s.Edges.length:Int)-0).toNat+1,0) ⟨Nat.lt_succ_self _,⟨ax0,ax0⟩,(by simp only [Ck,h1,h2,cond_true,cond_false])⟩
   rintro ⟨n0,v39⟩ ⟨hn,hinv,hF⟩
   have hm0:=hn;have hinv0:=hinv;have hF0:=hF;try dsimp only at hm0 hinv0 hF0
   clear hn hinv hF
   cases n0 with
   | zero=>exact absurd hm0 (Nat.not_lt_zero _)
   | succ n0 =>
    refine AC<|rn ⟨[(1,tP 1 0),(2,tP 2 0),(3,tB (decide ((s.Kind:Int)=2))),(37,tO (lst 7 AE.c s.Edges)),(38,tI (s.Edges.length:Int)),(39,tI v39),(40,tB (decide ((v39:Int)<(s.Edges.length:Int))))],[(1,.cells (AW.c s) 27),(2,.cells [.i 0] 132)]⟩<|AC ?_
    refine AY _ rfl (fun h3 => ?_) (fun h3 => ?_)
    ·have g3:=oT h3
     refine Ae<|AH ?_
     refine AC<|Af<|AC ?_
     refine rc [] [0<=(v39:Int)/\(v39:Int)<((s.Edges.length:Nat):Int)] ⟨[(1,tP 1 0),(2,tP 2 0),(3,tB (decide ((s.Kind:Int)=2))),(5,tP 5 0),(37,tO (lst 7 AE.c s.Edges)),(38,tI (s.Edges.length:Int)),(39,tI v39)],[(1,.cells (AW.c s) 27),(2,.cells [.i 0] 132),(5,.cells (AE.c (s.Edges.getD v39.toNat default)) 136)]⟩ .nil (.cons au0 .nil)<|AH<|AC ?_
     refine rs 44 (Oz (s.Edges.getD v39.toNat default)) ⟨[(1,tP 1 0),(2,tP 2 0),(3,tB (decide ((s.Kind:Int)=2))),(6,tI (Dv (s.Edges.getD v39.toNat default))),(37,tO (lst 7 AE.c s.Edges)),(38,tI (s.Edges.length:Int)),(39,tI v39)],[(1,.cells (AW.c s) 27),(2,.cells [.i 0] 132)]⟩ (cY (s.Edges.getD v39.toNat default))<|AH<|AC ?_
     refine rn ⟨[(1,tP 1 0),(2,tP 2 0),(3,tB (decide ((s.Kind:Int)=2))),(6,tI (Dv (s.Edges.getD v39.toNat default))),(37,tO (lst 7 AE.c s.Edges)),(38,tI (s.Edges.length:Int)),(39,tI v39),(46,tB (!decide (((Dv (s.Edges.getD v39.toNat default)):Int)=0)))],[(1,.cells (AW.c s) 27),(2,.cells [.i 0] 132)]⟩ ?_
     refine AY _ rfl (fun h4 => ?_) (fun h4 => ?_)
     ·have g4:=C4 h4
      refine AC<|rn ⟨[(2,tP 2 0)],[(2,.cells [.i (Dv (s.Edges.getD v39.toNat default))] 132)]⟩ ?_
      refine AZ<|B2 ?_
      refine A9<|A9 ?_
      refine B2<|A9 ?_
      exact ⟨_,Cv.refl _,.inl rfl,tO (.i (Dv (s.Edges.getD v39.toNat default))),by kernel_rfl,Ad (by rw [<- hF0];first | (simp only [CU,h3,h4,cond_true,cond_false] <;> rfl))⟩
     ·have g4:=Cq h4
      refine Ae<|BZ<|AH ?_
      refine rg ⟨[(1,tP 1 0),(2,tP 2 0),(3,tB (decide ((s.Kind:Int)=2))),(37,tO (lst 7 AE.c s.Edges)),(38,tI (s.Edges.length:Int)),(39,tI (W64 (v39+1)))],[(1,.cells (AW.c s) 27),(2,.cells [.i 0] 132)]⟩ ?_
      (try rw [(show W64 (v39+1)=v39+1 from Al (by omega) au9)])
      refine AH ?_
      refine ⟨(n0,v39+1),⟨?_,?_,(by rw [<- hF0];simp only [CU,h3,h4,cond_true,cond_false])⟩,Nat.lt_succ_self _,A4 kr⟩
      ·show ((s.Edges.length:Int)-(v39+1)).toNat<n0;omega
      ·exact ⟨ax0,ax0⟩
    ·have g3:=oF h3
     refine BP<|BE ?_
     refine BE<|BQ ?_
     refine AH<|AC<|AC ?_
     refine rs 52 (Z6g s) ⟨[(1,tP 1 0),(2,tP 2 0),(3,tB (decide ((s.Kind:Int)=2))),(52,.av (.one (.clo 100 2 (BU [.eptr 1 1 (fun _ j=>([lst 7 AE.c s.Edges]:List Cl).getD j default) 0 0,.eptr 1 1 (fun _ j=>([.b (decide ((s.Kind:Int)=2))]:List Cl).getD j default) 0 0]))))],[(1,.cells (AW.c s) 27),(2,.cells [.i 0] 132)]⟩ (AR (fun _ _=>kr) fun _=>cA s.Edges (decide ((s.Kind:Int)=2)))<|AH<|Af ?_
     refine Bq (Cv.trans (vr 1 200001 (K:=[]) (fun k x h=>by cases h)) (Cv.trans (wr (⟨[(1,tP 200001 0),(2,tP 200002 0),(3,tB (decide ((s.Kind:Int)=2))),(52,.av (.one (.clo 100 2 (BU [.eptr 1 1 (fun _ j=>([lst 7 AE.c s.Edges]:List Cl).getD j default) 0 0,.eptr 1 1 (fun _ j=>([.b (decide ((s.Kind:Int)=2))]:List Cl).getD j default) 0 0]))))],[(200001,.cells (AW.c s) 27),(200002,.cells [.i 0] 132)]⟩) 2 200002 (K:=[]) (fun k x h=>by cases h)) (Cv.refl _))) ?_
     refine Xa [200001,200002] 299999 200001 (fun x1=>[(1,tP 200001 0),(2,tP 200002 0),(3,tB (decide ((s.Kind:Int)=2))),(7,.av (.one (.eptr 7 1 (gD (AE.c (jnA s.Edges x1.val))) 0 0))),(8,.av (.one (.eptr 7 1 (gD (AE.c (jnB s.Edges x1.val))) 0 0))),(52,.av (.one (.clo 100 2 (BU [.eptr 1 1 (fun _ j=>([lst 7 AE.c s.Edges]:List Cl).getD j default) 0 0,.eptr 1 1 (fun _ j=>([.b (decide ((s.Kind:Int)=2))]:List Cl).getD j default) 0 0]))))]) (fun y=>Cb s v39 (CU s n0) (jnN s.Edges (decide ((s.Kind:Int)=2))-y) y=Ck s) (fun _=>rfl) kr kr (fun _ _=>kr) (XH s.Edges (decide ((s.Kind:Int)=2)) (fun _=>eK h1) (by omega)) kr (fun _=>rfl) (fun _=>rfl) (BW (p:=BkM) (by simp only [List.forall_mem_cons];exact ⟨bkM (W3 _),bkM (by simp only [List.forall_mem_cons];exact ⟨(.val _),fun x hx=>by cases hx⟩),fun x hx=>by cases hx⟩)) (fun x1=>(BW (p:=TvM) (by simp only [List.forall_mem_cons];exact ⟨BC (.ptr _ _),BC (.ptr _ _),BC (.val _),BC (ET (EX _)),BC (ET (EX _)),BC (Ua (by simp only [List.forall_mem_cons];exact ⟨(ET (by simp only [List.forall_mem_cons];exact ⟨(CH EX),fun x hx=>by cases hx⟩)),(ET (by simp only [List.forall_mem_cons];exact ⟨(.val _),fun x hx=>by cases hx⟩)),fun x hx=>by cases hx⟩)),fun x hx=>by cases hx⟩))) (by rw [<- hF0];simp only [CU,h3,Nat.sub_zero,cond_true,cond_false]) (fun l1 W1 M1 X1 x1 hPX => ?_) (fun l2 W2 M2 X2 x1 hPX => ?_) (fun hF1 => ?_)
     ·refine Dx<|AC ?_
      refine rn ⟨[(1,tP 200001 0),(2,tP 200002 0),(3,tB (decide ((s.Kind:Int)=2))),(7,tP 7 0),(52,.av (.one (.clo 100 2 (BU [.eptr 1 1 (fun _ j=>([lst 7 AE.c s.Edges]:List Cl).getD j default) 0 0,.eptr 1 1 (fun _ j=>([.b (decide ((s.Kind:Int)=2))]:List Cl).getD j default) 0 0])))),(54,.av (.agg (AE.c (jnB s.Edges x1.val))))],[(7,.cells (AE.c (jnA s.Edges x1.val)) 136),(200001,.cells (AW.c s) 27),(200002,.cells [.i 0] 132)]⟩ ?_
      refine rg ⟨[(1,tP 200001 0),(2,tP 200002 0),(3,tB (decide ((s.Kind:Int)=2))),(7,tP 7 0),(8,tP 8 0),(52,.av (.one (.clo 100 2 (BU [.eptr 1 1 (fun _ j=>([lst 7 AE.c s.Edges]:List Cl).getD j default) 0 0,.eptr 1 1 (fun _ j=>([.b (decide ((s.Kind:Int)=2))]:List Cl).getD j default) 0 0]))))],[(7,.cells (AE.c (jnA s.Edges x1.val)) 136),(8,.cells (AE.c (jnB s.Edges x1.val)) 136),(200001,.cells (AW.c s) 27),(200002,.cells [.i 0] 132)]⟩ ?_
      exact ⟨_,Cv.trans (WG (⟨[(1,tP 200001 0),(2,tP 200002 0),(3,tB (decide ((s.Kind:Int)=2))),(7,.av (.one (.eptr 7 1 (gD (AE.c (jnA s.Edges x1.val))) 0 0))),(8,tP 8 0),(52,.av (.one (.clo 100 2 (BU [.eptr 1 1 (fun _ j=>([lst 7 AE.c s.Edges]:List Cl).getD j default) 0 0,.eptr 1 1 (fun _ j=>([.b (decide ((s.Kind:Int)=2))]:List Cl).getD j default) 0 0]))))],[(8,.cells (AE.c (jnB s.Edges x1.val)) 136),(200001,.cells (AW.c s) 27),(200002,.cells [.i 0] 132)]⟩) 7 (AE.c (jnA s.Edges x1.val)) 136 [200001,200002] hPX kr kr kr kr) (Cv.trans (WG (⟨[(1,tP 200001 0),(2,tP 200002 0),(3,tB (decide ((s.Kind:Int)=2))),(7,.av (.one (.eptr 7 1 (gD (AE.c (jnA s.Edges x1.val))) 0 0))),(8,.av (.one (.eptr 7 1 (gD (AE.c (jnB s.Edges x1.val))) 0 0))),(52,.av (.one (.clo 100 2 (BU [.eptr 1 1 (fun _ j=>([lst 7 AE.c s.Edges]:List Cl).getD j default) 0 0,.eptr 1 1 (fun _ j=>([.b (decide ((s.Kind:Int)=2))]:List Cl).getD j default) 0 0]))))],[(200001,.cells (AW.c s) 27),(200002,.cells [.i 0] 132)]⟩) 8 (AE.c (jnB s.Edges x1.val)) 136 [200001,200002] hPX kr kr kr kr) (Cv.refl _)),rfl,rfl⟩
     ·refine Dx<|Af<|AC ?_
      refine rn ⟨[(1,tP 200001 0),(2,tP 200002 0),(3,tB (decide ((s.Kind:Int)=2))),(52,.av (.one (.clo 100 2 (BU [.eptr 1 1 (fun _ j=>([lst 7 AE.c s.Edges]:List Cl).getD j default) 0 0,.eptr 1 1 (fun _ j=>([.b (decide ((s.Kind:Int)=2))]:List Cl).getD j default) 0 0])))),(59,tB (!(decide ((jnA s.Edges x1.val).B.X=(jnB s.Edges x1.val).A.X)&&(decide ((jnA s.Edges x1.val).B.Y=(jnB s.Edges x1.val).A.Y)&&true))))],[(200001,.cells (AW.c s) 27),(200002,.cells [.i 0] 132)]⟩ ?_
      refine AY _ rfl (fun h4 => ?_) (fun h4 => ?_)
      ·refine AC<|rn ⟨[(2,tP 200002 0)],[(200002,.cells [.i 12] 132)]⟩ ?_
       refine AZ<|B2 ?_
       refine ⟨_,Cv.refl _,(BW (p:=BkM) (by simp only [List.forall_mem_cons];exact ⟨bkM (by simp only [List.forall_mem_cons];exact ⟨(.val _),fun x hx=>by cases hx⟩),fun x hx=>by cases hx⟩)),fun hF1 => ?_⟩
       change Cb s v39 (CU s n0) (jnN s.Edges (decide ((s.Kind:Int)=2))-x1.val) x1.val=Ck s at hF1
       rw [show jnN s.Edges (decide ((s.Kind:Int)=2))-x1.val=(jnN s.Edges (decide ((s.Kind:Int)=2))-(x1.val+1))+1 by have:=x1.isLt;omega] at hF1
       refine B2<|A9 ?_
       exact ⟨_,Cv.refl _,.inl rfl,tO (.i 12),by kernel_rfl,Ad (by rw [<- hF1];first | (simp only [Cb,h4,cond_true,cond_false] <;> rfl))⟩
      ·refine Ae<|BZ ?_
       refine ⟨_,Cv.refl _,fun _ _ h=>h,fun hF => ?_⟩
       change Cb s v39 (CU s n0) (jnN s.Edges (decide ((s.Kind:Int)=2))-x1.val) x1.val=Ck s at hF
       rw [show jnN s.Edges (decide ((s.Kind:Int)=2))-x1.val=(jnN s.Edges (decide ((s.Kind:Int)=2))-(x1.val+1))+1 by have:=x1.isLt;omega] at hF
       show Cb s v39 (CU s n0) (jnN s.Edges (decide ((s.Kind:Int)=2))-(x1.val+1)) (x1.val+1)=Ck s
       rw [<- hF]
       first | (simp only [Cb,h4,cond_true,cond_false] <;> rfl)
     ·change Cb s v39 (CU s n0) (jnN s.Edges (decide ((s.Kind:Int)=2))-(jnN s.Edges (decide ((s.Kind:Int)=2)))) (jnN s.Edges (decide ((s.Kind:Int)=2)))=Ck s at hF1
      rw [Nat.sub_self] at hF1
      refine BZ<|AH ?_
      refine AC<|AC ?_
      refine rc [] [gt (decide ((s.Kind:Int)=2)),gt (decide ((s.Kind:Int)=2)),gt (decide ((s.Kind:Int)=2)),gi (bif decide ((s.Kind:Int)=2) then !decide ((s.R:Int)=0) else false),gi (bif decide ((s.Kind:Int)=2) then !decide ((s.R:Int)=0) else false),gi (bif decide ((s.Kind:Int)=2) then !decide ((s.R:Int)=0) else false),gi (bif bif decide ((s.Kind:Int)=2) then !decide ((s.R:Int)=0) else false then true else decide ((s.R:Int)<0)),gi (bif bif decide ((s.Kind:Int)=2) then !decide ((s.R:Int)=0) else false then true else decide ((s.R:Int)<0)),gi (bif bif decide ((s.Kind:Int)=2) then !decide ((s.R:Int)=0) else false then true else decide ((s.R:Int)<0))] ⟨[(2,tP 200002 0),(75,tB (bif bif bif decide ((s.Kind:Int)=2) then !decide ((s.R:Int)=0) else false then true else decide ((s.R:Int)<0) then true else decide ((4194304:Int)<s.R)))],[(200002,.cells [.i 0] 132)]⟩ .nil (ci (ci (ci (ci (ci (ci (ci (ci (ci .nil)))))))))<|AH ?_
      refine AY _ rfl (fun h4 => ?_) (fun h4 => ?_)
      ·refine AC<|rn ⟨[(2,tP 200002 0)],[(200002,.cells [.i 3] 132)]⟩ ?_
       refine AZ<|A9 ?_
       exact ⟨_,Cv.refl _,.inl rfl,tO (.i 3),by kernel_rfl,Ad (by rw [<- hF1];first | (simp only [Cb,h4,cond_true,cond_false] <;> rfl))⟩
      ·refine Ae<|AH<|AC ?_
       refine rn ⟨[(2,tP 200002 0)],[(200002,.cells [.i 0] 132)]⟩<|AZ ?_
       exact ⟨_,Cv.refl _,.inl rfl,tO (.i 0),by kernel_rfl,Ad (by rw [<- hF1];first | (simp only [Cb,h4,cond_true,cond_false] <;> rfl))⟩
theorem Y6 (s:AW) (hl:(s.Edges.length:Int)<=9223372036854775807):Aq Tryz.prog (JS s).1 (JS s).2.1 (JS s).2.2:=AR (fun _ _=>kr) fun _=>cK s hl
end
section
open Go.RowKit
def F4 (k:IntKind) (a b:Int):Int:=k.wrap (BitVec.ofInt k.bits a &&& BitVec.ofInt k.bits b).toNat
def Ki (x0:AB) (x1:AB) (x2:AB):Bool:=decide ((0:Int)<=(min (BD x1 x0) (BD x0 x2)))
def FE (x0:AB) (x1:AB) (x2:AB):FuncId×List Av×Ef:=(79,[.agg (AB.c x0),.agg (AB.c x1),.agg (AB.c x2)],.val [] (.av (.one (.b (Ki x0 x1 x2)))))
abbrev In (x1:AB):Nat×Blk:=(4,.cells (AB.c x1) 47)
theorem UH (x0:AB) (x1:AB) (x2:AB):BH Tryz.prog 79 (FE x0 x1 x2).2.1 (tO (.b (Ki x0 x1 x2))):=by
 refine AO Tryz.func79 rfl kr kr fun W0 M0 => ?_
 refine AC<|rn ⟨[(3,tP 3 0),(4,tP 4 0),(5,tP 5 0)],[(3,.cells (AB.c x0) 47),(In x1),(5,.cells (AB.c x2) 47)]⟩<|AC ?_
 refine dw [] [(9,DE x1 x0),(12,DE x0 x2)] [Ap (DE x1 x0).2.1,Ap (DE x0 x2).2.1] ⟨[(6,tB (decide ((0:Int)<=(min (BD x1 x0) (BD x0 x2)))))],[]⟩ (.cons (Hq x1 x0) (.cons (Hq x0 x2) .nil)) (.cons rfl (.cons rfl .nil))<|AH<|AZ ?_
 exact ⟨_,Cv.refl _,.inl rfl,tO (.b (decide ((0:Int)<=(min (BD x1 x0) (BD x0 x2))))),by kernel_rfl,Ad (by rfl)⟩
theorem SV (x0:AB) (x1:AB) (x2:AB):Aq Tryz.prog (FE x0 x1 x2).1 (FE x0 x1 x2).2.1 (FE x0 x1 x2).2.2:=AR (fun _ _=>kr) fun _=>UH x0 x1 x2
def IU (x0:AB) (x1:AB):Int:=Bm (AK x0 x1) (AK x0 x1)
def PP (x0:AB) (x1:AB):FuncId×List Av×Ef:=(76,[.agg (AB.c x0),.agg (AB.c x1)],.val [] (.av (.one (.i (IU x0 x1)))))
theorem psqS (x0:AB) (x1:AB):BH Tryz.prog 76 (PP x0 x1).2.1 (tO (.i (IU x0 x1))):=by
 refine AO Tryz.func76 rfl kr kr fun W0 M0 => ?_
 refine AC<|rn ⟨Il,[(2,.cells (AB.c x0) 47),(3,.cells (AB.c x1) 47)]⟩<|AC ?_
 refine rs 8 (Bz x0 x1) ⟨[(5,tP 5 0)],[(5,.cells (AB.c (AK x0 x1)) 47)]⟩ (DI x0 x1)<|AH<|AC ?_
 refine rs 11 (EM (AK x0 x1) (AK x0 x1)) ⟨[(4,tI (Bm (AK x0 x1) (AK x0 x1)))],[]⟩ (Iq (AK x0 x1) (AK x0 x1))<|AH<|AZ ?_
 exact ⟨_,Cv.refl _,.inl rfl,tO (.i (Bm (AK x0 x1) (AK x0 x1))),by kernel_rfl,Ad (by rfl)⟩
theorem Yx (x0:AB) (x1:AB):Aq Tryz.prog (PP x0 x1).1 (PP x0 x1).2.1 (PP x0 x1).2.2:=AR (fun _ _=>kr) fun _=>psqS x0 x1
def Fu (x0:Int) (x1:Int):(Int×Int):=(IntKind.u64.wrap ((IntKind.u64.wrap ((IntKind.u64.wrap ((Int.fdiv x0 4294967296)*(Int.fdiv x1 4294967296)))+(Int.fdiv (IntKind.u64.wrap ((IntKind.u64.wrap ((Int.fdiv x0 4294967296)*(F4 .u64 x1 4294967295)))+(Int.fdiv (IntKind.u64.wrap ((F4 .u64 x0 4294967295)*(F4 .u64 x1 4294967295))) 4294967296))) 4294967296)))+(Int.fdiv (IntKind.u64.wrap ((F4 .u64 (IntKind.u64.wrap ((IntKind.u64.wrap ((Int.fdiv x0 4294967296)*(F4 .u64 x1 4294967295)))+(Int.fdiv (IntKind.u64.wrap ((F4 .u64 x0 4294967295)*(F4 .u64 x1 4294967295))) 4294967296))) 4294967295)+(IntKind.u64.wrap ((F4 .u64 x0 4294967295)*(Int.fdiv x1 4294967296))))) 4294967296)),IntKind.u64.wrap (x0*x1))
def Ox (x0:Int) (x1:Int):FuncId×List Av×Ef:=(101,[.one (.val (.int .u64 x0)),.one (.val (.int .u64 x1))],.val [] (.tup [.one (.val (.int .u64 (Fu x0 x1).1)),.one (.val (.int .u64 (Fu x0 x1).2))]))
abbrev Do (x1:Int):=F4 .u64 x1 4294967295
abbrev HB (x0:Int):=Int.fdiv x0 4294967296
abbrev ML (x0:Int):Nat×Tv:=(7,.av (.one (.val (.int .u64 (HB x0)))))
abbrev GD (x0:Int):=F4 .u64 x0 4294967295
abbrev MK (x0:Int):Nat×Tv:=(6,.av (.one (.val (.int .u64 (GD x0)))))
abbrev IX (x0:Int):Nat×Tv:=(0,.av (.one (.val (.int .u64 x0))))
abbrev IW (x1:Int):Nat×Tv:=(1,.av (.one (.val (.int .u64 x1))))
abbrev PV (x1:Int):Nat×Tv:=(9,.av (.one (.val (.int .u64 (Int.fdiv x1 4294967296)))))
theorem gY (x0:Int) (x1:Int):BH Tryz.prog 101 (Ox x0 x1).2.1 (.tup [.one (.val (.int .u64 (Fu x0 x1).1)),.one (.val (.int .u64 (Fu x0 x1).2))]):=by
 refine AO Tryz.func101 rfl kr kr fun W0 M0 => ?_
 refine AC<|rn ⟨[(IX x0),(IW x1)],[]⟩<|AC ?_
 refine rn ⟨[(IX x0),(IW x1),(MK x0)],[]⟩<|AC ?_
 refine rc [] [0<=(32:Int)] ⟨[(IX x0),(IW x1),(MK x0),(ML x0)],[]⟩ .nil (.cons (by decide) .nil)<|AH<|AC ?_
 refine rn ⟨[(IX x0),(IW x1),(MK x0),(ML x0),(8,.av (.one (.val (.int .u64 (Do x1)))))],[]⟩<|AC ?_
 refine rc [] [0<=(32:Int)] ⟨[(IX x0),(IW x1),(MK x0),(ML x0),(8,.av (.one (.val (.int .u64 (Do x1))))),(PV x1)],[]⟩ .nil (.cons (by decide) .nil)<|AH<|AC ?_
 refine rn ⟨[(IX x0),(IW x1),(MK x0),(ML x0),(8,.av (.one (.val (.int .u64 (Do x1))))),(PV x1),(10,.av (.one (.val (.int .u64 (IntKind.u64.wrap ((GD x0)*(Do x1)))))))],[]⟩<|AC ?_
 refine rc [] [0<=(32:Int)] ⟨[(IX x0),(IW x1),(MK x0),(ML x0),(PV x1),(11,.av (.one (.val (.int .u64 (IntKind.u64.wrap ((IntKind.u64.wrap ((HB x0)*(Do x1)))+(Int.fdiv (IntKind.u64.wrap ((GD x0)*(Do x1))) 4294967296)))))))],[]⟩ .nil (.cons (by decide) .nil)<|AH<|AC ?_
 refine rn ⟨[(IX x0),(IW x1),(MK x0),(ML x0),(PV x1),(11,.av (.one (.val (.int .u64 (IntKind.u64.wrap ((IntKind.u64.wrap ((HB x0)*(Do x1)))+(Int.fdiv (IntKind.u64.wrap ((GD x0)*(Do x1))) 4294967296))))))),(12,.av (.one (.val (.int .u64 (F4 .u64 (IntKind.u64.wrap ((IntKind.u64.wrap ((HB x0)*(Do x1)))+(Int.fdiv (IntKind.u64.wrap ((GD x0)*(Do x1))) 4294967296))) 4294967295)))))],[]⟩<|AC ?_
 refine rc [] [0<=(32:Int)] ⟨[(IX x0),(IW x1),(MK x0),(ML x0),(PV x1),(12,.av (.one (.val (.int .u64 (F4 .u64 (IntKind.u64.wrap ((IntKind.u64.wrap ((HB x0)*(Do x1)))+(Int.fdiv (IntKind.u64.wrap ((GD x0)*(Do x1))) 4294967296))) 4294967295))))),(13,.av (.one (.val (.int .u64 (Int.fdiv (IntKind.u64.wrap ((IntKind.u64.wrap ((HB x0)*(Do x1)))+(Int.fdiv (IntKind.u64.wrap ((GD x0)*(Do x1))) 4294967296))) 4294967296)))))],[]⟩ .nil (.cons (by decide) .nil)<|AH<|AC ?_
 refine rn ⟨[(IX x0),(IW x1),(ML x0),(PV x1),(12,.av (.one (.val (.int .u64 (IntKind.u64.wrap ((F4 .u64 (IntKind.u64.wrap ((IntKind.u64.wrap ((HB x0)*(Do x1)))+(Int.fdiv (IntKind.u64.wrap ((GD x0)*(Do x1))) 4294967296))) 4294967295)+(IntKind.u64.wrap ((GD x0)*(Int.fdiv x1 4294967296))))))))),(13,.av (.one (.val (.int .u64 (Int.fdiv (IntKind.u64.wrap ((IntKind.u64.wrap ((HB x0)*(Do x1)))+(Int.fdiv (IntKind.u64.wrap ((GD x0)*(Do x1))) 4294967296))) 4294967296)))))],[]⟩<|AC ?_
 refine rc [] [0<=(32:Int)] ⟨[(IX x0),(IW x1),(4,.av (.one (.val (.int .u64 (IntKind.u64.wrap ((IntKind.u64.wrap ((IntKind.u64.wrap ((HB x0)*(Int.fdiv x1 4294967296)))+(Int.fdiv (IntKind.u64.wrap ((IntKind.u64.wrap ((HB x0)*(Do x1)))+(Int.fdiv (IntKind.u64.wrap ((GD x0)*(Do x1))) 4294967296))) 4294967296)))+(Int.fdiv (IntKind.u64.wrap ((F4 .u64 (IntKind.u64.wrap ((IntKind.u64.wrap ((HB x0)*(Do x1)))+(Int.fdiv (IntKind.u64.wrap ((GD x0)*(Do x1))) 4294967296))) 4294967295)+(IntKind.u64.wrap ((GD x0)*(Int.fdiv x1 4294967296))))) 4294967296)))))))],[]⟩ .nil (.cons (by decide) .nil)<|AH<|AC ?_
 refine rn ⟨[(4,.av (.one (.val (.int .u64 (IntKind.u64.wrap ((IntKind.u64.wrap ((IntKind.u64.wrap ((HB x0)*(Int.fdiv x1 4294967296)))+(Int.fdiv (IntKind.u64.wrap ((IntKind.u64.wrap ((HB x0)*(Do x1)))+(Int.fdiv (IntKind.u64.wrap ((GD x0)*(Do x1))) 4294967296))) 4294967296)))+(Int.fdiv (IntKind.u64.wrap ((F4 .u64 (IntKind.u64.wrap ((IntKind.u64.wrap ((HB x0)*(Do x1)))+(Int.fdiv (IntKind.u64.wrap ((GD x0)*(Do x1))) 4294967296))) 4294967295)+(IntKind.u64.wrap ((GD x0)*(Int.fdiv x1 4294967296))))) 4294967296))))))),(5,.av (.one (.val (.int .u64 (IntKind.u64.wrap (x0*x1))))))],[]⟩<|AZ ?_
 exact ⟨_,Cv.refl _,.inl rfl,.tup [.one (.val (.int .u64 (IntKind.u64.wrap ((IntKind.u64.wrap ((IntKind.u64.wrap ((Int.fdiv x0 4294967296)*(Int.fdiv x1 4294967296)))+(Int.fdiv (IntKind.u64.wrap ((IntKind.u64.wrap ((Int.fdiv x0 4294967296)*(F4 .u64 x1 4294967295)))+(Int.fdiv (IntKind.u64.wrap ((F4 .u64 x0 4294967295)*(F4 .u64 x1 4294967295))) 4294967296))) 4294967296)))+(Int.fdiv (IntKind.u64.wrap ((F4 .u64 (IntKind.u64.wrap ((IntKind.u64.wrap ((Int.fdiv x0 4294967296)*(F4 .u64 x1 4294967295)))+(Int.fdiv (IntKind.u64.wrap ((F4 .u64 x0 4294967295)*(F4 .u64 x1 4294967295))) 4294967296))) 4294967295)+(IntKind.u64.wrap ((F4 .u64 x0 4294967295)*(Int.fdiv x1 4294967296))))) 4294967296))))),.one (.val (.int .u64 (IntKind.u64.wrap (x0*x1))))],by kernel_rfl,Ad (by rfl)⟩
theorem cV (x0:Int) (x1:Int):Aq Tryz.prog (Ox x0 x1).1 (Ox x0 x1).2.1 (Ox x0 x1).2.2:=AR (fun _ _=>kr) fun _=>gY x0 x1
def JW (x0:Int) (x1:Int):Dr:=Dr.mk (Fu (IntKind.u64.wrap x0) (IntKind.u64.wrap x1)).1 (Fu (IntKind.u64.wrap x0) (IntKind.u64.wrap x1)).2
def Es (x0:Int) (x1:Int):FuncId×List Av×Ef:=(82,[.one (.i x0),.one (.i x1)],.val [] (.av (.agg (Dr.c (JW x0 x1)))))
theorem Wj (x0:Int) (x1:Int):BH Tryz.prog 82 (Es x0 x1).2.1 (.av (.agg (Dr.c (JW x0 x1)))):=by
 refine AO Tryz.func82 rfl kr kr fun W0 M0 => ?_
 refine AC<|rn ⟨[(0,tI x0),(1,tI x1),(4,tP 4 0)],[(4,.cells [.val (.int .u64 0),.val (.int .u64 0)] 184)]⟩<|AC ?_
 refine rs 12 (Ox (IntKind.u64.wrap x0) (IntKind.u64.wrap x1)) ⟨[(4,tP 4 0),(5,.av (.one (.val (.int .u64 (Fu (IntKind.u64.wrap x0) (IntKind.u64.wrap x1)).1)))),(6,.av (.one (.val (.int .u64 (Fu (IntKind.u64.wrap x0) (IntKind.u64.wrap x1)).2))))],[(4,.cells [.val (.int .u64 0),.val (.int .u64 0)] 184)]⟩ (cV (IntKind.u64.wrap x0) (IntKind.u64.wrap x1))<|AH<|AC ?_
 refine rn ⟨[(4,tP 4 0)],[(4,.cells [.val (.int .u64 (Fu (IntKind.u64.wrap x0) (IntKind.u64.wrap x1)).1),.val (.int .u64 (Fu (IntKind.u64.wrap x0) (IntKind.u64.wrap x1)).2)] 184)]⟩<|AZ ?_
 exact ⟨_,Cv.refl _,.inl rfl,.av (.agg [.val (.int .u64 (Fu (IntKind.u64.wrap x0) (IntKind.u64.wrap x1)).1),.val (.int .u64 (Fu (IntKind.u64.wrap x0) (IntKind.u64.wrap x1)).2)]),by kernel_rfl,Ad (by rfl)⟩
theorem OM (x0:Int) (x1:Int):Aq Tryz.prog (Es x0 x1).1 (Es x0 x1).2.1 (Es x0 x1).2.2:=AR (fun _ _=>kr) fun _=>Wj x0 x1
def Rv (x0:Dr) (x1:Dr):Bool:=bif bif (decide (x0.e0=x1.e0)&&(decide (x0.e1=x1.e1)&&true)) then true else decide ((x0.e0:Int)<x1.e0) then true else bif decide ((x0.e0:Int)=x1.e0) then decide ((x0.e1:Int)<x1.e1) else false
def JO (x0:Dr) (x1:Dr):FuncId×List Av×Ef:=(83,[.agg (Dr.c x0),.agg (Dr.c x1)],.val [] (.av (.one (.b (Rv x0 x1)))))
abbrev Gh (x0:Dr) (x1:Dr):Bool:=decide (x0.e0=x1.e0)&&(decide (x0.e1=x1.e1)&&true)
abbrev Fo (x0:Dr) (x1:Dr):Bool:=(decide ((x0.e0:Int)=x1.e0))
abbrev Hk (x0:Dr) (x1:Dr):=(bif (Gh x0 x1) then true else decide ((x0.e0:Int)<x1.e0))
theorem cD (x0:Dr) (x1:Dr):BH Tryz.prog 83 (JO x0 x1).2.1 (tO (.b (Rv x0 x1))):=by
 refine AO Tryz.func83 rfl kr kr fun W0 M0 => ?_
 refine AC<|rn ⟨Il,[(2,.cells (Dr.c x0) 184),(3,.cells (Dr.c x1) 184)]⟩<|AC ?_
 refine rc [] [gj (Gh x0 x1) (0<=(0:Int)/\(0:Int)<(2:Int)),gi (Gh x0 x1),gj (Gh x0 x1) (0<=(0:Int)/\(0:Int)<(2:Int)),gi (Gh x0 x1),gi (Gh x0 x1),gi (Gh x0 x1),gi (Gh x0 x1),gj (Hk x0 x1) (0<=(0:Int)/\(0:Int)<(2:Int)),gi (Hk x0 x1),gj (Hk x0 x1) (0<=(0:Int)/\(0:Int)<(2:Int)),gi (Hk x0 x1),gi (Hk x0 x1),gi (Hk x0 x1),gi (Hk x0 x1),(((bif (Gh x0 x1) then true else decide ((x0.e0:Int)<x1.e0))=false)/\(Fo x0 x1)=true)->(0<=(1:Int)/\(1:Int)<(2:Int)),(((bif (Gh x0 x1) then true else decide ((x0.e0:Int)<x1.e0))=false)/\(Fo x0 x1)=true)->(((bif (Gh x0 x1) then true else decide ((x0.e0:Int)<x1.e0))=false)/\(Fo x0 x1)=true),(((bif (Gh x0 x1) then true else decide ((x0.e0:Int)<x1.e0))=false)/\(Fo x0 x1)=true)->(0<=(1:Int)/\(1:Int)<(2:Int)),(((bif (Gh x0 x1) then true else decide ((x0.e0:Int)<x1.e0))=false)/\(Fo x0 x1)=true)->(((bif (Gh x0 x1) then true else decide ((x0.e0:Int)<x1.e0))=false)/\(Fo x0 x1)=true),(((bif (Gh x0 x1) then true else decide ((x0.e0:Int)<x1.e0))=false)/\(Fo x0 x1)=true)->(((bif (Gh x0 x1) then true else decide ((x0.e0:Int)<x1.e0))=false)/\(Fo x0 x1)=true),(((bif (Gh x0 x1) then true else decide ((x0.e0:Int)<x1.e0))=false)/\(Fo x0 x1)=true)->(((bif (Gh x0 x1) then true else decide ((x0.e0:Int)<x1.e0))=false)/\(Fo x0 x1)=true),gi (Hk x0 x1),((bif (Gh x0 x1) then true else decide ((x0.e0:Int)<x1.e0))=false)->((Fo x0 x1)=true->(((bif (Gh x0 x1) then true else decide ((x0.e0:Int)<x1.e0))=false)/\(Fo x0 x1)=true)),gi (Hk x0 x1)] ⟨[(4,tB (bif bif (Gh x0 x1) then true else decide ((x0.e0:Int)<x1.e0) then true else bif decide ((x0.e0:Int)=x1.e0) then decide ((x0.e1:Int)<x1.e1) else false))],[]⟩ .nil (.cons (fun _=>(by decide)) (ci (.cons (fun _=>(by decide)) (ci (ci (ci (ci (.cons (fun _=>(by decide)) (ci (.cons (fun _=>(by decide)) (ci (ci (ci (ci (.cons (fun _=>(by decide)) (ci (.cons (fun _=>(by decide)) (ci (ci (ci (ci (.cons (by intros;first | assumption | exact ⟨by assumption,by assumption⟩ | simp_all) (ci .nil)))))))))))))))))))))))<|AH<|AZ ?_
 exact ⟨_,Cv.refl _,.inl rfl,tO (.b (bif bif (Gh x0 x1) then true else decide ((x0.e0:Int)<x1.e0) then true else bif decide ((x0.e0:Int)=x1.e0) then decide ((x0.e1:Int)<x1.e1) else false)),by kernel_rfl,Ad (by rfl)⟩
theorem Y3 (x0:Dr) (x1:Dr):Aq Tryz.prog (JO x0 x1).1 (JO x0 x1).2.1 (JO x0 x1).2.2:=AR (fun _ _=>kr) fun _=>cD x0 x1
def Z6h (x0:AE):AB:=bif decide ((x0.Kind:Int)=3) then (AK x0.B x0.C) else (AK x0.A x0.C)
def Z6i (x0:AE):AB:=bif decide ((x0.Kind:Int)=3) then (AK x0.A x0.C) else (AK x0.B x0.C)
def Z6j (x1:AB) (x0:AE):Bool:=Ki (AK x1 x0.C) (Z6h x0) (Z6i x0)
def Z6k (x0:AE) (x1:AB):Dr:=JW (max (BD (AK x0.B x0.A) (AK x1 x0.A)) (W64 (0-(BD (AK x0.B x0.A) (AK x1 x0.A))))) (max (BD (AK x0.B x0.A) (AK x1 x0.A)) (W64 (0-(BD (AK x0.B x0.A) (AK x1 x0.A)))))
def Z6l (x2:Int) (x0:AE):Dr:=JW (W64 (x2*x2)) (Bm (AK x0.B x0.A) (AK x0.B x0.A))
def Z6m (x0:AE) (x1:AB) (x2:Int):Bool:=Rv (Z6k x0 x1) (Z6l x2 x0)
def Ft (x0:AE) (x1:AB) (x2:Int):Bool:=bif bif decide (((IU x1 x0.A):Int)<=(W64 (x2*x2))) then true else decide (((IU x1 x0.B):Int)<=(W64 (x2*x2))) then true else (bif !decide ((x0.Kind:Int)=1) then (bif bif Z6j x1 x0 then decide (((IU x1 x0.C):Int)<=(W64 ((W64 ((B8 x0)+x2))*(W64 ((B8 x0)+x2))))) else false then decide (((W64 ((max (W64 ((B8 x0)-x2)) 0)*(max (W64 ((B8 x0)-x2)) 0))):Int)<=(IU x1 x0.C)) else false) else (bif bif decide (((Bm (AK x1 x0.A) (AK x0.B x0.A)):Int)<=0) then true else decide (((Bm (AK x0.B x0.A) (AK x0.B x0.A)):Int)<=(Bm (AK x1 x0.A) (AK x0.B x0.A))) then false else (Z6m x0 x1 x2)))
def Ot (x0:AE) (x1:AB) (x2:Int):FuncId×List Av×Ef:=(42,[.agg (AE.c x0),.agg (AB.c x1),.one (.i x2)],.val [] (.av (.one (.b (Ft x0 x1 x2)))))
abbrev KF (x0:AE):Nat×Blk:=(3,.cells (AE.c x0) 136)
abbrev Xp (x0:AE) (x1:AB):List (Nat×Blk):=[(KF x0),(In x1),(7,.cells (AB.c (bif decide ((x0.Kind:Int)=3) then (AK x0.B x0.C) else (AK x0.A x0.C))) 47),(8,.cells (AB.c (bif decide ((x0.Kind:Int)=3) then (AK x0.A x0.C) else (AK x0.B x0.C))) 47)]
abbrev R0 (x1:AB) (x0:AE) (x2:Int):=(bif Z6j x1 x0 then decide (((IU x1 x0.C):Int)<=(W64 ((W64 ((B8 x0)+x2))*(W64 ((B8 x0)+x2))))) else false)
abbrev Kk (x1:AB) (x0:AE) (x2:Int):Bool:=(decide (((IU x1 x0.A):Int)<=(W64 (x2*x2))))
abbrev T0 (x0:AE) (x1:AB):List (Nat×Blk):=[(KF x0),(In x1),(7,.cells (AB.c (AK x0.A x0.C)) 47),(8,.cells (AB.c (AK x0.B x0.C)) 47)]
abbrev Cu (x0:AE):=AK x0.B x0.A
abbrev G0 (x2:Int) (t_:List (Nat×Tv)):List (Nat×Tv):=(2,tI x2)::(3,tP 3 0)::(4,tP 4 0)::t_
abbrev Qk (x2:Int):List (Nat×Tv):=(G0 x2 [(7,tP 7 0),(8,tP 8 0)])
abbrev Ts (x0:AE) (x1:AB):=max (BD (Cu x0) (AK x1 x0.A)) (W64 (0-(BD (Cu x0) (AK x1 x0.A))))
theorem gU (x0:AE) (x1:AB) (x2:Int):BH Tryz.prog 42 (Ot x0 x1 x2).2.1 (tO (.b (Ft x0 x1 x2))):=by
 refine AO Tryz.func42 rfl kr kr fun W0 M0 => ?_
 refine AC<|rn ⟨(G0 x2 []),[(KF x0),(In x1)]⟩ ?_
 refine AC<|AC ?_
 refine rc [(19,PP x1 x0.A),(28,PP x1 x0.B)] [Ap (PP x1 x0.A).2.1,gi (Kk x1 x0 x2),gi (Kk x1 x0 x2),gi (Kk x1 x0 x2),gj (Kk x1 x0 x2) (Ap (PP x1 x0.B).2.1),gi (Kk x1 x0 x2),gi (Kk x1 x0 x2),gi (Kk x1 x0 x2),gi (Kk x1 x0 x2),gi (Kk x1 x0 x2)] ⟨(G0 x2 [(33,tB (bif decide (((IU x1 x0.A):Int)<=(W64 (x2*x2))) then true else decide (((IU x1 x0.B):Int)<=(W64 (x2*x2)))))]),[(KF x0),(In x1)]⟩ (.cons (Yx x1 x0.A) (.cons (Yx x1 x0.B) .nil)) (.cons rfl (ci (ci (ci (.cons (fun _=>rfl) (ci (ci (ci (ci (ci .nil))))))))))<|AH ?_
 refine AY _ rfl (fun h1 => ?_) (fun h1 => ?_)
 ·refine AC<|rn ⟨[(6,tB true)],[]⟩ ?_
  refine AZ<|A9 ?_
  exact ⟨_,Cv.refl _,.inl rfl,tO (.b true),by kernel_rfl,Ad (by first | (simp only [Ft,h1,cond_true,cond_false] <;> rfl))⟩
 ·refine Ae<|AH ?_
  refine AC<|AC ?_
  refine rn ⟨(G0 x2 [(36,tB (!decide ((x0.Kind:Int)=1)))]),[(KF x0),(In x1)]⟩ ?_
  refine AY _ rfl (fun h2 => ?_) (fun h2 => ?_)
  ·have g2:=C4 h2
   refine AC<|dw [] [(41,Bz x0.A x0.C),(46,Bz x0.B x0.C)] [Ap (Bz x0.A x0.C).2.1,Ap (Bz x0.B x0.C).2.1] ⟨(Qk x2),(T0 x0 x1)⟩ (.cons (DI x0.A x0.C) (.cons (DI x0.B x0.C) .nil)) (.cons rfl (.cons rfl .nil))<|AH ?_
   refine AC<|AC ?_
   refine rn ⟨(G0 x2 [(7,tP 7 0),(8,tP 8 0),(49,tB (decide ((x0.Kind:Int)=3)))]),(T0 x0 x1)⟩ ?_
   refine Bc (⟨(Qk x2),[(KF x0),(In x1),(7,.cells (AB.c (bif decide ((x0.Kind:Int)=3) then (AK x0.B x0.C) else (AK x0.A x0.C))) 47),(8,.cells (AB.c (bif decide ((x0.Kind:Int)=3) then (AK x0.A x0.C) else (AK x0.B x0.C))) 47)]⟩) ?_ ?_
   ·refine AY _ rfl (fun h3 => ?_) (fun h3 => ?_)
    ·have g3:=oT h3
     refine rn ⟨(Qk x2),[(KF x0),(In x1),(7,.cells (AB.c (AK x0.B x0.C)) 47),(8,.cells (AB.c (AK x0.A x0.C)) 47)]⟩ ?_
     refine A4 ?_
     first | rfl | (simp only [h3,cond_true,cond_false] <;> rfl)
    ·have g3:=oF h3
     refine Ae<|AH ?_
     refine Cv.trans (ck (⟨(Qk x2),(T0 x0 x1)⟩)) (A4 ?_)
     first | rfl | (simp only [h3,cond_true,cond_false] <;> rfl)
   refine AC<|dw [] [(55,PP x1 x0.C),(57,JQ x0)] [Ap (PP x1 x0.C).2.1,Ap (JQ x0).2.1] ⟨(G0 x2 [(7,tP 7 0),(8,tP 8 0),(9,tI (IU x1 x0.C)),(10,tI (B8 x0))]),[(KF x0),(In x1),(7,.cells (AB.c (bif decide ((x0.Kind:Int)=3) then (AK x0.B x0.C) else (AK x0.A x0.C))) 47),(8,.cells (AB.c (bif decide ((x0.Kind:Int)=3) then (AK x0.A x0.C) else (AK x0.B x0.C))) 47)]⟩ (.cons (Yx x1 x0.C) (.cons (Y4 x0) .nil)) (.cons rfl (.cons rfl .nil))<|AH<|AC ?_
   refine rn ⟨(G0 x2 [(7,tP 7 0),(8,tP 8 0),(9,tI (IU x1 x0.C)),(10,tI (B8 x0)),(11,tI (max (W64 ((B8 x0)-x2)) 0))]),[(KF x0),(In x1),(7,.cells (AB.c (bif decide ((x0.Kind:Int)=3) then (AK x0.B x0.C) else (AK x0.A x0.C))) 47),(8,.cells (AB.c (bif decide ((x0.Kind:Int)=3) then (AK x0.A x0.C) else (AK x0.B x0.C))) 47)]⟩<|AC ?_
   refine dw [] [(65,Bz x1 x0.C),(68,FE (AK x1 x0.C) (Z6h x0) (Z6i x0))] [Ap (Bz x1 x0.C).2.1,Ap (FE (AK x1 x0.C) (Z6h x0) (Z6i x0)).2.1,((Z6j x1 x0)=true)->((Z6j x1 x0)=true),((Z6j x1 x0)=true)->((Z6j x1 x0)=true),((Z6j x1 x0)=true)->((Z6j x1 x0)=true),((Z6j x1 x0)=true)->((Z6j x1 x0)=true),((Z6j x1 x0)=true)->((Z6j x1 x0)=true),((Z6j x1 x0)=true)->((Z6j x1 x0)=true),((Z6j x1 x0)=true)->((Z6j x1 x0)=true),((Z6j x1 x0)=true)->((Z6j x1 x0)=true),(Z6j x1 x0)=true->((Z6j x1 x0)=true),gt (bif Z6j x1 x0 then decide (((IU x1 x0.C):Int)<=(W64 ((W64 ((B8 x0)+x2))*(W64 ((B8 x0)+x2))))) else false),gt (bif Z6j x1 x0 then decide (((IU x1 x0.C):Int)<=(W64 ((W64 ((B8 x0)+x2))*(W64 ((B8 x0)+x2))))) else false),gt (bif Z6j x1 x0 then decide (((IU x1 x0.C):Int)<=(W64 ((W64 ((B8 x0)+x2))*(W64 ((B8 x0)+x2))))) else false),gt (bif Z6j x1 x0 then decide (((IU x1 x0.C):Int)<=(W64 ((W64 ((B8 x0)+x2))*(W64 ((B8 x0)+x2))))) else false),gt (bif Z6j x1 x0 then decide (((IU x1 x0.C):Int)<=(W64 ((W64 ((B8 x0)+x2))*(W64 ((B8 x0)+x2))))) else false)] ⟨[(6,tB (bif bif Z6j x1 x0 then decide (((IU x1 x0.C):Int)<=(W64 ((W64 ((B8 x0)+x2))*(W64 ((B8 x0)+x2))))) else false then decide (((W64 ((max (W64 ((B8 x0)-x2)) 0)*(max (W64 ((B8 x0)-x2)) 0))):Int)<=(IU x1 x0.C)) else false))],[]⟩ (.cons (DI x1 x0.C) (.cons (SV (AK x1 x0.C) (Z6h x0) (Z6i x0)) .nil)) (.cons rfl (.cons rfl (ci (ci (ci (ci (ci (ci (ci (ci (ci (ci (ci (ci (ci (ci .nil))))))))))))))))<|AH ?_
   refine AZ<|A9 ?_
   exact ⟨_,Cv.refl _,.inl rfl,tO (.b (bif bif Z6j x1 x0 then decide (((IU x1 x0.C):Int)<=(W64 ((W64 ((B8 x0)+x2))*(W64 ((B8 x0)+x2))))) else false then decide (((W64 ((max (W64 ((B8 x0)-x2)) 0)*(max (W64 ((B8 x0)-x2)) 0))):Int)<=(IU x1 x0.C)) else false)),by kernel_rfl,Ad (by first | (simp only [Ft,h1,h2,cond_true,cond_false] <;> rfl))⟩
  ·have g2:=Cq h2
   refine Ae<|AH<|AC ?_
   refine rs 91 (Bz x0.B x0.A) ⟨(G0 x2 [(12,tP 12 0)]),[(KF x0),(In x1),(12,.cells (AB.c (Cu x0)) 47)]⟩ (DI x0.B x0.A)<|AH<|AC ?_
   refine dw [] [(95,Bz x1 x0.A),(97,EM (AK x1 x0.A) (Cu x0)),(100,EM (Cu x0) (Cu x0))] [Ap (Bz x1 x0.A).2.1,Ap (EM (AK x1 x0.A) (AK x0.B x0.A)).2.1,Ap (EM (AK x0.B x0.A) (AK x0.B x0.A)).2.1] ⟨(G0 x2 [(12,tP 12 0),(13,tI (Bm (AK x1 x0.A) (Cu x0))),(14,tI (Bm (Cu x0) (Cu x0)))]),[(KF x0),(In x1),(12,.cells (AB.c (Cu x0)) 47)]⟩ (.cons (DI x1 x0.A) (.cons (Iq (AK x1 x0.A) (AK x0.B x0.A)) (.cons (Iq (AK x0.B x0.A) (AK x0.B x0.A)) .nil))) (.cons rfl (.cons rfl (.cons rfl .nil)))<|AH ?_
   refine AC<|AC ?_
   refine rc [] [gi (decide (((Bm (AK x1 x0.A) (Cu x0)):Int)<=0)),gi (decide (((Bm (AK x1 x0.A) (Cu x0)):Int)<=0)),gi (decide (((Bm (AK x1 x0.A) (Cu x0)):Int)<=0))] ⟨(G0 x2 [(12,tP 12 0),(14,tI (Bm (Cu x0) (Cu x0))),(107,tB (bif decide (((Bm (AK x1 x0.A) (AK x0.B x0.A)):Int)<=0) then true else decide (((Bm (AK x0.B x0.A) (AK x0.B x0.A)):Int)<=(Bm (AK x1 x0.A) (AK x0.B x0.A)))))]),[(KF x0),(In x1),(12,.cells (AB.c (Cu x0)) 47)]⟩ .nil (ci (ci (ci .nil)))<|AH ?_
   refine AY _ rfl (fun h3 => ?_) (fun h3 => ?_)
   ·refine AC<|rn ⟨[(6,tB false)],[]⟩ ?_
    refine AZ<|A9 ?_
    exact ⟨_,Cv.refl _,.inl rfl,tO (.b false),by kernel_rfl,Ad (by first | (simp only [Ft,h1,h2,h3,cond_true,cond_false] <;> rfl))⟩
   ·refine Ae<|AH<|AC ?_
    refine dw [] [(112,Bz x1 x0.A),(113,DE (Cu x0) (AK x1 x0.A))] [Ap (Bz x1 x0.A).2.1,Ap (DE (AK x0.B x0.A) (AK x1 x0.A)).2.1] ⟨[(2,tI x2),(14,tI (Bm (Cu x0) (Cu x0))),(15,tI (BD (Cu x0) (AK x1 x0.A)))],[]⟩ (.cons (DI x1 x0.A) (.cons (Hq (AK x0.B x0.A) (AK x1 x0.A)) .nil)) (.cons rfl (.cons rfl .nil))<|AH<|AC ?_
    refine rn ⟨[(2,tI x2),(14,tI (Bm (Cu x0) (Cu x0))),(15,tI (Ts x0 x1))],[]⟩<|AC ?_
    refine rc [(120,Es (Ts x0 x1) (Ts x0 x1)),(125,Es (W64 (x2*x2)) (Bm (Cu x0) (Cu x0))),(126,JO (Z6k x0 x1) (Z6l x2 x0))] [Ap (Es (max (BD (AK x0.B x0.A) (AK x1 x0.A)) (W64 (0-(BD (AK x0.B x0.A) (AK x1 x0.A))))) (max (BD (AK x0.B x0.A) (AK x1 x0.A)) (W64 (0-(BD (AK x0.B x0.A) (AK x1 x0.A)))))).2.1,Ap (Es (W64 (x2*x2)) (Bm (AK x0.B x0.A) (AK x0.B x0.A))).2.1,Ap (JO (Z6k x0 x1) (Z6l x2 x0)).2.1] ⟨[(6,tB (Z6m x0 x1 x2))],[]⟩ (.cons (OM (max (BD (AK x0.B x0.A) (AK x1 x0.A)) (W64 (0-(BD (AK x0.B x0.A) (AK x1 x0.A))))) (max (BD (AK x0.B x0.A) (AK x1 x0.A)) (W64 (0-(BD (AK x0.B x0.A) (AK x1 x0.A)))))) (.cons (OM (W64 (x2*x2)) (Bm (AK x0.B x0.A) (AK x0.B x0.A))) (.cons (Y3 (Z6k x0 x1) (Z6l x2 x0)) .nil))) (.cons rfl (.cons rfl (.cons rfl .nil)))<|AH<|AZ ?_
    exact ⟨_,Cv.refl _,.inl rfl,tO (.b (Z6m x0 x1 x2)),by kernel_rfl,Ad (by first | (simp only [Ft,h1,h2,h3,cond_true,cond_false] <;> rfl))⟩
theorem cU (x0:AE) (x1:AB) (x2:Int):Aq Tryz.prog (Ot x0 x1 x2).1 (Ot x0 x1 x2).2.1 (Ot x0 x1 x2).2.2:=AR (fun _ _=>kr) fun _=>gU x0 x1 x2
def WQ (x:AE) (p:AB) (s:AW):Bool:=Ft x p s.R
theorem pin46  (x:AE) (p:AB) (s:AW):BH Tryz.prog 41 [.agg (AE.c x),.one (.eptr 2 1 (gD (AB.c p)) 0 0),.one (.eptr 3 1 (gD (AW.c s)) 0 0)] (tO (.b (WQ x p s))):=by
 refine AO Tryz.func41 rfl kr kr fun W0 M0 => ?_
 refine AC<|rn ⟨[(1,.av (.one (.eptr 2 1 (gD (AB.c p)) 0 0))),(2,.av (.one (.eptr 3 1 (gD (AW.c s)) 0 0))),(3,tP 3 0)],[(3,.cells (AE.c x) 136)]⟩<|AC ?_
 refine rs 9 (Ot x p s.R) ⟨[(4,tB (Ft x p s.R))],[]⟩ (cU x p s.R)<|AH<|AZ ?_
 exact ⟨_,Cv.refl _,.inl rfl,tO (.b (Ft x p s.R)),by kernel_rfl,Ad (by rfl)⟩
def Z6n (xs:(List AE)) (v8:Int) (p:AB) (s:AW):FuncId×List Av×Ef:=(41,[.agg (AE.c (xs.getD v8.toNat default)),.one (.eptr 2 1 (fun _ j_=>((AB.c p):List Cl).getD j_ default) 0 0),.one (.eptr 3 1 (fun _ j_=>((AW.c s):List Cl).getD j_ default) 0 0)],.val [] (tB (WQ (xs.getD v8.toNat default) p s)))
def JY (xs:(List AE)) (p:AB) (s:AW):Nat->Int->Int
 | 0,_=>default
 | n0+1,v8=>bif decide ((v8:Int)<(xs.length:Int)) then (bif WQ (xs.getD v8.toNat default) p s then v8 else ((JY xs p s n0) (v8+1))) else (-1)
def VG (xs:(List AE)) (p:AB) (s:AW):Int:=JY xs p s (((xs.length:Int)-0).toNat+1) 0
abbrev MN (p:AB) (s:AW):Nat×Tv:=(1,.av (.one (.clo 41 2 (BU [.eptr 2 1 (gD (AB.c p)) 0 0,.eptr 3 1 (gD (AW.c s)) 0 0]))))
abbrev Ih (xs:List AE):Nat×Tv:=(0,tO (lst 7 AE.c xs))
abbrev Lb (xs:List AE):Nat×Tv:=(7,tI (xs.length:Int))
theorem pixI  (xs:(List AE)) (p:AB) (s:AW) (hx:(xs.length:Int)<=9223372036854775807):BH Tryz.prog 75 [.one (lst 7 AE.c xs),.one (.clo 41 2 (BU [.eptr 2 1 (gD (AB.c p)) 0 0,.eptr 3 1 (gD (AW.c s)) 0 0]))] (tO (.i (VG xs p s))):=by
 refine AO Tryz.func75 rfl kr kr fun W0 M0 => ?_
 refine AC<|rn ⟨[(Ih xs),(MN p s)],[]⟩ ?_
 refine AC<|AC ?_
 refine rn ⟨[(Ih xs),(MN p s),(Lb xs),(8,tI 0)],[]⟩<|Af ?_
 refine BL (ι:=Nat×Int) (fun x=>⟨[(Ih xs),(MN p s),(Lb xs),(8,tI x.2)],[]⟩) (fun x=>((xs.length:Int)-x.2).toNat<x.1/\(0<=x.2/\(x.2<=(xs.length:Int)\/x.2=0))/\JY xs p s x.1 x.2=VG xs p s) (fun x=>x.1) ?_ (((xs.length:Int)-0).toNat+1,0) ⟨Nat.lt_succ_self _,⟨ax0,ax0⟩,(by simp only [VG,cond_true,cond_false])⟩
 rintro ⟨n0,v8⟩ ⟨hn,hinv,hF⟩
 have hm0:=hn;have hinv0:=hinv;have hF0:=hF;try dsimp only at hm0 hinv0 hF0
 clear hn hinv hF
 cases n0 with
 | zero=>exact absurd hm0 (Nat.not_lt_zero _)
 | succ n0 =>
  refine AC<|rn ⟨[(Ih xs),(MN p s),(Lb xs),(8,tI v8),(9,tB (decide ((v8:Int)<(xs.length:Int))))],[]⟩<|AC ?_
  refine AY _ rfl (fun h1 => ?_) (fun h1 => ?_)
  ·have g1:=oT h1
   refine Ae<|AH ?_
   refine AC<|Af<|AC ?_
   refine rn ⟨[(Ih xs),(MN p s),(5,tI v8),(Lb xs),(8,tI v8)],[]⟩<|AC ?_
   refine rc [(16,(Z6n xs v8 p s))] [0<=(v8:Int)/\(v8:Int)<((xs.length:Nat):Int),Ap (Z6n xs v8 p s).2.1] ⟨[(Ih xs),(MN p s),(5,tI v8),(Lb xs),(8,tI v8),(16,tB (WQ (xs.getD v8.toNat default) p s))],[]⟩ (.cons (AR (fun _ _=>kr) fun _=>pin46 (xs.getD v8.toNat default) p s) .nil) (.cons au0 (.cons rfl .nil))<|AH ?_
   refine AY _ rfl (fun h2 => ?_) (fun h2 => ?_)
   ·refine AC<|rn ⟨[(4,tI v8)],[]⟩ ?_
    refine AZ<|B2 ?_
    refine A9<|A9 ?_
    refine B2<|A9 ?_
    exact ⟨_,Cv.refl _,.inl rfl,tO (.i v8),by kernel_rfl,Ad (by rw [<- hF0];first | (simp only [JY,h1,h2,cond_true,cond_false] <;> rfl))⟩
   ·refine Ae<|BZ<|AH ?_
    refine rg ⟨[(Ih xs),(MN p s),(Lb xs),(8,tI (W64 (v8+1)))],[]⟩ ?_
    (try rw [(show W64 (v8+1)=v8+1 from Al (by omega) au9)])
    refine AH ?_
    refine ⟨(n0,v8+1),⟨?_,?_,(by rw [<- hF0];simp only [JY,h1,h2,cond_true,cond_false])⟩,Nat.lt_succ_self _,A4 kr⟩
    ·show ((xs.length:Int)-(v8+1)).toNat<n0;omega
    ·exact ⟨ax0,ax0⟩
  ·have g1:=oF h1
   refine BP<|BE ?_
   refine BE<|BQ ?_
   refine AH<|AC ?_
   refine rn ⟨[(4,tI (-1))],[]⟩<|AZ ?_
   exact ⟨_,Cv.refl _,.inl rfl,tO (.i (-1)),by kernel_rfl,Ad (by rw [<- hF0];first | (simp only [JY,h1,cond_true,cond_false] <;> rfl))⟩
def Z6o (xs:(List AE)) (p:AB) (s:AW):FuncId×List Av×Ef:=(75,[.one (lst 7 AE.c xs),.one (.clo 41 2 (BU [.eptr 2 1 (fun _ j_=>((AB.c p):List Cl).getD j_ default) 0 0,.eptr 3 1 (fun _ j_=>((AW.c s):List Cl).getD j_ default) 0 0]))],.val [] (tI (VG xs p s)))
def Xe (xs:(List AE)) (p:AB) (s:AW):Bool:=decide ((0:Int)<=(VG xs p s))
theorem pcoI  (xs:(List AE)) (p:AB) (s:AW) (hx:(xs.length:Int)<=9223372036854775807):BH Tryz.prog 40 [.one (lst 7 AE.c xs),.one (.clo 41 2 (BU [.eptr 2 1 (gD (AB.c p)) 0 0,.eptr 3 1 (gD (AW.c s)) 0 0]))] (tO (.b (Xe xs p s))):=by
 refine AO Tryz.func40 rfl kr kr fun W0 M0 => ?_
 refine AC<|rn ⟨[(Ih xs),(MN p s)],[]⟩<|AC ?_
 refine rs 7 (Z6o xs p s) ⟨[(4,tB (decide ((0:Int)<=(VG xs p s))))],[]⟩ (AR (fun _ _=>kr) fun _=>pixI xs p s au6)<|AH<|AZ ?_
 exact ⟨_,Cv.refl _,.inl rfl,tO (.b (decide ((0:Int)<=(VG xs p s)))),by kernel_rfl,Ad (by rfl)⟩
def Z6p (s:AW) (p:AB):FuncId×List Av×Ef:=(40,[.one (Ei s),.one (.clo 41 2 (BU [.ptr 3 0,.ptr 2 0]))],rdI [3,2] [.cells (AB.c p) 47,.cells (AW.c s) 27] (tB (Xe s.Edges p s)))
def EH (s:AW) (p:AB):Nat->Int->Int->Bool
 | 0,_,_=>default
 | n0+1,v6,v49=>bif decide ((v49:Int)<(s.Edges.length:Int)) then ((EH s p n0) (W64 (v6+(Hd (s.Edges.getD v49.toNat default) p))) (v49+1)) else (bif decide ((s.Kind:Int)=2) then !decide ((v6:Int)=0) else false)
def C7 (s:AW) (p:AB):Bool:=bif bif bif bif bif !decide (((Ck s):Int)=0) then true else decide ((p.X:Int)<(Fj s).X0) then true else decide (((Fj s).X1:Int)<p.X) then true else decide ((p.Y:Int)<(Fj s).Y0) then true else decide (((Fj s).Y1:Int)<p.Y) then false else (bif Xe s.Edges p s then true else (EH s p (((s.Edges.length:Int)-0).toNat+1) 0 0))
def HY (s:AW) (p:AB):FuncId×List Av×Ef:=(14,[.agg (AW.c s),.agg (AB.c p)],.val [] (.av (.one (.b (C7 s p)))))
abbrev R4 (s:AW) (p:AB):=(bif bif bif !decide (((Ck s):Int)=0) then true else decide ((p.X:Int)<(Fj s).X0) then true else decide (((Fj s).X1:Int)<p.X) then true else decide ((p.Y:Int)<(Fj s).Y0))
abbrev R1 (s:AW) (p:AB):=(bif bif !decide (((Ck s):Int)=0) then true else decide ((p.X:Int)<(Fj s).X0) then true else decide (((Fj s).X1:Int)<p.X))
abbrev Kl (s:AW) (p:AB):List (Nat×Blk):=[(2,.cells (AW.c s) 27),(3,.cells (AB.c p) 47)]
abbrev Rz (s:AW) (p:AB):=(bif !decide (((Ck s):Int)=0) then true else decide ((p.X:Int)<(Fj s).X0))
abbrev Ll (s:AW):Nat×Tv:=(48,tI (s.Edges.length:Int))
abbrev Nf (s:AW):Bool:=(!decide (((Ck s):Int)=0))
theorem Yr (s:AW) (p:AB) (hl:(s.Edges.length:Int)<=1000000):BH Tryz.prog 14 (HY s p).2.1 (tO (.b (C7 s p))):=by
 refine AO Tryz.func14 rfl kr kr fun W0 M0 => ?_
 refine AC<|rn ⟨Il,(Kl s p)⟩<|AC ?_
 refine rs 10 (U5 s) ⟨[(2,tP 2 0),(3,tP 3 0),(5,tP 5 0)],[(2,.cells (AW.c s) 27),(3,.cells (AB.c p) 47),(5,.cells (An.c (Fj s)) 74)]⟩ (fS s au6)<|AH ?_
 refine AC<|AC ?_
 refine rc [(12,JS s)] [Ap (JS s).2.1,gi (Nf s),gi (Nf s),gi (Nf s),gi (Nf s),gi (Nf s),gi (Rz s p),gi (Rz s p),gi (Rz s p),gi (Rz s p),gi (Rz s p),gi (R1 s p),gi (R1 s p),gi (R1 s p),gi (R1 s p),gi (R1 s p),gi (R4 s p),gi (R4 s p),gi (R4 s p),gi (R4 s p),gi (R4 s p)] ⟨[(2,tP 2 0),(3,tP 3 0),(41,tB (bif bif bif bif !decide (((Ck s):Int)=0) then true else decide ((p.X:Int)<(Fj s).X0) then true else decide (((Fj s).X1:Int)<p.X) then true else decide ((p.Y:Int)<(Fj s).Y0) then true else decide (((Fj s).Y1:Int)<p.Y)))],(Kl s p)⟩ (.cons (Y6 s au6) .nil) (.cons rfl (ci (ci (ci (ci (ci (ci (ci (ci (ci (ci (ci (ci (ci (ci (ci (ci (ci (ci (ci (ci .nil)))))))))))))))))))))<|AH ?_
 refine AY _ rfl (fun h1 => ?_) (fun h1 => ?_)
 ·refine AC<|rn ⟨[(4,tB false)],[]⟩ ?_
  refine AZ<|A9 ?_
  exact ⟨_,Cv.refl _,.inl rfl,tO (.b false),by kernel_rfl,Ad (by first | (simp only [C7,h1,cond_true,cond_false] <;> rfl))⟩
 ·refine Ae<|AH ?_
  refine AC<|AC ?_
  refine rc [(45,(Z6p s p))] [Ap (Z6p s p).2.1,O4 [.cells (AB.c p) 47,.cells (AW.c s) 27]] ⟨[(2,tP 2 0),(3,tP 3 0),(45,tB (Xe s.Edges p s))],(Kl s p)⟩ (.cons (JP (fun _ _=>kr) kr kr (M5 (pcoI s.Edges p s au6) (.cons (AvE.refl _) (.cons (.one (.clo 41 2 _ _ (Gq kr))) .nil)))) .nil) (.cons rfl (.cons rfl .nil))<|AH ?_
  refine AY _ rfl (fun h2 => ?_) (fun h2 => ?_)
  ·refine AC<|rn ⟨[(4,tB true)],[]⟩ ?_
   refine AZ<|A9 ?_
   exact ⟨_,Cv.refl _,.inl rfl,tO (.b true),by kernel_rfl,Ad (by first | (simp only [C7,h1,h2,cond_true,cond_false] <;> rfl))⟩
  ·refine Ae<|AH<|AC ?_
   refine rn ⟨[(2,tP 2 0),(3,tP 3 0),(6,tI 0)],(Kl s p)⟩ ?_
   refine AC<|AC ?_
   refine rn ⟨[(2,tP 2 0),(3,tP 3 0),(6,tI 0),(47,tO (Ei s)),(Ll s),(49,tI 0)],(Kl s p)⟩<|Af ?_
   refine BL (ι:=Nat×Int×Int) (fun x=>⟨[(2,tP 2 0),(3,tP 3 0),(6,tI x.2.1),(47,tO (Ei s)),(Ll s),(49,tI x.2.2)],(Kl s p)⟩) (fun x=>((s.Edges.length:Int)-x.2.2).toNat<x.1/\(0<=x.2.2/\(x.2.2<=(s.Edges.length:Int)\/x.2.2=0))/\EH s p x.1 x.2.1 x.2.2=C7 s p) (fun x=>x.1) ?_ (((s.Edges.length:Int)-0).toNat+1,0,0) ⟨Nat.lt_succ_self _,⟨ax0,ax0⟩,(by simp only [C7,h1,h2,cond_true,cond_false])⟩
   rintro ⟨n0,v6,v49⟩ ⟨hn,hinv,hF⟩
   have hm0:=hn;have hinv0:=hinv;have hF0:=hF;try dsimp only at hm0 hinv0 hF0
   clear hn hinv hF
   cases n0 with
   | zero=>exact absurd hm0 (Nat.not_lt_zero _)
   | succ n0 =>
    refine AC<|rn ⟨[(2,tP 2 0),(3,tP 3 0),(6,tI v6),(47,tO (Ei s)),(Ll s),(49,tI v49),(50,tB (decide ((v49:Int)<(s.Edges.length:Int))))],(Kl s p)⟩<|AC ?_
    refine AY _ rfl (fun h3 => ?_) (fun h3 => ?_)
    ·have g3:=oT h3
     refine Ae<|AH ?_
     refine AC<|Af<|AC ?_
     refine rc [] [0<=(v49:Int)/\(v49:Int)<((s.Edges.length:Nat):Int)] ⟨[(2,tP 2 0),(3,tP 3 0),(6,tI v6),(8,tP 8 0),(47,tO (Ei s)),(Ll s),(49,tI v49)],[(2,.cells (AW.c s) 27),(3,.cells (AB.c p) 47),(8,.cells (AE.c (s.Edges.getD v49.toNat default)) 136)]⟩ .nil (.cons au0 .nil)<|AH ?_
     refine rs 56 (aA (s.Edges.getD v49.toNat default) p) ⟨[(2,tP 2 0),(3,tP 3 0),(6,tI (W64 (v6+(Hd (s.Edges.getD v49.toNat default) p)))),(47,tO (Ei s)),(Ll s),(49,tI v49)],(Kl s p)⟩ (okRay (s.Edges.getD v49.toNat default) p)<|BZ<|AH ?_
     refine rg ⟨[(2,tP 2 0),(3,tP 3 0),(6,tI (W64 (v6+(Hd (s.Edges.getD v49.toNat default) p)))),(47,tO (Ei s)),(Ll s),(49,tI (W64 (v49+1)))],(Kl s p)⟩ ?_
     (try rw [(show W64 (v49+1)=v49+1 from Al (by omega) au9)])
     refine AH ?_
     refine ⟨(n0,W64 (v6+(Hd (s.Edges.getD v49.toNat default) p)),v49+1),⟨?_,?_,(by rw [<- hF0];simp only [EH,h3,cond_true,cond_false])⟩,Nat.lt_succ_self _,A4 kr⟩
     ·show ((s.Edges.length:Int)-(v49+1)).toNat<n0;omega
     ·exact ⟨ax0,ax0⟩
    ·have g3:=oF h3
     refine BP<|BE ?_
     refine BE<|BQ ?_
     refine AH<|AC ?_
     refine rc [] [gt (C2 s),gt (C2 s)] ⟨[(4,tB (bif decide ((s.Kind:Int)=2) then !decide ((v6:Int)=0) else false))],[]⟩ .nil (ci (ci .nil))<|AH<|AZ ?_
     exact ⟨_,Cv.refl _,.inl rfl,tO (.b (bif decide ((s.Kind:Int)=2) then !decide ((v6:Int)=0) else false)),by kernel_rfl,Ad (by rw [<- hF0];first | (simp only [EH,h3,cond_true,cond_false] <;> rfl))⟩
theorem Wx (s:AW) (p:AB) (hl:(s.Edges.length:Int)<=1000000):Aq Tryz.prog (HY s p).1 (HY s p).2.1 (HY s p).2.2:=AR (fun _ _=>kr) fun _=>Yr s p hl
end
section
open Go.RowKit
theorem FQ (a b:Bool):(bif a then b else false)=(a&&b):=by cases a <;> rfl
theorem U2 (a b:Bool):(bif a then true else b)=(a||b):=by cases a <;> rfl
theorem H7 {α:Type} (a:Bool) (x y:α):(bif a then x else y)=if a=true then x else y:=by cases a <;> rfl
def C27 (x:Int):Prop := -67108864<=x/\x<=67108864
def RP (p:AB):Prop:=C27 p.X/\C27 p.Y
def R28 (p:AB):Prop:=(-134217728<=p.X/\p.X<=134217728) /\ -134217728<=p.Y/\p.Y<=134217728
instance (x:Int):Decidable (C27 x):=by unfold C27;infer_instance
instance (p:AB):Decidable (RP p):=by unfold RP;infer_instance
theorem ZH (x y A B:Int) (hx : -A<=x/\x<=A) (hy : -B<=y/\y<=B) : -(A*B)<=x*y/\x*y<=A*B:=by
 have hA:0<=A:=by omega
 have h1:0<=(A-x)*(B+y):=Int.mul_nonneg (by omega) (by omega)
 have h2:0<=(A+x)*(B-y):=Int.mul_nonneg (by omega) (by omega)
 have h3:0<=(A-x)*(B-y):=Int.mul_nonneg (by omega) (by omega)
 have h4:0<=(A+x)*(B+y):=Int.mul_nonneg (by omega) (by omega)
 have e1:(A-x)*(B+y)=A*B+A*y-x*B-x*y:=by grind
 have e2:(A+x)*(B-y)=A*B-A*y+x*B-x*y:=by grind
 have e3:(A-x)*(B-y)=A*B-A*y-x*B+x*y:=by grind
 have e4:(A+x)*(B+y)=A*B+A*y+x*B+x*y:=by grind
 omega
theorem b54 {x y:Int} (hx : -134217728<=x/\x<=134217728) (hy : -134217728<=y/\y<=134217728) : -18014398509481984<=x*y/\x*y<=18014398509481984:=by
 have:=ZH x y 134217728 134217728 hx hy
 omega
theorem sq_nn (x:Int):0<=x*x:=by
 rcases Int.le_total 0 x with h | h
 ·exact Int.mul_nonneg h h
 ·have:=Int.mul_nonneg (show 0 <= -x by omega) (show 0 <= -x by omega)
  rwa [Int.neg_mul_neg] at this
theorem Hm {p q:AB} (hp:RP p) (hq:RP q):AK p q=⟨p.X-q.X,p.Y-q.Y⟩:=by
 unfold RP C27 at *
 unfold AK
 rw [Al (by omega) (by omega),Al (by omega) (by omega)]
theorem Jl {p q:AB} (hp:RP p) (hq:RP q):R28 ⟨p.X-q.X,p.Y-q.Y⟩:=by
 unfold RP C27 at *
 unfold R28
 simp only
 omega
theorem Uz {u v:AB} (hu:R28 u) (hv:R28 v):Bm u v=u.X*v.X+u.Y*v.Y:=by
 obtain ⟨h1,h2⟩:=hu;obtain ⟨h3,h4⟩:=hv
 have b1:=b54 h1 h3;have b2:=b54 h2 h4
 unfold Bm
 rw [Al (x:=u.X*v.X) (by omega) (by omega),Al (x:=u.Y*v.Y) (by omega) (by omega),Al (by omega) (by omega)]
theorem Z6 {u v:AB} (hu:R28 u) (hv:R28 v):BD u v=u.X*v.Y-u.Y*v.X:=by
 obtain ⟨h1,h2⟩:=hu;obtain ⟨h3,h4⟩:=hv
 have b1:=b54 h1 h4;have b2:=b54 h2 h3
 unfold BD
 rw [Al (x:=u.X*v.Y) (by omega) (by omega),Al (x:=u.Y*v.X) (by omega) (by omega),Al (by omega) (by omega)]
theorem YS (p:AB):Ah p=decide (RP p):=by
 rw [Bool.eq_iff_iff,decide_eq_true_eq]
 unfold Ah RP C27
 simp only [FQ,Bool.and_eq_true,decide_eq_true_eq]
 omega
def Odd (e:AE):Prop:=¬ (e.A.X-e.C.X=0↔e.A.Y-e.C.Y=0)
def QL (e:AE):Prop:=Odd e/\e.B.X-e.C.X = -(e.A.Y-e.C.Y)/\e.B.Y-e.C.Y=e.A.X-e.C.X
def QR (e:AE):Prop:=Odd e/\e.B.X-e.C.X=e.A.Y-e.C.Y/\e.B.Y-e.C.Y = -(e.A.X-e.C.X)
def EV (e:AE):Prop:=RP e.A/\RP e.B/\RP e.C
def VF (e:AE):Prop:=(e.Kind=1/\e.C.X=0/\e.C.Y=0)\/(e.Kind=2/\QL e)\/(e.Kind=3/\QR e)
def OkE (e:AE):Prop:=EV e/\VF e
instance (e:AE):Decidable (QL e):=by unfold QL Odd;infer_instance
instance (e:AE):Decidable (QR e):=by unfold QR Odd;infer_instance
instance (e:AE):Decidable (EV e):=by unfold EV;infer_instance
instance (e:AE):Decidable (VF e):=by unfold VF;infer_instance
instance (e:AE):Decidable (OkE e):=by unfold OkE;infer_instance
def Gg (e:AE):Int:=if OkE e then 0 else if (1<=e.Kind/\e.Kind<=3)/\¬ EV e then 10 else 11
theorem jZ (p:AB):Aa ⟨⟨0,0⟩,1,false⟩ p=⟨W64 (W64 (0-p.Y)+0),W64 (p.X+0)⟩:=by
 have ht:Bx ⟨⟨0,0⟩,1,false⟩=1:=by decide +kernel
 unfold Aa
 rw [ht]
 rfl
theorem jY (p:AB):Aa ⟨⟨0,0⟩,3,false⟩ p=⟨W64 (W64 (0-W64 (0-p.Y))+0),W64 (W64 (0-p.X)+0)⟩:=by
 have ht:Bx ⟨⟨0,0⟩,3,false⟩=3:=by decide +kernel
 unfold Aa
 rw [ht]
 rfl
theorem dZ (e:AE) (h:EV e):Dj e=decide (QL e):=by
 obtain ⟨ha,hb,hc⟩:=h
 rw [Bool.eq_iff_iff,decide_eq_true_eq]
 unfold Dj Cc QL Odd
 rw [jZ,Hm ha hc,Hm hb hc]
 unfold RP C27 at *
 simp only [FQ,Bool.and_eq_true,decide_eq_true_eq,Bool.not_eq_true',and_true,Ci,beq_eq_false_iff_ne,ne_eq,decide_eq_decide]
 omega
theorem WY (e:AE) (h:EV e):DG e=decide (QR e):=by
 obtain ⟨ha,hb,hc⟩:=h
 rw [Bool.eq_iff_iff,decide_eq_true_eq]
 unfold DG Cc QR Odd
 rw [jY,Hm ha hc,Hm hb hc]
 unfold RP C27 at *
 simp only [FQ,Bool.and_eq_true,decide_eq_true_eq,Bool.not_eq_true',and_true,Ci,beq_eq_false_iff_ne,ne_eq,decide_eq_decide]
 omega
theorem dW (e:AE):GA e=decide (e.C.X=0/\e.C.Y=0):=by
 rw [Bool.eq_iff_iff,decide_eq_true_eq]
 unfold GA
 simp only [Bool.and_eq_true,decide_eq_true_eq,and_true]
theorem GO (a0 a1 a2:AB) (k:Int):(bif bif Ah a0 then Ah a1 else false then Ah a2 else false)=decide (EV ⟨k,a0,a1,a2⟩):=by
 rw [Bool.eq_iff_iff,decide_eq_true_eq]
 unfold EV
 simp only [FQ,Bool.and_eq_true,YS,decide_eq_true_eq,and_assoc]
theorem fQ (a0 a1 a2:AB):(bif decide (EV ⟨1,a0,a1,a2⟩) then GA ⟨1,a0,a1,a2⟩ else false)=decide (OkE ⟨1,a0,a1,a2⟩):=by
 rw [Bool.eq_iff_iff,decide_eq_true_eq]
 unfold OkE VF
 rw [dW]
 simp [FQ]
theorem fP (a0 a1 a2:AB):(bif decide (EV ⟨2,a0,a1,a2⟩) then Dj ⟨2,a0,a1,a2⟩ else false)=decide (OkE ⟨2,a0,a1,a2⟩):=by
 rw [Bool.eq_iff_iff,decide_eq_true_eq]
 unfold OkE VF
 by_cases h:EV ⟨2,a0,a1,a2⟩
 ·rw [dZ _ h];simp [FQ,h]
 ·simp [h]
theorem fO (a0 a1 a2:AB):(bif decide (EV ⟨3,a0,a1,a2⟩) then DG ⟨3,a0,a1,a2⟩ else false)=decide (OkE ⟨3,a0,a1,a2⟩):=by
 rw [Bool.eq_iff_iff,decide_eq_true_eq]
 unfold OkE VF
 by_cases h:EV ⟨3,a0,a1,a2⟩
 ·rw [WY _ h];simp [FQ,h]
 ·simp [h]
theorem RG {e:AE} (h:OkE e):e.Kind=1\/e.Kind=2\/e.Kind=3:=by
 obtain ⟨_,h⟩:=h
 rcases h with ⟨h,_⟩ | ⟨h,_⟩ | ⟨h,_⟩ <;> simp [h]
theorem Z9 (e:AE):Dv e=Gg e:=by
 obtain ⟨k,a0,a1,a2⟩:=e
 unfold Dv
 by_cases k1:k=1
 ·subst k1
  simp only [if_true,Jd,Z09,Z02,Z01,Z00]
  rw [GO a0 a1 a2 1,fQ]
  unfold Gg
  simp [H7]
 by_cases k2:k=2
 ·subst k2
  simp only [k1,if_false,if_true,Jc,Z0a,Z05,Z04,Z03]
  rw [GO a0 a1 a2 2,fP]
  unfold Gg
  simp [H7]
 by_cases k3:k=3
 ·subst k3
  simp only [k1,k2,if_false,if_true,Jb,Z0b,Z08,Z07,Z06]
  rw [GO a0 a1 a2 3,fO]
  unfold Gg
  simp [H7]
 ·simp only [k1,k2,k3,if_false,IE]
  rw [GO a0 a1 a2 k]
  unfold Gg
  rw [if_neg (fun h=>by have:=RG h;simp only at this;omega)]
  simp only [FQ]
  simp only [H7,Bool.and_eq_true,decide_eq_true_eq,Bool.not_eq_true',decide_eq_false_iff_not]
def cr (a b p:AB):Int:=(b.X-a.X)*(p.Y-a.Y)-(b.Y-a.Y)*(p.X-a.X)
def d2 (p c:AB):Int:=(p.X-c.X)*(p.X-c.X)+(p.Y-c.Y)*(p.Y-c.Y)
def InB (e:AE) (p:AB):Prop:=(min e.A.X e.B.X<=p.X/\p.X<=max e.A.X e.B.X)/\min e.A.Y e.B.Y<=p.Y/\p.Y<=max e.A.Y e.B.Y
instance (e:AE) (p:AB):Decidable (InB e p):=by unfold InB;infer_instance
def up (e:AE):Int:=if e.A.Y<e.B.Y then 1 else if e.B.Y<e.A.Y then -1 else 0
def Eu (e:AE):Prop:=e.C.X<e.A.X\/e.C.X<e.B.X
instance (e:AE):Decidable (Eu e):=by unfold Eu;infer_instance
def Bey (e:AE) (p:AB):Prop:=if e.Kind=1 then (if e.A.Y<e.B.Y then 0<cr e.A e.B p else cr e.A e.B p<0) else if Eu e then d2 p e.C<d2 e.A e.C else d2 e.A e.C<d2 p e.C
instance (e:AE) (p:AB):Decidable (Bey e p):=by unfold Bey;infer_instance
def InR (e:AE) (p:AB):Prop:=(min e.A.Y e.B.Y<=p.Y/\p.Y<max e.A.Y e.B.Y)/\p.X<max e.A.X e.B.X
instance (e:AE) (p:AB):Decidable (InR e p):=by unfold InR;infer_instance
def F5 (e:AE) (p:AB):Int:=if OkE e/\InR e p/\(p.X<min e.A.X e.B.X\/Bey e p) then up e else 0
theorem eV {e:AE} (h:OkE e) (hk:e.Kind≠1):Odd e/\((e.B.X-e.C.X = -(e.A.Y-e.C.Y)/\e.B.Y-e.C.Y=e.A.X-e.C.X)\/(e.B.X-e.C.X=e.A.Y-e.C.Y/\e.B.Y-e.C.Y = -(e.A.X-e.C.X))):=by
 obtain ⟨_,h⟩:=h
 rcases h with ⟨h,_⟩ | ⟨h,h1,h2⟩ | ⟨h,h1,h2⟩
 ·exact absurd h hk
 ·exact ⟨h1,.inl h2⟩
 ·exact ⟨h1,.inr h2⟩
theorem Lw {e:AE} (h:Odd e):(e.A.X-e.C.X=0/\e.A.Y-e.C.Y≠0)\/(e.A.X-e.C.X≠0/\e.A.Y-e.C.Y=0):=by
 unfold Odd at h
 by_cases h1:e.A.X-e.C.X=0 <;> by_cases h2:e.A.Y-e.C.Y=0 <;> simp_all
theorem Zb {e:AE} {p:AB} (h:EV e) (hp:InB e p):RP p:=by
 obtain ⟨ha,hb,hc⟩:=h
 unfold InB at hp
 unfold RP C27 at *
 omega
theorem bG {e:AE} {p:AB} (h:EV e) (hp:RP p):Ea e.A e.B p=if 0<cr e.A e.B p then 1 else if cr e.A e.B p<0 then -1 else 0:=by
 obtain ⟨ha,hb,hc⟩:=h
 have:BD (AK e.B e.A) (AK p e.A)=cr e.A e.B p:=by
  rw [Hm hb ha,Hm hp ha,Z6 (Jl hb ha) (Jl hp ha)]
  rfl
 unfold Ea
 rw [this]
 simp only [H7,decide_eq_true_eq]
theorem Yg {e:AE} {p:AB} (h:EV e) (hp:RP p):DT e p=d2 p e.C-d2 e.A e.C:=by
 obtain ⟨ha,hb,hc⟩:=h
 unfold DT
 rw [Hm hp hc,Hm ha hc,Uz (Jl hp hc) (Jl hp hc),Uz (Jl ha hc) (Jl ha hc)]
 have h1:=Jl hp hc
 have h2:=Jl ha hc
 unfold R28 at h1 h2
 have b1:=b54 h1.1 h1.1
 have b2:=b54 h1.2 h1.2
 have b3:=b54 h2.1 h2.1
 have b4:=b54 h2.2 h2.2
 rw [Al (by simp only at *;omega) (by simp only at *;omega)]
 rfl
theorem fI (e:AE):BT e=up e:=by
 unfold BT up
 simp only [H7,decide_eq_true_eq]
theorem gF {e:AE} {p:AB} (h:InR e p) (hx:¬ p.X<min e.A.X e.B.X):InB e p:=by
 unfold InR at h
 unfold InB
 omega
theorem N9 (e:AE) (p:AB) (g:Bool) (hg:OkE e->InR e p->¬ p.X<min e.A.X e.B.X->(g=true↔Bey e p)) :
  (bif bif bif bif !decide (OkE e) then true else decide ((p.Y:Int)<(AV e).Y0) then true else decide (((AV e).Y1:Int)<=p.Y) then true else decide (((AV e).X1:Int)<=p.X) then 0 else (bif bif decide ((p.X:Int)<(AV e).X0) then true else g then (BT e) else 0))=F5 e p:=by
 unfold F5
 rw [fI]
 unfold AV
 simp only [U2]
 simp only [H7,Bool.or_eq_true,Bool.not_eq_true',decide_eq_true_eq,decide_eq_false_iff_not]
 by_cases h:OkE e
 ·by_cases hr:InR e p
  ·have h1:¬ (((¬ OkE e\/p.Y<min e.A.Y e.B.Y)\/max e.A.Y e.B.Y<=p.Y)\/max e.A.X e.B.X<=p.X):=by
    unfold InR at hr
    rintro (((h1 | h1) | h1) | h1)
    ·exact h1 h
    all_goals omega
   rw [if_neg h1]
   by_cases hx:p.X<min e.A.X e.B.X
   ·rw [if_pos (.inl hx),if_pos ⟨h,hr,.inl hx⟩]
   ·have:=hg h hr hx
    by_cases hb:Bey e p
    ·rw [if_pos (.inr (this.2 hb)),if_pos ⟨h,hr,.inr hb⟩]
    ·rw [if_neg,if_neg]
     ·rintro ⟨_,_,h3 | h3⟩
      ·exact hx h3
      ·exact hb h3
     ·rintro (h3 | h3)
      ·exact hx h3
      ·exact hb (this.1 h3)
  ·rw [if_pos,if_neg (fun h=>hr h.2.1)]
   unfold InR at hr
   by_cases h2:p.Y<min e.A.Y e.B.Y
   ·exact .inl (.inl (.inr h2))
   by_cases h3:max e.A.Y e.B.Y<=p.Y
   ·exact .inl (.inr h3)
   ·refine .inr ?_
    omega
 ·rw [if_pos (.inl (.inl (.inl h))),if_neg (fun k=>h k.1)]
theorem aT {e:AE} {p:AB} (h:OkE e) (hk:e.Kind=1) (hr:InR e p) (hx:¬ p.X<min e.A.X e.B.X):FK e p=true↔Bey e p:=by
 unfold FK
 rw [bG h.1 (Zb h.1 (gF hr hx)),fI,decide_eq_true_eq]
 unfold Bey up InR at *
 rw [if_pos hk]
 by_cases hu:e.A.Y<e.B.Y
 ·rw [if_pos hu,if_pos hu]
  split
  ·omega
  ·split <;> omega
 ·have:e.B.Y<e.A.Y:=by omega
  rw [if_neg hu,if_neg hu,if_pos this]
  split
  ·omega
  ·split <;> omega
theorem half {e:AE} (h:OkE e) (hk:e.Kind≠1):(Eu e/\min e.A.X e.B.X=e.C.X/\e.C.X<max e.A.X e.B.X)\/(¬ Eu e/\max e.A.X e.B.X=e.C.X/\min e.A.X e.B.X<e.C.X):=by
 obtain ⟨ho,h2⟩:=eV h hk
 have h1:=Lw ho
 unfold Eu
 omega
theorem QN {e:AE} {p:AB} (h:OkE e) (hk:e.Kind≠1) (hr:InR e p) (hx:¬ p.X<min e.A.X e.B.X):C0 e p=true↔Bey e p:=by
 unfold C0
 rw [Yg h.1 (Zb h.1 (gF hr hx))]
 unfold Bey
 rw [if_neg hk]
 simp only [U2,FQ]
 simp only [H7]
 unfold InR at hr
 rcases half h hk with ⟨h1,h2,h3⟩ | ⟨h1,h2,h3⟩
 ·have e1:(decide (e.C.X<e.A.X)||decide (e.C.X<e.B.X))=true:=by simpa [Eu] using h1
  rw [e1,if_pos rfl,if_pos h1]
  simp only [Bool.or_eq_true,decide_eq_true_eq]
  omega
 ·have e1:(decide (e.C.X<e.A.X)||decide (e.C.X<e.B.X))=false:=by simpa [Eu] using h1
  rw [e1,if_neg (by decide),if_neg h1]
  simp only [Bool.and_eq_true,decide_eq_true_eq]
  omega
theorem Q0 (e:AE) (p:AB):Hd e p=F5 e p:=by
 obtain ⟨k,a0,a1,a2⟩:=e
 unfold Hd
 by_cases k1:k=1
 ·subst k1
  simp only [if_true,Mo,Z02,Z01,Z00]
  rw [GO a0 a1 a2 1,fQ]
  exact N9 _ _ _ fun h1 h2 h3=>aT h1 rfl h2 h3
 by_cases k2:k=2
 ·subst k2
  simp only [k1,if_false,if_true,Mm,Z05,Z04,Z03]
  rw [GO a0 a1 a2 2,fP]
  exact N9 _ _ _ fun h1 h2 h3=>QN h1 (by show ¬ (_:Int)=_;simp only;decide) h2 h3
 by_cases k3:k=3
 ·subst k3
  simp only [k1,k2,if_false,if_true,Ml,Z08,Z07,Z06]
  rw [GO a0 a1 a2 3,fO]
  exact N9 _ _ _ fun h1 h2 h3=>QN h1 (by show ¬ (_:Int)=_;simp only;decide) h2 h3
 ·simp only [k1,k2,k3,if_false,Tg]
  unfold F5
  rw [if_neg]
  intro h
  have:=RG h.1
  simp only at this
  omega
def LJ (e:AE):Prop:=((-300<=e.A.X/\e.A.X<=300) /\ -300<=e.A.Y/\e.A.Y<=300)/\((-300<=e.B.X/\e.B.X<=300) /\ -300<=e.B.Y/\e.B.Y<=300)/\(-300<=e.C.X/\e.C.X<=300) /\ -300<=e.C.Y/\e.C.Y<=300
end
section
open Go.RowKit
theorem On {α:Type} [Inhabited α] {l:List α} {k:Nat} (h:k<l.length):l.drop k=l.getD k default::l.drop (k+1):=by
 rw [List.drop_eq_getElem_cons h,List.getD_eq_getElem?_getD,List.getElem?_eq_getElem h]
 rfl
theorem XN {α:Type} [Inhabited α] {l:List α} {k:Nat} (h:k<l.length):l.getD k default∈l:=by
 rw [List.getD_eq_getElem?_getD,List.getElem?_eq_getElem h]
 exact List.getElem_mem h
def PQ:List AE->Int
 | []=>0
 | e::l=>if Gg e=0 then PQ l else Gg e
def Kg (s:AW):Prop:=(∀ i,i+1<s.Edges.length->(s.Edges.getD i default).B=(s.Edges.getD (i+1) default).A)/\(s.Kind=2->(s.Edges.getD (s.Edges.length-1) default).B=(s.Edges.getD 0 default).A)
open Classical in
noncomputable def NG (s:AW):Int :=
 if ¬ (s.Kind=1\/s.Kind=2)\/s.Edges.length=0\/(s.Kind=2/\s.Edges.length<2) then 12
 else if 40<s.Edges.length then 2
 else if PQ s.Edges≠0 then PQ s.Edges
 else if ¬ Kg s then 12
 else if (s.Kind=2/\s.R≠0)\/s.R<0\/4194304<s.R then 3 else 0
theorem Mg (e:AE):Gg e=0↔OkE e:=by
 unfold Gg
 by_cases h:OkE e
 ·simp [h]
 ·simp only [h,if_false,iff_false];split <;> decide
theorem L9:∀ (l:List AE),PQ l=0↔∀ e∈l,OkE e
 | []=>by simp [PQ]
 | e::l=>by
  unfold PQ
  by_cases h:Gg e=0
  ·simp only [h,if_true,L9 l,List.mem_cons,forall_eq_or_imp,(Mg e).1 h,true_and]
  ·simp only [h,if_false,List.mem_cons,forall_eq_or_imp,false_iff]
   exact fun hh=>h ((Mg e).2 hh.1)
def Rp (s:AW) (x:Nat):Bool := !(decide ((jnA s.Edges x).B.X=(jnB s.Edges x).A.X)&&(decide ((jnA s.Edges x).B.Y=(jnB s.Edges x).A.Y)&&true))
theorem WK (s:AW) (x:Nat):Rp s x=false↔(jnA s.Edges x).B=(jnB s.Edges x).A:=by
 unfold Rp
 generalize (jnA s.Edges x).B=a
 generalize (jnB s.Edges x).A=b
 obtain ⟨a1,a2⟩:=a
 obtain ⟨b1,b2⟩:=b
 simp
def V2 (s:AW):Int:=bif bif bif bif decide ((s.Kind:Int)=2) then !decide ((s.R:Int)=0) else false then true else decide ((s.R:Int)<0) then true else decide ((4194304:Int)<s.R) then 3 else 0
theorem Sz (s:AW):V2 s=if (s.Kind=2/\s.R≠0)\/s.R<0\/4194304<s.R then 3 else 0:=by
 unfold V2
 simp only [FQ,U2]
 simp only [H7,Bool.or_eq_true,Bool.and_eq_true,decide_eq_true_eq,Bool.not_eq_true',decide_eq_false_iff_not,or_assoc]
theorem fN (s:AW) (v:Int) (K:Int->Int):∀ m x,Cb s v K m x=if (List.range' x m).any (Rp s) then 12 else V2 s
 | 0,x=>rfl
 | m+1,x=>by
  show (bif Rp s x then (12:Int) else Cb s v K m (x+1))=_
  rw [fN s v K m (x+1),List.range'_succ,List.any_cons]
  cases Rp s x
  ·simp only [Bool.false_or,cond_false]
  ·simp only [Bool.true_or,cond_true,if_true]
theorem Ui (s:AW) (h:1<=s.Edges.length):((List.range' 0 (jnN s.Edges (decide (s.Kind=2)))).any (Rp s)=false)↔Kg s:=by
 rw [List.any_eq_false]
 have key:(∀ x∈List.range' 0 (jnN s.Edges (decide (s.Kind=2))),¬ Rp s x=true)↔∀ x,x<jnN s.Edges (decide (s.Kind=2))->(jnA s.Edges x).B=(jnB s.Edges x).A:=by
  constructor
  ·intro hh x hx
   have:=hh x (by simp;omega)
   exact (WK s x).1 (by simpa using this)
  ·intro hh x hx
   have hx':x<jnN s.Edges (decide (s.Kind=2)):=by simpa using hx
   have:=(WK s x).2 (hh x hx')
   simp [this]
 rw [key]
 unfold Kg jnN jnA jnB
 constructor
 ·intro hh
  refine ⟨fun i hi => ?_,fun hk => ?_⟩
  ·have:=hh i (by omega)
   simpa only [hi,if_true] using this
  ·have:=hh (s.Edges.length-1) (by simp [hk])
   simpa only [show ¬ s.Edges.length-1+1<s.Edges.length by omega,if_false] using this
 ·rintro ⟨h1,h2⟩ x hx
  by_cases hi:x+1<s.Edges.length
  ·simpa only [hi,if_true] using h1 x hi
  ·have hk:s.Kind=2:=by
    cases hd:decide (s.Kind=2) with
    | true=>exact oT hd
    | false=>rw [hd] at hx;simp only [cond_false] at hx;omega
   simpa only [hi,if_false] using h2 hk
open Classical in
theorem ZP (s:AW) (h1:1<=s.Edges.length):∀ n k:Nat,k<=s.Edges.length->s.Edges.length-k<n->CU s n (k:Int)=if PQ (s.Edges.drop k)≠0 then PQ (s.Edges.drop k) else if ¬ Kg s then 12 else V2 s
 | 0,k,hk,hn=>by omega
 | n+1,k,hk,hn=>by
  unfold CU
  by_cases hlt:k<s.Edges.length
  ·rw [decide_eq_true (show (k:Int)<(s.Edges.length:Int) by omega)]
   simp only [cond_true,Int.toNat_natCast]
   rw [On hlt]
   simp only [PQ,Z9]
   have ih:=ZP s h1 n (k+1) (by omega) (by omega)
   by_cases h0:Gg (s.Edges.getD k default)=0
   ·simp only [h0,if_true,decide_true,Bool.not_true,cond_false]
    rw [show ((k:Int)+1)=((k+1:Nat):Int) by omega,ih]
   ·simp only [h0,if_false,decide_false,Bool.not_false,cond_true,ne_eq,not_false_eq_true,if_true]
  ·rw [decide_eq_false (show ¬ (k:Int)<(s.Edges.length:Int) by omega)]
   simp only [cond_false]
   rw [List.drop_of_length_le (by omega),PQ,fN]
   have:=Ui s h1
   by_cases hj:Kg s
   ·rw [this.2 hj];simp [hj]
   ·have hb:(List.range' 0 (jnN s.Edges (decide (s.Kind=2)))).any (Rp s)=true:=by
     cases hh:(List.range' 0 (jnN s.Edges (decide (s.Kind=2)))).any (Rp s) with
     | true=>rfl
     | false=>exact absurd (this.1 hh) hj
    rw [hb];simp [hj]
theorem XV (s:AW):Ck s=NG s:=by
 unfold Ck NG
 by_cases hk1:s.Kind=1
 ·simp only [hk1,decide_true,Bool.not_true,cond_false,true_or,not_true,false_or,show ¬ ((1:Int)=2) by decide,decide_false,false_and,or_false]
  by_cases h0:s.Edges.length=0
  ·simp [h0]
  ·simp only [show ¬ (s.Edges.length:Int)=0 by omega,h0,decide_false,cond_false,if_false]
   by_cases h40:40<s.Edges.length
   ·simp only [show (40:Int)<(s.Edges.length:Int) by omega,h40,decide_true,cond_true,if_true]
   ·simp only [show ¬ (40:Int)<(s.Edges.length:Int) by omega,h40,decide_false,cond_false,if_false]
    have:=ZP s (by omega) (((s.Edges.length:Int)-0).toNat+1) 0 (by omega) (by omega)
    rw [show ((0:Nat):Int)=0 from rfl] at this
    rw [this,List.drop_zero,Sz]
    simp only [hk1,show ¬ ((1:Int)=2) by decide,false_and,false_or]
 ·by_cases hk2:s.Kind=2
  ·simp only [hk2,decide_true,Bool.not_true,cond_false,cond_true,or_true,not_true,false_or,true_and,show ¬ ((2:Int)=1) by decide,decide_false,Bool.not_false]
   by_cases h0:s.Edges.length=0
   ·simp [h0]
   ·simp only [show ¬ (s.Edges.length:Int)=0 by omega,h0,decide_false,cond_false,if_false,false_or]
    by_cases h2:s.Edges.length<2
    ·simp only [show (s.Edges.length:Int)<2 by omega,h2,decide_true,cond_true,if_true]
    ·simp only [show ¬ (s.Edges.length:Int)<2 by omega,h2,decide_false,cond_false,if_false]
     by_cases h40:40<s.Edges.length
     ·simp only [show (40:Int)<(s.Edges.length:Int) by omega,h40,decide_true,cond_true,if_true]
     ·simp only [show ¬ (40:Int)<(s.Edges.length:Int) by omega,h40,decide_false,cond_false,if_false]
      have:=ZP s (by omega) (((s.Edges.length:Int)-0).toNat+1) 0 (by omega) (by omega)
      rw [show ((0:Nat):Int)=0 from rfl] at this
      rw [this,List.drop_zero,Sz]
      simp only [hk2,true_and]
  ·simp [hk1,hk2]
def OkS (s:AW):Prop:=((s.Kind=1\/s.Kind=2)/\(1<=s.Edges.length/\s.Edges.length<=40)/\(s.Kind=2->2<=s.Edges.length))/\(∀ e∈s.Edges,OkE e)/\Kg s/\(0<=s.R/\s.R<=4194304)/\(s.Kind=2->s.R=0)
theorem Rk (s:AW):NG s=0↔OkS s:=by
 unfold NG OkS
 constructor
 ·intro h
  split at h
  ·cases h
  rename_i h1
  split at h
  ·cases h
  rename_i h2
  split at h
  ·rename_i h3;exact absurd h h3
  rename_i h3
  split at h
  ·cases h
  rename_i h4
  split at h
  ·cases h
  rename_i h5
  have hE:=(L9 _).1 (Decidable.not_not.1 h3)
  have hJ:=Classical.not_not.1 h4
  refine ⟨⟨?_,?_,?_⟩,hE,hJ,?_,?_⟩ <;> omega
 ·rintro ⟨⟨h1,h2,h3⟩,h4,h5,h6,h7⟩
  rw [if_neg (by omega),if_neg (by omega),if_neg (by have:=(L9 _).2 h4;omega),if_neg (fun h=>h h5),if_neg (by omega)]
end
section
open Go.RowKit
def Ch:AB->List AE->AB->Prop
 | a,[],b=>a=b
 | a,e::l,b=>e.A=a/\Ch e.B l b
theorem WH:∀ {l:List AE} {a b:AB},Ch a l b->l≠[]->(∀ i,i+1<l.length->(l.getD i default).B=(l.getD (i+1) default).A)/\(l.getD 0 default).A=a/\(l.getD (l.length-1) default).B=b
 | [],a,b,h,hn=>absurd rfl hn
 | [e],a,b,h,_=>⟨fun i hi=>absurd hi (by simp),h.1,h.2⟩
 | e::f::l,a,b,h,_=>by
  obtain ⟨h1,h2⟩:=h
  obtain ⟨g1,g2,g3⟩:=WH (l:=f::l) h2 (by simp)
  refine ⟨fun i hi => ?_,h1,?_⟩
  ·cases i with
   | zero=>exact g2.symm
   | succ i=>exact g1 i (by simpa using hi)
  ·simpa using g3
theorem gG:∀ {l:List AE},l≠[]->(∀ i,i+1<l.length->(l.getD i default).B=(l.getD (i+1) default).A)->Ch (l.getD 0 default).A l (l.getD (l.length-1) default).B
 | [],hn,_=>absurd rfl hn
 | [e],_,_=>⟨rfl,rfl⟩
 | e::f::l,_,h=>by
  have g:=gG (l:=f::l) (by simp) fun i hi=>h (i+1) (by simpa using hi)
  refine ⟨rfl,?_⟩
  have h0:e.B=f.A:=h 0 (by simp)
  have g':Ch f.A (f::l) ((f::l).getD ((f::l).length-1) default).B:=g
  rw [h0]
  simpa using g'
theorem Uh {s:AW} (h:s.Edges≠[]):Kg s↔∃ a b,Ch a s.Edges b/\(s.Kind=2->a=b):=by
 constructor
 ·rintro ⟨h1,h2⟩
  exact ⟨_,_,gG h h1,fun hk=>(h2 hk).symm⟩
 ·rintro ⟨a,b,hc,hk⟩
  obtain ⟨g1,g2,g3⟩:=WH hc h
  exact ⟨g1,fun h2=>by rw [g3,g2];exact (hk h2).symm⟩
def MF (s:AW):Prop:=OkS s/\(∀ e∈s.Edges,LJ e)/\s.R<=40/\s.Edges.length<=8
def I9 (p:AB):Prop:=(-300<=p.X/\p.X<=300) /\ -300<=p.Y/\p.Y<=300
theorem YM {k:Int} {a b c:AB} (ha:I9 a) (hb:I9 b) (hc:I9 c):LJ ⟨k,a,b,c⟩:=⟨ha,hb,hc⟩
theorem Va {p:AB} (h:I9 p):RP p:=by unfold I9 at h;unfold RP C27;omega
theorem RU {a b:AB} (ha:I9 a) (hb:I9 b):OkE ⟨1,a,b,⟨0,0⟩⟩/\LJ ⟨1,a,b,⟨0,0⟩⟩ :=
 ⟨⟨⟨Va ha,Va hb,by unfold RP C27;simp only;omega⟩,.inl ⟨rfl,rfl,rfl⟩⟩,YM ha hb (by unfold I9;simp only;omega)⟩
theorem eJ {p:AB} {r:Int} (hp:I9 p) (hr:0<=r/\r<=40):MF (DD p r):=by
 obtain ⟨h1,h2⟩:=RU hp hp
 refine ⟨⟨⟨.inl rfl,⟨Nat.le_refl 1,?_⟩,fun h => ?_⟩,fun e he => ?_,⟨fun i hi => ?_,fun h => ?_⟩,⟨hr.1,?_⟩,fun h => ?_⟩,fun e he => ?_,hr.2,?_⟩
 ·show 1<=40;decide
 ·cases h
 ·rw [List.mem_singleton.1 he];exact h1
 ·have hi:i+1<1:=hi
  omega
 ·cases h
 ·show r<=4194304;omega
 ·cases h
 ·rw [List.mem_singleton.1 he];exact h2
 ·show 1<=8;decide
def IK (l:List AB):Nat->Nat->List AE
 | 0,_=>[]
 | n+1,k=>⟨1,l.getD k default,l.getD ((k+1) % l.length) default,⟨0,0⟩⟩::IK l n (k+1)
theorem V1 (l:List AB) (hl:l.length<=1000000):∀ (n k:Nat) (s:List AE),k<=l.length->l.length-k<n->Ge l n s (k:Int)=⟨2,s++IK l (l.length-k) k,0⟩
 | 0,k,s,hk,hn=>by omega
 | n+1,k,s,hk,hn=>by
  unfold Ge
  by_cases hlt:k<l.length
  ·rw [decide_eq_true (show (k:Int)<(l.length:Int) by omega)]
   simp only [cond_true,Int.toNat_natCast]
   have ih:=fun s=>V1 l hl n (k+1) s (by omega) (by omega)
   rw [show ((k:Int)+1)=((k+1:Nat):Int) by omega,ih]
   obtain ⟨m,hm⟩:∃ m,l.length-k=m+1:=⟨l.length-k-1,by omega⟩
   rw [hm,show l.length-(k+1)=m by omega]
   have ew:Z0I l (k:Int)=l.getD ((k+1) % l.length) default:=by
    unfold Z0I
    rw [Al (by omega) (by omega),Int.tmod_eq_emod_of_nonneg (by omega)]
    congr 1
   rw [ew]
   simp [IK]
  ·rw [decide_eq_false (show ¬ (k:Int)<(l.length:Int) by omega)]
   have:l.length-k=0:=by omega
   simp [this,IK]
theorem dU (l:List AB) (hl:l.length<=1000000):Mp l=⟨2,IK l l.length 0,0⟩:=by
 unfold Mp
 have:=V1 l hl (((l.length:Int)-0).toNat+1) 0 [] (by omega) (by omega)
 rw [show ((0:Nat):Int)=0 from rfl] at this
 rw [this]
 simp
theorem Pp (l:List AB):∀ n k,(IK l n k).length=n
 | 0,k=>rfl
 | n+1,k=>by simp [IK,Pp l n]
theorem Sv (l:List AB):∀ n k,0<n->k+n=l.length->Ch (l.getD k default) (IK l n k) (l.getD 0 default)
 | 0,k,h,_=>by omega
 | 1,k,_,hk=>by
  refine ⟨rfl,?_⟩
  show l.getD ((k+1) % l.length) default=l.getD 0 default
  rw [hk,Nat.mod_self]
 | n+2,k,_,hk=>by
  refine ⟨rfl,?_⟩
  show Ch (l.getD ((k+1) % l.length) default) (IK l (n+1) (k+1)) _
  rw [Nat.mod_eq_of_lt (by omega)]
  exact Sv l (n+1) (k+1) (by omega) (by omega)
theorem Zk {P:AB->Prop} {l:List AB} (h:∀ p∈l,P p) {k:Nat} (hk:k<l.length):P (l.getD k default):=h _ (XN hk)
theorem OW (l:List AB) (hp:∀ p∈l,I9 p) (hl:0<l.length):∀ n k,k+n<=l.length->∀ e∈IK l n k,OkE e/\LJ e
 | 0,k,_,e,he=>by cases he
 | n+1,k,hk,e,he=>by
  rcases List.mem_cons.1 he with rfl | he
  ·exact RU (Zk hp (by omega)) (Zk hp (Nat.mod_lt _ hl))
  ·exact OW l hp hl n (k+1) (by omega) e he
theorem dT {l:List AB} (h2:2<=l.length/\l.length<=8) (hp:∀ p∈l,I9 p):MF (Mp l):=by
 rw [dU l (by omega)]
 have hg:=OW l hp (by omega) l.length 0 (by omega)
 have hlen:=Pp l l.length 0
 refine ⟨⟨⟨.inr rfl,⟨by simp only [hlen];omega,by simp only [hlen];omega⟩,fun _=>by simp only [hlen];omega⟩,fun e he=>(hg e he).1,?_,⟨Int.le_refl 0,(by decide:(0:Int)<=4194304)⟩,fun _=>rfl⟩,fun e he=>(hg e he).2,(by decide:(0:Int)<=40),by simp only [hlen];omega⟩
 refine (Uh (fun h => ?_)).2 ⟨_,_,Sv l l.length 0 (by omega) (by omega),fun _=>rfl⟩
 have:(IK l l.length 0).length=0:=by rw [show IK l l.length 0=[] from h];rfl
 omega
theorem bR {r:An} (h:((-300<=r.X0/\r.X0<=300) /\ -300<=r.Y0/\r.Y0<=300)/\(-300<=r.X1/\r.X1<=300) /\ -300<=r.Y1/\r.Y1<=300):MF (Cn r):=by
 unfold Cn Z0L
 refine dT ⟨by simp,by simp⟩ fun p hp => ?_
 simp only [List.mem_cons,List.not_mem_nil,or_false] at hp
 unfold I9
 rcases hp with rfl | rfl | rfl | rfl <;> simp only <;> omega
end
section
open Go.RowKit
theorem Sh (s:AW) (m:Ab):∀ (n k:Nat) (l:List AE),k<=s.Edges.length->s.Edges.length-k<n->l=(s.Edges.take k).map (fun e=>EG e m)++s.Edges.drop k->FL s m n l (k:Int)=⟨s.Kind,s.Edges.map (fun e=>EG e m),s.R⟩
 | 0,k,l,hk,hn,_=>by omega
 | n+1,k,l,hk,hn,hl=>by
  unfold FL
  by_cases hlt:k<s.Edges.length
  ·rw [decide_eq_true (show (k:Int)<((s.Edges.length:Nat):Int) by omega)]
   simp only [cond_true,Int.toNat_natCast]
   rw [show ((k:Int)+1)=((k+1:Nat):Int) by omega]
   refine Sh s m n (k+1) _ (by omega) (by omega) ?_
   subst hl
   have hlen:((s.Edges.take k).map (fun e=>EG e m)).length=k:=by simp;omega
   have hd:s.Edges.drop k=s.Edges[k]::s.Edges.drop (k+1):=List.drop_eq_getElem_cons hlt
   rw [hd]
   have h1:((s.Edges.take k).map (fun e=>EG e m)++s.Edges[k]::s.Edges.drop (k+1)).getD k default=s.Edges[k]:=by
    rw [List.getD_eq_getElem?_getD,List.getElem?_append_right (by omega),hlen,Nat.sub_self];rfl
   rw [h1,List.set_append_right _ _ (by omega),hlen,Nat.sub_self,List.set_cons_zero,List.take_succ_eq_append_getElem hlt,List.map_append,List.append_assoc]
   rfl
  ·rw [decide_eq_false (show ¬ (k:Int)<((s.Edges.length:Nat):Int) by omega)]
   subst hl
   rw [List.drop_of_length_le (by omega),List.take_of_length_le (by omega),List.append_nil]
   rfl
theorem Si (s:AW) (m:Ab):Dk s m=⟨s.Kind,s.Edges.map (fun e=>EG e m),s.R⟩:=by
 unfold Dk
 have:=Sh s m ((((s.Edges.length:Nat):Int)-0).toNat+1) 0 s.Edges (by omega) (by omega) (by simp)
 exact this
theorem W8 (s:AW) (m:Ab):(Dk s m).Edges.length=s.Edges.length:=by rw [Si];simp
end
section
open Go.RowKit
theorem fD (t:Int):A64 t 3=t % 4:=by
 unfold A64
 have h3:(BitVec.ofInt 64 3).toNat=2 ^ 2-1:=by decide
 rw [BitVec.toNat_and,h3,Nat.and_two_pow_sub_one_eq_mod,BitVec.toNat_ofInt,IntKind.wrap_i64]
 omega
def KU (m:Bool) (x:Int):Int:=if m=true then -x else x
def mvp (t:Int) (m:Bool) (a p:AB):AB :=
 if t=0 then ⟨KU m p.X+a.X,p.Y+a.Y⟩ else if t=1 then ⟨-p.Y+a.X,KU m p.X+a.Y⟩ else if t=2 then ⟨-KU m p.X+a.X,-p.Y+a.Y⟩ else ⟨p.Y+a.X,-KU m p.X+a.Y⟩
def Sm (p:AB):Prop:=(-100000<=p.X/\p.X<=100000) /\ -100000<=p.Y/\p.Y<=100000
theorem jO (m:Bool) (x:Int) (h : -100000<=x/\x<=100000) : -100000<=KU m x/\KU m x<=100000:=by
 unfold KU
 split <;> omega
theorem jN (m:Bool) (x:Int) (h : -100000<=x/\x<=100000):(bif m then W64 (0-x) else x)=KU m x:=by
 unfold KU
 rw [Al (by omega) (by omega)]
 cases m
 ·rfl
 ·show 0-x = -x
  omega
theorem JV (m:Ab) (p:AB) (hp:Sm p) (ha:Sm m.At):Aa m p=mvp (m.Turn % 4) m.Mirror m.At p:=by
 have ht:Bx m=m.Turn % 4:=fD m.Turn
 unfold Aa mvp
 unfold Sm at hp ha
 rw [jN m.Mirror p.X hp.1]
 have hf:=jO m.Mirror p.X hp.1
 generalize KU m.Mirror p.X=x at *
 have h4:m.Turn % 4=0\/m.Turn % 4=1\/m.Turn % 4=2\/m.Turn % 4=3:=by omega
 rcases h4 with h | h | h | h <;> rw [h] at ht ⊢ <;> rw [ht]
 ·show B6 m p 1 ⟨x,p.Y⟩ 0=_
  simp only [B6,ht,Int.reduceLT,decide_false,cond_false,F6,if_true,AB.mk.injEq,Ci]
  omega
 ·show B6 m p 2 ⟨x,p.Y⟩ 0=_
  simp only [B6,ht,Int.reduceLT,Int.reduceAdd,decide_true,cond_true,decide_false,cond_false,F6,Int.reduceEq,if_true,if_false,AB.mk.injEq,Ci]
  omega
 ·show B6 m p 3 ⟨x,p.Y⟩ 0=_
  simp only [B6,ht,Int.reduceLT,Int.reduceAdd,decide_true,cond_true,decide_false,cond_false,F6,Int.reduceEq,if_true,if_false,AB.mk.injEq,Ci]
  omega
 ·show B6 m p 4 ⟨x,p.Y⟩ 0=_
  simp only [B6,ht,Int.reduceLT,Int.reduceAdd,decide_true,cond_true,decide_false,cond_false,F6,Int.reduceEq,if_false,AB.mk.injEq,Ci]
  omega
def Gx (e:AE) (t:Int) (m:Bool) (a:AB):AE:=⟨if m=true then (if e.Kind=2 then 3 else if e.Kind=3 then 2 else e.Kind) else e.Kind,mvp t m a e.A,mvp t m a e.B,if e.Kind=1 then e.C else mvp t m a e.C⟩
theorem bE {e:AE} (h:LJ e):Sm e.A/\Sm e.B/\Sm e.C:=by
 unfold LJ at h
 unfold Sm
 omega
theorem dN (e:AE) (m:Ab) (h:OkE e) (hs:LJ e) (ha:Sm m.At):EG e m=Gx e (m.Turn % 4) m.Mirror m.At:=by
 have hk:=RG h
 obtain ⟨s1,s2,s3⟩:=bE hs
 have e1:=JV m e.A s1 ha
 have e2:=JV m e.B s2 ha
 have e3:=JV m e.C s3 ha
 obtain ⟨k,a0,a1,a2⟩:=e
 simp only at hk e1 e2 e3
 unfold EG Gx
 rcases hk with rfl | rfl | rfl
 ·simp only [if_true,PJ,e1,e2]
  cases m.Mirror <;> rfl
 ·simp only [Int.reduceEq,if_false,if_true,PI,e1,e2,e3]
  cases m.Mirror <;> rfl
 ·simp only [Int.reduceEq,if_false,if_true,PH,e1,e2,e3]
  cases m.Mirror <;> rfl
theorem N2 {p:AB} (h:Sm p):RP p:=by
 unfold Sm at h
 unfold RP C27
 omega
theorem Uc {t:Int} {m:Bool} {a p:AB} (hp:(-50000<=p.X/\p.X<=50000) /\ -50000<=p.Y/\p.Y<=50000) (ha:(-1000<=a.X/\a.X<=1000) /\ -1000<=a.Y/\a.Y<=1000):Sm (mvp t m a p):=by
 unfold mvp Sm KU
 cases m <;> (repeat' split) <;> simp_all <;> omega
structure Mat where
 a:Int
 b:Int
 c:Int
 d:Int
def Mat.ok (M:Mat) (s:Int):Prop:=(M.a=0/\M.d=0/\(M.b=1\/M.b = -1)/\M.c = -s*M.b)\/(M.b=0/\M.c=0/\(M.a=1\/M.a = -1)/\M.d=s*M.a)
def Mat.ap (M:Mat) (o p:AB):AB:=⟨M.a*p.X+M.b*p.Y+o.X,M.c*p.X+M.d*p.Y+o.Y⟩
theorem dM (t:Int) (m:Bool) (a:AB):∃ M:Mat,M.ok (if m=true then -1 else 1)/\∀ p,mvp t m a p=M.ap a p:=by
 unfold mvp KU
 by_cases h0:t=0
 ·cases m
  ·exact ⟨⟨1,0,0,1⟩,.inr (by simp),fun p=>by simp [h0,Mat.ap]⟩
  ·exact ⟨⟨-1,0,0,1⟩,.inr (by simp),fun p=>by simp [h0,Mat.ap]⟩
 by_cases h1:t=1
 ·cases m
  ·exact ⟨⟨0,-1,1,0⟩,.inl (by simp),fun p=>by simp [h1,Mat.ap]⟩
  ·exact ⟨⟨0,-1,-1,0⟩,.inl (by simp),fun p=>by simp [h1,Mat.ap]⟩
 by_cases h2:t=2
 ·cases m
  ·exact ⟨⟨-1,0,0,-1⟩,.inr (by simp),fun p=>by simp [h2,Mat.ap]⟩
  ·exact ⟨⟨1,0,0,-1⟩,.inr (by simp),fun p=>by simp [h2,Mat.ap]⟩
 ·cases m
  ·exact ⟨⟨0,1,-1,0⟩,.inl (by simp),fun p=>by simp [h0,h1,h2,Mat.ap]⟩
  ·exact ⟨⟨0,1,1,0⟩,.inl (by simp),fun p=>by simp [h0,h1,h2,Mat.ap]⟩
theorem iV {e:AE} {t:Int} {m:Bool} {o:AB} (h:OkE e) (hs:LJ e) (ha:(-1000<=o.X/\o.X<=1000) /\ -1000<=o.Y/\o.Y<=1000):OkE (Gx e t m o):=by
 have hs':=hs
 unfold LJ at hs'
 refine ⟨⟨N2 (Uc (by omega) ha),N2 (Uc (by omega) ha),?_⟩,?_⟩
 ·show RP (if e.Kind=1 then e.C else mvp t m o e.C)
  split
  ·exact h.1.2.2
  ·exact N2 (Uc (by omega) ha)
 ·obtain ⟨M,hM,hmv⟩:=dM t m o
  have h2:=h.2
  unfold VF Gx at *
  simp only [hmv]
  obtain ⟨a,b,c,d⟩:=M
  obtain ⟨k,a0,a1,a2⟩:=e
  unfold Mat.ok at hM
  rcases h2 with ⟨hk,h3,h4⟩ | ⟨hk,h3,h4,h5⟩ | ⟨hk,h3,h4,h5⟩
  ·simp only at hk
   subst hk
   left
   cases m <;> simp_all
  ·simp only at hk
   subst hk
   have h6:=Lw h3
   simp only at h4 h5 h6
   cases m
   ·right;left
    simp only [QL,Odd,Mat.ap] at *
    rcases hM with ⟨rfl,rfl,hb,rfl⟩ | ⟨rfl,rfl,hb,rfl⟩ <;> rcases hb with rfl | rfl <;> simp <;> omega
   ·right;right
    simp only [QR,Odd,Mat.ap] at *
    rcases hM with ⟨rfl,rfl,hb,rfl⟩ | ⟨rfl,rfl,hb,rfl⟩ <;> rcases hb with rfl | rfl <;> simp <;> omega
  ·simp only at hk
   subst hk
   have h6:=Lw h3
   simp only at h4 h5 h6
   cases m
   ·right;right
    simp only [QR,Odd,Mat.ap] at *
    rcases hM with ⟨rfl,rfl,hb,rfl⟩ | ⟨rfl,rfl,hb,rfl⟩ <;> rcases hb with rfl | rfl <;> simp <;> omega
   ·right;left
    simp only [QL,Odd,Mat.ap] at *
    rcases hM with ⟨rfl,rfl,hb,rfl⟩ | ⟨rfl,rfl,hb,rfl⟩ <;> rcases hb with rfl | rfl <;> simp <;> omega
end
section
open Go.RowKit
theorem M6 (a c:Ac):Ar a c=true↔a=c:=by
 constructor
 ·intro h
  unfold Ar at h
  obtain ⟨a1,a2⟩:=a
  obtain ⟨c1,c2⟩:=c
  simp only [Bool.and_eq_true] at h
  rw [WL h.1,WL h.2]
 ·rintro rfl
  unfold Ar eqS
  simp
def OX (v:List (Ac×ByteArray)) (q:Ac):ByteArray:=match v.find? (fun e=>Ar e.1 q) with
 | some e=>e.2
 | none=>⟨#[]⟩
theorem dV (v:List (Ac×ByteArray)) (q:Ac):(bif C9 Ar v q then (v.getD (DJ Ar v q) default).2 else ⟨#[]⟩)=OX v q:=by
 unfold C9 DJ OX
 induction v with
 | nil=>rfl
 | cons e v ih =>
  rw [List.any_cons,List.findIdx_cons,List.find?_cons]
  cases h:Ar e.1 q with
  | true=>rfl
  | false=>exact ih
theorem ZL (v:List (Ac×ByteArray)) (k q:Ac) (x:ByteArray):OX (Fp Ar v k x) q=bif Ar k q then x else OX v q:=by
 have hn:Fp Ar [] k x=[(k,x)]:=rfl
 have hc:∀ e (w:List (Ac×ByteArray)),Fp Ar (e::w) k x=bif Ar e.1 k then (k,x)::w else e::Fp Ar w k x:=fun e w=>by
  unfold Fp C9 DJ
  rw [List.any_cons,List.findIdx_cons]
  cases h:Ar e.1 k with
  | true=>rfl
  | false =>
   simp only [Bool.false_or,cond_false]
   cases w.any (fun e=>Ar e.1 k) <;> rfl
 induction v with
 | nil =>
  rw [hn]
  unfold OX
  rw [List.find?_cons]
  cases Ar k q <;> rfl
 | cons e v ih =>
  rw [hc]
  cases h1:Ar e.1 k with
  | true =>
   have e1:=(M6 e.1 k).1 h1
   rw [cond_true]
   unfold OX
   rw [List.find?_cons,List.find?_cons,e1]
   cases Ar k q <;> rfl
  | false =>
   rw [cond_false]
   unfold OX at ih ⊢
   rw [List.find?_cons,List.find?_cons]
   cases h2:Ar e.1 q with
   | true =>
    have e2:=(M6 e.1 q).1 h2
    cases h3:Ar k q with
    | true =>
     rw [(M6 k q).1 h3,<- e2,(M6 e.1 e.1).2 rfl] at h1
     cases h1
    | false=>rfl
   | false=>exact ih
theorem Sw (n:BO) (q:Ac):∀ (ps:List Ac) (v:List (Ac×ByteArray)),OX (ps.foldl (fun v p=>Fp Ar v p n.Name) v) q=bif ps.any (fun p=>Ar p q) then n.Name else OX v q
 | [],v=>rfl
 | p::ps,v=>by
  rw [List.foldl_cons,Sw n q ps,ZL,List.any_cons]
  cases h1:Ar p q with
  | true =>
   cases ps.any (fun p=>Ar p q) <;> rfl
  | false=>rw [cond_false,Bool.false_or]
theorem XG (b:AF) (q:Ac):OX (MT b) q=match b.Nets.find? (fun n=>n.Pins.any fun p=>Ar p q) with | some n=>n.Name | none=>⟨#[]⟩:=by
 unfold MT
 rw [List.foldl_reverse]
 generalize b.Nets=l
 induction l with
 | nil=>rfl
 | cons n l ih =>
  rw [List.foldr_cons,List.find?_cons]
  unfold ZG
  rw [Sw]
  cases n.Pins.any (fun p=>Ar p q) with
  | true=>rfl
  | false=>exact ih
theorem VZ {types:List AL} (h:CS types) (b:AF) (k:Nat):(((BF b types).getD k default).Shape.Edges.length:Int)<=1000000:=by
 refine Hz (p:=fun s:BV=>(s.Shape.Edges.length:Int)<=1000000) (by decide) (fun x hx => ?_) k
 rw [PG] at hx
 obtain ⟨r,hr,rfl⟩:=List.mem_map.1 hx
 show ((Dk r.2.Shape (CT r.1)).Edges.length:Int)<=1000000
 rw [W8]
 unfold Ai at hr
 obtain ⟨p,_,hp⟩:=List.mem_flatMap.1 hr
 unfold D1 at hp
 obtain ⟨q,hq,rfl⟩:=List.mem_map.1 hp
 show (q.Shape.Edges.length:Int)<=1000000
 rw [Gy] at hq
 unfold Rb at hq
 cases hf:types.find? (fun t=>Fh t p.Type') with
 | none=>rw [hf] at hq;cases hq
 | some t=>rw [hf] at hq;exact (h.2 t (List.mem_of_find?_eq_some hf)).2.2.1 q hq
end
section
open Go.RowKit
def Z6q (b:AF) (v12:Int) (v19:Int):Ac:=(b.Nets.getD v12.toNat default).Pins.getD v19.toNat default
def Z6r (b:AF) (v12:Int) (v19:Int) (p:Ac):Bool:=(((Z6q b v12 v19).Ref.toList==p.Ref.toList)&&(((Z6q b v12 v19).Pad.toList==p.Pad.toList)&&true))
def E4 (b:AF) (p:Ac) (v12:Int) (K0:Int->ByteArray):Nat->Int->ByteArray
 | 0,_=>default
 | n1+1,v19=>bif decide ((v19:Int)<((b.Nets.getD v12.toNat default).Pins.length:Int)) then (bif Z6r b v12 v19 p then (b.Nets.getD v12.toNat default).Name else ((E4 b p v12 K0 n1) (v19+1))) else (K0 (v12+1))
def E5 (b:AF) (p:Ac):Nat->Int->ByteArray
 | 0,_=>default
 | n0+1,v12=>bif decide ((v12:Int)<(b.Nets.length:Int)) then (E4 b p v12 (E5 b p n0) ((((b.Nets.getD v12.toNat default).Pins.length:Int)-0).toNat+1) 0) else ({ data := #[] }:ByteArray)
def Jy (b:AF) (p:Ac):ByteArray:=E5 b p (((b.Nets.length:Int)-0).toNat+1) 0
def QF (b:AF) (p:Ac):FuncId×List Av×Ef:=(15,[.agg (DC b),.agg (Ac.c p)],.val [] (.av (.one (.s (Jy b p)))))
abbrev VN (b:AF) (v12:Int):=b.Nets.getD v12.toNat default
abbrev KJ (b:AF):Nat×Tv:=(11,tI (b.Nets.length:Int))
abbrev KH (b:AF):Nat×Tv:=(10,tO (lst 2 BO.c b.Nets))
abbrev Fl (p:Ac):Nat×Blk:=(3,.cells (Ac.c p) 65)
abbrev X8 (b:AF) (v12:Int):Nat×Tv:=(18,tI ((VN b v12).Pins.length:Int))
abbrev X7 (b:AF) (v12:Int):Nat×Tv:=(17,tO (lst 2 Ac.c (VN b v12).Pins))
abbrev J8 (b:AF) (v12:Int):Nat×Blk:=(6,.cells (BO.c (VN b v12)) 84)
abbrev NQ (b:AF) (v12:Int) (t_:List (Nat×Tv)):List (Nat×Tv):=(3,tP 3 0)::(6,tP 6 0)::(KH b)::(KJ b)::(12,tI v12)::(X7 b v12)::(X8 b v12)::t_
theorem pnetL (b:AF) (p:Ac) (hn:(b.Nets.length:Int)<=1000000) (hq:∀ n∈b.Nets,(n.Pins.length:Int)<=1000000):BH Tryz.prog 15 (QF b p).2.1 (tO (.s (Jy b p))):=by
 refine AO Tryz.func15 rfl kr kr fun W0 M0 => ?_
 refine AC<|rn ⟨Il,[(Hi b),(Fl p)]⟩ ?_
 refine AC<|AC ?_
 refine rn ⟨[(3,tP 3 0),(KH b),(KJ b),(12,tI 0)],[(Fl p)]⟩<|Af ?_
 refine BL (ι:=Nat×Int) (fun x=>⟨[(3,tP 3 0),(KH b),(KJ b),(12,tI x.2)],[(Fl p)]⟩) (fun x=>((b.Nets.length:Int)-x.2).toNat<x.1/\(0<=x.2/\(x.2<=(b.Nets.length:Int)\/x.2=0))/\E5 b p x.1 x.2=Jy b p) (fun x=>x.1) ?_ (((b.Nets.length:Int)-0).toNat+1,0) ⟨Nat.lt_succ_self _,⟨ax0,ax0⟩,(by simp only [Jy,cond_true,cond_false])⟩
 rintro ⟨n0,v12⟩ ⟨hn,hinv,hF⟩
 have hm0:=hn;have hinv0:=hinv;have hF0:=hF;try dsimp only at hm0 hinv0 hF0
 clear hn hinv hF
 cases n0 with
 | zero=>exact absurd hm0 (Nat.not_lt_zero _)
 | succ n0 =>
  refine AC<|rn ⟨[(3,tP 3 0),(KH b),(KJ b),(12,tI v12),(13,tB (decide ((v12:Int)<(b.Nets.length:Int))))],[(Fl p)]⟩<|AC ?_
  refine AY _ rfl (fun h1 => ?_) (fun h1 => ?_)
  ·have g1:=oT h1
   refine Ae<|AH ?_
   refine AC<|Af<|AC ?_
   refine rc [] [0<=(v12:Int)/\(v12:Int)<((b.Nets.length:Nat):Int)] ⟨[(3,tP 3 0),(6,tP 6 0),(KH b),(KJ b),(12,tI v12)],[(Fl p),(J8 b v12)]⟩ .nil (.cons au0 .nil)<|AH<|AC ?_
   refine rn ⟨(NQ b v12 [(19,tI 0)]),[(Fl p),(J8 b v12)]⟩<|Af ?_
   refine BL (ι:=Nat×Int) (fun x=>⟨(NQ b v12 [(19,tI x.2)]),[(Fl p),(J8 b v12)]⟩) (fun x=>(((b.Nets.getD v12.toNat default).Pins.length:Int)-x.2).toNat<x.1/\(0<=x.2/\(x.2<=((b.Nets.getD v12.toNat default).Pins.length:Int)\/x.2=0))/\E4 b p v12 (E5 b p n0) x.1 x.2=Jy b p) (fun x=>x.1) ?_ ((((b.Nets.getD v12.toNat default).Pins.length:Int)-0).toNat+1,0) ⟨Nat.lt_succ_self _,⟨ax0,ax0⟩,(by rw [<- hF0];simp only [E5,h1,cond_true,cond_false])⟩
   rintro ⟨n1,v19⟩ ⟨hn,hinv,hF⟩
   have hm1:=hn;have hinv1:=hinv;have hF1:=hF;try dsimp only at hm1 hinv1 hF1
   clear hn hinv hF
   cases n1 with
   | zero=>exact absurd hm1 (Nat.not_lt_zero _)
   | succ n1 =>
    have hb1:=cB hq v12.toNat
    refine AC<|rn ⟨(NQ b v12 [(19,tI v19),(20,tB (decide ((v19:Int)<((b.Nets.getD v12.toNat default).Pins.length:Int))))]),[(Fl p),(J8 b v12)]⟩<|AC ?_
    refine AY _ rfl (fun h2 => ?_) (fun h2 => ?_)
    ·have g2:=oT h2
     refine Ae<|AH ?_
     refine AC<|Af<|AC ?_
     refine rc [] [0<=(v19:Int)/\(v19:Int)<(((b.Nets.getD v12.toNat default).Pins.length:Nat):Int)] ⟨[(3,tP 3 0),(6,tP 6 0),(8,tP 8 0),(KH b),(KJ b),(12,tI v12),(X7 b v12),(X8 b v12),(19,tI v19)],[(Fl p),(J8 b v12),(8,.cells (Ac.c (Z6q b v12 v19)) 65)]⟩ .nil (.cons au0 .nil)<|AH<|AC ?_
     refine rn ⟨(NQ b v12 [(19,tI v19),(25,tB (Z6r b v12 v19 p))]),[(Fl p),(J8 b v12)]⟩ ?_
     refine AY _ rfl (fun h3 => ?_) (fun h3 => ?_)
     ·refine AC<|rn ⟨[(4,tO (.s (VN b v12).Name))],[]⟩ ?_
      refine AZ<|B2 ?_
      refine A9<|A9 ?_
      refine B2<|B2 ?_
      refine A9<|A9 ?_
      refine B2<|A9 ?_
      exact ⟨_,Cv.refl _,.inl rfl,tO (.s (b.Nets.getD v12.toNat default).Name),by kernel_rfl,Ad (by rw [<- hF1];first | (simp only [E4,h2,h3,cond_true,cond_false] <;> rfl))⟩
     ·refine Ae<|BZ<|AH ?_
      refine rg ⟨(NQ b v12 [(19,tI (W64 (v19+1)))]),[(Fl p),(J8 b v12)]⟩ ?_
      (try rw [(show W64 (v19+1)=v19+1 from Al (by omega) au9)])
      refine AH ?_
      refine ⟨(n1,v19+1),⟨?_,?_,(by rw [<- hF1];simp only [E4,h2,h3,cond_true,cond_false])⟩,Nat.lt_succ_self _,A4 kr⟩
      ·show (((b.Nets.getD v12.toNat default).Pins.length:Int)-(v19+1)).toNat<n1;omega
      ·exact ⟨ax0,ax0⟩
    ·have g2:=oF h2
     refine BP<|BE ?_
     refine BE<|BQ ?_
     refine BZ<|AH ?_
     refine rg ⟨[(3,tP 3 0),(KH b),(KJ b),(12,tI (W64 (v12+1)))],[(Fl p)]⟩ ?_
     (try rw [(show W64 (v12+1)=v12+1 from Al (by omega) au9)])
     refine AH ?_
     refine ⟨(n0,v12+1),⟨?_,?_,(by rw [<- hF1];simp only [E4,h2,cond_true,cond_false])⟩,Nat.lt_succ_self _,A4 kr⟩
     ·show ((b.Nets.length:Int)-(v12+1)).toNat<n0;omega
     ·exact ⟨ax0,ax0⟩
  ·have g1:=oF h1
   refine BP<|BE ?_
   refine BE<|BQ ?_
   refine AH<|AC ?_
   refine rn ⟨[(4,tO (.s ({ data := #[] }:ByteArray)))],[]⟩<|AZ ?_
   exact ⟨_,Cv.refl _,.inl rfl,tO (.s ({ data := #[] }:ByteArray)),by kernel_rfl,Ad (by rw [<- hF0];first | (simp only [E5,h1,cond_true,cond_false] <;> rfl))⟩
theorem iN (b:AF) (p:Ac) (hn:(b.Nets.length:Int)<=1000000) (hq:∀ n∈b.Nets,(n.Pins.length:Int)<=1000000):Aq Tryz.prog (QF b p).1 (QF b p).2.1 (QF b p).2.2:=AR (fun _ _=>kr) fun _=>pnetL b p hn hq
def Z6s (l:(List (List Int))) (v53:Int):BV:=(BF (AP l).1 (AP l).2).getD v53.toNat default
def Z6t (l:(List (List Int))) (v30:Int):AG:=(AP l).1.Parts.getD v30.toNat default
def Z6u (l:(List (List Int))) (v30:Int) (v53:Int):AB:=(FAt (AP l).1 (AP l).2 (Ac.mk (Z6t l v30).Ref (Z6s l v53).Pad)).1
def Z6v (l:(List (List Int))) (v30:Int) (v53:Int):Bool:=(FAt (AP l).1 (AP l).2 (Ac.mk (Z6t l v30).Ref (Z6s l v53).Pad)).2.2
def Z6w (l:(List (List Int))) (v30:Int) (v53:Int):Bool:=bif !(Z6v l v30 v53) then true else !(C7 (Z6s l v53).Shape (Z6u l v30 v53))
def Z6x (l:(List (List Int))) (v36:Int) (v30:Int):Bool:=(((AP l).2.getD v36.toNat default).Name.toList==(Z6t l v30).Type'.toList)
def Br (l:(List (List Int))) (v7:Int) (v30:Int) (v7':Int) (v36:Int) (K0:Int->Int->Bool) (K1:Int->Int->Bool):Nat->Int->Bool
 | 0,_=>default
 | n2+1,v53=>bif decide ((v53:Int)<((BF (AP l).1 (AP l).2).length:Int)) then (bif !decide (((Z6s l v53).Id:Int)=(Z6t l v30).Id) then ((Br l v7 v30 v7' v36 K0 K1 n2) (v53+1)) else (bif bif bif bif Z6w l v30 v53 then true else decide (((FAt (AP l).1 (AP l).2 (Ac.mk (Z6t l v30).Ref (Z6s l v53).Pad)).2.1:Int)<(Z6s l v53).From) then true else decide (((Z6s l v53).To:Int)<(FAt (AP l).1 (AP l).2 (Ac.mk (Z6t l v30).Ref (Z6s l v53).Pad)).2.1) then true else !((Z6s l v53).Net.toList==(Jy (AP l).1 (Ac.mk (Z6t l v30).Ref (Z6s l v53).Pad)).toList) then false else ((Br l v7 v30 v7' v36 K0 K1 n2) (v53+1)))) else (K0 v7' (v30+1))
def Bs (l:(List (List Int))) (v7:Int) (v30:Int) (K0:Int->Int->Bool):Nat->Int->Int->Bool
 | 0,_,_=>default
 | n1+1,v7',v36=>bif decide ((v36:Int)<((AP l).2.length:Int)) then ((Bs l v7 v30 K0 n1) (bif Z6x l v36 v30 then (W64 (v7'+(((AP l).2.getD v36.toNat default).Pads.length:Int))) else v7') (v36+1)) else (Br l v7 v30 v7' v36 K0 (Bs l v7 v30 K0 n1) ((((BF (AP l).1 (AP l).2).length:Int)-0).toNat+1) 0)
def Bt (l:(List (List Int))):Nat->Int->Int->Bool
 | 0,_,_=>default
 | n0+1,v7,v30=>bif decide ((v30:Int)<((AP l).1.Parts.length:Int)) then (Bs l v7 v30 (Bt l n0) ((((AP l).2.length:Int)-0).toNat+1) v7 0) else (bif B7 then decide ((((BF (AP l).1 (AP l).2).length:Int):Int)=v7) else false)
def DO (l:(List (List Int))):Bool:=Bt l ((((AP l).1.Parts.length:Int)-0).toNat+1) 0 0
def Rl (l:(List (List Int))):FuncId×List Av×Ef:=(4,[.one (lst 1 (fun x=>[lst 1 (fun x=>[.i x]) x]) l)],.val [] (.av (.one (.b (DO l)))))
abbrev fH (l:List (List Int)) (v30:Int) (v53:Int):=FAt (AP l).1 (AP l).2 (Ac.mk (Z6t l v30).Ref (Z6s l v53).Pad)
abbrev Ti (l:List (List Int)) (v30:Int) (v53:Int):=(bif bif Z6w l v30 v53 then true else decide (((fH l v30 v53).2.1:Int)<(Z6s l v53).From) then true else decide (((Z6s l v53).To:Int)<(fH l v30 v53).2.1))
abbrev fF (l:List (List Int)):=BF (AP l).1 (AP l).2
abbrev Pb (l:List (List Int)):=lst 9 BV.c (fF l)
abbrev Ey (l:List (List Int)):Nat×Tv:=(29,tI ((AP l).1.Parts.length:Int))
abbrev HF (l:List (List Int)):Nat×Blk:=(4,.cells (AF.c (AP l).1) 40)
abbrev PY (l:List (List Int)) (v30:Int):Nat×Blk:=(9,.cells (AG.c (Z6t l v30)) 49)
abbrev Gm (l:List (List Int)) (v30:Int):List (Nat×Blk):=[(HF l),(PY l v30)]
abbrev Ex (l:List (List Int)):Nat×Tv:=(28,tO (lst 7 AG.c (AP l).1.Parts))
abbrev fE (l:List (List Int)):Nat×Tv:=(5,tO (Jj l))
abbrev Hl (l:List (List Int)):Nat×Tv:=(35,tI ((AP l).2.length:Int))
abbrev Nq (l:List (List Int)):Nat×Tv:=(52,tI ((fF l).length:Int))
abbrev Qn (l:List (List Int)) (v30:Int) (v53:Int):=(bif Z6w l v30 v53 then true else decide (((fH l v30 v53).2.1:Int)<(Z6s l v53).From))
abbrev Cd (l:List (List Int)) (t_:List (Nat×Tv)):List (Nat×Tv):=(3,tB B7)::(4,tP 4 0)::(fE l)::(6,tO (Pb l))::t_
abbrev LV (v7':Int) (l:List (List Int)) (v30:Int) (t_:List (Nat×Tv)):List (Nat×Tv):=(7,tI v7')::(9,tP 9 0)::(Ex l)::(Ey l)::(30,tI v30)::(51,tO (Pb l))::(Nq l)::t_
theorem au12 {p:Prop} (h:p:=by first | (with_reducible exact E1 l) | (with_reducible exact VZ (E1 l) _) | (with_reducible exact hed _) | (with_reducible exact hNp) | (with_reducible exact hNl) | (with_reducible exact hpl) | with_reducible assumption | omega | decide | (simp only [List.length_cons,List.length_nil,List.length_append];omega) | assumption):p:=h
set_option maxHeartbeats 4000000 in
theorem Q8 (l:(List (List Int))) (hl:(l.length:Int)<=9223372036854775807) (hll:∀ x∈l,(x.length:Int)<=9223372036854775807):BH Tryz.prog 4 (Rl l).2.1 (tO (.b (DO l))):=by
 refine AO Tryz.func4 rfl kr kr fun W0 M0 => ?_
 have hM:=Sr l
 have hP:=hM.par
 have hNl:(((AP l).1.Nets.length:Nat):Int)<=1000000:=Ss l
 have hNp:=Sq l
 have hpl:=Sp l
 have hTl:(((AP l).2.length:Nat):Int)<=1000000:=(E1 l).1
 have hPl:(((BF (AP l).1 (AP l).2).length:Nat):Int)<=20000000:=by rw [MI];exact hpl
 have hed:∀ k,(((Z6s l k).Shape.Edges.length:Nat):Int)<=1000000:=fun k=>VZ (E1 l) _ k.toNat
 refine AC<|rn ⟨[(0,.av (oL l))],[]⟩<|AC ?_
 refine rs 18 HV ⟨[(0,.av (oL l)),(3,tB B7)],[]⟩ UW<|AH<|AC ?_
 refine rs 21 (LF l) ⟨[(3,tB B7),(4,tP 4 0),(fE l)],[(HF l)]⟩ (Yy l au12 au12)<|AH<|AC ?_
 refine rs 26 (ceI [.agg (AF.c (AP l).1),.one (lst 3 AL.c (AP l).2)] (Ov (AP l).1 (AP l).2)) ⟨(Cd l []),[(HF l)]⟩ (C1 (Vh (AP l).1 (AP l).2 au12 au12 au12 au12 au12) (.cons (.agg (rr (rr (rr (rr (rr (rr (rr (rr (rr (rr (rr (rr (.cons (.any _) (rr (rr .nil)))))))))))))))) (.cons (AvE.refl _) .nil)))<|AH<|AC ?_
 refine rn ⟨(Cd l [(7,tI 0)]),[(HF l)]⟩ ?_
 refine AC<|AC ?_
 refine rn ⟨(Cd l [(7,tI 0),(Ex l),(Ey l),(30,tI 0)]),[(HF l)]⟩<|Af ?_
 refine BL (ι:=Nat×Int×Int) (fun x=>⟨(Cd l [(7,tI x.2.1),(Ex l),(Ey l),(30,tI x.2.2)]),[(HF l)]⟩) (fun x=>(((AP l).1.Parts.length:Int)-x.2.2).toNat<x.1/\(0<=x.2.2/\(x.2.2<=((AP l).1.Parts.length:Int)\/x.2.2=0))/\Bt l x.1 x.2.1 x.2.2=DO l) (fun x=>x.1) ?_ ((((AP l).1.Parts.length:Int)-0).toNat+1,0,0) ⟨Nat.lt_succ_self _,⟨ax0,ax0⟩,(by simp only [DO,cond_true,cond_false])⟩
 rintro ⟨n0,v7,v30⟩ ⟨hn,hinv,hF⟩
 have hm0:=hn;have hinv0:=hinv;have hF0:=hF;try dsimp only at hm0 hinv0 hF0
 clear hn hinv hF
 cases n0 with
 | zero=>exact absurd hm0 (Nat.not_lt_zero _)
 | succ n0 =>
  refine AC<|rn ⟨(Cd l [(7,tI v7),(Ex l),(Ey l),(30,tI v30),(31,tB (decide ((v30:Int)<((AP l).1.Parts.length:Int))))]),[(HF l)]⟩<|AC ?_
  refine AY _ rfl (fun h1 => ?_) (fun h1 => ?_)
  ·have g1:=oT h1
   refine Ae<|AH ?_
   refine AC<|Af<|AC ?_
   refine rc [] [0<=(v30:Int)/\(v30:Int)<(((AP l).1.Parts.length:Nat):Int)] ⟨(Cd l [(7,tI v7),(9,tP 9 0),(Ex l),(Ey l),(30,tI v30)]),(Gm l v30)⟩ .nil (.cons au0 .nil)<|AH ?_
   refine AC<|AC ?_
   refine rn ⟨(Cd l [(7,tI v7),(9,tP 9 0),(Ex l),(Ey l),(30,tI v30),(34,tO (Jj l)),(Hl l),(36,tI 0)]),(Gm l v30)⟩<|Af ?_
   refine BL (ι:=Nat×Int×Int) (fun x=>⟨(Cd l [(7,tI x.2.1),(9,tP 9 0),(Ex l),(Ey l),(30,tI v30),(34,tO (Jj l)),(Hl l),(36,tI x.2.2)]),(Gm l v30)⟩) (fun x=>(((AP l).2.length:Int)-x.2.2).toNat<x.1/\(0<=x.2.2/\(x.2.2<=((AP l).2.length:Int)\/x.2.2=0))/\Bs l v7 v30 (Bt l n0) x.1 x.2.1 x.2.2=DO l) (fun x=>x.1) ?_ ((((AP l).2.length:Int)-0).toNat+1,v7,0) ⟨Nat.lt_succ_self _,⟨ax0,ax0⟩,(by rw [<- hF0];simp only [Bt,h1,cond_true,cond_false])⟩
   rintro ⟨n1,v7',v36⟩ ⟨hn,hinv,hF⟩
   have hm1:=hn;have hinv1:=hinv;have hF1:=hF;try dsimp only at hm1 hinv1 hF1
   clear hn hinv hF
   cases n1 with
   | zero=>exact absurd hm1 (Nat.not_lt_zero _)
   | succ n1 =>
    refine AC<|rn ⟨(Cd l [(7,tI v7'),(9,tP 9 0),(Ex l),(Ey l),(30,tI v30),(34,tO (Jj l)),(Hl l),(36,tI v36),(37,tB (decide ((v36:Int)<((AP l).2.length:Int))))]),(Gm l v30)⟩<|AC ?_
    refine AY _ rfl (fun h2 => ?_) (fun h2 => ?_)
    ·have g2:=oT h2
     refine Ae<|AH<|AC ?_
     refine Bc (⟨(Cd l [(7,tI (bif Z6x l v36 v30 then (W64 (v7'+(((AP l).2.getD v36.toNat default).Pads.length:Int))) else v7')),(9,tP 9 0),(Ex l),(Ey l),(30,tI v30),(34,tO (Jj l)),(Hl l),(36,tI v36)]),(Gm l v30)⟩) ?_ ?_
     ·refine Af<|AC ?_
      refine rc [] [0<=(v36:Int)/\(v36:Int)<(((AP l).2.length:Nat):Int)] ⟨(Cd l [(7,tI v7'),(9,tP 9 0),(11,tP 11 0),(Ex l),(Ey l),(30,tI v30),(34,tO (Jj l)),(Hl l),(36,tI v36)]),[(HF l),(PY l v30),(11,.cells (AL.c ((AP l).2.getD v36.toNat default)) 61)]⟩ .nil (.cons au0 .nil)<|AH<|AC ?_
      refine rn ⟨(Cd l [(7,tI v7'),(9,tP 9 0),(11,tP 11 0),(Ex l),(Ey l),(30,tI v30),(34,tO (Jj l)),(Hl l),(36,tI v36),(44,tB (Z6x l v36 v30))]),[(HF l),(PY l v30),(11,.cells (AL.c ((AP l).2.getD v36.toNat default)) 61)]⟩ ?_
      refine AY _ rfl (fun h3 => ?_) (fun h3 => ?_)
      ·refine rg ⟨(Cd l [(7,tI (W64 (v7'+(((AP l).2.getD v36.toNat default).Pads.length:Int)))),(9,tP 9 0),(Ex l),(Ey l),(30,tI v30),(34,tO (Jj l)),(Hl l),(36,tI v36)]),(Gm l v30)⟩<|BZ<|AH ?_
       refine A4 ?_
       first | rfl | (simp only [h3,cond_true,cond_false] <;> rfl)
      ·refine Ae<|BZ<|AH ?_
       refine Cv.trans (ck (⟨(Cd l [(7,tI v7'),(9,tP 9 0),(Ex l),(Ey l),(30,tI v30),(34,tO (Jj l)),(Hl l),(36,tI v36)]),(Gm l v30)⟩)) (A4 ?_)
       first | rfl | (simp only [h3,cond_true,cond_false] <;> rfl)
     refine rg ⟨(Cd l [(7,tI (bif Z6x l v36 v30 then (W64 (v7'+(((AP l).2.getD v36.toNat default).Pads.length:Int))) else v7')),(9,tP 9 0),(Ex l),(Ey l),(30,tI v30),(34,tO (Jj l)),(Hl l),(36,tI (W64 (v36+1)))]),(Gm l v30)⟩ ?_
     (try rw [(show W64 (v36+1)=v36+1 from Al (by omega) au9)])
     refine AH ?_
     refine ⟨(n1,bif Z6x l v36 v30 then (W64 (v7'+(((AP l).2.getD v36.toNat default).Pads.length:Int))) else v7',v36+1),⟨?_,?_,(by rw [<- hF1];simp only [Bs,h2,cond_true,cond_false])⟩,Nat.lt_succ_self _,A4 kr⟩
     ·show (((AP l).2.length:Int)-(v36+1)).toNat<n1;omega
     ·exact ⟨ax0,ax0⟩
    ·have g2:=oF h2
     refine BP<|BE ?_
     refine BE<|BQ ?_
     refine AH<|AC ?_
     refine rn ⟨(Cd l (LV v7' l v30 [(53,tI 0)])),(Gm l v30)⟩<|Af ?_
     refine BL (ι:=Nat×Int) (fun x=>⟨(Cd l (LV v7' l v30 [(53,tI x.2)])),(Gm l v30)⟩) (fun x=>(((BF (AP l).1 (AP l).2).length:Int)-x.2).toNat<x.1/\(0<=x.2/\(x.2<=((BF (AP l).1 (AP l).2).length:Int)\/x.2=0))/\Br l v7 v30 v7' v36 (Bt l n0) (Bs l v7 v30 (Bt l n0) n1) x.1 x.2=DO l) (fun x=>x.1) ?_ ((((BF (AP l).1 (AP l).2).length:Int)-0).toNat+1,0) ⟨Nat.lt_succ_self _,⟨ax0,ax0⟩,(by rw [<- hF1];simp only [Bs,h2,cond_true,cond_false])⟩
     rintro ⟨n2,v53⟩ ⟨hn,hinv,hF⟩
     have hm2:=hn;have hinv2:=hinv;have hF2:=hF;try dsimp only at hm2 hinv2 hF2
     clear hn hinv hF
     cases n2 with
     | zero=>exact absurd hm2 (Nat.not_lt_zero _)
     | succ n2 =>
      refine AC<|rn ⟨(Cd l (LV v7' l v30 [(53,tI v53),(54,tB (decide ((v53:Int)<((BF (AP l).1 (AP l).2).length:Int))))])),(Gm l v30)⟩<|AC ?_
      refine AY _ rfl (fun h3 => ?_) (fun h3 => ?_)
      ·have g3:=oT h3
       refine Ae<|AH ?_
       refine AC<|Af<|AC ?_
       refine rc [] [0<=(v53:Int)/\(v53:Int)<(((BF (AP l).1 (AP l).2).length:Nat):Int)] ⟨(Cd l [(7,tI v7'),(9,tP 9 0),(13,tP 13 0),(Ex l),(Ey l),(30,tI v30),(51,tO (Pb l)),(Nq l),(53,tI v53)]),[(HF l),(PY l v30),(13,.cells (BV.c (Z6s l v53)) 63)]⟩ .nil (.cons au0 .nil)<|AH ?_
       refine AC<|AC ?_
       refine rn ⟨(Cd l [(7,tI v7'),(9,tP 9 0),(13,tP 13 0),(Ex l),(Ey l),(30,tI v30),(51,tO (Pb l)),(Nq l),(53,tI v53),(61,tB (!decide (((Z6s l v53).Id:Int)=(Z6t l v30).Id)))]),[(HF l),(PY l v30),(13,.cells (BV.c (Z6s l v53)) 63)]⟩ ?_
       refine AY _ rfl (fun h4 => ?_) (fun h4 => ?_)
       ·have g4:=C4 h4
        refine BP<|BE ?_
        refine BQ<|AH ?_
        refine rg ⟨(Cd l (LV v7' l v30 [(53,tI (W64 (v53+1)))])),(Gm l v30)⟩ ?_
        (try rw [(show W64 (v53+1)=v53+1 from Al (by omega) au9)])
        refine AH ?_
        refine ⟨(n2,v53+1),⟨?_,?_,(by rw [<- hF2];simp only [Br,h3,h4,cond_true,cond_false])⟩,Nat.lt_succ_self _,A4 kr⟩
        ·show (((BF (AP l).1 (AP l).2).length:Int)-(v53+1)).toNat<n2;omega
        ·exact ⟨ax0,ax0⟩
       ·have g4:=Cq h4
        refine Ae<|AH<|AC ?_
        refine rn ⟨(Cd l [(7,tI v7'),(9,tP 9 0),(13,tP 13 0),(14,tP 14 0),(Ex l),(Ey l),(30,tI v30),(51,tO (Pb l)),(Nq l),(53,tI v53)]),[(HF l),(PY l v30),(13,.cells (BV.c (Z6s l v53)) 63),(14,.cells [.s (Z6t l v30).Ref,.s (Z6s l v53).Pad] 65)]⟩<|AC ?_
        refine rs 71 (ceI [.agg (AF.c (AP l).1),.one (lst 3 AL.c (AP l).2),.agg [.s (Z6t l v30).Ref,.s (Z6s l v53).Pad]] (cAt (AP l).1 (AP l).2 (Ac.mk (Z6t l v30).Ref (Z6s l v53).Pad))) ⟨(Cd l [(7,tI v7'),(9,tP 9 0),(13,tP 13 0),(14,tP 14 0),(15,tP 15 0),(16,tI (fH l v30 v53).2.1),(17,tB (Z6v l v30 v53)),(Ex l),(Ey l),(30,tI v30),(51,tO (Pb l)),(Nq l),(53,tI v53)]),[(HF l),(PY l v30),(13,.cells (BV.c (Z6s l v53)) 63),(14,.cells [.s (Z6t l v30).Ref,.s (Z6s l v53).Pad] 65),(15,.cells (AB.c (Z6u l v30 v53)) 47)]⟩ (C1 (okAt (AP l).1 (AP l).2 (Ac.mk (Z6t l v30).Ref (Z6s l v53).Pad) au12 au12) (.cons (.agg (rr (rr (rr (rr (rr (rr (rr (rr (rr (rr (rr (rr (.cons (.any _) (rr (rr .nil)))))))))))))))) (.cons (AvE.refl _) (.cons (AvE.refl _) .nil))))<|AH<|AC ?_
        refine dw [] [(81,HY (Z6s l v53).Shape (Z6u l v30 v53)),(101,ceI [.agg (AF.c (AP l).1),.agg [.s (Z6t l v30).Ref,.s (Z6s l v53).Pad]] (QF (AP l).1 (Ac.mk (Z6t l v30).Ref (Z6s l v53).Pad)))] [gi (!(Z6v l v30 v53)),gi (!(Z6v l v30 v53)),gi (!(Z6v l v30 v53)),gj (!(Z6v l v30 v53)) (Ap (HY (Z6s l v53).Shape (Z6u l v30 v53)).2.1),gi (!(Z6v l v30 v53)),gi (!(Z6v l v30 v53)),gi (Z6w l v30 v53),gi (Z6w l v30 v53),gi (Z6w l v30 v53),gi (Z6w l v30 v53),gi (Qn l v30 v53),gi (Qn l v30 v53),gi (Qn l v30 v53),gi (Qn l v30 v53),gi (Ti l v30 v53),gi (Ti l v30 v53),gi (Ti l v30 v53),gj (Ti l v30 v53) (Ap (ceI [.agg (AF.c (AP l).1),.agg [.s (Z6t l v30).Ref,.s (Z6s l v53).Pad]] (QF (AP l).1 (Ac.mk (Z6t l v30).Ref (Z6s l v53).Pad))).2.1),gi (Ti l v30 v53),gi (Ti l v30 v53),gi (Ti l v30 v53)] ⟨(Cd l (LV v7' l v30 [(53,tI v53),(103,tB (bif bif bif Z6w l v30 v53 then true else decide (((FAt (AP l).1 (AP l).2 (Ac.mk (Z6t l v30).Ref (Z6s l v53).Pad)).2.1:Int)<(Z6s l v53).From) then true else decide (((Z6s l v53).To:Int)<(FAt (AP l).1 (AP l).2 (Ac.mk (Z6t l v30).Ref (Z6s l v53).Pad)).2.1) then true else !((Z6s l v53).Net.toList==(Jy (AP l).1 (Ac.mk (Z6t l v30).Ref (Z6s l v53).Pad)).toList)))])),(Gm l v30)⟩ (.cons (Wx (Z6s l v53).Shape (Z6u l v30 v53) au12) (.cons (C1 (iN (AP l).1 (Ac.mk (Z6t l v30).Ref (Z6s l v53).Pad) au12 au12) (.cons (.agg (rr (rr (rr (rr (rr (rr (rr (rr (rr (rr (rr (rr (.cons (.any _) (rr (rr .nil)))))))))))))))) (.cons (AvE.refl _) .nil))) .nil)) (ci (ci (ci (.cons (fun _=>rfl) (ci (ci (ci (ci (ci (ci (ci (ci (ci (ci (ci (ci (ci (.cons (fun _=>rfl) (ci (ci (ci .nil)))))))))))))))))))))<|AH ?_
        refine AY _ rfl (fun h5 => ?_) (fun h5 => ?_)
        ·refine AC<|rn ⟨[(2,tB false)],[]⟩ ?_
         refine AZ<|B2 ?_
         refine A9<|A9 ?_
         refine B2<|B2 ?_
         refine A9<|A9 ?_
         refine B2<|A9 ?_
         exact ⟨_,Cv.refl _,.inl rfl,tO (.b false),by kernel_rfl,Ad (by rw [<- hF2];first | (simp only [Br,h3,h4,h5,cond_true,cond_false] <;> rfl))⟩
        ·refine Ae<|BZ<|AH ?_
         refine rg ⟨(Cd l (LV v7' l v30 [(53,tI (W64 (v53+1)))])),(Gm l v30)⟩ ?_
         (try rw [(show W64 (v53+1)=v53+1 from Al (by omega) au9)])
         refine AH ?_
         refine ⟨(n2,v53+1),⟨?_,?_,(by rw [<- hF2];simp only [Br,h3,h4,h5,cond_true,cond_false])⟩,Nat.lt_succ_self _,A4 kr⟩
         ·show (((BF (AP l).1 (AP l).2).length:Int)-(v53+1)).toNat<n2;omega
         ·exact ⟨ax0,ax0⟩
      ·have g3:=oF h3
       refine BP<|BE ?_
       refine BE<|BQ ?_
       refine BZ<|AH ?_
       refine rg ⟨(Cd l [(7,tI v7'),(Ex l),(Ey l),(30,tI (W64 (v30+1)))]),[(HF l)]⟩ ?_
       (try rw [(show W64 (v30+1)=v30+1 from Al (by omega) au9)])
       refine AH ?_
       refine ⟨(n0,v7',v30+1),⟨?_,?_,(by rw [<- hF2];simp only [Br,h3,cond_true,cond_false])⟩,Nat.lt_succ_self _,A4 kr⟩
       ·show (((AP l).1.Parts.length:Int)-(v30+1)).toNat<n0;omega
       ·exact ⟨ax0,ax0⟩
  ·have g1:=oF h1
   refine BP<|BE ?_
   refine BE<|BQ ?_
   refine AH<|AC ?_
   refine rc [] [(B7=true)->(B7=true),(B7=true)->(B7=true),(B7=true)->(B7=true),B7=true->(B7=true)] ⟨[(2,tB (bif B7 then decide ((((fF l).length:Int):Int)=v7) else false))],[]⟩ .nil (ci (ci (ci (ci .nil))))<|AH<|AZ ?_
   exact ⟨_,Cv.refl _,.inl rfl,tO (.b (bif B7 then decide ((((BF (AP l).1 (AP l).2).length:Int):Int)=v7) else false)),by kernel_rfl,Ad (by rw [<- hF0];first | (simp only [Bt,h1,cond_true,cond_false] <;> rfl))⟩
end
section
open Go.RowKit
theorem cT {e:AE} {r:Int} (he:OkE e) (hr:0<=r/\r<=4194304):OkS ⟨1,[e],r⟩:=by
 refine ⟨⟨.inl rfl,⟨Nat.le_refl 1,(by decide:1<=40)⟩,fun h=>by cases h⟩,fun x hx=>by rw [List.mem_singleton.1 hx];exact he,⟨fun i hi => ?_,fun h=>by cases h⟩,hr,fun h=>by cases h⟩
 have hi:i+1<1:=hi
 omega
theorem Ug {a b:AB} {r:Int} (ha:I9 a) (hb:I9 b) (hr:0<=r/\r<=40):MF ⟨1,[⟨1,a,b,⟨0,0⟩⟩],r⟩:=by
 obtain ⟨h1,h2⟩:=RU ha hb
 exact ⟨cT h1 ⟨hr.1,by omega⟩,fun e he=>by rw [List.mem_singleton.1 he];exact h2,hr.2,(by decide:1<=8)⟩
theorem US {k:Nat} {p:Ay} (h:Tc k p):MF p.Shape:=by
 have hk:=h.lt
 obtain ⟨y,h0,h1,_,e | ⟨r,r0,r1,e⟩ | e⟩:=h.shp <;> rw [e]
 ·exact bR (by simp only;omega)
 ·exact eJ (by unfold I9;simp only;omega) (by omega)
 ·exact Ug (by unfold I9;simp only;omega) (by unfold I9;simp only;omega) (by omega)
theorem JK {l:List AE} {f:AE->AE} {i:Nat} (h:i<l.length):(l.map f).getD i default=f (l.getD i default):=by
 rw [List.getD_eq_getElem?_getD,List.getElem?_map,List.getElem?_eq_getElem h,List.getD_eq_getElem?_getD,List.getElem?_eq_getElem h];rfl
theorem ZI {s:AW} {m:Ab} (h:MF s) (ha:(-1000<=m.At.X/\m.At.X<=1000) /\ -1000<=m.At.Y/\m.At.Y<=1000):Dk s m=⟨s.Kind,s.Edges.map (fun e=>Gx e (m.Turn % 4) m.Mirror m.At),s.R⟩/\OkS (Dk s m):=by
 have e1:Dk s m=⟨s.Kind,s.Edges.map (fun e=>Gx e (m.Turn % 4) m.Mirror m.At),s.R⟩:=by
  rw [Si]
  congr 1
  exact List.map_congr_left fun e he=>dN e m (h.1.2.1 e he) (h.2.1 e he) (by unfold Sm;omega)
 refine ⟨e1,?_⟩
 rw [e1]
 obtain ⟨⟨⟨h1,h2,h3⟩,h4,⟨h5,h6⟩,h7,h8⟩,hs,_⟩:=h
 refine ⟨⟨h1,by simp only [List.length_map];exact h2,fun hk=>by simp only [List.length_map];exact h3 hk⟩,fun e he => ?_,⟨fun i hi => ?_,fun hk => ?_⟩,h7,h8⟩
 ·obtain ⟨f,hf,rfl⟩:=List.mem_map.1 he
  exact iV (h4 f hf) (hs f hf) ha
 ·simp only [List.length_map] at hi
  simp only
  rw [JK (by omega),JK hi]
  show mvp _ _ _ _=mvp _ _ _ _
  rw [h5 i hi]
 ·simp only [List.length_map]
  rw [JK (by omega),JK (by omega)]
  show mvp _ _ _ _=mvp _ _ _ _
  rw [h6 hk]
theorem TU {s:AW} (h:OkS s):Ck s=0:=by rw [XV];exact (Rk s).2 h
theorem cE {k:Nat} {p:AG} (h:PB k p):((-1000<=p.At.X/\p.At.X<=1000) /\ -1000<=p.At.Y/\p.At.Y<=1000):=by
 have:=h.x
 have:=h.y
 omega
theorem Sd:∀ k:Nat,k<6->((Aj (k:Int)).toList.getD 1 0).toNat=49+k:=by
 intro k hk
 have:k=0\/k=1\/k=2\/k=3\/k=4\/k=5:=by omega
 rcases this with rfl | rfl | rfl | rfl | rfl | rfl <;> decide +kernel
theorem W7 {k j:Nat} (hk:k<6) (hj:j<6) (h:Aj (k:Int)=Aj (j:Int)):k=j:=by
 have h1:=Sd k hk
 have h2:=Sd j hj
 rw [h] at h1
 omega
end
end Go.Proofs.YtdbampcfmjbgmaaGreat
