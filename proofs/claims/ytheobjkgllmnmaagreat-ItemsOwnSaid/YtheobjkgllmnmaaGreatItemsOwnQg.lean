/-
  Proved: the statement of ItemsOwn; the parts before it hold what its proof needs.
-/
import Derived.Test.YtheobjkgllmnmaaGreatItemsOwnQf
namespace Go.Proofs.YtheobjkgllmnmaaGreat
set_option maxRecDepth 100000
set_option linter.unusedVariables false
set_option linter.unusedSimpArgs false
open Go.RowKit
section
open Go.RowKit
variable (c:EA) (raw:AL) (v37 v69:Int)
def Z6H:(List AL):=IV (Ar c.Board).1 (Ar c.Board).2
def Z6I:(List AL):=DJ (Ar c.Board).1 (Ar c.Board).2
def Z6J:(List Aa):=GH (Ar c.Board).1 (Ar c.Board).2
def Z6K:Bool := !(GW (Z6I c) (Z6I c))
def Z6L:AO:=Hg (AO.mk raw.Shape.Kind (raw.Shape.Edges.take (min (raw.Shape.Edges.length:Int) 5:Int).toNat) raw.Shape.R) (AZ.mk (AC.mk 1 0) 0 false)
def Z6M:Bool:=bif DD then E6 (AL.mk raw.Id raw.Pad raw.Kind raw.Net raw.From raw.To (AO.mk raw.Shape.Kind (raw.Shape.Edges.take (min (raw.Shape.Edges.length:Int) 5:Int).toNat) raw.Shape.R)) (AL.mk raw.Id raw.Pad raw.Kind raw.Net raw.From raw.To (AO.mk raw.Shape.Kind (raw.Shape.Edges.take (min (raw.Shape.Edges.length:Int) 5:Int).toNat) raw.Shape.R)) else false
def Z6N:Bool:=bif Z6M raw then !(E6 (AL.mk raw.Id raw.Pad raw.Kind raw.Net raw.From raw.To (AO.mk raw.Shape.Kind (raw.Shape.Edges.take (min (raw.Shape.Edges.length:Int) 5:Int).toNat) raw.Shape.R)) (AL.mk raw.Id raw.Pad raw.Kind raw.Net raw.From (W64 (raw.To+1)) (AO.mk raw.Shape.Kind (raw.Shape.Edges.take (min (raw.Shape.Edges.length:Int) 5:Int).toNat) raw.Shape.R))) else false
def Da (c:EA) (raw:AL) (v37:Int) (K0:Int->Bool):Nat->Int->Bool
 | 0,_=>default
 | n1+1,v47=>bif decide ((v47:Int)<((List.length ((Z6H c).getD v37.toNat default).Shape.Edges):Int)) then ((Da c raw v37 K0 n1) (v47+1)) else (K0 (v37+1))
def DZ (c:EA) (raw:AL) (v37:Int) (v69:Int) (K0:Int->Bool) (K1:Int->Bool):Nat->Int->Bool
 | 0,_=>default
 | n3+1,v79=>bif decide ((v79:Int)<((List.length ((Z6J c).getD v69.toNat default).Shape.Edges):Int)) then ((DZ c raw v37 v69 K0 K1 n3) (v79+1)) else (K1 (v69+1))
def Co (c:EA) (raw:AL) (v37:Int) (K0:Int->Bool):Nat->Int->Bool
 | 0,_=>default
 | n2+1,v69=>bif decide ((v69:Int)<((Z6J c).length:Int)) then (DZ c raw v37 v69 K0 (Co c raw v37 K0 n2) ((((List.length ((Z6J c).getD v69.toNat default).Shape.Edges):Int)-0).toNat+1) 0) else (bif bif Z6K c then true else false then false else (bif Z6N raw then ((E6 (AL.mk raw.Id raw.Pad raw.Kind raw.Net raw.From raw.To (AO.mk raw.Shape.Kind (raw.Shape.Edges.take (min (raw.Shape.Edges.length:Int) 5:Int).toNat) raw.Shape.R)) (AL.mk raw.Id raw.Pad raw.Kind raw.Net raw.From raw.To (Z6L raw)))==(decide ((((raw.Shape.Edges.take (min (raw.Shape.Edges.length:Int) 5:Int).toNat).length:Int):Int)=0))) else false))
def CE (c:EA) (raw:AL):Nat->Int->Bool
 | 0,_=>default
 | n0+1,v37=>bif decide ((v37:Int)<((Z6H c).length:Int)) then (Da c raw v37 (CE c raw n0) ((((List.length ((Z6H c).getD v37.toNat default).Shape.Edges):Int)-0).toNat+1) 0) else (Co c raw v37 (CE c raw n0) ((((Z6J c).length:Int)-0).toNat+1) 0)
def FF (c:EA) (raw:AL):Bool:=CE c raw ((((Z6H c).length:Int)-0).toNat+1) 0
def Zt:CT:=(5,[.agg (EA.c c),.agg (AL.c raw)],.val [] (.av (.one (.b (FF c raw)))))
abbrev Fl:List (Nat×Blk):=[(2,.cells (EA.c c) 25),(3,.cells (AL.c raw) 61),(6,.cells (AG.c (Ar c.Board).1) 41)]
abbrev KQ:Nat×Tv:=(10,tO (lst 6 Aa.cF (Z6J c)))
abbrev KP:Nat×Tv:=(9,tO (lst 9 AL.c (Z6I c)))
abbrev nN:Nat×Tv:=(46,tI ((List.length ((Z6H c).getD v37.toNat default).Shape.Edges):Int))
abbrev nM:Nat×Tv:=(78,tI ((List.length ((Z6J c).getD v69.toNat default).Shape.Edges):Int))
abbrev OP:Nat×Tv:=(36,tI ((Z6H c).length:Int))
abbrev OO:Nat×Tv:=(68,tI ((Z6J c).length:Int))
abbrev ON:Nat×Tv:=(8,tO (lst 9 AL.cF (Z6H c)))
abbrev EI (t_:List (Nat×Tv)):List (Nat×Tv):=(2,tP 2 0)::(3,tP 3 0)::(5,tB DD)::(6,tP 6 0)::((7,tO (lst 3 AN.c (Ar c.Board).2)))::t_
abbrev N3 (t_:List (Nat×Tv)):List (Nat×Tv):=(ON c)::(KP c)::(KQ c)::(11,tI v37)::(OP c)::(37,tI v37)::(nN c v37)::t_
abbrev N2 (t_:List (Nat×Tv)):List (Nat×Tv):=(KP c)::(KQ c)::(13,tI v69)::(OO c)::(69,tI v69)::(nM c v69)::t_
theorem au11 {p:Prop} (h:p:=by first | (exact hw4) | (with_reducible exact O0 _) | (with_reducible exact LW _) | (with_reducible exact ZY _) | (with_reducible exact hL) | (with_reducible exact hE) | (with_reducible exact hM) | ((simp only [List.length_take];omega)) | with_reducible assumption | omega | decide | (simp only [List.length_cons,List.length_nil,List.length_append];omega) | assumption):p:=h
set_option maxHeartbeats 40000000 in
theorem ZK (c:EA) (raw:AL) (hcb:(c.Board.length:Int)<=9223372036854775807) (hll:∀ x∈c.Board,(x.length:Int)<=9223372036854775807):PuP 5 (Zt c raw).2.1 (tO (.b (FF c raw))):=by
 refine TZ Tryz.func5 rfl kr (qQ c raw) fun W0 M0 hM0 => ?_
 have hL:((DJ (Ar c.Board).1 (Ar c.Board).2).length:Int)<=1000000000:=by have:=YT c.Board;omega
 have hE:=UJ c.Board
 have hl1:((Z6H c).length:Int)<=100000000:=iY c.Board
 have he1:∀ k,(((Z6H c).getD k default).Shape.Edges.length:Int)<=1000000:=mZ c.Board
 have hl2:((Z6J c).length:Int)<=100000000:=WT c.Board
 have he2:∀ k,(((Z6J c).getD k default).Shape.Edges.length:Int)<=1000000:=Zg c.Board
 have hw4:((Z6L raw).Edges.length:Int)<=1000000:=by unfold Z6L;rw [WK];simp only [List.length_take];omega
 refine AB<|on<|AB<|oq 19 _ V9<|AE<|AB<|oq 23 _ (T0 c.Board au11 au11)<|AE<|AB<|oe [] [(28,ceI [.agg (AG.c (Ar c.Board).1),.one (lst 3 AN.c (Ar c.Board).2)] (oW (Ar c.Board).1 (Ar c.Board).2)),(31,iK (Ar c.Board).1 (Ar c.Board).2)] [none,none] (.cons (Cf (rC (Ar c.Board).1 (Ar c.Board).2 au11 au11) (.cons (.agg (rr9 (rr3 (rA (rr (rr .nil)))))) (.cons (AvE.refl _) .nil))) (.cons (WH (Ar c.Board).1 (Ar c.Board).2 au11 au11) .nil)) .nil<|AE<|AB<|oq 34 (ceI [.agg (AG.c (Ar c.Board).1),.one (lst 3 AN.c (Ar c.Board).2)] (YO (Ar c.Board).1 (Ar c.Board).2)) (Cf (eF (Ar c.Board).1 (Ar c.Board).2 au11 au11) (.cons (.agg (rr9 (rr3 (rA (rr (rr .nil)))))) (.cons (AvE.refl _) .nil)))<|AE<|AB<|AB<|rn ⟨(EI c [(ON c),(KP c),(KQ c),(OP c),(37,tI 0)]),(Fl c raw)⟩<|AM ?_
 refine lpC (κ:=Int) (fun x=>⟨(EI c [(ON c),(KP c),(KQ c),(OP c),(37,tI x.2)]),(Fl c raw)⟩) (fun x=>(((Z6H c).length:Int)-x.2).toNat) (fun x=>(0<=x.2/\(x.2<=((Z6H c).length:Int)\/x.2=0))/\CE c raw x.1 x.2=FF c raw) ?_ ((((Z6H c).length:Int)-0).toNat+1,0) ⟨Nat.lt_succ_self _,⟨ax0,ax0⟩,(by simp only [FF,cond_true,cond_false])⟩
 rintro n0 v37 hm0 ⟨hinv0,hF0⟩
 try dsimp only at hm0 hinv0 hF0
 refine AB<|on<|AB<|kb (decide ((v37:Int)<((Z6H c).length:Int))) (fun h1 => ?_) (fun h1 => ?_)
 ·have g1:=oT h1
  refine AQ<|AE<|AB<|AM<|AB<|on<|AB<|rc [] [0<=(v37:Int)/\(v37:Int)<(((Z6H c).length:Nat):Int)] ⟨(EI c (N3 c v37 [(47,tI 0)])),(Fl c raw)⟩ .nil (H1 au0)<|AE<|AM<|lpC (κ:=Int) (fun x=>⟨(EI c (N3 c v37 [(47,tI x.2)])),(Fl c raw)⟩) (fun x=>(((List.length ((Z6H c).getD v37.toNat default).Shape.Edges):Int)-x.2).toNat) (fun x=>(0<=x.2/\(x.2<=((List.length ((Z6H c).getD v37.toNat default).Shape.Edges):Int)\/x.2=0))/\Da c raw v37 (CE c raw n0) x.1 x.2=FF c raw) ?_ ((((List.length ((Z6H c).getD v37.toNat default).Shape.Edges):Int)-0).toNat+1,0) ⟨Nat.lt_succ_self _,⟨ax0,ax0⟩,(by rw [<- hF0];simp only [CE,h1,cond_true,cond_false])⟩
  rintro n1 v47 hm1 ⟨hinv1,hF1⟩
  try dsimp only at hm1 hinv1 hF1
  have hq1:=he1 v37.toNat
  refine AB<|on<|AB<|kb (decide ((v47:Int)<((List.length ((Z6H c).getD v37.toNat default).Shape.Edges):Int))) (fun h2 => ?_) (fun h2 => ?_)
  ·have g2:=oT h2
   refine AQ<|AE<|AB<|AM<|AB<|rn ⟨(EI c [(ON c),(KP c),(KQ c),(11,tI v37),(12,tI v47),(OP c),(37,tI v37),(nN c v37),(47,tI v47)]),(Fl c raw)⟩<|De<|GF Cq 7 [] [] [] [2,3,5,6,7,8,9,10,11,36,37,46,47,55,56] [2,3,6] [0<=(v37:Int)/\(v37:Int)<(((Z6H c).length:Nat):Int)] ⟨(EI c (N3 c v37 [(47,tI v47),(55,.av (.one (.fam (List.length ((Z6H c).getD v37.toNat default).Shape.Edges)))),(56,tI v47)])),(Fl c raw)⟩ .nil kr (.cons au0 .nil)<|Q9 (ix:=v47) hM0 rfl rfl au0 rfl rfl rfl rfl rfl rfl rfl rfl rfl kr rfl rfl rfl rfl rfl rfl rfl rfl rfl kr kr (by decide)<|Ev Cq [] [] [] [2,3,5,6,7,8,9,10,11,36,37,46,47] [2,3,6] [] ⟨(EI c (N3 c v37 [(47,tI v47)])),(Fl c raw)⟩ .nil kr .nil<|A3<|AE<|rg ⟨(EI c (N3 c v37 [(47,tI (W64 (v47+1)))])),(Fl c raw)⟩ ?_
   (try rw [(show W64 (v47+1)=v47+1 from Ae oM au3)])
   refine AE ?_
   refine ⟨(n1,v47+1),⟨?_,?_,(by rw [<- hF1];simp only [Da,h2,cond_true,cond_false])⟩,Nat.lt_succ_self _,Al kr⟩
   ·dsimp only;omega
   exact ⟨ax0,ax0⟩
  have g2:=oF h2
  refine An<|Ai<|Ai<|Ao<|A3<|AE<|rg ⟨(EI c [(ON c),(KP c),(KQ c),(OP c),(37,tI (W64 (v37+1)))]),(Fl c raw)⟩ ?_
  (try rw [(show W64 (v37+1)=v37+1 from Ae oM au3)])
  refine AE ?_
  refine ⟨(n0,v37+1),⟨?_,?_,(by rw [<- hF1];simp only [Da,h2,cond_true,cond_false])⟩,Nat.lt_succ_self _,Al kr⟩
  ·dsimp only;omega
  exact ⟨ax0,ax0⟩
 have g1:=oF h1
 refine An<|Ai<|Ai<|Ao<|AE<|AB<|AB<|rn ⟨(EI c [(KP c),(KQ c),(OO c),(69,tI 0)]),(Fl c raw)⟩<|AM<|lpC (κ:=Int) (fun x=>⟨(EI c [(KP c),(KQ c),(OO c),(69,tI x.2)]),(Fl c raw)⟩) (fun x=>(((Z6J c).length:Int)-x.2).toNat) (fun x=>(0<=x.2/\(x.2<=((Z6J c).length:Int)\/x.2=0))/\Co c raw v37 (CE c raw n0) x.1 x.2=FF c raw) ?_ ((((Z6J c).length:Int)-0).toNat+1,0) ⟨Nat.lt_succ_self _,⟨ax0,ax0⟩,(by rw [<- hF0];simp only [CE,h1,cond_true,cond_false])⟩
 rintro n2 v69 hm2 ⟨hinv2,hF2⟩
 try dsimp only at hm2 hinv2 hF2
 refine AB<|on<|AB<|kb (decide ((v69:Int)<((Z6J c).length:Int))) (fun h2 => ?_) (fun h2 => ?_)
 ·have g2:=oT h2
  refine AQ<|AE<|AB<|AM<|AB<|on<|AB<|rc [] [0<=(v69:Int)/\(v69:Int)<(((Z6J c).length:Nat):Int)] ⟨(EI c (N2 c v69 [(79,tI 0)])),(Fl c raw)⟩ .nil (H1 au0)<|AE<|AM<|lpC (κ:=Int) (fun x=>⟨(EI c (N2 c v69 [(79,tI x.2)])),(Fl c raw)⟩) (fun x=>(((List.length ((Z6J c).getD v69.toNat default).Shape.Edges):Int)-x.2).toNat) (fun x=>(0<=x.2/\(x.2<=((List.length ((Z6J c).getD v69.toNat default).Shape.Edges):Int)\/x.2=0))/\DZ c raw v37 v69 (CE c raw n0) (Co c raw v37 (CE c raw n0) n2) x.1 x.2=FF c raw) ?_ ((((List.length ((Z6J c).getD v69.toNat default).Shape.Edges):Int)-0).toNat+1,0) ⟨Nat.lt_succ_self _,⟨ax0,ax0⟩,(by rw [<- hF2];simp only [Co,h2,cond_true,cond_false])⟩
  rintro n3 v79 hm3 ⟨hinv3,hF3⟩
  try dsimp only at hm3 hinv3 hF3
  have hq2:=he2 v69.toNat
  refine AB<|on<|AB<|kb (decide ((v79:Int)<((List.length ((Z6J c).getD v69.toNat default).Shape.Edges):Int))) (fun h3 => ?_) (fun h3 => ?_)
  ·have g3:=oT h3
   refine AQ<|AE<|AB<|AM<|AB<|rn ⟨(EI c [(KP c),(KQ c),(13,tI v69),(14,tI v79),(OO c),(69,tI v69),(nM c v69),(79,tI v79)]),(Fl c raw)⟩<|De<|GF Cq 7 [] [] [] [2,3,5,6,7,9,10,13,68,69,78,79,87,88] [2,3,6] [0<=(v69:Int)/\(v69:Int)<(((Z6J c).length:Nat):Int)] ⟨(EI c (N2 c v69 [(79,tI v79),(87,.av (.one (.fam (List.length ((Z6J c).getD v69.toNat default).Shape.Edges)))),(88,tI v79)])),(Fl c raw)⟩ .nil kr (.cons au0 .nil)<|Q9 (ix:=v79) hM0 rfl rfl au0 rfl rfl rfl rfl rfl rfl rfl rfl rfl kr rfl rfl rfl rfl rfl rfl rfl rfl rfl kr kr (by decide)<|Ev Cq [] [] [] [2,3,5,6,7,9,10,13,68,69,78,79] [2,3,6] [] ⟨(EI c (N2 c v69 [(79,tI v79)])),(Fl c raw)⟩ .nil kr .nil<|A3<|AE<|rg ⟨(EI c (N2 c v69 [(79,tI (W64 (v79+1)))])),(Fl c raw)⟩ ?_
   (try rw [(show W64 (v79+1)=v79+1 from Ae oM au3)])
   refine AE ?_
   refine ⟨(n3,v79+1),⟨?_,?_,(by rw [<- hF3];simp only [DZ,h3,cond_true,cond_false])⟩,Nat.lt_succ_self _,Al kr⟩
   ·dsimp only;omega
   exact ⟨ax0,ax0⟩
  have g3:=oF h3
  refine An<|Ai<|Ai<|Ao<|A3<|AE<|rg ⟨(EI c [(KP c),(KQ c),(OO c),(69,tI (W64 (v69+1)))]),(Fl c raw)⟩ ?_
  (try rw [(show W64 (v69+1)=v69+1 from Ae oM au3)])
  refine AE ?_
  refine ⟨(n2,v69+1),⟨?_,?_,(by rw [<- hF3];simp only [DZ,h3,cond_true,cond_false])⟩,Nat.lt_succ_self _,Al kr⟩
  ·dsimp only;omega
  exact ⟨ax0,ax0⟩
 have g2:=oF h2
 refine An<|Ai<|Ai<|Ao<|AE<|AB<|oq 102 _ (T0 c.Board au11 au11)<|AE<|AB<|AB<|oc _ [CD (iK (Ar c.Board).1 (Ar c.Board).2).2.1,CD (PW (Z6I c) (Z6I c)).2.1,gp ((Z6K c)=false),gp ((Z6K c)=false),((Z6K c)=false)->(CD (gL (Ar c.Board).1).2.1),gp ((Z6K c)=false),gp ((Z6K c)=false)] (J3 107 109 114 (WH (Ar c.Board).1 (Ar c.Board).2 au11 au11) (ZP (Z6I c) (Z6I c) au11 au11 au11) (dX (Ar c.Board).1 au11)) (.cons rfl (.cons rfl (ci (ci (.cons (fun _=>rfl) (ci (ci .nil)))))))<|AE<|kb (bif Z6K c then true else false) (fun h3 => ?_) (fun h3 => ?_)
 ·exact AB<|on<|AW<|Be<|zl (by rw [<- hF2];simp only [Co,h2,h3,cond_true,cond_false] <;> kernel_rfl)
 refine AQ<|AE<|AB<|rc [] [0<=(0:Int)/\(0:Int)<=(min (raw.Shape.Edges.length:Int) 5:Int)/\(min (raw.Shape.Edges.length:Int) 5:Int)<=((raw.Shape.Edges.length:Nat):Int)] ⟨[(3,tP 3 0),(5,tB DD)],[(3,.cells [.i raw.Id,.s raw.Pad,.i raw.Kind,.s raw.Net,.i raw.From,.i raw.To,.i raw.Shape.Kind,.list false 7 ((min (raw.Shape.Edges.length:Int) 5:Int).toNat-(0:Int).toNat) (fun i_ j_=>(AP AK.c raw.Shape.Edges) (i_+(0:Int).toNat) j_),.i raw.Shape.R] 61)]⟩ .nil (H1 au0)<|AE ?_
 refine BE (Es (⟨[(3,tP 3 0),(5,tB DD)],[(3,.cells [.i raw.Id,.s raw.Pad,.i raw.Kind,.s raw.Net,.i raw.From,.i raw.To,.i raw.Shape.Kind,lst 7 AK.c (raw.Shape.Edges.take (min (raw.Shape.Edges.length:Int) 5:Int).toNat),.i raw.Shape.R] 61)]⟩) lr (.cons ⟨rfl,.cells _ (rr5 (rr2 (.cons (BW false (Yu (b:=min (raw.Shape.Edges.length:Int) 5) (A1 7 AK.c raw.Shape.Edges) (by have hc:=(show 0<=(0:Int)/\(0:Int)<=(min (raw.Shape.Edges.length:Int) 5:Int)/\(min (raw.Shape.Edges.length:Int) 5:Int)<=((raw.Shape.Edges.length:Nat):Int) from au0);exact hc.2.1) (by have hc:=(show 0<=(0:Int)/\(0:Int)<=(min (raw.Shape.Edges.length:Int) 5:Int)/\(min (raw.Shape.Edges.length:Int) 5:Int)<=((raw.Shape.Edges.length:Nat):Int) from au0);exact hc.2.2))) (rr .nil))))⟩ .nil))<|AB<|on<|AB<|on<|AB<|on<|AB<|oq 138 _ (eC (AO.mk raw.Shape.Kind (raw.Shape.Edges.take (min (raw.Shape.Edges.length:Int) 5:Int).toNat) raw.Shape.R) (AZ.mk (AC.mk 1 0) 0 false) au11)<|AE<|AB ?_
 refine od [] _ [gp (DD=true),gp (DD=true),(DD=true)->(CD (Mh (AL.mk raw.Id raw.Pad raw.Kind raw.Net raw.From raw.To (AO.mk raw.Shape.Kind (raw.Shape.Edges.take (min (raw.Shape.Edges.length:Int) 5:Int).toNat) raw.Shape.R)) (AL.mk raw.Id raw.Pad raw.Kind raw.Net raw.From raw.To (AO.mk raw.Shape.Kind (raw.Shape.Edges.take (min (raw.Shape.Edges.length:Int) 5:Int).toNat) raw.Shape.R))).2.1),gp (DD=true),gp ((Z6M raw)=true),gp ((Z6M raw)=true),((Z6M raw)=true)->(CD (Mh (AL.mk raw.Id raw.Pad raw.Kind raw.Net raw.From raw.To (AO.mk raw.Shape.Kind (raw.Shape.Edges.take (min (raw.Shape.Edges.length:Int) 5:Int).toNat) raw.Shape.R)) (AL.mk raw.Id raw.Pad raw.Kind raw.Net raw.From (W64 (raw.To+1)) (AO.mk raw.Shape.Kind (raw.Shape.Edges.take (min (raw.Shape.Edges.length:Int) 5:Int).toNat) raw.Shape.R))).2.1),gp ((Z6M raw)=true),gp ((Z6M raw)=true),gp ((Z6N raw)=true),gp ((Z6N raw)=true),((Z6N raw)=true)->(CD (Mh (AL.mk raw.Id raw.Pad raw.Kind raw.Net raw.From raw.To (AO.mk raw.Shape.Kind (raw.Shape.Edges.take (min (raw.Shape.Edges.length:Int) 5:Int).toNat) raw.Shape.R)) (AL.mk raw.Id raw.Pad raw.Kind raw.Net raw.From raw.To (Z6L raw))).2.1),gp ((Z6N raw)=true),gp ((Z6N raw)=true),gp ((Z6N raw)=true),gp ((Z6N raw)=true),gp ((Z6N raw)=true),gp ((Z6N raw)=true),gp ((Z6N raw)=true)] (J3 144 149 155 (Ni (AL.mk raw.Id raw.Pad raw.Kind raw.Net raw.From raw.To (AO.mk raw.Shape.Kind (raw.Shape.Edges.take (min (raw.Shape.Edges.length:Int) 5:Int).toNat) raw.Shape.R)) (AL.mk raw.Id raw.Pad raw.Kind raw.Net raw.From raw.To (AO.mk raw.Shape.Kind (raw.Shape.Edges.take (min (raw.Shape.Edges.length:Int) 5:Int).toNat) raw.Shape.R)) au11 au11) (Ni (AL.mk raw.Id raw.Pad raw.Kind raw.Net raw.From raw.To (AO.mk raw.Shape.Kind (raw.Shape.Edges.take (min (raw.Shape.Edges.length:Int) 5:Int).toNat) raw.Shape.R)) (AL.mk raw.Id raw.Pad raw.Kind raw.Net raw.From (W64 (raw.To+1)) (AO.mk raw.Shape.Kind (raw.Shape.Edges.take (min (raw.Shape.Edges.length:Int) 5:Int).toNat) raw.Shape.R)) au11 au11) (Ni (AL.mk raw.Id raw.Pad raw.Kind raw.Net raw.From raw.To (AO.mk raw.Shape.Kind (raw.Shape.Edges.take (min (raw.Shape.Edges.length:Int) 5:Int).toNat) raw.Shape.R)) (AL.mk raw.Id raw.Pad raw.Kind raw.Net raw.From raw.To (Z6L raw)) au11 au11)) (ci (ci (.cons (fun _=>rfl) (ci (ci (ci (.cons (fun _=>rfl) (ci (ci (ci (ci (.cons (fun _=>rfl) (ci (ci (ci (ci (ci (ci (ci .nil)))))))))))))))))))<|AE<|AW ?_
 exact zl (by rw [<- hF2];simp only [Co,h2,h3,cond_true,cond_false] <;> kernel_rfl)
end
theorem HF {g:Nat->Int->Bool} (x:Bool) (len:Nat) (h:∀ n v,g (n+1) v=bif decide (v<(len:Int)) then g n (v+1) else x):∀ (n:Nat) (v:Int),((len:Int)-v).toNat<n->g n v=x
 | 0,v,hn=>absurd hn (Nat.not_lt_zero _)
 | n+1,v,hn=>by
  rw [h]
  by_cases hc:v<(len:Int)
  ·rw [decide_eq_true hc,cond_true];exact HF x len h n (v+1) (by omega)
  rw [decide_eq_false hc,cond_false]
theorem TO (a:AL):Ly a a=true:=by
 unfold Ly
 simp only [Ce,decide_true,cond_true,beq_self_eq_true]
theorem Rw (l:List AL):GW l l=true:=by
 unfold GW
 rw [decide_eq_true rfl]
 exact Gv (g:=D0 l l) l.length (fun n v=>by rw [D0];unfold Z6F;simp only [TO,Bool.not_true,cond_false]) _ _ (by omega)
theorem Uc (l:List AK):Fb l l=true:=by
 unfold Fb
 rw [decide_eq_true rfl]
 exact Gv (g:=D8 l l) l.length (fun n v=>by rw [D8];simp only [decide_true,Bool.and_true,Bool.not_true,cond_false]) _ _ (by omega)
theorem Oc (a:AL):E6 a a=true:=by
 unfold E6 Ms
 simp only [Uc,decide_true,cond_true,beq_self_eq_true]
theorem cL {a b:AL} (h:¬ a.To=b.To):E6 a b=false:=by
 unfold E6
 rw [decide_eq_false h]
 cases (bif bif bif bif decide ((a.Id:Int)=b.Id) then (a.Pad.toList==b.Pad.toList) else false then decide ((a.Kind:Int)=b.Kind) else false then (a.Net.toList==b.Net.toList) else false then decide ((a.From:Int)=b.From) else false) <;> rfl
theorem TN {a b:AL} (h:Fb a.Shape.Edges b.Shape.Edges=false):E6 a b=false:=by
 unfold E6 Ms
 rw [h]
 cases (bif bif bif bif bif decide ((a.Id:Int)=b.Id) then (a.Pad.toList==b.Pad.toList) else false then decide ((a.Kind:Int)=b.Kind) else false then (a.Net.toList==b.Net.toList) else false then decide ((a.From:Int)=b.From) else false then decide ((a.To:Int)=b.To) else false) <;> cases (bif decide ((a.Shape.Kind:Int)=b.Shape.Kind) then decide ((a.Shape.R:Int)=b.Shape.R) else false) <;> rfl
theorem XK (x:Int):¬ x=W64 (x+1):=by
 rw [Bf]
 omega
theorem pH:CP 0=0:=by decide +kernel
theorem lY (e:AK):(Dh e (AZ.mk (AC.mk 1 0) 0 false)).A.X=W64 (e.A.X+1):=by
 show (F6 (Bv (CB e.A false) 0) (AC.mk 1 0)).X=_
 unfold F6 Bv
 rw [pH]
 rfl
theorem SY (e:AK) (l:List AK):Fb (e::l) ((e::l).map fun e=>Dh e (AZ.mk (AC.mk 1 0) 0 false))=false:=by
 unfold Fb
 rw [decide_eq_true (by rw [List.length_map])]
 rw [Bool.not_true,cond_false,D8,decide_eq_true (by rw [List.length_cons];omega),cond_true]
 rw [show (((e::l).map fun e=>Dh e (AZ.mk (AC.mk 1 0) 0 false)).getD (0:Int).toNat default)=Dh e (AZ.mk (AC.mk 1 0) 0 false) from rfl,show (e::l).getD (0:Int).toNat default=e from rfl,lY,decide_eq_false (XK e.A.X),Bool.false_and,Bool.and_false]
 rfl
theorem Zb (a:AL):(E6 a (AL.mk a.Id a.Pad a.Kind a.Net a.From a.To (Hg a.Shape (AZ.mk (AC.mk 1 0) 0 false)))==decide ((a.Shape.Edges.length:Int)=0))=true:=by
 rw [QT]
 obtain ⟨i,p,k,n,f,t,⟨sk,l,r⟩⟩:=a
 cases l with
 | nil =>
  rw [show (List.map (fun e=>Dh e (AZ.mk (AC.mk 1 0) 0 false)) ([]:List AK))=[] from rfl]
  rw [show E6 _ _=true from Oc ⟨i,p,k,n,f,t,⟨sk,[],r⟩⟩]
  rfl
 | cons e l =>
  rw [TN (SY e l),decide_eq_false (by simp only [List.length_cons];omega)]
  rfl
theorem lB (c:EA) (raw:AL):(bif bif Z6K c then true else false then false else (bif Z6N raw then ((E6 (AL.mk raw.Id raw.Pad raw.Kind raw.Net raw.From raw.To (AO.mk raw.Shape.Kind (raw.Shape.Edges.take (min (raw.Shape.Edges.length:Int) 5:Int).toNat) raw.Shape.R)) (AL.mk raw.Id raw.Pad raw.Kind raw.Net raw.From raw.To (Z6L raw)))==(decide ((((raw.Shape.Edges.take (min (raw.Shape.Edges.length:Int) 5:Int).toNat).length:Int):Int)=0))) else false))=true:=by
 have h3:Z6K c=false:=by unfold Z6K;rw [Rw];rfl
 have h5:Z6M raw=true:=by unfold Z6M;rw [pL,Oc];rfl
 have h6:Z6N raw=true:=by unfold Z6N;rw [h5,cL (XK raw.To)];rfl
 rw [h3,h6]
 exact Zb (AL.mk raw.Id raw.Pad raw.Kind raw.Net raw.From raw.To (AO.mk raw.Shape.Kind (raw.Shape.Edges.take (min (raw.Shape.Edges.length:Int) 5:Int).toNat) raw.Shape.R))
theorem qP (c:EA) (raw:AL) (v:Int) (K:Int->Bool):Da c raw v K ((((List.length ((Z6H c).getD v.toNat default).Shape.Edges):Int)-0).toNat+1) 0=K (v+1) :=
 HF (g:=Da c raw v K) (K (v+1)) ((Z6H c).getD v.toNat default).Shape.Edges.length (fun n v=>by rw [Da]) _ _ (by omega)
theorem qN (c:EA) (raw:AL) (v w:Int) (K K1:Int->Bool):DZ c raw v w K K1 ((((List.length ((Z6J c).getD w.toNat default).Shape.Edges):Int)-0).toNat+1) 0=K1 (w+1) :=
 HF (g:=DZ c raw v w K K1) (K1 (w+1)) ((Z6J c).getD w.toNat default).Shape.Edges.length (fun n v=>by rw [DZ]) _ _ (by omega)
theorem qO (c:EA) (raw:AL) (v:Int) (K:Int->Bool):Co c raw v K ((((Z6J c).length:Int)-0).toNat+1) 0=true :=
 HF (g:=Co c raw v K) true (Z6J c).length (fun n w=>by rw [Co,qN,lB]) _ _ (by omega)
theorem P1 (c:EA) (raw:AL):FF c raw=true :=
 HF (g:=CE c raw) true (Z6H c).length (fun n v=>by rw [CE,qP,qO]) _ _ (by omega)
section
open Go.ChangeShapes Go.WideShapes Go.ChangeAt Go.RowKit
theorem Nb (os:Os) (started:os.Started) (H:Type) (enc:TypeId×Value->H) :
  ReturnsInHanded {} Tryz.checked os 5 .any (Rows.itemsOwnSpec.pre6 enc Tryz.prog Tryz.f5 Rows.itemsOwnRow.domain false) (Rows.itemsOwnSpec.post enc Tryz.prog Tryz.f5 false true false false):=by
 refine returnsInHanded_of_change (C:=Tryz.checked) own started kr Tryz.func5
  (ChangeSpec.witness6 (enc:=enc) (C:=Tryz.checked) false ⟨#[],#[.agg #[.slice none 0 0,.int .i64 0,.int .i64 0,.int .i64 0],.agg #[.int .i64 0,.string ⟨#[]⟩,.int .i64 0,.string ⟨#[]⟩,.int .i64 0,.int .i64 0,.int .i64 0,.slice none 0 0,.int .i64 0]],[]⟩ 8 kr kr kr kr) ?_
 intro W base args ds gs before hval0 hW hcnd _
 have hval:∀ (j:Nat) t v,Tryz.f5.params[j]? = some t->args[j]? = some v->Value.okWide Tryz.prog W .any base t v:=hval0
 have hW':=hW
 obtain ⟨p,q,hA0,hV,rfl,hfz,hnd⟩:=hW
 have hA:DataW.TrodAll enc Tryz.prog W 0 (fun _=>true) true Tryz.f5.params.toList args.toList ds p:=hA0
 rw [Tryz.params5] at hA hval
 obtain ⟨v0,vs0,d0,ds0,p0,q0,hargs,rfl,rfl,h0,r0⟩:=trodAll_cons hA
 obtain ⟨v1,vs1,d1,ds1,p1,q1,rfl,rfl,rfl,h1,r1⟩:=trodAll_cons r0
 obtain ⟨rfl,rfl,rfl⟩:=trodAll_nil r1
 obtain rfl:args = #[v0,v1]:=by cases args;simp_all
 obtain ⟨c,kc,x0⟩:=Ti opT25 (.inl ⟨_,Tryz.underlying25⟩) (hval 0 25 v0 rfl rfl) h0
 obtain ⟨raw,kraw,x1⟩:=Ti opT61 (.inl ⟨_,Tryz.underlying61⟩) (hval 1 61 v1 rfl rfl) h1
 clear hA0 hval0
 refine (UH (ZK c raw (UC kc.1.1) (fun x hx=>UC (kc.1.2 x hx).1)) (P1 c raw) (.cons x0 (.cons x1 .nil))).mono fun e W' ⟨he,hb⟩ => ?_
 subst he
 exact ⟨_,rfl,fH hW' rfl rfl mK (by rw [Tryz.params5];exact List.forall_mem_cons.2 ⟨⟨by kernel_rfl,oT (by kernel_rfl)⟩,List.forall_mem_cons.2 ⟨⟨by kernel_rfl,oT (by kernel_rfl)⟩,List.forall_mem_nil _⟩⟩) rfl Tryz.underlying4 hb⟩
theorem itemsOwn_holds:Rows.ItemsOwnSaid :=
 OpenClaim.holds_of_wide 5 Tryz.f5 rfl rfl rfl rfl rfl rfl rfl ⟨rfl,rfl,rfl,rfl,rfl⟩ rfl rfl rfl rfl rfl kr Tryz.func5 kr
  (oT (by kernel_rfl)) (by unfold Func.isWrapper;first | (rw [if_pos (by decide +kernel)];kernel_rfl) | (rw [if_neg (by decide +kernel)];exact ⟨rfl,rfl⟩))
  (fun os started H enc _=>Nb os started H enc)
#print axioms itemsOwn_holds
end
end Go.Proofs.YtheobjkgllmnmaaGreat
