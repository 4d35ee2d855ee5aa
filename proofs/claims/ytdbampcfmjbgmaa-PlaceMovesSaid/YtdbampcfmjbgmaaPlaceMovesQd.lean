/-
  No statement is proved in this text. It holds a part of what the proof of PlaceMoves needs.
-/
import Derived.Test.YtdbampcfmjbgmaaPlaceMovesQc
namespace Go.Proofs.Ytdbampcfmjbgmaa
set_option maxRecDepth 100000
set_option linter.unusedVariables false
set_option linter.unusedSimpArgs false
open Go.RowKit
section
open Go.RowKit
variable (b:AH) (types:List AP) (x2_:Nat) (AM:List (Ab×ByteArray)) (Ak:List A0) (x0_:Nat)
def Z0j:CT:=(41,[.one (lst 2 BA.c b.Nets)],.val [] (.av (.one (.clo 67 1 (CR [.eptr 1 1 (fun _ j_=>([lst 2 BA.c b.Nets]:List Cl).getD j_ default) 0 0])))))
def Z0k:CT:=(42,[.agg (DF b),.one (GC types)],.val [] (.av (.one (.clo 68 2 (CR [.eptr 15 1 (fun _ j_=>((DF b):List Cl).getD j_ default) 0 0,.eptr 1 1 (fun _ j_=>([lst 3 AP.c types]:List Cl).getD j_ default) 0 0])))))
def F4 (b:AH) (types:(List AP)) (AM:List (Ab×ByteArray)) (x0:Nat) (K0:List (Ab×ByteArray)->(List A0)):Nat->List (Ab×ByteArray)->Int->(List A0)
 | 0,_,_=>default
 | n1+1,Aw,v23=>bif decide ((v23:Int)<((b.Nets.getD (b.Nets.length-1-x0) default).Pins.length:Int)) then ((F4 b types AM x0 K0 n1) (G2 Bd Aw ((b.Nets.getD (b.Nets.length-1-x0) default).Pins.getD v23.toNat default) (b.Nets.getD (b.Nets.length-1-x0) default).Name) (v23+1)) else (K0 Aw)
def DB (b:AH) (types:(List AP)) (AM:List (Ab×ByteArray)) (K0:List (Ab×ByteArray)->(List A0)):Nat->Nat->List A0->(List A0)
 | 0,_,Ak=>Ak
 | m+1,x,Ak=>(DB b types AM K0 m (x+1)) (Ak++[A0.mk ((Ac b types).getD x default).1.Id ((Ac b types).getD x default).2.Name 1 (bif D4 Bd AM (Ab.mk ((Ac b types).getD x default).1.Ref ((Ac b types).getD x default).2.Name) then (AM.getD (C7 Bd AM (Ab.mk ((Ac b types).getD x default).1.Ref ((Ac b types).getD x default).2.Name)) default).2 else ⟨#[]⟩) (bif decide ((((Ac b types).getD x default).2.Drill:Int)=0) then (Cf b ((Ac b types).getD x default).1) else 1) (bif decide ((((Ac b types).getD x default).2.Drill:Int)=0) then (Cf b ((Ac b types).getD x default).1) else b.Layers) (Ch ((Ac b types).getD x default).2.Shape (Ba ((Ac b types).getD x default).1))])
def Cr (b:AH) (types:(List AP)):Nat->Nat->List (Ab×ByteArray)->(List A0)
 | 0,_,AM=>DB b types AM (fun _=>default) (Ac b types).length 0 ([]:List A0)
 | m+1,x,AM=>F4 b types AM x (Cr b types m (x+1)) ((((b.Nets.getD (b.Nets.length-1-x) default).Pins.length:Int)-0).toNat+1) AM 0
def Am (b:AH) (types:(List AP)):(List A0):=Cr b types b.Nets.length 0 ([]:List (Ab×ByteArray))
abbrev PT:=Ab.mk ((Ac b types).getD x2_ default).1.Ref ((Ac b types).getD x2_ default).2.Name
abbrev Un:=[A0.mk ((Ac b types).getD x2_ default).1.Id ((Ac b types).getD x2_ default).2.Name 1 (bif D4 Bd AM (PT b types x2_) then (AM.getD (C7 Bd AM (PT b types x2_)) default).2 else ⟨#[]⟩) (bif decide ((((Ac b types).getD x2_ default).2.Drill:Int)=0) then (Cf b ((Ac b types).getD x2_ default).1) else 1) (bif decide ((((Ac b types).getD x2_ default).2.Drill:Int)=0) then (Cf b ((Ac b types).getD x2_ default).1) else b.Layers) (Ch ((Ac b types).getD x2_ default).2.Shape (Ba ((Ac b types).getD x2_ default).1))]
abbrev Yl (AM:List (Ab×ByteArray)) (b:AH) (types:List AP) (x2_:Nat):=bif D4 Bd AM (PT b types x2_) then (AM.getD (C7 Bd AM (PT b types x2_)) default).2 else ⟨#[]⟩
abbrev Nx:=Ab.mk ((Ac b types).getD x2_ default).1.Ref ((Ac b types).getD x2_ default).2.Name
abbrev DV:=b.Nets.getD (b.Nets.length-1-x0_) default
abbrev EY:Nat×Tv:=(1,tO (lst 3 AP.c types))
abbrev DI:Nat×Blk:=(200005,.cells [.om 200014] 124)
abbrev zzc37:=(bif decide ((((Ac b types).getD x2_ default).2.Drill:Int)=0) then (Cf b ((Ac b types).getD x2_ default).1) else b.Layers)
abbrev Ls:Nat×Tv:=(17,.av (.one (.clo 67 1 (CR [.eptr 1 1 (gD [lst 2 BA.c b.Nets]) 0 0]))))
abbrev Vr:=Ch ((Ac b types).getD x2_ default).2.Shape (Ba ((Ac b types).getD x2_ default).1)
abbrev zzc44:=(bif decide ((((Ac b types).getD x2_ default).2.Drill:Int)=0) then (Cf b ((Ac b types).getD x2_ default).1) else 1)
abbrev DH:Nat×Blk:=(200002,.cells (DF b) 42)
abbrev HY:Nat×Blk:=(100000,.row 9 Ak.length (AU A0.c Ak) 63)
abbrev Tf:Nat×Tv:=(11,.av (.one (.eptr 7 1 (gD (AG.c ((Ac b types).getD x2_ default).1)) 0 0)))
abbrev Ia:Nat×Blk:=(200010,.cells [.own 100000 9 Ak.length] 60)
abbrev Vh:Nat×Tv:=(12,.av (.one (.eptr 7 1 (gD (A3.c ((Ac b types).getD x2_ default).2)) 0 0)))
abbrev Hd (t_:List (Nat×Tv)):List (Nat×Tv):=(2,tP 200002 0)::(5,tP 200005 0)::(10,tP 200010 0)::t_
abbrev PY:List (Nat×Tv):=(Hd [(Tf b types x2_),(Vh b types x2_),(13,tP 13 0),(34,.av (Hh b types))])
abbrev SM:Nat×Tv:=(7,.av (.one (.eptr 2 1 (gD (BA.c (DV b x0_))) 0 0)))
abbrev MK:List (Nat×Tv):=(Hd [(34,.av (Hh b types))])
abbrev WH:List Cl:=[.i ((Ac b types).getD x2_ default).1.Id,.s ((Ac b types).getD x2_ default).2.Name,.i 1,.s (Yl AM b types x2_),.i (zzc44 b types x2_),.i (zzc37 b types x2_),.i (Vr b types x2_).Kind,lst 7 AO.c (Vr b types x2_).Edges,.i (Vr b types x2_).R]
abbrev WG:Nat×Tv:=(22,tI ((DV b x0_).Pins.length:Int))
abbrev WE:Nat×Tv:=(21,tO (lst 2 Ab.c (DV b x0_).Pins))
abbrev FJ (t_:List (Nat×Tv)):List (Nat×Tv):=(EY types)::(2,tP 200002 0)::(5,tP 200005 0)::t_
abbrev Ly (t_:List Cl):List Cl:=(.i ((Ac b types).getD x2_ default).1.Id)::(.s ((Ac b types).getD x2_ default).2.Name)::(.i 1)::t_
abbrev KC (t_:List (Nat×Tv)):List (Nat×Tv):=(SM b x0_)::(Ls b)::(WE b x0_)::(WG b x0_)::t_
theorem qPads (b:AH) (types:(List AP)) (hn:(b.Nets.length:Int)<=1000000) (hp:b.Parts.length<20) (ht:CN types) (hm:((Ac b types).length:Int)<=20000000) (hq:∀ n∈b.Nets,(n.Pins.length:Int)<=1000000):Fr Try.prog 14 [.agg (DF b),.one (lst 3 AP.c types)] (.row 9 (Am b types).length (AU A0.c (Am b types)) 63) (fun d=>tO (.own d 9 (Am b types).length)):=by
 refine IF Try.func14 rfl kr (Mo _ _) fun W0 M0 => ?_
 refine AD<|rn ⟨[(EY types),(2,tP 2 0)],[(Hf b)]⟩<|AD ?_
 refine rn ⟨[(EY types),(2,tP 2 0),(5,tP 5 0)],[(Hf b),(5,.cells [.om 14] 124),(14,.omap false 1 0 (fun _=>undef) (fun _ _=>default))]⟩ ?_
 refine BL (Cv.trans (BH (⟨[(EY types),(2,tP 2 0),(5,tP 5 0)],[(Hf b),(5,.cells [.om 14] 124),(14,.omap false 1 ([]:List (Ab×ByteArray)).length (kfG Bk ([]:List (Ab×ByteArray))) (vfG (fun x=>[.s x]) ([]:List (Ab×ByteArray))))]⟩) lr (.cons ⟨rfl,.refl _⟩ (.cons ⟨rfl,.refl _⟩ (.cons ⟨rfl,YU (ck:=Bk) (cv:=(fun x=>[.s x]))⟩ .nil)))) (Cv.refl _))<|AD<|AD ?_
 refine rs 17 (Z0j b) ⟨[(EY types),(2,tP 2 0),(5,tP 5 0),(Ls b)],[(Hf b),(5,.cells [.om 14] 124),(14,.omap false 1 ([]:List (Ab×ByteArray)).length (kfG Bk ([]:List (Ab×ByteArray))) (vfG (fun x=>[.s x]) ([]:List (Ab×ByteArray))))]⟩ (cPu<|U6 b.Nets)<|AJ<|AX ?_
 refine BL (Cv.trans (vr 2 200002 hk0) (Cv.trans (vr 5 200005 hk0) (Cv.trans (wr (⟨(FJ types [(Ls b)]),[(DH b),DI,(200014,.omap false 1 ([]:List (Ab×ByteArray)).length (kfG Bk ([]:List (Ab×ByteArray))) (vfG (fun x=>[.s x]) ([]:List (Ab×ByteArray))))]⟩) 14 200014 hk0) (Cv.refl _)))) ?_
 refine NW (ι:=List (Ab×ByteArray)) [200002,200005,200014] 299999 200002 9999 299998 (fun x=>[(200002,.cells (DF b) 42),(200005,.cells [.om 200014] 124),(200014,.omap false 1 x.length (kfG Bk x) (vfG (fun x=>[.s x]) x))]) (fun x0=>[(1,tO (lst 3 AP.c types)),(2,tP 200002 0),(5,tP 200005 0),(7,.av (.one (.eptr 2 1 (gD (BA.c (b.Nets.getD (b.Nets.length-1-x0.val) default))) 0 0))),(17,.av (.one (.clo 67 1 (CR [.eptr 1 1 (gD [lst 2 BA.c b.Nets]) 0 0]))))]) (fun j x=>True) (fun y x=>Cr b types (b.Nets.length-y) y x=Am b types) ([]:List (Ab×ByteArray)) (fun _=>rfl) kr kr (fun _ _=>kr) (Zv b.Nets oM) kr (fun _=>by kernel_rfl) (fun _=>rfl) (fun _=>rfl) (fun x=>(Cy (p:=BkN) (by simp only [List.forall_mem_cons];exact ⟨Rt (KW _),Rt (by simp only [List.forall_mem_cons];exact ⟨(.om _),fun x hx=>by cases hx⟩),aS (fun x y hy=>by rw [List.mem_singleton.1 hy];exact (.val _)),fun x hx=>by cases hx⟩))) (fun x0=>(Cy (p:=TvM) (by simp only [List.forall_mem_cons];exact ⟨B8 (CU Mt),B8 (.ptr _ _),B8 (.ptr _ _),B8 (GM (P5 _)),B8 (XL (by simp only [List.forall_mem_cons];exact ⟨(GM (by simp only [List.forall_mem_cons];exact ⟨(CU P5),fun x hx=>by cases hx⟩)),fun x hx=>by cases hx⟩)),fun x hx=>by cases hx⟩))) (fun _=>by kernel_rfl) ax0 (by simp only [Am,Nat.sub_zero,cond_true,cond_false]) (fun l1 W1 M1 X1 x0 j AM hinv hPX => ?_) (fun l2 W2 M2 X2 x0 j AM hPX hj hinv => ?_) (fun AM hinv hF0 => ?_)
 ·have hinv0:True:=hinv;clear hinv
  refine EC ?_
  refine rg ⟨(FJ types [(7,tP 7 0),(Ls b)]),[(7,.cells (BA.c (DV b x0.val)) 48),(DH b),DI,(200014,.omap false 1 AM.length (kfG Bk AM) (vfG (fun x=>[.s x]) AM))]⟩ ?_
  exact ⟨_,Cv.trans (NL (⟨(FJ types [(SM b x0.val),(Ls b)]),[(DH b),DI,(200014,.omap false 1 AM.length (kfG Bk AM) (vfG (fun x=>[.s x]) AM))]⟩) 7 (BA.c (b.Nets.getD (b.Nets.length-1-x0.val) default)) 48 [200002,200005,200014] 299998 hPX kr (fun h=>by obtain ⟨_,h⟩:=h;cases h) kr kr kr) (Cv.refl _),rfl,rfl⟩
 ·have hinv0:True:=hinv;clear hinv
  obtain ⟨Xb0,hXb0⟩:∃ Xb,Cr b types (b.Nets.length-x0.val) x0.val AM=Xb:=⟨_,rfl⟩
  have hF0:=hXb0
  rw [show b.Nets.length-x0.val=(b.Nets.length-(x0.val+1))+1 by have:=x0.isLt;omega] at hF0
  have hqx:=FZ (p:=fun n:BA=>(n.Pins.length:Int)<=1000000) (by decide) hq (b.Nets.length-1-x0.val)
  refine EC<|AX<|AD ?_
  refine rn ⟨(FJ types (KC b x0.val [(23,tI 0)])),[(DH b),DI,(200014,.omap false 1 AM.length (kfG Bk AM) (vfG (fun x=>[.s x]) AM))]⟩<|AX ?_
  refine BN (ι:=Nat×List (Ab×ByteArray)×Int) (fun x=>⟨(FJ types (KC b x0.val [(23,tI x.2.2)])),[(DH b),DI,(200014,.omap false 1 x.2.1.length (kfG Bk x.2.1) (vfG (fun x=>[.s x]) x.2.1))]⟩) (fun x=>(((b.Nets.getD (b.Nets.length-1-x0.val) default).Pins.length:Int)-x.2.2).toNat<x.1/\(0<=x.2.2/\(x.2.2<=((b.Nets.getD (b.Nets.length-1-x0.val) default).Pins.length:Int)\/x.2.2=0))/\F4 b types AM x0.val (Cr b types (b.Nets.length-(x0.val+1)) (x0.val+1)) x.1 x.2.1 x.2.2=Xb0) (fun x=>x.1) ?_ ((((b.Nets.getD (b.Nets.length-1-x0.val) default).Pins.length:Int)-0).toNat+1,AM,0) ⟨Nat.lt_succ_self _,⟨ax0,ax0⟩,(by rw [<- hF0];simp only [Cr,cond_true,cond_false])⟩
  rintro ⟨n1,Aw,v23⟩ ⟨hm1,hinv1,hF1⟩
  try dsimp only at hm1 hinv1 hF1
  cases n1 with | zero=>exact nz hm1 | succ n1 => ?_
  refine AD<|rn ⟨(FJ types (KC b x0.val [(23,tI v23),(24,tB (decide ((v23:Int)<((b.Nets.getD (b.Nets.length-1-x0.val) default).Pins.length:Int))))])),[(DH b),DI,(200014,.omap false 1 Aw.length (kfG Bk Aw) (vfG (fun x=>[.s x]) Aw))]⟩<|AD ?_
  refine Aa _ rfl (fun h1 => ?_) (fun h1 => ?_)
  ·have g1:=oT h1
   refine Ad<|AJ ?_
   refine AD<|AX<|AD ?_
   refine rc [] [0<=(v23:Int)/\(v23:Int)<(((b.Nets.getD (b.Nets.length-1-x0.val) default).Pins.length:Nat):Int)] ⟨(FJ types [(SM b x0.val),(9,tP 9 0),(Ls b),(WE b x0.val),(WG b x0.val),(23,tI v23)]),[(9,.cells (Ab.c ((DV b x0.val).Pins.getD v23.toNat default)) 25),(DH b),DI,(200014,.omap false 1 Aw.length (kfG Bk Aw) (vfG (fun x=>[.s x]) Aw))]⟩ .nil (.cons au1 .nil)<|AJ ?_
   refine DQ D6 [] [(999999,((D4 Bd Aw ((DV b x0.val).Pins.getD v23.toNat default)),(C7 Bd Aw ((DV b x0.val).Pins.getD v23.toNat default))))] [] [1,2,5,7,17,21,22,23] [200002,200005,200014] [Ry Try.prog eqE 25 Aw.length (kfG Bk Aw) (Bk ((b.Nets.getD (b.Nets.length-1-x0.val) default).Pins.getD v23.toNat default)) (D4 Bd Aw ((b.Nets.getD (b.Nets.length-1-x0.val) default).Pins.getD v23.toNat default)) (C7 Bd Aw ((b.Nets.getD (b.Nets.length-1-x0.val) default).Pins.getD v23.toNat default))] ⟨(FJ types (KC b x0.val [(23,tI v23)])),[(DH b),DI,(200014,.omap false 1 (bif D4 Bd Aw ((DV b x0.val).Pins.getD v23.toNat default) then Aw.length else Aw.length+1) (fun j=>bif Nat.beq j (bif D4 Bd Aw ((DV b x0.val).Pins.getD v23.toNat default) then C7 Bd Aw ((DV b x0.val).Pins.getD v23.toNat default) else Aw.length) then Bk ((DV b x0.val).Pins.getD v23.toNat default) else kfG Bk Aw j) (fun j c=>bif Nat.beq j (bif D4 Bd Aw ((DV b x0.val).Pins.getD v23.toNat default) then C7 Bd Aw ((DV b x0.val).Pins.getD v23.toNat default) else Aw.length) then ([.s (DV b x0.val).Name]:List Cl).getD c default else vfG (fun x=>[.s x]) Aw j c))]⟩ .nil kr (.cons (RV Od Rp _ _) .nil)<|Bg<|AJ ?_
   refine BL (Cv.trans (BH (⟨(FJ types (KC b x0.val [(23,tI v23)])),[(DH b),DI,(200014,.omap false 1 (G2 Bd Aw ((DV b x0.val).Pins.getD v23.toNat default) (DV b x0.val).Name).length (kfG Bk (G2 Bd Aw ((DV b x0.val).Pins.getD v23.toNat default) (DV b x0.val).Name)) (vfG (fun x=>[.s x]) (G2 Bd Aw ((DV b x0.val).Pins.getD v23.toNat default) (DV b x0.val).Name)))]⟩) lr (.cons ⟨rfl,.refl _⟩ (.cons ⟨rfl,.refl _⟩ (.cons ⟨rfl,YT (ck:=Bk) (cv:=(fun x=>[.s x])) (eq:=Bd) Aw ((b.Nets.getD (b.Nets.length-1-x0.val) default).Pins.getD v23.toNat default) (b.Nets.getD (b.Nets.length-1-x0.val) default).Name [.s (b.Nets.getD (b.Nets.length-1-x0.val) default).Name] rfl⟩ .nil)))) (Cv.refl _)) ?_
   refine rg ⟨(FJ types (KC b x0.val [(23,tI (W64 (v23+1)))])),[(DH b),DI,(200014,.omap false 1 (G2 Bd Aw ((DV b x0.val).Pins.getD v23.toNat default) (DV b x0.val).Name).length (kfG Bk (G2 Bd Aw ((DV b x0.val).Pins.getD v23.toNat default) (DV b x0.val).Name)) (vfG (fun x=>[.s x]) (G2 Bd Aw ((DV b x0.val).Pins.getD v23.toNat default) (DV b x0.val).Name)))]⟩ ?_
   (try rw [(show W64 (v23+1)=v23+1 from Ap oM au8)])
   refine AJ ?_
   refine ⟨(n1,G2 Bd Aw ((b.Nets.getD (b.Nets.length-1-x0.val) default).Pins.getD v23.toNat default) (b.Nets.getD (b.Nets.length-1-x0.val) default).Name,v23+1),⟨?_,?_,(by rw [<- hF1];simp only [F4,h1,cond_true,cond_false])⟩,Nat.lt_succ_self _,A9 kr⟩
   ·show (((b.Nets.getD (b.Nets.length-1-x0.val) default).Pins.length:Int)-(v23+1)).toNat<n1;omega
   exact ⟨ax0,ax0⟩
  have g1:=oF h1
  refine BO<|BD ?_
  refine BD<|BP<|Bg ?_
  refine ⟨_,Cv.trans (ck (⟨(FJ types [(Ls b)]),[(DH b),DI,(200014,.omap false 1 Aw.length (kfG Bk Aw) (vfG (fun x=>[.s x]) Aw))]⟩)) (Cv.refl _),rfl,Aw,ax0,fun hk hF => ?_,fun _ _ h=>h⟩
  have e0:Cr b types (b.Nets.length-(x0.val+1)) (x0.val+1) Aw=Xb0:=by
   rw [<- hF1]
   first | (simp only [F4,h1,cond_true,cond_false] <;> rfl)
  subst hk
  change Cr b types (b.Nets.length-x0.val) x0.val AM=Am b types at hF
  show Cr b types (b.Nets.length-(x0.val+1)) (x0.val+1) Aw=Am b types
  exact e0.trans (hXb0.symm.trans hF)
 have hinv0:True:=hinv;clear hinv
 change Cr b types (b.Nets.length-b.Nets.length) b.Nets.length AM=Am b types at hF0
 rw [Nat.sub_self] at hF0
 refine Bg<|AJ<|AD ?_
 refine rn ⟨(FJ types [(10,tP 10 0)]),[(10,.cells [vN] 60),(DH b),DI,(200014,.omap false 1 AM.length (kfG Bk AM) (vfG (fun x=>[.s x]) AM))]⟩ ?_
 refine AD<|AD ?_
 refine rs 34 (Z0k b types) ⟨[(2,tP 200002 0),(5,tP 200005 0),(10,tP 10 0),(34,.av (Hh b types))],[(10,.cells [vN] 60),(DH b),DI,(200014,.omap false 1 AM.length (kfG Bk AM) (vfG (fun x=>[.s x]) AM))]⟩ (cPu<|ppads b types)<|AJ<|AX ?_
 refine BL (Cv.trans (vr 10 200010 hk0) (Cv.trans (vk [2,5,10,34] [200002,200005,200010,200014]) (Cv.trans (wg (⟨(MK b types),[(100000,.row 9 0 (fun _ _=>default) 63),(DH b),DI,(200010,.cells [.own 100000 9 0] 60),(200014,.omap false 1 AM.length (kfG Bk AM) (vfG (fun x=>[.s x]) AM))]⟩) 100000 9 (fun _ _=>default) 63 [] [(200010,[0])] hk0) (Cv.trans (BH (⟨(MK b types),[(100000,.row 9 ([]:List A0).length (AU A0.c ([]:List A0)) 63),(DH b),DI,(200010,.cells [.own 100000 9 ([]:List A0).length] 60),(200014,.omap false 1 AM.length (kfG Bk AM) (vfG (fun x=>[.s x]) AM))]⟩) lr (.cons ⟨rfl,Ai 63 (B5 9 (fun _ _=>default) A0.c)⟩ (.cons ⟨rfl,.refl _⟩ (.cons ⟨rfl,.refl _⟩ (.cons ⟨rfl,.cells _ (.cons (.own _ _ au0) .nil)⟩ lr))))) (Cv.refl _))))) ?_
 refine NW (ι:=List A0) [200002,200005,200010,200014] 299999 200010 0 100000 (fun x=>[(100000,.row 9 x.length (AU A0.c x) 63),(200002,.cells (DF b) 42),(200005,.cells [.om 200014] 124),(200010,.cells [.own 100000 9 x.length] 60),(200014,.omap false 1 AM.length (kfG Bk AM) (vfG (fun x=>[.s x]) AM))]) (fun x2=>[(2,tP 200002 0),(5,tP 200005 0),(10,tP 200010 0),(11,.av (.one (.eptr 7 1 (gD (AG.c ((Ac b types).getD x2.val default).1)) 0 0))),(12,.av (.one (.eptr 7 1 (gD (A3.c ((Ac b types).getD x2.val default).2)) 0 0))),(34,.av (.one (.clo 68 2 (CR [.eptr 15 1 (gD (DF b)) 0 0,.eptr 1 1 (gD [lst 3 AP.c types]) 0 0]))))]) (fun j x=>x.length<=j) (fun y x=>DB b types AM (fun _=>default) ((Ac b types).length-y) y x=Am b types) ([]:List A0) (fun _=>rfl) kr kr (fun _ _=>kr) (ZH b types hp ht) kr (fun _=>by kernel_rfl) (fun _=>rfl) (fun _=>rfl) (fun x=>(Cy (p:=BkN) (by simp only [List.forall_mem_cons];exact ⟨bkN_r XR,Rt (KW _),Rt (by simp only [List.forall_mem_cons];exact ⟨(.om _),fun x hx=>by cases hx⟩),Rt (by simp only [List.forall_mem_cons];exact ⟨(.own _ _ _),fun x hx=>by cases hx⟩),aS (fun x y hy=>by rw [List.mem_singleton.1 hy];exact (.val _)),fun x hx=>by cases hx⟩))) (fun x2=>(Cy (p:=TvM) (by simp only [List.forall_mem_cons];exact ⟨B8 (.ptr _ _),B8 (.ptr _ _),B8 (.ptr _ _),B8 (GM (Eu _)),B8 (GM (H8 _)),B8 (XL (by simp only [List.forall_mem_cons];exact ⟨(GM (KW _)),(GM (by simp only [List.forall_mem_cons];exact ⟨(CU Mt),fun x hx=>by cases hx⟩)),fun x hx=>by cases hx⟩)),fun x hx=>by cases hx⟩))) (fun _=>by kernel_rfl) ax0 (by rw [<- hF0];simp only [Cr,Nat.sub_zero,cond_true,cond_false]) (fun l1 W1 M1 X1 x2 j Ak hinv hPX => ?_) (fun l2 W2 M2 X2 x2 j Ak hPX hj hinv => ?_) (fun Ak hinv hF2 => ?_)
 ·have hinv2:Ak.length<=j:=hinv;clear hinv
  refine EC<|AD ?_
  refine rn ⟨(Hd [(11,tP 11 0),(34,.av (Hh b types)),(36,.av (.agg (A3.c ((Ac b types).getD x2.val default).2)))]),[(11,.cells (AG.c ((Ac b types).getD x2.val default).1) 59),(HY Ak),(DH b),DI,(Ia Ak),(200014,.omap false 1 AM.length (kfG Bk AM) (vfG (fun x=>[.s x]) AM))]⟩ ?_
  refine rg ⟨(Hd [(11,tP 11 0),(12,tP 12 0),(34,.av (Hh b types))]),[(11,.cells (AG.c ((Ac b types).getD x2.val default).1) 59),(12,.cells (A3.c ((Ac b types).getD x2.val default).2) 118),(HY Ak),(DH b),DI,(Ia Ak),(200014,.omap false 1 AM.length (kfG Bk AM) (vfG (fun x=>[.s x]) AM))]⟩ ?_
  exact ⟨_,Cv.trans (NL (⟨(Hd [(Tf b types x2.val),(12,tP 12 0),(34,.av (Hh b types))]),[(12,.cells (A3.c ((Ac b types).getD x2.val default).2) 118),(HY Ak),(DH b),DI,(Ia Ak),(200014,.omap false 1 AM.length (kfG Bk AM) (vfG (fun x=>[.s x]) AM))]⟩) 11 (AG.c ((Ac b types).getD x2.val default).1) 59 [200002,200005,200010,200014] 100000 hPX kr (fun _=>⟨_,rfl⟩) kr kr kr) (Cv.trans (NL (⟨(Hd [(Tf b types x2.val),(Vh b types x2.val),(34,.av (Hh b types))]),[(HY Ak),(DH b),DI,(Ia Ak),(200014,.omap false 1 AM.length (kfG Bk AM) (vfG (fun x=>[.s x]) AM))]⟩) 12 (A3.c ((Ac b types).getD x2.val default).2) 118 [200002,200005,200010,200014] 100000 hPX kr (fun _=>⟨_,rfl⟩) kr kr kr) (Cv.refl _)),rfl,rfl⟩
 ·have hinv2:Ak.length<=j:=hinv;clear hinv
  obtain ⟨Xb2,hXb2⟩:∃ Xb,DB b types AM (fun _=>default) ((Ac b types).length-x2.val) x2.val Ak=Xb:=⟨_,rfl⟩
  have hF2:=hXb2
  rw [show (Ac b types).length-x2.val=((Ac b types).length-(x2.val+1))+1 by have:=x2.isLt;omega] at hF2
  have hpe:=U8 (b:=b) ht x2.val
  refine EC<|AX<|AD ?_
  refine Uf aR D6 [] [(47,((D4 Bd AM (Nx b types x2.val)),(C7 Bd AM (Nx b types x2.val))))] [] [2,5,10,11,12,13,34] [13,100000,200002,200005,200010,200014] [Ry Try.prog eqE 25 AM.length (kfG Bk AM) (Bk (Ab.mk ((Ac b types).getD x2.val default).1.Ref ((Ac b types).getD x2.val default).2.Name)) (D4 Bd AM (Ab.mk ((Ac b types).getD x2.val default).1.Ref ((Ac b types).getD x2.val default).2.Name)) (C7 Bd AM (Ab.mk ((Ac b types).getD x2.val default).1.Ref ((Ac b types).getD x2.val default).2.Name))] ⟨(PY b types x2.val),[(13,.cells (Ly b types x2.val [.s (Yl AM b types x2.val),.i 1,.i b.Layers,.i 0,vN,.i 0]) 63),(HY Ak),(DH b),DI,(Ia Ak),(200014,.omap false 1 AM.length (kfG Bk AM) (vfG (fun x=>[.s x]) AM))]⟩ .nil kr kr (.cons (RV Od Rp _ _) .nil)<|AJ ?_
  refine AD<|AD ?_
  refine rn ⟨(Hd [(Tf b types x2.val),(Vh b types x2.val),(13,tP 13 0),(34,.av (Hh b types)),(53,tB (decide ((((Ac b types).getD x2.val default).2.Drill:Int)=0)))]),[(13,.cells (Ly b types x2.val [.s (Yl AM b types x2.val),.i 1,.i b.Layers,.i 0,vN,.i 0]) 63),(HY Ak),(DH b),DI,(Ia Ak),(200014,.omap false 1 AM.length (kfG Bk AM) (vfG (fun x=>[.s x]) AM))]⟩ ?_
  refine Bz (⟨(PY b types x2.val),[(13,.cells (Ly b types x2.val [.s (bif D4 Bd AM (Nx b types x2.val) then (AM.getD (C7 Bd AM (Nx b types x2.val)) default).2 else ⟨#[]⟩),.i (bif decide ((((Ac b types).getD x2.val default).2.Drill:Int)=0) then (Cf b ((Ac b types).getD x2.val default).1) else 1),.i (bif decide ((((Ac b types).getD x2.val default).2.Drill:Int)=0) then (Cf b ((Ac b types).getD x2.val default).1) else b.Layers),.i 0,vN,.i 0]) 63),(HY Ak),(DH b),DI,(Ia Ak),(200014,.omap false 1 AM.length (kfG Bk AM) (vfG (fun x=>[.s x]) AM))]⟩) ?_ ?_
  ·refine Aa _ rfl (fun h1 => ?_) (fun h1 => ?_)
   ·refine dw [] [(56,LS b ((Ac b types).getD x2.val default).1),(59,LS b ((Ac b types).getD x2.val default).1)] [Ay (LS b ((Ac b types).getD x2.val default).1).2.1,Ay (LS b ((Ac b types).getD x2.val default).1).2.1] ⟨(PY b types x2.val),[(13,.cells (Ly b types x2.val [.s (Yl AM b types x2.val),.i (Cf b ((Ac b types).getD x2.val default).1),.i (Cf b ((Ac b types).getD x2.val default).1),.i 0,vN,.i 0]) 63),(HY Ak),(DH b),DI,(Ia Ak),(200014,.omap false 1 AM.length (kfG Bk AM) (vfG (fun x=>[.s x]) AM))]⟩ (.cons (Sr b ((Ac b types).getD x2.val default).1) (.cons (Sr b ((Ac b types).getD x2.val default).1) .nil)) (.cons rfl (.cons rfl .nil))<|AJ ?_
    refine A9 ?_
    first | rfl | (simp only [h1,cond_true,cond_false] <;> rfl)
   refine Ad<|AJ ?_
   refine Cv.trans (ck (⟨(PY b types x2.val),[(13,.cells (Ly b types x2.val [.s (bif D4 Bd AM (Nx b types x2.val) then (AM.getD (C7 Bd AM (Nx b types x2.val)) default).2 else ⟨#[]⟩),.i 1,.i b.Layers,.i 0,vN,.i 0]) 63),(HY Ak),(DH b),DI,(Ia Ak),(200014,.omap false 1 AM.length (kfG Bk AM) (vfG (fun x=>[.s x]) AM))]⟩)) (A9 ?_)
   first | rfl | (simp only [h1,cond_true,cond_false] <;> rfl)
  refine AD<|dw [] [(65,GG ((Ac b types).getD x2.val default).1),(66,NR ((Ac b types).getD x2.val default).2.Shape (Ba ((Ac b types).getD x2.val default).1))] [Ay (GG ((Ac b types).getD x2.val default).1).2.1,Ay (NR ((Ac b types).getD x2.val default).2.Shape (Ba ((Ac b types).getD x2.val default).1)).2.1] ⟨(Hd [(13,tP 13 0),(34,.av (Hh b types))]),[(13,.cells (WH b types x2.val AM) 63),(HY Ak),(DH b),DI,(Ia Ak),(200014,.omap false 1 AM.length (kfG Bk AM) (vfG (fun x=>[.s x]) AM))]⟩ (.cons (Ms ((Ac b types).getD x2.val default).1) (.cons (Tx ((Ac b types).getD x2.val default).2.Shape (Ba ((Ac b types).getD x2.val default).1) au16) .nil)) (.cons rfl (.cons rfl .nil))<|AJ ?_
  refine rc [] [Ak.length=Ak.length,Ak.length+1<=maxLen,(Ak.length+1)*104<=140737488355328] ⟨(MK b types),[(71,.row 9 (Ak.length+1) (fun i_ j_=>if i_<Ak.length then (AU A0.c Ak) i_ j_ else (Au 9 1 (WH b types x2.val AM)) (i_-Ak.length) j_) 63),(DH b),DI,(200010,.cells [.own 71 9 (Ak.length+1)] 60),(200014,.omap false 1 AM.length (kfG Bk AM) (vfG (fun x=>[.s x]) AM))]⟩ .nil (.cons rfl (.cons au3 (.cons au3 .nil)))<|Bg ?_
  refine ⟨_,Cv.trans (BH (⟨(MK b types),[(71,.row 9 (Ak++(Un b types x2.val AM)).length (AU A0.c (Ak++(Un b types x2.val AM))) 63),(DH b),DI,(200010,.cells [.own 71 9 (Ak++(Un b types x2.val AM)).length] 60),(200014,.omap false 1 AM.length (kfG Bk AM) (vfG (fun x=>[.s x]) AM))]⟩) lr (.cons ⟨rfl,Ai 63 (BM (A8 9 A0.c Ak) (Ar (c:=A0.c) (xs:=([A0.mk ((Ac b types).getD x2.val default).1.Id ((Ac b types).getD x2.val default).2.Name 1 (bif D4 Bd AM (Ab.mk ((Ac b types).getD x2.val default).1.Ref ((Ac b types).getD x2.val default).2.Name) then (AM.getD (C7 Bd AM (Ab.mk ((Ac b types).getD x2.val default).1.Ref ((Ac b types).getD x2.val default).2.Name)) default).2 else ⟨#[]⟩) (bif decide ((((Ac b types).getD x2.val default).2.Drill:Int)=0) then (Cf b ((Ac b types).getD x2.val default).1) else 1) (bif decide ((((Ac b types).getD x2.val default).2.Drill:Int)=0) then (Cf b ((Ac b types).getD x2.val default).1) else b.Layers) (Ch ((Ac b types).getD x2.val default).2.Shape (Ba ((Ac b types).getD x2.val default).1))]:List A0)) rfl kr))⟩ (.cons ⟨rfl,.refl _⟩ (.cons ⟨rfl,.refl _⟩ (.cons ⟨rfl,.cells _ (.cons (.own _ _ au0) .nil)⟩ lr))))) (Cv.trans (wr (⟨(MK b types),[(100000,.row 9 (Ak++(Un b types x2.val AM)).length (AU A0.c (Ak++(Un b types x2.val AM))) 63),(DH b),DI,(200010,.cells [.own 100000 9 (Ak++(Un b types x2.val AM)).length] 60),(200014,.omap false 1 AM.length (kfG Bk AM) (vfG (fun x=>[.s x]) AM))]⟩) 71 100000 (K:=[299999,200002,200005,200010,200014]) hPX) (Cv.refl _)),rfl,(Ak++[A0.mk ((Ac b types).getD x2.val default).1.Id ((Ac b types).getD x2.val default).2.Name 1 (bif D4 Bd AM (Ab.mk ((Ac b types).getD x2.val default).1.Ref ((Ac b types).getD x2.val default).2.Name) then (AM.getD (C7 Bd AM (Ab.mk ((Ac b types).getD x2.val default).1.Ref ((Ac b types).getD x2.val default).2.Name)) default).2 else ⟨#[]⟩) (bif decide ((((Ac b types).getD x2.val default).2.Drill:Int)=0) then (Cf b ((Ac b types).getD x2.val default).1) else 1) (bif decide ((((Ac b types).getD x2.val default).2.Drill:Int)=0) then (Cf b ((Ac b types).getD x2.val default).1) else b.Layers) (Ch ((Ac b types).getD x2.val default).2.Shape (Ba ((Ac b types).getD x2.val default).1))]),ax0,fun hk hF => ?_,fun _ _ h=>h⟩
  have e0:DB b types AM (fun _=>default) ((Ac b types).length-(x2.val+1)) (x2.val+1) (Ak++[A0.mk ((Ac b types).getD x2.val default).1.Id ((Ac b types).getD x2.val default).2.Name 1 (bif D4 Bd AM (Ab.mk ((Ac b types).getD x2.val default).1.Ref ((Ac b types).getD x2.val default).2.Name) then (AM.getD (C7 Bd AM (Ab.mk ((Ac b types).getD x2.val default).1.Ref ((Ac b types).getD x2.val default).2.Name)) default).2 else ⟨#[]⟩) (bif decide ((((Ac b types).getD x2.val default).2.Drill:Int)=0) then (Cf b ((Ac b types).getD x2.val default).1) else 1) (bif decide ((((Ac b types).getD x2.val default).2.Drill:Int)=0) then (Cf b ((Ac b types).getD x2.val default).1) else b.Layers) (Ch ((Ac b types).getD x2.val default).2.Shape (Ba ((Ac b types).getD x2.val default).1))])=Xb2:=by
   rw [<- hF2]
   first | (simp only [DB,cond_true,cond_false] <;> rfl)
  subst hk
  change DB b types AM (fun _=>default) ((Ac b types).length-x2.val) x2.val Ak=Am b types at hF
  show DB b types AM (fun _=>default) ((Ac b types).length-(x2.val+1)) (x2.val+1) (Ak++[A0.mk ((Ac b types).getD x2.val default).1.Id ((Ac b types).getD x2.val default).2.Name 1 (bif D4 Bd AM (Ab.mk ((Ac b types).getD x2.val default).1.Ref ((Ac b types).getD x2.val default).2.Name) then (AM.getD (C7 Bd AM (Ab.mk ((Ac b types).getD x2.val default).1.Ref ((Ac b types).getD x2.val default).2.Name)) default).2 else ⟨#[]⟩) (bif decide ((((Ac b types).getD x2.val default).2.Drill:Int)=0) then (Cf b ((Ac b types).getD x2.val default).1) else 1) (bif decide ((((Ac b types).getD x2.val default).2.Drill:Int)=0) then (Cf b ((Ac b types).getD x2.val default).1) else b.Layers) (Ch ((Ac b types).getD x2.val default).2.Shape (Ba ((Ac b types).getD x2.val default).1))])=Am b types
  exact e0.trans (hXb2.symm.trans hF)
 have hinv2:Ak.length<=(Ac b types).length:=hinv;clear hinv
 change DB b types AM (fun _=>default) ((Ac b types).length-(Ac b types).length) (Ac b types).length Ak=Am b types at hF2
 rw [Nat.sub_self] at hF2
 refine Bg<|AJ<|AD ?_
 refine rn ⟨[(4,tO (.own 100000 9 Ak.length))],[(HY Ak)]⟩<|Af ?_
 exact xl (tO (.own 100000 9 Ak.length)) (frE (c:=A0.c) (xs:=Ak) (by rw [<- hF2];first | (simp only [DB,cond_true,cond_false] <;> rfl)) kr)
end
section
open Go.RowKit
theorem Np {types:List AP} (h:CN types) (name:ByteArray):((CJ types name).1.Pads.length:Int)<=1000000:=by rw [HM];exact G5 h name
def D5 (b:AH) (v:List (Ab×ByteArray)) (x:AG×A3):A0:=A0.mk x.1.Id x.2.Name 1 (bif D4 Bd v (Ab.mk x.1.Ref x.2.Name) then (v.getD (C7 Bd v (Ab.mk x.1.Ref x.2.Name)) default).2 else ⟨#[]⟩) (bif decide (x.2.Drill=0) then Cf b x.1 else 1) (bif decide (x.2.Drill=0) then Cf b x.1 else b.Layers) (Ch x.2.Shape (Ba x.1))
def aO (v:List (Ab×ByteArray)) (n:BA):List (Ab×ByteArray):=n.Pins.foldl (fun v p=>G2 Bd v p n.Name) v
def LC (b:AH):List (Ab×ByteArray):=b.Nets.reverse.foldl aO []
theorem J8 (b:AH) (types:List AP):Am b types=(Ac b types).map (D5 b (LC b)):=by
 have h2:∀ v K0,DB b types v K0 (Ac b types).length 0 []=(Ac b types).map (D5 b v):=fun v K0=>by
  have:=Xy (Ac b types) (fun acc x=>acc++[D5 b v x]) (DB b types v K0) id (fun x acc=>by rw [DB];rfl) (fun m x acc hx=>by rw [DB];rfl) (Ac b types).length 0 [] (by omega)
  rw [this,List.drop_zero,OY,List.nil_append];rfl
 have hrev:∀ x,x<b.Nets.reverse.length->b.Nets.getD (b.Nets.length-1-x) default=b.Nets.reverse.getD x default:=fun x hx=>by
  rw [List.length_reverse] at hx
  rw [List.getD_eq_getElem?_getD,List.getD_eq_getElem?_getD,List.getElem?_reverse hx]
 unfold Am
 have:=Xy b.Nets.reverse aO (Cr b types) (fun v=>(Ac b types).map (D5 b v)) (fun x acc=>by rw [Cr];exact h2 _ _) (fun m x acc hx=>by
  rw [Cr,hrev x hx]
  have h1:=cV (b.Nets.reverse.getD x default).Pins (fun v p=>G2 Bd v p (b.Nets.reverse.getD x default).Name) (F4 b types acc x (Cr b types m (x+1))) (fun v _=>Cr b types m (x+1) v) (fun m v k=>by rw [F4,hrev x hx,Int.toNat_natCast]) (b.Nets.reverse.getD x default).Pins.length 0 ((((b.Nets.reverse.getD x default).Pins.length:Int)-0).toNat+1) acc rfl (Nat.zero_le _) (by omega)
  rw [List.drop_zero] at h1
  exact h1) b.Nets.length 0 [] (by rw [List.length_reverse];omega)
 rw [this,List.drop_zero];rfl
theorem Oq (b:AH) (types:List AP):(Am b types).length=(Ac b types).length:=by rw [J8,List.length_map]
variable (b:AH) (t:AP) (types:List AP) (p:Ab) (pad:ByteArray)
def Ko:CT:=(14,[.agg (DF b),.one (GC types)],.val [] (.av (.one (lst 9 A0.c (Am b types)))))
theorem P1 (b:AH) (types:(List AP)) (hn:(b.Nets.length:Int)<=1000000) (hp:b.Parts.length<20) (ht:CN types) (hm:((Ac b types).length:Int)<=20000000) (hq:∀ n∈b.Nets,(n.Pins.length:Int)<=1000000):OKc (Ko b types):=cPu<|Mf (qPads b types hn hp ht hm hq)
def Z0l:Blk:=.cells [.s (⟨#[]⟩),.i 0,vN,.i 0,.i 0,.i 0,.i 0] 118
def Z0m:A3:=t.Pads.getD (En t.Pads pad).toNat default
def Z0n:Blk:=.cells [.s (Z0m t pad).Name,.i (Z0m t pad).Shape.Kind,.own 23 7 (Z0m t pad).Shape.Edges.length,.i (Z0m t pad).Shape.R,.i (Z0m t pad).At.X,.i (Z0m t pad).At.Y,.i (Z0m t pad).Drill] 118
def Z0o:Blk:=.row 7 (Z0m t pad).Shape.Edges.length (AU AO.c (Z0m t pad).Shape.Edges) 133
def Eo (t:AP) (pad:ByteArray):(A3×Bool):=bif decide (((En t.Pads pad):Int)<0) then (A3.mk (⟨#[]⟩) (Ah.mk 0 [] 0) (AF.mk 0 0) 0,false) else (A3.mk (Z0m t pad).Name (Ah.mk (Z0m t pad).Shape.Kind (Z0m t pad).Shape.Edges (Z0m t pad).Shape.R) (Z0m t pad).At (Z0m t pad).Drill,true)
def YQ:CT:=(32,[.agg (AP.c t),.one (.s pad)],.val [] (.tup [.agg (A3.c (Eo t pad).1),.one (.b (Eo t pad).2)]))
theorem pFind (t:AP) (pad:ByteArray) (h0:(t.Pads.length:Int)<=1000000) (ha:∀ k,((t.Pads.getD k default).Shape.Edges.length:Int)<=1000000):PuP 32 (YQ t pad).2.1 (.tup [.agg (A3.c (Eo t pad).1),.one (.b (Eo t pad).2)]):=by
 refine pwf Try.func32 fun W0 M0 => ?_
 have ha1:=ha (En t.Pads pad).toNat
 refine AD<|rn ⟨KU,[(2,.cells (AP.c t) 114),(3,.cells [.s pad] 9),(4,Z0l)]⟩<|AD ?_
 refine rc [(11,(62,[.one (lst 7 A3.c t.Pads),.one (.clo 63 1 (CR [.ptr 3 0]))],rdI [3] [.cells [.s pad] 9] (tI (En t.Pads pad))))] [Ay [.one (lst 7 A3.c t.Pads),.one (.clo 63 1 (CR [.ptr 3 0]))],QX [.cells [.s pad] 9]] ⟨[(2,tP 2 0),(4,tP 4 0),(6,tI (En t.Pads pad))],[(2,.cells (AP.c t) 114),(4,Z0l)]⟩ (.cons (Kl (fun _ _=>kr) kr kr (Pj (pixPd t.Pads pad au16) (.cons (AvE.refl _) (.cons (.one (.clo 63 1 _ _ (GD kr))) .nil)))) .nil) (.cons rfl (.cons rfl .nil))<|AJ ?_
 refine AD<|AD ?_
 refine rn ⟨[(2,tP 2 0),(4,tP 4 0),(6,tI (En t.Pads pad)),(13,tB (decide (((En t.Pads pad):Int)<0)))],[(2,.cells (AP.c t) 114),(4,Z0l)]⟩ ?_
 refine Aa _ rfl (fun h1 => ?_) (fun h1 => ?_)
 ·refine AD<|rn ⟨[(4,tP 4 0),(5,tB false)],[(4,Z0l)]⟩ ?_
  refine Af<|BZ ?_
  exact xl (.tup [.agg [.s (⟨#[]⟩),.i 0,vN,.i 0,.i 0,.i 0,.i 0],.one (.b false)]) (DC (y:=.tup [.agg [.s (⟨#[]⟩),.i 0,lst 7 AO.c [],.i 0,.i 0,.i 0,.i 0],.one (.b false)]) (.tup (.cons (.agg (rr2 (.cons (CY 7 AO.c) (rr (rr (rr (rr .nil))))))) (.cons (AvE.refl _) .nil))) (by simp only [Eo,h1,cond_true,cond_false] <;> rfl))
 have g1:=oF h1
 refine Ad<|AJ<|AD ?_
 refine rc [] [0<=(En t.Pads pad:Int)/\(En t.Pads pad:Int)<((t.Pads.length:Nat):Int)] ⟨[(4,tP 4 0),(7,tP 7 0)],[(4,Z0l),(7,.cells (A3.c (Z0m t pad)) 118)]⟩ .nil (.cons (by first | exact cO (by assumption) | omega) .nil)<|AJ<|AD ?_
 refine rs 23 (Lk (Z0m t pad).Shape.Edges) ⟨[(4,tP 4 0),(7,tP 7 0)],[(4,Z0l),(7,Z0n t pad),(23,Z0o t pad)]⟩ (Mr (Z0m t pad).Shape.Edges au16)<|AJ<|AD ?_
 refine rn ⟨[(4,tP 4 0),(5,tB true)],[(4,Z0n t pad),(23,Z0o t pad)]⟩<|Af ?_
 exact yl (Cv.trans (vf 23 7 (Z0m t pad).Shape.Edges.length (AU AO.c (Z0m t pad).Shape.Edges) 133 hk0 (.cons ⟨rfl,rfl⟩ .nil)) (Cv.refl _)) (.tup [.agg (A3.c (Z0m t pad)),.one (.b true)]) (An (by simp only [Eo,h1,cond_true,cond_false] <;> rfl))
theorem cB (t:AP) (pad:ByteArray) (h0:(t.Pads.length:Int)<=1000000) (ha:∀ k,((t.Pads.getD k default).Shape.Edges.length:Int)<=1000000):OKc (YQ t pad):=cPu<|pFind t pad h0 ha
theorem Rh {types:List AP} (h:CN types) (name:ByteArray):∀ k,(((CJ types name).1.Pads.getD k default).Shape.Edges.length:Int)<=1000000:=by
 rw [HM]
 unfold Rl
 cases hf:types.find? (fun t=>FT t name) with
 | none=>exact fun k=>(by decide:((0:Nat):Int)<=1000000)
 | some t=>exact fun k=>Mm (h.2 t (List.mem_of_find?_eq_some hf)) k
def Z0p (types:(List AP)) (b:AH) (p:Ab):AP:=(CJ types (b.Parts.getD (Cn b.Parts p).toNat default).Type').1
def Z0q:AG:=b.Parts.getD (Cn b.Parts p).toNat default
def Z0r (b:AH) (p:Ab) (types:(List AP)):AF:=AW (Ba (Z0q b p)) (Eo (Z0p types b p) p.Pad).1.At
def FAt (b:AH) (types:(List AP)) (p:Ab):(AF×Int×Bool):=bif decide (((Cn b.Parts p):Int)<0) then (AF.mk 0 0,0,false) else (bif !((Eo (Z0p types b p) p.Pad).2) then (AF.mk 0 0,0,false) else (Z0r b p types,Cf b (Z0q b p),true))
def cAt:CT:=(10,[.agg (DF b),.one (GC types),.agg (Ab.c p)],.val [] (.tup [.agg (AF.c (FAt b types p).1),.one (.i (FAt b types p).2.1),.one (.b (FAt b types p).2.2)]))
abbrev F8:Nat×Blk:=(6,.cells [.i 0,.i 0] 52)
abbrev Vu:Tv:=.tup [.agg [.i 0,.i 0],.one (.i 0),.one (.b false)]
abbrev KG:Nat×Blk:=(3,.cells (DF b) 42)
theorem au22 {p:Prop} (h:p:=by first | (exact Rh ht _) | (exact Np ht _) | with_reducible assumption | omega | decide | (simp only [List.length_cons,List.length_nil,List.length_append];omega) | assumption):p:=h
theorem au24 {p:Prop} (h:p:=by first | exact cN (by assumption) | omega):p:=h
theorem pAt (b:AH) (types:(List AP)) (p:Ab) (hp:(b.Parts.length:Int)<=1000000) (ht:CN types):PuP 10 (cAt b types p).2.1 (.tup [.agg (AF.c (FAt b types p).1),.one (.i (FAt b types p).2.1),.one (.b (FAt b types p).2.2)]):=by
 refine pwf Try.func10 fun W0 M0 => ?_
 refine AD<|rn ⟨[(EY types),(3,tP 3 0),(5,tP 5 0),(6,tP 6 0)],[(KG b),(5,.cells (Ab.c p) 25),F8]⟩<|AD ?_
 refine rc [(17,(29,[.one (lst 7 AG.c b.Parts),.one (.clo 30 1 (CR [.ptr 5 0]))],rdI [5] [.cells (Ab.c p) 25] (tI (Cn b.Parts p))))] [Ay [.one (lst 7 AG.c b.Parts),.one (.clo 30 1 (CR [.ptr 5 0]))],QX [.cells (Ab.c p) 25]] ⟨[(EY types),(3,tP 3 0),(5,tP 5 0),(6,tP 6 0),(9,tI (Cn b.Parts p))],[(KG b),(5,.cells (Ab.c p) 25),F8]⟩ (.cons (Kl (fun _ _=>kr) kr kr (Pj (pixPl b.Parts p au22) (.cons (AvE.refl _) (.cons (.one (.clo 30 1 _ _ (GD kr))) .nil)))) .nil) (.cons rfl (.cons rfl .nil))<|AJ ?_
 refine AD<|AD ?_
 refine rn ⟨[(EY types),(3,tP 3 0),(5,tP 5 0),(6,tP 6 0),(9,tI (Cn b.Parts p)),(19,tB (decide (((Cn b.Parts p):Int)<0)))],[(KG b),(5,.cells (Ab.c p) 25),F8]⟩ ?_
 refine Aa _ rfl (fun h1 => ?_) (fun h1 => ?_)
 ·refine AD<|rn ⟨[(6,tP 6 0),(7,tI 0),(8,tB false)],[F8]⟩ ?_
  refine Af<|BZ ?_
  exact xl Vu (An (by simp only [FAt,h1,cond_true,cond_false] <;> rfl))
 have g1:=oF h1
 refine Ad<|AJ<|AD ?_
 refine rc [(29,YP types (b.Parts.getD (Cn b.Parts p).toNat default).Type')] [0<=(Cn b.Parts p:Int)/\(Cn b.Parts p:Int)<((b.Parts.length:Nat):Int),Ay (YP types (b.Parts.getD (Cn b.Parts p).toNat default).Type').2.1] ⟨[(3,tP 3 0),(5,tP 5 0),(6,tP 6 0),(9,tI (Cn b.Parts p)),(10,tP 10 0)],[(KG b),(5,.cells (Ab.c p) 25),F8,(10,.cells (AP.c (Z0p types b p)) 114)]⟩ (.cons (aG types (b.Parts.getD (Cn b.Parts p).toNat default).Type' au22) .nil) (.cons au24 (.cons rfl .nil))<|AJ<|AD ?_
 refine rs 36 (YQ (Z0p types b p) p.Pad) ⟨[(3,tP 3 0),(6,tP 6 0),(9,tI (Cn b.Parts p)),(12,tP 12 0),(13,tB (Eo (Z0p types b p) p.Pad).2)],[(KG b),F8,(12,.cells (A3.c (Eo (Z0p types b p) p.Pad).1) 118)]⟩ (cB (Z0p types b p) p.Pad au22 au22)<|AJ ?_
 refine AD<|AD ?_
 refine rn ⟨[(3,tP 3 0),(6,tP 6 0),(9,tI (Cn b.Parts p)),(12,tP 12 0),(40,tB (!((Eo (Z0p types b p) p.Pad).2)))],[(KG b),F8,(12,.cells (A3.c (Eo (Z0p types b p) p.Pad).1) 118)]⟩ ?_
 refine Aa _ rfl (fun h2 => ?_) (fun h2 => ?_)
 ·refine AD<|rn ⟨[(6,tP 6 0),(7,tI 0),(8,tB false)],[F8]⟩ ?_
  refine Af<|BZ ?_
  exact xl Vu (An (by simp only [FAt,h1,h2,cond_true,cond_false] <;> rfl))
 refine Ad<|AJ<|AD ?_
 refine dw [] [(47,GG (Z0q b p)),(50,B4 (Ba (Z0q b p)) (Eo (Z0p types b p) p.Pad).1.At),(57,LS b (Z0q b p))] [0<=(Cn b.Parts p:Int)/\(Cn b.Parts p:Int)<((b.Parts.length:Nat):Int),Ay (GG (Z0q b p)).2.1,Ay (B4 (Ba (Z0q b p)) (Eo (Z0p types b p) p.Pad).1.At).2.1,0<=(Cn b.Parts p:Int)/\(Cn b.Parts p:Int)<((b.Parts.length:Nat):Int),Ay (LS b (Z0q b p)).2.1] ⟨[(6,tP 6 0),(7,tI (Cf b (Z0q b p))),(8,tB true)],[(6,.cells (AF.c (Z0r b p types)) 52)]⟩ (.cons (Ms (Z0q b p)) (.cons (DD (Ba (Z0q b p)) (Eo (Z0p types b p) p.Pad).1.At) (.cons (Sr b (Z0q b p)) .nil))) (.cons au24 (.cons rfl (.cons rfl (.cons au24 (.cons rfl .nil)))))<|AJ<|Af ?_
 exact xl (.tup [.agg (AF.c (Z0r b p types)),.one (.i (Cf b (Z0q b p))),.one (.b true)]) (An (by simp only [FAt,h1,h2,cond_true,cond_false] <;> rfl))
theorem cC (b:AH) (types:(List AP)) (p:Ab) (hp:(b.Parts.length:Int)<=1000000) (ht:CN types):OKc (cAt b types p):=cPu<|pAt b types p hp ht
end
def Z0s:Blk:=.cells L8 114
def Z0t (types:(List AP)) (k:Int) (name:ByteArray):Bool:=((types.getD k.toNat default).Name.toList==name.toList)
def DT (types:(List AP)) (name:ByteArray):Nat->Int->(AP×Bool)
 | 0,_=>default
 | n0+1,k=>bif decide ((k:Int)<(types.length:Int)) then (bif Z0t types k name then (types.getD k.toNat default,true) else ((DT types name n0) (k+1))) else (AP.mk (⟨#[]⟩) [] [],false)
def Bf (types:(List AP)) (name:ByteArray):(AP×Bool):=DT types name (((types.length:Int)-0).toNat+1) 0
def NS (types:(List AP)) (name:ByteArray):CT:=(35,[.one (GC types),.one (.s name)],.val [] (.tup [.agg (AP.c (Bf types name).1),.one (.b (Bf types name).2)]))
theorem bQ (types:(List AP)) (name:ByteArray) (h0:(types.length:Int)<=1000000):PuP 35 (NS types name).2.1 (.tup [.agg (AP.c (Bf types name).1),.one (.b (Bf types name).2)]):=by
 refine pwf Try.func35 fun W0 M0 => ?_
 refine AD<|rn ⟨[(Fi types),(1,tO (.s name)),(4,tP 4 0)],[(4,Z0s)]⟩ ?_
 refine AD<|AD ?_
 refine rn ⟨[(Fi types),(1,tO (.s name)),(4,tP 4 0),(6,tI 0)],[(4,Z0s)]⟩<|AX ?_
 refine BN (ι:=Nat×Int) (fun x=>⟨[(Fi types),(1,tO (.s name)),(4,tP 4 0),(6,tI x.2)],[(4,Z0s)]⟩) (fun x=>((types.length:Int)-x.2).toNat<x.1/\(0<=x.2/\0<=x.2/\(x.2<=(types.length:Int)\/x.2=0))/\DT types name x.1 x.2=Bf types name) (fun x=>x.1) ?_ (((types.length:Int)-0).toNat+1,0) ⟨Nat.lt_succ_self _,⟨ax0,ax0,ax0⟩,(by simp only [Bf,cond_true,cond_false])⟩
 rintro ⟨n0,k⟩ ⟨hm0,hinv0,hF0⟩
 try dsimp only at hm0 hinv0 hF0
 cases n0 with | zero=>exact nz hm0 | succ n0 => ?_
 refine AD<|AD ?_
 refine rn ⟨[(Fi types),(1,tO (.s name)),(4,tP 4 0),(6,tI k),(10,tB (decide ((k:Int)<(types.length:Int))))],[(4,Z0s)]⟩ ?_
 refine Aa _ rfl (fun h1 => ?_) (fun h1 => ?_)
 ·have g1:=oT h1
  refine Ad<|AJ ?_
  refine AD<|AX<|AD ?_
  refine rc [] [0<=(k:Int)/\(k:Int)<((types.length:Nat):Int)] ⟨[(Fi types),(1,tO (.s name)),(4,tP 4 0),(6,tI k),(19,tB (Z0t types k name))],[(4,Z0s)]⟩ .nil (.cons au1 .nil)<|AJ ?_
  refine Aa _ rfl (fun h2 => ?_) (fun h2 => ?_)
  ·refine AD<|rc [] [0<=(k:Int)/\(k:Int)<((types.length:Nat):Int)] ⟨[(4,tP 4 0),(5,tB true)],[(4,.cells (AP.c (types.getD k.toNat default)) 114)]⟩ .nil (.cons au1 .nil)<|AJ ?_
   refine Af<|Ck ?_
   refine BZ<|BZ ?_
   refine Ck<|BZ ?_
   exact xl (.tup [.agg (AP.c (types.getD k.toNat default)),.one (.b true)]) (An (by rw [<- hF0];first | (simp only [DT,h1,h2,cond_true,cond_false] <;> rfl)))
  refine Ad<|Bg<|AJ ?_
  refine rg ⟨[(Fi types),(1,tO (.s name)),(4,tP 4 0),(6,tI (W64 (k+1)))],[(4,Z0s)]⟩ ?_
  (try rw [(show W64 (k+1)=k+1 from Ap oM oM)])
  refine AJ ?_
  refine ⟨(n0,k+1),⟨?_,?_,(by rw [<- hF0];simp only [DT,h1,h2,cond_true,cond_false])⟩,Nat.lt_succ_self _,A9 kr⟩
  ·show ((types.length:Int)-(k+1)).toNat<n0;omega
  exact ⟨ax0,ax0,ax0⟩
 refine BO<|BD ?_
 refine BD<|BP ?_
 refine AJ<|AD ?_
 refine rn ⟨[(4,tP 4 0),(5,tB false)],[(4,Z0s)]⟩<|Af ?_
 exact xl (.tup [.agg L8,.one (.b false)]) (DC (y:=.tup V3) (.tup (.cons (.agg (rr (.cons (CY 7 A3.c) (.cons (CY 2 A1.c) .nil)))) (.cons (AvE.refl _) .nil))) (by rw [<- hF0];first | (simp only [DT,h1,cond_true,cond_false] <;> rfl)))
theorem Tz (types:(List AP)) (name:ByteArray) (h0:(types.length:Int)<=1000000):OKc (NS types name):=cPu<|bQ types name h0
theorem Zl {α β:Type} [Inhabited α] (f:α->Bool) (K:α->β) (D:β) (xs:List α) (g:Nat->Int->β) (hg:∀ m (v:Nat),g (m+1) v=bif decide ((v:Int)<(xs.length:Int)) then (bif f (xs.getD v default) then K (xs.getD v default) else g m ((v:Int)+1)) else D) :
  ∀ (k v m:Nat),xs.length-v=k->v<=xs.length->k<m->g m v=match (xs.drop v).find? f with | some x=>K x | none=>D:=by
 intro k
 induction k with
 | zero =>
  intro v m hk hv hm
  obtain ⟨m,rfl⟩:∃ k,m=k+1:=⟨m-1,by omega⟩
  rw [hg,decide_eq_false (by omega),cond_false,List.drop_eq_nil_of_le (by omega)]
  rfl
 | succ k ih =>
  intro v m hk hv hm
  obtain ⟨m,rfl⟩:∃ k,m=k+1:=⟨m-1,by omega⟩
  have hlt:v<xs.length:=by omega
  have e:xs.getD v default=xs[v]:=by rw [List.getD_eq_getElem?_getD,List.getElem?_eq_getElem hlt];rfl
  rw [hg,decide_eq_true (by omega),cond_true,e,List.drop_eq_getElem_cons hlt,List.find?_cons]
  cases f xs[v] with
  | true=>rfl
  | false=>exact ih (v+1) m (by omega) (by omega) (by omega)
theorem aT {a c:ByteArray} (h:(a.toList==c.toList)=true):a=c:=by have:=(TG a c).1 h;cases this;rfl
theorem Vf (types:List AP) (name:ByteArray):Bf types name=CJ types name:=by
 rw [HM]
 unfold Bf Rl
 have h:=Zl (fun t=>FT t name) (fun t=>((t,true):AP×Bool)) (⟨⟨#[]⟩,[],[]⟩,false) types (DT types name) (fun m v=>by rw [DT];unfold Z0t;rw [Int.toNat_natCast];rfl) types.length 0 (((types.length:Int)-0).toNat+1) rfl (Nat.zero_le _) (by omega)
 rw [List.drop_zero] at h
 refine h.trans ?_
 cases hf:types.find? (fun t=>FT t name) with
 | none=>rfl
 | some t =>
  have e:t.Name=name:=aT (List.find?_some (p:=fun t=>FT t name) hf)
  subst e
  rfl
section
open Go.RowKit
theorem or3_f {p q r:Prop} [Decidable p] [Decidable q] [Decidable r] (h:(bif bif !decide p then true else !decide q then true else !decide r)=false):p/\q/\r:=by
 by_cases hp:p <;> by_cases hq:q <;> by_cases hr:r <;> simp_all
def EU (a:Ah) (b:Ah):Nat->Int->Bool
 | 0,_=>default
 | n0+1,k=>bif decide ((k:Int)<(a.Edges.length:Int)) then (bif !(decide ((a.Edges.getD k.toNat default).Kind=(b.Edges.getD k.toNat default).Kind)&&(decide ((a.Edges.getD k.toNat default).A.X=(b.Edges.getD k.toNat default).A.X)&&(decide ((a.Edges.getD k.toNat default).A.Y=(b.Edges.getD k.toNat default).A.Y)&&(decide ((a.Edges.getD k.toNat default).B.X=(b.Edges.getD k.toNat default).B.X)&&(decide ((a.Edges.getD k.toNat default).B.Y=(b.Edges.getD k.toNat default).B.Y)&&(decide ((a.Edges.getD k.toNat default).C.X=(b.Edges.getD k.toNat default).C.X)&&(decide ((a.Edges.getD k.toNat default).C.Y=(b.Edges.getD k.toNat default).C.Y)&&true))))))) then false else ((EU a b n0) (k+1))) else true
def H3 (a:Ah) (b:Ah):Bool:=bif bif bif !decide ((a.Kind:Int)=b.Kind) then true else !decide ((a.R:Int)=b.R) then true else !decide (((a.Edges.length:Int):Int)=(b.Edges.length:Int)) then false else (EU a b (((a.Edges.length:Int)-0).toNat+1) 0)
def TP (a:Ah) (b:Ah):CT:=(45,[.agg (Ah.c a),.agg (Ah.c b)],.val [] (.av (.one (.b (H3 a b)))))
abbrev I0 (a:Ah) (b:Ah):List (Nat×Blk):=[(2,.cells (Ah.c a) 29),(3,.cells (Ah.c b) 29)]
abbrev Vv (a:Ah) (b:Ah):=(bif !decide ((a.Kind:Int)=b.Kind) then true else !decide ((a.R:Int)=b.R))
theorem bH (a:Ah) (b:Ah) (h0:(a.Edges.length:Int)<=1000000) (h1:(b.Edges.length:Int)<=1000000):PuP 45 (TP a b).2.1 (tO (.b (H3 a b))):=by
 refine pwf Try.func45 fun W0 M0 => ?_
 refine AD<|rn ⟨O2,(I0 a b)⟩ ?_
 refine AD<|AD ?_
 refine rc [] (i5 (!decide ((a.Kind:Int)=b.Kind)) (i2 (Vv a b) (i5 (Vv a b) []))) ⟨[(2,tP 2 0),(3,tP 3 0),(26,tB (bif bif !decide ((a.Kind:Int)=b.Kind) then true else !decide ((a.R:Int)=b.R) then true else !decide (((a.Edges.length:Int):Int)=(b.Edges.length:Int))))],(I0 a b)⟩ .nil (c5 (c2 (c5 .nil)))<|AJ ?_
 refine Aa _ rfl (fun h1 => ?_) (fun h1 => ?_)
 ·refine AD<|rn ⟨[(4,tB false)],[]⟩ ?_
  refine Af<|BZ ?_
  exact xl (tO (.b false)) (An (by simp only [H3,h1,cond_true,cond_false] <;> rfl))
 refine Ad<|AJ ?_
 refine AD<|AD ?_
 refine rn ⟨[(2,tP 2 0),(3,tP 3 0),(5,tI 0)],(I0 a b)⟩<|AX ?_
 refine BN (ι:=Nat×Int) (fun x=>⟨[(2,tP 2 0),(3,tP 3 0),(5,tI x.2)],(I0 a b)⟩) (fun x=>((a.Edges.length:Int)-x.2).toNat<x.1/\(0<=x.2/\(x.2<=(a.Edges.length:Int)\/x.2=0))/\EU a b x.1 x.2=H3 a b) (fun x=>x.1) ?_ (((a.Edges.length:Int)-0).toNat+1,0) ⟨Nat.lt_succ_self _,⟨ax0,ax0⟩,(by simp only [H3,h1,cond_true,cond_false])⟩
 rintro ⟨n0,k⟩ ⟨hm0,hinv0,hF0⟩
 try dsimp only at hm0 hinv0 hF0
 cases n0 with | zero=>exact nz hm0 | succ n0 => ?_
 have hE:=(or3_f h1).2.2
 refine AD<|AD ?_
 refine rn ⟨[(2,tP 2 0),(3,tP 3 0),(5,tI k),(31,tB (decide ((k:Int)<(a.Edges.length:Int))))],(I0 a b)⟩ ?_
 refine Aa _ rfl (fun h2 => ?_) (fun h2 => ?_)
 ·have g2:=oT h2
  refine Ad<|AJ ?_
  refine AD<|AX<|AD ?_
  refine dw [] [] [0<=(k:Int)/\(k:Int)<((a.Edges.length:Nat):Int),0<=(k:Int)/\(k:Int)<((b.Edges.length:Nat):Int)] ⟨[(2,tP 2 0),(3,tP 3 0),(5,tI k),(44,tB (!(decide ((a.Edges.getD k.toNat default).Kind=(b.Edges.getD k.toNat default).Kind)&&(decide ((a.Edges.getD k.toNat default).A.X=(b.Edges.getD k.toNat default).A.X)&&(decide ((a.Edges.getD k.toNat default).A.Y=(b.Edges.getD k.toNat default).A.Y)&&(decide ((a.Edges.getD k.toNat default).B.X=(b.Edges.getD k.toNat default).B.X)&&(decide ((a.Edges.getD k.toNat default).B.Y=(b.Edges.getD k.toNat default).B.Y)&&(decide ((a.Edges.getD k.toNat default).C.X=(b.Edges.getD k.toNat default).C.X)&&(decide ((a.Edges.getD k.toNat default).C.Y=(b.Edges.getD k.toNat default).C.Y)&&true)))))))))],(I0 a b)⟩ .nil (.cons au1 (.cons au1 .nil))<|AJ ?_
  refine Aa (!(decide ((a.Edges.getD k.toNat default).Kind=(b.Edges.getD k.toNat default).Kind)&&(decide ((a.Edges.getD k.toNat default).A.X=(b.Edges.getD k.toNat default).A.X)&&(decide ((a.Edges.getD k.toNat default).A.Y=(b.Edges.getD k.toNat default).A.Y)&&(decide ((a.Edges.getD k.toNat default).B.X=(b.Edges.getD k.toNat default).B.X)&&(decide ((a.Edges.getD k.toNat default).B.Y=(b.Edges.getD k.toNat default).B.Y)&&(decide ((a.Edges.getD k.toNat default).C.X=(b.Edges.getD k.toNat default).C.X)&&(decide ((a.Edges.getD k.toNat default).C.Y=(b.Edges.getD k.toNat default).C.Y)&&true)))))))) kr (fun h3 => ?_) (fun h3 => ?_)
  ·refine AD<|rn ⟨[(4,tB false)],[]⟩ ?_
   refine Af<|Ck ?_
   refine BZ<|BZ ?_
   refine Ck<|BZ ?_
   exact xl (tO (.b false)) (An (by rw [<- hF0];first | (simp only [EU,h2,h3,cond_true,cond_false] <;> rfl)))
  refine Ad<|Bg<|AJ ?_
  refine rg ⟨[(2,tP 2 0),(3,tP 3 0),(5,tI (W64 (k+1)))],(I0 a b)⟩ ?_
  (try rw [(show W64 (k+1)=k+1 from Ap oM au8)])
  refine AJ ?_
  refine ⟨(n0,k+1),⟨?_,?_,(by rw [<- hF0];simp only [EU,h2,h3,cond_true,cond_false])⟩,Nat.lt_succ_self _,A9 kr⟩
  ·show ((a.Edges.length:Int)-(k+1)).toNat<n0;omega
  exact ⟨ax0,ax0⟩
 refine BO<|BD ?_
 refine BD<|BP ?_
 refine AJ<|AD ?_
 refine rn ⟨[(4,tB true)],[]⟩<|Af ?_
 exact xl (tO (.b true)) (An (by rw [<- hF0];first | (simp only [EU,h2,cond_true,cond_false] <;> rfl)))
theorem ZR (a:Ah) (b:Ah) (h0:(a.Edges.length:Int)<=1000000) (h1:(b.Edges.length:Int)<=1000000):OKc (TP a b):=cPu<|bH a b h0 h1
variable (a:List A0) (s_1:List AO) (l:List AF) (v3:Al) (s:Ah) (x0:AF) (b:List A0) (k:Int) (r:Al) (v21 v5 x1:Int)
abbrev D2:=a.getD v5.toNat default
def Z0u:Blk:=.cells (A0.c (D2 a v5)) 63
def Z0v (a:(List A0)) (v5:Int) (b:(List A0)):Bool:=H3 (a.getD v5.toNat default).Shape (b.getD v5.toNat default).Shape
def Dq (a:(List A0)) (b:(List A0)):Nat->Int->Bool
 | 0,_=>default
 | n0+1,v5=>bif decide ((v5:Int)<(a.length:Int)) then (bif bif bif bif bif bif bif !(Z0v a v5 b) then true else !decide (((a.getD v5.toNat default).Id:Int)=(b.getD v5.toNat default).Id) then true else !((a.getD v5.toNat default).Pad.toList==(b.getD v5.toNat default).Pad.toList) then true else !decide (((a.getD v5.toNat default).Kind:Int)=(b.getD v5.toNat default).Kind) then true else !((a.getD v5.toNat default).Net.toList==(b.getD v5.toNat default).Net.toList) then true else !decide (((a.getD v5.toNat default).From:Int)=(b.getD v5.toNat default).From) then true else !decide (((a.getD v5.toNat default).To:Int)=(b.getD v5.toNat default).To) then false else ((Dq a b n0) (v5+1))) else true
def Ee (a:(List A0)) (b:(List A0)):Bool:=bif !decide (((a.length:Int):Int)=(b.length:Int)) then false else (Dq a b (((a.length:Int)-0).toNat+1) 0)
def IH:CT:=(16,[.one (lst 9 A0.c a),.one (lst 9 A0.c b)],.val [] (.av (.one (.b (Ee a b)))))
abbrev Dl:=b.getD v5.toNat default
abbrev GJ:Nat×Tv:=(0,tO (lst 9 A0.c a))
abbrev GI:Nat×Tv:=(1,tO (lst 9 A0.c b))
theorem ZI (a:(List A0)) (b:(List A0)) (h0:(a.length:Int)<=1000000000) (ha:∀ k,(((a.getD k default).Shape.Edges.length:Int)<=1000000)) (hbb:∀ k,(((b.getD k default).Shape.Edges.length:Int)<=1000000)):PuP 16 (IH a b).2.1 (tO (.b (Ee a b))):=by
 refine pwf Try.func16 fun W0 M0 => ?_
 refine AD<|rn ⟨[(GJ a),(GI b)],[]⟩ ?_
 refine AD<|AD ?_
 refine rn ⟨[(GJ a),(GI b),(13,tB (!decide (((a.length:Int):Int)=(b.length:Int))))],[]⟩ ?_
 refine Aa _ rfl (fun h1 => ?_) (fun h1 => ?_)
 ·have g1:=DY h1
  refine AD<|rn ⟨[(4,tB false)],[]⟩ ?_
  refine Af<|BZ ?_
  exact xl (tO (.b false)) (An (by simp only [Ee,h1,cond_true,cond_false] <;> rfl))
 have g1:=DL h1
 refine Ad<|AJ ?_
 refine AD<|AD ?_
 refine rn ⟨[(GJ a),(GI b),(5,tI 0)],[]⟩<|AX ?_
 refine BN (ι:=Nat×Int) (fun x=>⟨[(GJ a),(GI b),(5,tI x.2)],[]⟩) (fun x=>((a.length:Int)-x.2).toNat<x.1/\(0<=x.2/\(x.2<=(a.length:Int)\/x.2=0))/\Dq a b x.1 x.2=Ee a b) (fun x=>x.1) ?_ (((a.length:Int)-0).toNat+1,0) ⟨Nat.lt_succ_self _,⟨ax0,ax0⟩,(by simp only [Ee,h1,cond_true,cond_false])⟩
 rintro ⟨n0,v5⟩ ⟨hm0,hinv0,hF0⟩
 try dsimp only at hm0 hinv0 hF0
 cases n0 with | zero=>exact nz hm0 | succ n0 => ?_
 refine AD<|AD ?_
 refine rn ⟨[(GJ a),(GI b),(5,tI v5),(17,tB (decide ((v5:Int)<(a.length:Int))))],[]⟩ ?_
 refine Aa _ rfl (fun h2 => ?_) (fun h2 => ?_)
 ·have g2:=oT h2
  refine Ad<|AJ ?_
  refine AD<|AX<|AD ?_
  refine rc [] [0<=(v5:Int)/\(v5:Int)<((a.length:Nat):Int)] ⟨[(GJ a),(GI b),(5,tI v5),(6,tP 6 0)],[(6,Z0u a v5)]⟩ .nil (.cons au1 .nil)<|AJ<|AD ?_
  refine rc [] [0<=(v5:Int)/\(v5:Int)<((b.length:Nat):Int)] ⟨[(GJ a),(GI b),(5,tI v5),(6,tP 6 0),(7,tP 7 0)],[(6,Z0u a v5),(7,.cells (A0.c (Dl b v5)) 63)]⟩ .nil (.cons au1 .nil)<|AJ<|AD ?_
  refine rs 32 (TP (a.getD v5.toNat default).Shape (b.getD v5.toNat default).Shape) ⟨[(GJ a),(GI b),(5,tI v5),(6,tP 6 0),(7,tP 7 0),(8,tB (Z0v a v5 b))],[(6,Z0u a v5),(7,.cells (A0.c (Dl b v5)) 63)]⟩ (ZR (a.getD v5.toNat default).Shape (b.getD v5.toNat default).Shape (by first | (exact ha _) | (exact hbb _) | with_reducible assumption | omega | decide | (simp only [List.length_cons,List.length_nil,List.length_append];omega) | assumption) (by first | (exact ha _) | (exact hbb _) | with_reducible assumption | omega | decide | (simp only [List.length_cons,List.length_nil,List.length_append];omega) | assumption))<|AJ<|AD ?_
  refine rc [] (i5 (!(Z0v a v5 b)) (i5 (bif !(Z0v a v5 b) then true else !decide (((D2 a v5).Id:Int)=(Dl b v5).Id)) (i5 (bif bif !(Z0v a v5 b) then true else !decide (((D2 a v5).Id:Int)=(Dl b v5).Id) then true else !((D2 a v5).Pad.toList==(Dl b v5).Pad.toList)) (i5 (bif bif bif !(Z0v a v5 b) then true else !decide (((D2 a v5).Id:Int)=(Dl b v5).Id) then true else !((D2 a v5).Pad.toList==(Dl b v5).Pad.toList) then true else !decide (((D2 a v5).Kind:Int)=(Dl b v5).Kind)) (i5 (bif bif bif bif !(Z0v a v5 b) then true else !decide (((D2 a v5).Id:Int)=(Dl b v5).Id) then true else !((D2 a v5).Pad.toList==(Dl b v5).Pad.toList) then true else !decide (((D2 a v5).Kind:Int)=(Dl b v5).Kind) then true else !((D2 a v5).Net.toList==(Dl b v5).Net.toList)) (i5 (bif bif bif bif bif !(Z0v a v5 b) then true else !decide (((D2 a v5).Id:Int)=(Dl b v5).Id) then true else !((D2 a v5).Pad.toList==(Dl b v5).Pad.toList) then true else !decide (((D2 a v5).Kind:Int)=(Dl b v5).Kind) then true else !((D2 a v5).Net.toList==(Dl b v5).Net.toList) then true else !decide (((D2 a v5).From:Int)=(Dl b v5).From)) [])))))) ⟨[(GJ a),(GI b),(5,tI v5),(76,tB (bif bif bif bif bif bif !(Z0v a v5 b) then true else !decide (((a.getD v5.toNat default).Id:Int)=(b.getD v5.toNat default).Id) then true else !((a.getD v5.toNat default).Pad.toList==(b.getD v5.toNat default).Pad.toList) then true else !decide (((a.getD v5.toNat default).Kind:Int)=(b.getD v5.toNat default).Kind) then true else !((a.getD v5.toNat default).Net.toList==(b.getD v5.toNat default).Net.toList) then true else !decide (((a.getD v5.toNat default).From:Int)=(b.getD v5.toNat default).From) then true else !decide (((a.getD v5.toNat default).To:Int)=(b.getD v5.toNat default).To)))],[]⟩ .nil (c5 (c5 (c5 (c5 (c5 (c5 .nil))))))<|AJ ?_
  refine Aa _ rfl (fun h3 => ?_) (fun h3 => ?_)
  ·refine AD<|rn ⟨[(4,tB false)],[]⟩ ?_
   refine Af<|Ck ?_
   refine BZ<|BZ ?_
   refine Ck<|BZ ?_
   exact xl (tO (.b false)) (An (by rw [<- hF0];first | (simp only [Dq,h2,h3,cond_true,cond_false] <;> rfl)))
  refine Ad<|Bg<|AJ ?_
  refine rg ⟨[(GJ a),(GI b),(5,tI (W64 (v5+1)))],[]⟩ ?_
  (try rw [(show W64 (v5+1)=v5+1 from Ap oM au8)])
  refine AJ ?_
  refine ⟨(n0,v5+1),⟨?_,?_,(by rw [<- hF0];simp only [Dq,h2,h3,cond_true,cond_false])⟩,Nat.lt_succ_self _,A9 kr⟩
  ·show ((a.length:Int)-(v5+1)).toNat<n0;omega
  exact ⟨ax0,ax0⟩
 refine BO<|BD ?_
 refine BD<|BP ?_
 refine AJ<|AD ?_
 refine rn ⟨[(4,tB true)],[]⟩<|Af ?_
 exact xl (tO (.b true)) (An (by rw [<- hF0];first | (simp only [Dq,h2,cond_true,cond_false] <;> rfl)))
theorem RG (a:(List A0)) (b:(List A0)) (h0:(a.length:Int)<=1000000000) (ha:∀ k,(((a.getD k default).Shape.Edges.length:Int)<=1000000)) (hbb:∀ k,(((b.getD k default).Shape.Edges.length:Int)<=1000000)):OKc (IH a b):=cPu<|ZI a b h0 ha hbb
def Z0w:Blk:=.cells (Al.c (Cc (s.Edges.getD 0 default))) 76
def Z0x:Tv:=tI (((((s.Edges.length:Nat):Int):Int).toNat-(1:Int).toNat:Nat):Int)
def Z0y:Tv:=.av (.one (lst 7 AO.c (s.Edges.drop (1:Int).toNat)))
def Z0z:AO:=(s.Edges.drop (1:Int).toNat).getD v21.toNat default
def Z0A:Blk:=.cells [.i (min v3.X0 (Cc (Z0z s v21)).X0),.i (min v3.Y0 (Cc (Z0z s v21)).Y0),.i (max v3.X1 (Cc (Z0z s v21)).X1),.i (max v3.Y1 (Cc (Z0z s v21)).Y1)] 76
def J9 (s:Ah):Nat->Al->Int->Al
 | 0,_,_=>default
 | n0+1,v3,v21=>bif decide ((v21:Int)<(((((s.Edges.length:Nat):Int):Int).toNat-(1:Int).toNat:Nat):Int)) then ((J9 s n0) (Al.mk (min v3.X0 (Cc (Z0z s v21)).X0) (min v3.Y0 (Cc (Z0z s v21)).Y0) (max v3.X1 (Cc (Z0z s v21)).X1) (max v3.Y1 (Cc (Z0z s v21)).Y1)) (v21+1)) else (Al.mk (W64 (v3.X0-s.R)) (W64 (v3.Y0-s.R)) (W64 (v3.X1+s.R)) (W64 (v3.Y1+s.R)))
def Qg (s:Ah):Al:=bif decide (((s.Edges.length:Int):Int)=0) then (Al.mk 0 0 0 0) else (J9 s (((((((s.Edges.length:Nat):Int):Int).toNat-(1:Int).toNat:Nat):Int)-0).toNat+1) (Cc (s.Edges.getD 0 default)) 0)
def Zt:CT:=(22,[.agg (Ah.c s)],.val [] (.av (.agg (Al.c (Qg s)))))
abbrev HP:Nat×Blk:=(2,.cells [.i 0,.i 0,.i 0,.i 0] 76)
abbrev FN:Nat×Blk:=(1,.cells (Ah.c s) 29)
abbrev A6 (t_:List (Nat×Tv)):List (Nat×Tv):=(1,tP 1 0)::(2,tP 2 0)::(3,tP 3 0)::t_
abbrev SB:List (Nat×Tv):=(A6 [])
abbrev Vx:List Cl:=[.i (W64 (v3.X0-s.R)),.i (W64 (v3.Y0-s.R)),.i (W64 (v3.X1+s.R)),.i (W64 (v3.Y1+s.R))]
theorem pBox (s:Ah) (h0:(s.Edges.length:Int)<=1000000):PuP 22 (Zt s).2.1 (.av (.agg (Al.c (Qg s)))):=by
 refine pwf Try.func22 fun W0 M0 => ?_
 refine AD<|rn ⟨HO,[(FN s),HP]⟩ ?_
 refine AD<|AD ?_
 refine rn ⟨[(1,tP 1 0),(2,tP 2 0),(10,tB (decide (((s.Edges.length:Int):Int)=0)))],[(FN s),HP]⟩ ?_
 refine Aa _ rfl (fun h1 => ?_) (fun h1 => ?_)
 ·refine AD<|rn ⟨[(2,tP 2 0)],[HP]⟩ ?_
  refine Af<|BZ ?_
  exact xl (.av (.agg [.i 0,.i 0,.i 0,.i 0])) (An (by simp only [Qg,h1,cond_true,cond_false] <;> rfl))
 have g1:=oF h1
 refine Ad<|AJ<|AD ?_
 refine rc [(16,Ht (s.Edges.getD 0 default))] [0<=(0:Int)/\(0:Int)<((s.Edges.length:Nat):Int),Ay (Ht (s.Edges.getD 0 default)).2.1] ⟨SB,[(FN s),HP,(3,Z0w s)]⟩ (.cons (OB (s.Edges.getD 0 default)) .nil) (.cons au1 (.cons rfl .nil))<|AJ ?_
 refine AD<|AD ?_
 refine rc [] [0<=(1:Int)/\(1:Int)<=(((s.Edges.length:Nat):Int):Int)/\(((s.Edges.length:Nat):Int):Int)<=((s.Edges.length:Nat):Int)] ⟨(A6 [(19,.av (.one (.list false 7 ((((s.Edges.length:Nat):Int):Int).toNat-(1:Int).toNat) (fun i_ j_=>(AU AO.c s.Edges) (i_+(1:Int).toNat) j_)))),(20,Z0x s),(21,tI 0)]),[(FN s),HP,(3,Z0w s)]⟩ .nil (.cons au1 .nil)<|AJ ?_
 refine BL (Cv.trans (BH (⟨(A6 [(19,Z0y s),(20,Z0x s),(21,tI 0)]),[(FN s),HP,(3,Z0w s)]⟩) (.cons ⟨rfl,.refl _⟩ (.cons ⟨rfl,.refl _⟩ (.cons ⟨rfl,.refl _⟩ (.cons ⟨rfl,.av (.one (Be false (Us (a:=1) (A8 7 AO.c s.Edges) (by have hc:=(show 0<=(1:Int)/\(1:Int)<=(((s.Edges.length:Nat):Int):Int)/\(((s.Edges.length:Nat):Int):Int)<=((s.Edges.length:Nat):Int) from au1);exact hc.1) (by have hc:=(show 0<=(1:Int)/\(1:Int)<=(((s.Edges.length:Nat):Int):Int)/\(((s.Edges.length:Nat):Int):Int)<=((s.Edges.length:Nat):Int) from au1);exact hc.2.1))))⟩ lr)))) lr) (Cv.refl _))<|AX ?_
 refine BN (ι:=Nat×Al×Int) (fun x=>⟨(A6 [(19,Z0y s),(20,Z0x s),(21,tI x.2.2)]),[(FN s),HP,(3,.cells (Al.c x.2.1) 76)]⟩) (fun x=>((((((s.Edges.length:Nat):Int):Int).toNat-(1:Int).toNat:Nat):Int)-x.2.2).toNat<x.1/\(0<=x.2.2/\(x.2.2<=(((((s.Edges.length:Nat):Int):Int).toNat-(1:Int).toNat:Nat):Int)\/x.2.2=0))/\J9 s x.1 x.2.1 x.2.2=Qg s) (fun x=>x.1) ?_ (((((((s.Edges.length:Nat):Int):Int).toNat-(1:Int).toNat:Nat):Int)-0).toNat+1,Cc (s.Edges.getD 0 default),0) ⟨Nat.lt_succ_self _,⟨ax0,ax0⟩,(by simp only [Qg,h1,cond_true,cond_false])⟩
 rintro ⟨n0,v3,v21⟩ ⟨hm0,hinv0,hF0⟩
 try dsimp only at hm0 hinv0 hF0
 cases n0 with | zero=>exact nz hm0 | succ n0 => ?_
 refine AD<|rn ⟨(A6 [(19,Z0y s),(20,Z0x s),(21,tI v21),(22,tB (decide ((v21:Int)<(((((s.Edges.length:Nat):Int):Int).toNat-(1:Int).toNat:Nat):Int))))]),[(FN s),HP,(3,.cells (Al.c v3) 76)]⟩<|AD ?_
 refine Aa (decide ((v21:Int)<(((((s.Edges.length:Nat):Int):Int).toNat-(1:Int).toNat:Nat):Int))) kr (fun h2 => ?_) (fun h2 => ?_)
 ·have g2:=oT h2
  refine Ad<|AJ ?_
  refine AD<|AX<|AD ?_
  refine rc [] [0<=(v21:Int)/\(v21:Int)<(((s.Edges.drop (1:Int).toNat).length:Nat):Int)] ⟨(A6 [(5,tP 5 0),(19,Z0y s),(20,Z0x s),(21,tI v21)]),[(FN s),HP,(3,.cells (Al.c v3) 76),(5,.cells (AO.c (Z0z s v21)) 133)]⟩ .nil (.cons au1 .nil)<|AJ<|AD ?_
  refine rs 26 (Ht (Z0z s v21)) ⟨(A6 [(6,tP 6 0),(19,Z0y s),(20,Z0x s),(21,tI v21)]),[(FN s),HP,(3,.cells (Al.c v3) 76),(6,.cells (Al.c (Cc (Z0z s v21))) 76)]⟩ (OB (Z0z s v21))<|AJ ?_
  refine rg ⟨(A6 [(19,Z0y s),(20,Z0x s),(21,tI v21)]),[(FN s),HP,(3,Z0A v3 s v21)]⟩<|Bg<|AJ ?_
  refine rg ⟨(A6 [(19,Z0y s),(20,Z0x s),(21,tI (W64 (v21+1)))]),[(FN s),HP,(3,Z0A v3 s v21)]⟩ ?_
  (try rw [(show W64 (v21+1)=v21+1 from Ap oM au8)])
  refine AJ ?_
  refine ⟨(n0,Al.mk (min v3.X0 (Cc (Z0z s v21)).X0) (min v3.Y0 (Cc (Z0z s v21)).Y0) (max v3.X1 (Cc (Z0z s v21)).X1) (max v3.Y1 (Cc (Z0z s v21)).Y1),v21+1),⟨?_,?_,(by rw [<- hF0];simp only [J9,h2,cond_true,cond_false])⟩,Nat.lt_succ_self _,A9 kr⟩
  ·show ((((((s.Edges.length:Nat):Int):Int).toNat-(1:Int).toNat:Nat):Int)-(v21+1)).toNat<n0;omega
  exact ⟨ax0,ax0⟩
 refine BO<|BD ?_
 refine BD<|BP ?_
 refine AJ<|AD ?_
 refine rn ⟨[(2,tP 2 0)],[(2,.cells (Vx v3 s) 76)]⟩<|Af ?_
 exact xl (.av (.agg (Vx v3 s))) (An (by rw [<- hF0];first | (simp only [J9,h2,cond_true,cond_false] <;> rfl)))
theorem okBox (s:Ah) (h0:(s.Edges.length:Int)<=1000000):OKc (Zt s):=cPu<|pBox s h0
def Z0B:Blk:=.cells [.i 0,vN,.i 0] 29
def Z0C:Blk:=.row 7 ([]:List AO).length (AU AO.c ([]:List AO)) 133
def Z0D:Blk:=.cells [.i 2,.own 100000 7 ([]:List AO).length,.i 0] 29
def Z0E:AF:=l.getD (Int.tmod (W64 (k+1)) (l.length:Int)).toNat default
abbrev SC:=[AO.mk 1 (l.getD k.toNat default) (Z0E l k) (AF.mk 0 0)]
def Z0F:Blk:=.cells [.i 2,.own 28 7 (s_1++(SC l k)).length,.i 0] 29
def Z0G:Blk:=.row 7 (s_1++(SC l k)).length (AU AO.c (s_1++(SC l k))) 133
def H5 (l:(List AF)):Nat->List AO->Int->Ah
 | 0,_,_=>default
 | n0+1,s_1,k=>bif decide ((k:Int)<(l.length:Int)) then ((H5 l n0) (s_1++[AO.mk 1 (l.getD k.toNat default) (Z0E l k) (AF.mk 0 0)]) (k+1)) else (Ah.mk 2 s_1 0)
def R1 (l:(List AF)):Ah:=H5 l (((l.length:Int)-0).toNat+1) ([]:List AO) 0
def YO:CT:=(77,[.one (lst 2 AF.c l)],.val [] (.av (.agg (Ah.c (R1 l)))))
abbrev PP:List (Nat×Tv):=[(0,tO (lst 2 AF.c l)),(2,tP 2 0),(3,tP 3 0),(4,tI 0)]
abbrev Iv:Nat×Tv:=(0,tO (lst 2 AF.c l))
theorem pLoop (l:(List AF)) (h0:(l.length:Int)<=1000000):PuP 77 (YO l).2.1 (.av (.agg (Ah.c (R1 l)))):=by
 refine pwf Try.func77 fun W0 M0 => ?_
 refine AD<|rn ⟨[(Iv l),(2,tP 2 0)],[(2,Z0B)]⟩<|AD ?_
 refine rn ⟨[(Iv l),(2,tP 2 0),(3,tP 3 0)],[(2,Z0B),(3,.cells [.i 2,vN,.i 0] 29)]⟩ ?_
 refine AD<|AD ?_
 refine rn ⟨(PP l),[(2,Z0B),(3,.cells [.i 2,vN,.i 0] 29)]⟩<|AX ?_
 refine BL (Cv.trans (wg (⟨(PP l),[(100000,.row 7 0 (fun _ _=>default) 133),(2,Z0B),(3,.cells [.i 2,.own 100000 7 0,.i 0] 29)]⟩) 100000 7 (fun _ _=>default) 133 [] [(3,[1])] hk0) (Cv.trans (BH (⟨(PP l),[(100000,Z0C),(2,Z0B),(3,Z0D)]⟩) lr (.cons ⟨rfl,Ai 133 (B5 7 (fun _ _=>default) AO.c)⟩ (.cons ⟨rfl,.refl _⟩ (.cons ⟨rfl,.cells _ (rr (.cons (.own _ _ au0) (rr .nil)))⟩ .nil)))) (Cv.trans (ck (⟨(PP l),[(2,Z0B),(3,Z0D),(100000,Z0C)]⟩)) (Cv.refl _)))) ?_
 refine BN (ι:=Nat×List AO×Int) (fun x=>⟨[(Iv l),(2,tP 2 0),(3,tP 3 0),(4,tI x.2.2)],[(2,Z0B),(3,.cells [.i 2,.own 100000 7 x.2.1.length,.i 0] 29),(100000,.row 7 x.2.1.length (AU AO.c x.2.1) 133)]⟩) (fun x=>((l.length:Int)-x.2.2).toNat<x.1/\(0<=x.2.2/\(x.2.2<=(l.length:Int)\/x.2.2=0)/\(x.2.1.length:Int)<=0+1*(x.2.2-0))/\H5 l x.1 x.2.1 x.2.2=R1 l) (fun x=>x.1) ?_ (((l.length:Int)-0).toNat+1,([]:List AO),0) ⟨Nat.lt_succ_self _,⟨ax0,ax0,ax0⟩,(by simp only [R1,cond_true,cond_false])⟩
 rintro ⟨n0,s_1,k⟩ ⟨hm0,hinv0,hF0⟩
 try dsimp only at hm0 hinv0 hF0
 cases n0 with | zero=>exact nz hm0 | succ n0 => ?_
 refine AD<|AD ?_
 refine rn ⟨[(Iv l),(2,tP 2 0),(3,tP 3 0),(4,tI k),(9,tB (decide ((k:Int)<(l.length:Int))))],[(2,Z0B),(3,.cells [.i 2,.own 100000 7 s_1.length,.i 0] 29),(100000,.row 7 s_1.length (AU AO.c s_1) 133)]⟩ ?_
 refine Aa _ rfl (fun h1 => ?_) (fun h1 => ?_)
 ·have g1:=oT h1
  refine Ad<|AJ ?_
  refine AD<|AX ?_
  refine dw [] [] [0<=(k:Int)/\(k:Int)<((l.length:Nat):Int),((l.length:Int):Int)≠0,0<=(Int.tmod (W64 (k+1)) (l.length:Int):Int)/\(Int.tmod (W64 (k+1)) (l.length:Int):Int)<((l.length:Nat):Int),s_1.length=s_1.length,s_1.length+1<=maxLen,(s_1.length+1)*56<=140737488355328] ⟨[(Iv l),(2,tP 2 0),(3,tP 3 0),(4,tI k)],[(2,Z0B),(3,.cells [.i 2,.own 28 7 (s_1.length+1),.i 0] 29),(28,.row 7 (s_1.length+1) (fun i_ j_=>if i_<s_1.length then (AU AO.c s_1) i_ j_ else (Au 7 1 [.i 1,.i (l.getD k.toNat default).X,.i (l.getD k.toNat default).Y,.i (Z0E l k).X,.i (Z0E l k).Y,.i 0,.i 0]) (i_-s_1.length) j_) 133)]⟩ .nil (.cons au1 (.cons au15 (.cons au1 (.cons rfl (.cons au3 (.cons au3 .nil))))))<|Bg<|AJ ?_
  refine BL (Cv.trans (BH (⟨[(Iv l),(2,tP 2 0),(3,tP 3 0),(4,tI k)],[(2,Z0B),(3,Z0F s_1 l k),(28,Z0G s_1 l k)]⟩) lr (.cons ⟨rfl,.refl _⟩ (.cons ⟨rfl,.cells _ (rr (.cons (.own _ _ au0) (rr .nil)))⟩ (.cons ⟨rfl,Ai 133 (BM (A8 7 AO.c s_1) (Ar (c:=AO.c) (xs:=([AO.mk 1 (l.getD k.toNat default) (Z0E l k) (AF.mk 0 0)]:List AO)) rfl kr))⟩ .nil)))) (Cv.refl _)) ?_
  refine rg ⟨[(Iv l),(2,tP 2 0),(3,tP 3 0),(4,tI (W64 (k+1)))],[(2,Z0B),(3,Z0F s_1 l k),(28,Z0G s_1 l k)]⟩ ?_
  (try rw [(show W64 (k+1)=k+1 from Ap oM au8)])
  refine AJ ?_
  refine ⟨(n0,s_1++[AO.mk 1 (l.getD k.toNat default) (Z0E l k) (AF.mk 0 0)],k+1),⟨?_,?_,(by rw [<- hF0];simp only [H5,h1,cond_true,cond_false])⟩,Nat.lt_succ_self _,Cv.trans (vr 28 100000 hk0) (A9 kr)⟩
  ·show ((l.length:Int)-(k+1)).toNat<n0;omega
  exact ⟨ax0,ax0,ax0⟩
 refine BO<|BD ?_
 refine BD<|BP ?_
 refine AJ<|AD ?_
 refine rn ⟨[(2,tP 2 0)],[(2,.cells [.i 2,.own 100000 7 s_1.length,.i 0] 29),(100000,.row 7 s_1.length (AU AO.c s_1) 133)]⟩<|Af ?_
 exact yl (Cv.trans (vf 100000 7 s_1.length (AU AO.c s_1) 133 hk0 (.cons ⟨rfl,rfl⟩ .nil)) (Cv.refl _)) (.av (.agg [.i 2,lst 7 AO.c s_1,.i 0])) (An (by rw [<- hF0];first | (simp only [H5,h1,cond_true,cond_false] <;> rfl)))
theorem cA (l:(List AF)) (h0:(l.length:Int)<=1000000):OKc (YO l):=cPu<|pLoop l h0
def Z0H:Ah:=R1 [AF.mk r.X0 r.Y0,AF.mk r.X1 r.Y0,AF.mk r.X1 r.Y1,AF.mk r.X0 r.Y1]
def C4 (r:Al):Ah:=Z0H r
def HJ:CT:=(50,[.agg (Al.c r)],.val [] (.av (.agg (Ah.c (C4 r)))))
theorem bI (r:Al):PuP 50 (HJ r).2.1 (.av (.agg (Ah.c (C4 r)))):=by
 refine pwf Try.func50 fun W0 M0 => ?_
 refine AD<|rn ⟨HO,[(1,.cells (Al.c r) 76),(2,.cells [.i 0,vN,.i 0] 29)]⟩<|AD ?_
 refine rs 24 (ceI [.one (.list true 2 4 (Au 2 4 [.i r.X0,.i r.Y0,.i r.X1,.i r.Y0,.i r.X1,.i r.Y1,.i r.X0,.i r.Y1]))] (YO [AF.mk r.X0 r.Y0,AF.mk r.X1 r.Y0,AF.mk r.X1 r.Y1,AF.mk r.X0 r.Y1])) ⟨[(2,tP 2 0)],[(2,.cells (Ah.c (Z0H r)) 29)]⟩ (CX (cA [AF.mk r.X0 r.Y0,AF.mk r.X1 r.Y0,AF.mk r.X1 r.Y1,AF.mk r.X0 r.Y1] au9) (.cons (.one (Be true (Ar (c:=AF.c) (xs:=([AF.mk r.X0 r.Y0,AF.mk r.X1 r.Y0,AF.mk r.X1 r.Y1,AF.mk r.X0 r.Y1]:List AF)) rfl kr))) .nil))<|AJ<|Af ?_
 exact xl (.av (.agg (Ah.c (Z0H r)))) (An (by rfl))
theorem Lh (r:Al):OKc (HJ r):=cPu<|bI r
def Dt (x0:AF) (x1:Int):Ah:=Ah.mk 1 [AO.mk 1 x0 x0 (AF.mk 0 0)] x1
def Kq:CT:=(28,[.agg (AF.c x0),.one (.i x1)],.val [] (.av (.agg (Ah.c (Dt x0 x1)))))
theorem bR (x0:AF) (x1:Int):PuP 28 (Kq x0 x1).2.1 (.av (.agg (Ah.c (Dt x0 x1)))):=by
 refine pwf Try.func28 fun W0 M0 => ?_
 refine AD<|rn ⟨[(1,tI x1),(2,tP 2 0),(4,tP 4 0)],[(2,.cells (AF.c x0) 52),Lo]⟩<|AD ?_
 refine rn ⟨[(4,tP 4 0)],[(4,.cells [.i 1,.list true 7 1 (Au 7 1 [.i 1,.i x0.X,.i x0.Y,.i x0.X,.i x0.Y,.i 0,.i 0]),.i x1] 29)]⟩<|Af ?_
 exact xl (.av (.agg [.i 1,.list true 7 1 (Au 7 1 [.i 1,.i x0.X,.i x0.Y,.i x0.X,.i x0.Y,.i 0,.i 0]),.i x1])) (DC (y:=.av (.agg [.i 1,lst 7 AO.c [AO.mk 1 x0 x0 (AF.mk 0 0)],.i x1])) (.av (.agg (rr (.cons (Be true (Ar (c:=AO.c) (xs:=([AO.mk 1 x0 x0 (AF.mk 0 0)]:List AO)) rfl kr)) (rr .nil))))) (by rfl))
theorem T0 (x0:AF) (x1:Int):OKc (Kq x0 x1):=cPu<|bR x0 x1
end
abbrev Nv:List Cl:=[.i 0,.i 0,vN,.i 0,vN,vN,vN,vN,vN,vN,vN,vN,vN,vN,vN]
def Z0I:Blk:=.cells Nv 42
abbrev KR:=C4 (Al.mk 10 (-3) 20 3)
abbrev KO:=Dt (AF.mk 0 0) 5
def Z0J:Blk:=.cells [.s ({ data := #[84] }:ByteArray),.list true 7 2 (Au 7 2 [.s ({ data := #[65] }:ByteArray),.i KO.Kind,lst 7 AO.c KO.Edges,.i KO.R,.i 0,.i 0,.i 4,.s ({ data := #[66] }:ByteArray),.i KR.Kind,lst 7 AO.c KR.Edges,.i KR.R,.i 15,.i 0,.i 0]),vN] 114
def Z0K:Blk:=.cells [.i 2,.i 0,vN,.i 0,.list true 7 2 (Au 7 2 [.i 7,.s ({ data := #[85,49] }:ByteArray),.s ({ data := #[84] }:ByteArray),.i 100,.i 50,.i 1,.b false,.i 3,.s ({ data := #[85,50] }:ByteArray),.s ({ data := #[84] }:ByteArray),.i 0,.i 0,.i 0,.b true]),.list true 2 1 (Au 2 1 [.s ({ data := #[78] }:ByteArray),.list true 2 2 (Au 2 2 [.s ({ data := #[85,49] }:ByteArray),.s ({ data := #[66] }:ByteArray),.s ({ data := #[85,50] }:ByteArray),.s ({ data := #[65] }:ByteArray)])]),vN,vN,vN,vN,vN,vN,vN,vN,vN] 42
def AQ:(AH×(List AP)):=(AH.mk 2 (Ah.mk 0 [] 0) [AG.mk 7 ({ data := #[85,49] }:ByteArray) ({ data := #[84] }:ByteArray) (AF.mk 100 50) 1 false,AG.mk 3 ({ data := #[85,50] }:ByteArray) ({ data := #[84] }:ByteArray) (AF.mk 0 0) 0 true] [BA.mk ({ data := #[78] }:ByteArray) [Ab.mk ({ data := #[85,49] }:ByteArray) ({ data := #[66] }:ByteArray),Ab.mk ({ data := #[85,50] }:ByteArray) ({ data := #[65] }:ByteArray)]] [] [] [] [] [] [] [] [] [],[AP.mk ({ data := #[84] }:ByteArray) [A3.mk ({ data := #[65] }:ByteArray) (Dt (AF.mk 0 0) 5) (AF.mk 0 0) 4,A3.mk ({ data := #[66] }:ByteArray) (C4 (Al.mk 10 (-3) 20 3)) (AF.mk 15 0) 0] []])
def HG:CT:=(19,[],.val [] (.tup [.agg (AH.c AQ.1),.one (lst 3 AP.c AQ.2)]))
theorem Sk  : FE Try.prog 19 (HG ).2.1 (.tup [.agg (AH.c AQ.1),.one (lst 3 AP.c AQ.2)]):=by
 refine pwf Try.func19 fun W0 M0 => ?_
 refine AD<|rn ⟨[(0,tP 0 0)],[(0,Z0I)]⟩<|AD ?_
 refine rc [(5,Kq (AF.mk 0 0) 5),(8,HJ (Al.mk 10 (-3) 20 3))] [Ay (Kq (AF.mk 0 0) 5).2.1,Ay (HJ (Al.mk 10 (-3) 20 3)).2.1] ⟨[(0,tP 0 0),(2,tP 2 0)],[(0,Z0I),(2,Z0J)]⟩ (.cons (T0 (AF.mk 0 0) 5) (.cons (Lh (Al.mk 10 (-3) 20 3)) .nil)) (.cons rfl (.cons rfl .nil))<|AJ<|AD ?_
 refine rn ⟨[(0,tP 0 0),(2,tP 2 0),(3,tP 3 0)],[(0,Z0I),(2,Z0J),(3,.cells [.i 2,.i 0,vN,.i 0,.list true 7 2 (Au 7 2 [.i 7,.s ({ data := #[85,49] }:ByteArray),.s ({ data := #[84] }:ByteArray),.i 100,.i 50,.i 1,.b false,.i 3,.s ({ data := #[85,50] }:ByteArray),.s ({ data := #[84] }:ByteArray),.i 0,.i 0,.i 0,.b true]),vN,vN,vN,vN,vN,vN,vN,vN,vN,vN] 42)]⟩<|AD ?_
 refine rn ⟨[(0,tP 0 0),(2,tP 2 0),(3,tP 3 0)],[(0,Z0I),(2,Z0J),(3,Z0K)]⟩<|AD ?_
 refine dw [] [] [] ⟨[(0,tP 0 0),(1,.av (.one (.list true 3 1 (Au 3 1 [.s ({ data := #[84] }:ByteArray),.list true 7 2 (Au 7 2 [.s ({ data := #[65] }:ByteArray),.i KO.Kind,lst 7 AO.c KO.Edges,.i KO.R,.i 0,.i 0,.i 4,.s ({ data := #[66] }:ByteArray),.i KR.Kind,lst 7 AO.c KR.Edges,.i KR.R,.i 15,.i 0,.i 0]),vN]))))],[(0,Z0K)]⟩ .nil .nil<|AJ<|Af ?_
 exact xl (.tup [.agg [.i 2,.i 0,vN,.i 0,.list true 7 2 (Au 7 2 [.i 7,.s ({ data := #[85,49] }:ByteArray),.s ({ data := #[84] }:ByteArray),.i 100,.i 50,.i 1,.b false,.i 3,.s ({ data := #[85,50] }:ByteArray),.s ({ data := #[84] }:ByteArray),.i 0,.i 0,.i 0,.b true]),.list true 2 1 (Au 2 1 [.s ({ data := #[78] }:ByteArray),.list true 2 2 (Au 2 2 [.s ({ data := #[85,49] }:ByteArray),.s ({ data := #[66] }:ByteArray),.s ({ data := #[85,50] }:ByteArray),.s ({ data := #[65] }:ByteArray)])]),vN,vN,vN,vN,vN,vN,vN,vN,vN],.one (.list true 3 1 (Au 3 1 [.s ({ data := #[84] }:ByteArray),.list true 7 2 (Au 7 2 [.s ({ data := #[65] }:ByteArray),.i (Dt (AF.mk 0 0) 5).Kind,lst 7 AO.c (Dt (AF.mk 0 0) 5).Edges,.i (Dt (AF.mk 0 0) 5).R,.i 0,.i 0,.i 4,.s ({ data := #[66] }:ByteArray),.i (C4 (Al.mk 10 (-3) 20 3)).Kind,lst 7 AO.c (C4 (Al.mk 10 (-3) 20 3)).Edges,.i (C4 (Al.mk 10 (-3) 20 3)).R,.i 15,.i 0,.i 0]),vN]))]) (DC (y:=.tup [.agg [.i 2,.i 0,lst 7 AO.c [],.i 0,lst 7 AG.c [AG.mk 7 ({ data := #[85,49] }:ByteArray) ({ data := #[84] }:ByteArray) (AF.mk 100 50) 1 false,AG.mk 3 ({ data := #[85,50] }:ByteArray) ({ data := #[84] }:ByteArray) (AF.mk 0 0) 0 true],lst 2 BA.c [BA.mk ({ data := #[78] }:ByteArray) [Ab.mk ({ data := #[85,49] }:ByteArray) ({ data := #[66] }:ByteArray),Ab.mk ({ data := #[85,50] }:ByteArray) ({ data := #[65] }:ByteArray)]],lst 6 Aj.c [],lst 8 Br.c [],lst 8 BB.c [],lst 5 BS.c [],lst 4 Bb.c [],lst 2 BJ.c [],lst 20 Aq.c [],lst 3 Ao.c [],lst 3 BW.c []],.one (lst 3 AP.c [AP.mk ({ data := #[84] }:ByteArray) [A3.mk ({ data := #[65] }:ByteArray) (Dt (AF.mk 0 0) 5) (AF.mk 0 0) 4,A3.mk ({ data := #[66] }:ByteArray) (C4 (Al.mk 10 (-3) 20 3)) (AF.mk 15 0) 0] []])]) (.tup (.cons (.agg (rr2 (.cons (CY 7 AO.c) (rr (.cons (Be true (Ar (c:=AG.c) (xs:=([AG.mk 7 ({ data := #[85,49] }:ByteArray) ({ data := #[84] }:ByteArray) (AF.mk 100 50) 1 false,AG.mk 3 ({ data := #[85,50] }:ByteArray) ({ data := #[84] }:ByteArray) (AF.mk 0 0) 0 true]:List AG)) rfl kr)) (.cons (Be true (EQ (c:=BA.c) (xs:=([BA.mk ({ data := #[78] }:ByteArray) [Ab.mk ({ data := #[85,49] }:ByteArray) ({ data := #[66] }:ByteArray),Ab.mk ({ data := #[85,50] }:ByteArray) ({ data := #[65] }:ByteArray)]]:List BA)) (y:=[[.s ({ data := #[78] }:ByteArray),.list true 2 2 (Au 2 2 [.s ({ data := #[85,49] }:ByteArray),.s ({ data := #[66] }:ByteArray),.s ({ data := #[85,50] }:ByteArray),.s ({ data := #[65] }:ByteArray)])]]) (z:=[[.s ({ data := #[78] }:ByteArray),lst 2 Ab.c [Ab.mk ({ data := #[85,49] }:ByteArray) ({ data := #[66] }:ByteArray),Ab.mk ({ data := #[85,50] }:ByteArray) ({ data := #[65] }:ByteArray)]]]) rfl kr kr (.cons (rr (.cons (Be true (Ar (c:=Ab.c) (xs:=([Ab.mk ({ data := #[85,49] }:ByteArray) ({ data := #[66] }:ByteArray),Ab.mk ({ data := #[85,50] }:ByteArray) ({ data := #[65] }:ByteArray)]:List Ab)) rfl kr)) .nil)) .nil))) (.cons (CY 6 Aj.c) (.cons (CY 8 Br.c) (.cons (CY 8 BB.c) (.cons (CY 5 BS.c) (.cons (CY 4 Bb.c) (.cons (CY 2 BJ.c) (.cons (CY 20 Aq.c) (.cons (CY 3 Ao.c) (.cons (CY 3 BW.c) .nil))))))))))))))) (.cons (.one (Be true (EQ (c:=AP.c) (xs:=([AP.mk ({ data := #[84] }:ByteArray) [A3.mk ({ data := #[65] }:ByteArray) (Dt (AF.mk 0 0) 5) (AF.mk 0 0) 4,A3.mk ({ data := #[66] }:ByteArray) (C4 (Al.mk 10 (-3) 20 3)) (AF.mk 15 0) 0] []]:List AP)) (y:=[[.s ({ data := #[84] }:ByteArray),.list true 7 2 (Au 7 2 [.s ({ data := #[65] }:ByteArray),.i (Dt (AF.mk 0 0) 5).Kind,lst 7 AO.c (Dt (AF.mk 0 0) 5).Edges,.i (Dt (AF.mk 0 0) 5).R,.i 0,.i 0,.i 4,.s ({ data := #[66] }:ByteArray),.i (C4 (Al.mk 10 (-3) 20 3)).Kind,lst 7 AO.c (C4 (Al.mk 10 (-3) 20 3)).Edges,.i (C4 (Al.mk 10 (-3) 20 3)).R,.i 15,.i 0,.i 0]),vN]]) (z:=[[.s ({ data := #[84] }:ByteArray),lst 7 A3.c [A3.mk ({ data := #[65] }:ByteArray) (Dt (AF.mk 0 0) 5) (AF.mk 0 0) 4,A3.mk ({ data := #[66] }:ByteArray) (C4 (Al.mk 10 (-3) 20 3)) (AF.mk 15 0) 0],lst 2 A1.c []]]) rfl kr kr (.cons (rr (.cons (Be true (Ar (c:=A3.c) (xs:=([A3.mk ({ data := #[65] }:ByteArray) (Dt (AF.mk 0 0) 5) (AF.mk 0 0) 4,A3.mk ({ data := #[66] }:ByteArray) (C4 (Al.mk 10 (-3) 20 3)) (AF.mk 15 0) 0]:List A3)) rfl kr)) (.cons (CY 2 A1.c) .nil))) .nil)))) .nil))) (by rfl))
theorem LB  : OKc (HG ):=cPu<|Sk
def On (x:A0) (id_:Int) (pad:ByteArray) (net:ByteArray) (from_:Int) (to_:Int):Bool:=bif bif bif bif bif decide ((x.Id:Int)=id_) then (x.Pad.toList==pad.toList) else false then (x.Net.toList==net.toList) else false then decide ((x.From:Int)=from_) else false then decide ((x.To:Int)=to_) else false then decide ((x.Kind:Int)=1) else false
def Ij (x:A0) (id_:Int) (pad:ByteArray) (net:ByteArray) (from_:Int) (to_:Int):CT:=(21,[.agg (A0.c x),.one (.i id_),.one (.s pad),.one (.s net),.one (.i from_),.one (.i to_)],.val [] (.av (.one (.b (On x id_ pad net from_ to_)))))
theorem pis18 (x:A0) (id_:Int) (pad:ByteArray) (net:ByteArray) (from_:Int) (to_:Int):PuP 21 (Ij x id_ pad net from_ to_).2.1 (tO (.b (On x id_ pad net from_ to_))):=by
 refine pwf Try.func21 fun W0 M0 => ?_
 refine AD<|rn ⟨[(1,tI id_),(2,tO (.s pad)),(3,tO (.s net)),(4,tI from_),(5,tI to_),(6,tP 6 0)],[(6,.cells (A0.c x) 63)]⟩<|AD ?_
 refine rc [] (t4 (decide ((x.Id:Int)=id_)) (t4 (bif decide ((x.Id:Int)=id_) then (x.Pad.toList==pad.toList) else false) (t4 (bif bif decide ((x.Id:Int)=id_) then (x.Pad.toList==pad.toList) else false then (x.Net.toList==net.toList) else false) (t4 (bif bif bif decide ((x.Id:Int)=id_) then (x.Pad.toList==pad.toList) else false then (x.Net.toList==net.toList) else false then decide ((x.From:Int)=from_) else false) (t3 (bif bif bif bif decide ((x.Id:Int)=id_) then (x.Pad.toList==pad.toList) else false then (x.Net.toList==net.toList) else false then decide ((x.From:Int)=from_) else false then decide ((x.To:Int)=to_) else false) []))))) ⟨[(12,tB (bif bif bif bif bif decide ((x.Id:Int)=id_) then (x.Pad.toList==pad.toList) else false then (x.Net.toList==net.toList) else false then decide ((x.From:Int)=from_) else false then decide ((x.To:Int)=to_) else false then decide ((x.Kind:Int)=1) else false))],[]⟩ .nil (c4 (c4 (c4 (c4 (c3 .nil)))))<|AJ<|Af ?_
 exact xl (tO (.b (bif bif bif bif bif decide ((x.Id:Int)=id_) then (x.Pad.toList==pad.toList) else false then (x.Net.toList==net.toList) else false then decide ((x.From:Int)=from_) else false then decide ((x.To:Int)=to_) else false then decide ((x.Kind:Int)=1) else false))) (An (by rfl))
theorem Pz (x:A0) (id_:Int) (pad:ByteArray) (net:ByteArray) (from_:Int) (to_:Int):OKc (Ij x id_ pad net from_ to_):=cPu<|pis18 x id_ pad net from_ to_
theorem X6:CN AQ.2:=by
 refine ⟨by decide,fun t ht => ?_⟩
 rw [show AQ.2=[AQ.2.getD 0 default] from rfl,List.mem_singleton] at ht
 subst ht
 refine ⟨by decide,by decide,fun p hp => ?_,fun g hg=>by cases hg⟩
 have hl:(AQ.2.getD 0 default).Pads=[(AQ.2.getD 0 default).Pads.getD 0 default,(AQ.2.getD 0 default).Pads.getD 1 default]:=rfl
 rw [hl] at hp
 simp only [List.mem_cons,List.not_mem_nil,or_false] at hp
 rcases hp with rfl | rfl <;> (unfold Rx;decide)
theorem Zm:∀ n∈AQ.1.Nets,(n.Pins.length:Int)<=1000000:=by
 intro n hn
 rw [show AQ.1.Nets=[AQ.1.Nets.getD 0 default] from rfl,List.mem_singleton] at hn
 subst hn
 decide
def Z0L (ref:ByteArray) (pad:ByteArray):AF:=(FAt AQ.1 AQ.2 (Ab.mk ref pad)).1
def Z0M (ref:ByteArray) (pad:ByteArray):Bool:=(FAt AQ.1 AQ.2 (Ab.mk ref pad)).2.2
def Oo (ref:ByteArray) (pad:ByteArray) (x:Int) (y:Int) (layer:Int):Bool:=bif bif ((Z0M ref pad)==(decide ((0:Int)<layer))) then (decide ((Z0L ref pad).X=x)&&(decide ((Z0L ref pad).Y=y)&&true)) else false then decide (((FAt AQ.1 AQ.2 (Ab.mk ref pad)).2.1:Int)=layer) else false
def Ik (ref:ByteArray) (pad:ByteArray) (x:Int) (y:Int) (layer:Int):CT:=(23,[.one (.s ref),.one (.s pad),.one (.i x),.one (.i y),.one (.i layer)],.val [] (.av (.one (.b (Oo ref pad x y layer)))))
theorem au17 {p:Prop} (h:p:=by first | (exact X6) | (exact Zm) | (decide +kernel) | with_reducible assumption | omega | decide | (simp only [List.length_cons,List.length_nil,List.length_append];omega) | assumption):p:=h
theorem pat18 (ref:ByteArray) (pad:ByteArray) (x:Int) (y:Int) (layer:Int):PuP 23 (Ik ref pad x y layer).2.1 (tO (.b (Oo ref pad x y layer))):=by
 refine pwf Try.func23 fun W0 M0 => ?_
 refine AD<|rn ⟨[(0,tO (.s ref)),(1,tO (.s pad)),(2,tI x),(3,tI y),(4,tI layer)],[]⟩<|AD ?_
 refine rs 17 HG ⟨[(0,tO (.s ref)),(1,tO (.s pad)),(2,tI x),(3,tI y),(4,tI layer),(11,tP 11 0),(12,tO (lst 3 AP.c AQ.2))],[(11,.cells (AH.c AQ.1) 42)]⟩ LB<|AJ<|AD ?_
 refine rs 26 (ceI [.agg (AH.c AQ.1),.one (lst 3 AP.c AQ.2),.agg [.s ref,.s pad]] (cAt AQ.1 AQ.2 (Ab.mk ref pad))) ⟨[(2,tI x),(3,tI y),(4,tI layer),(13,tP 13 0),(14,tI (FAt AQ.1 AQ.2 (Ab.mk ref pad)).2.1),(15,tB (Z0M ref pad))],[(13,.cells (AF.c (Z0L ref pad)) 52)]⟩ (CX (cC AQ.1 AQ.2 (Ab.mk ref pad) au17 au17) (.cons (.agg (rr9 (rr3 (.cons (.any _) (rr (rr .nil)))))) (.cons (AvE.refl _) (.cons (AvE.refl _) .nil))))<|AJ<|AD ?_
 refine rc [] (t5 ((Z0M ref pad)==(decide ((0:Int)<layer))) (t3 (bif ((Z0M ref pad)==(decide ((0:Int)<layer))) then (decide ((Z0L ref pad).X=x)&&(decide ((Z0L ref pad).Y=y)&&true)) else false) [])) ⟨[(10,tB (bif bif ((Z0M ref pad)==(decide ((0:Int)<layer))) then (decide ((Z0L ref pad).X=x)&&(decide ((Z0L ref pad).Y=y)&&true)) else false then decide (((FAt AQ.1 AQ.2 (Ab.mk ref pad)).2.1:Int)=layer) else false))],[]⟩ .nil (c5 (c3 .nil))<|AJ<|Af ?_
 exact xl (tO (.b (bif bif ((Z0M ref pad)==(decide ((0:Int)<layer))) then (decide ((Z0L ref pad).X=x)&&(decide ((Z0L ref pad).Y=y)&&true)) else false then decide (((FAt AQ.1 AQ.2 (Ab.mk ref pad)).2.1:Int)=layer) else false))) (An (by rfl))
theorem P0 (ref:ByteArray) (pad:ByteArray) (x:Int) (y:Int) (layer:Int):OKc (Ik ref pad x y layer):=cPu<|pat18 ref pad x y layer
abbrev L0:=Am AQ.1 AQ.2
def Z0N:Tv:=.av (.one (lst 9 A0.c L0))
def Z0O:Bool := !decide ((((Am AQ.1 AQ.2).length:Int):Int)=4)
def Z0P:Bool:=bif Z0O then true else !(decide ((Ba (AQ.1.Parts.getD 1 default)).At.X=0)&&(decide ((Ba (AQ.1.Parts.getD 1 default)).At.Y=0)&&(decide ((Ba (AQ.1.Parts.getD 1 default)).Turn=0)&&(((Ba (AQ.1.Parts.getD 1 default)).Mirror==true)&&true))))
def Z0Q:A0:=(Am AQ.1 AQ.2).getD 0 default
def Z0R:Bool:=On Z0Q 3 ({ data := #[65] }:ByteArray) ({ data := #[78] }:ByteArray) 1 2
def Z0S:Bool:=bif Z0R then On ((Am AQ.1 AQ.2).getD 1 default) 3 ({ data := #[66] }:ByteArray) ({ data := #[] }:ByteArray) 2 2 else false
def Z0T:Bool:=bif Z0S then On ((Am AQ.1 AQ.2).getD 2 default) 7 ({ data := #[65] }:ByteArray) ({ data := #[] }:ByteArray) 1 2 else false
def Z0U:Bool:=bif Z0T then On ((Am AQ.1 AQ.2).getD 3 default) 7 ({ data := #[66] }:ByteArray) ({ data := #[78] }:ByteArray) 1 1 else false
def Z0V:Bool:=bif Z0U then (decide ((Qg ((Am AQ.1 AQ.2).getD 3 default).Shape).X0=97)&&(decide ((Qg ((Am AQ.1 AQ.2).getD 3 default).Shape).Y0=60)&&(decide ((Qg ((Am AQ.1 AQ.2).getD 3 default).Shape).X1=103)&&(decide ((Qg ((Am AQ.1 AQ.2).getD 3 default).Shape).Y1=70)&&true)))) else false
def Z0W:Bool:=bif Z0V then Oo ({ data := #[85,49] }:ByteArray) ({ data := #[66] }:ByteArray) 100 65 1 else false
def Z0X:Bool:=bif Z0W then Oo ({ data := #[85,50] }:ByteArray) ({ data := #[66] }:ByteArray) (-15) 0 2 else false
def Z0Y:Bool:=bif Z0X then Oo ({ data := #[85,51] }:ByteArray) ({ data := #[65] }:ByteArray) 0 0 0 else false
def Z0Z:Bool:=bif Z0Y then Oo ({ data := #[85,49] }:ByteArray) ({ data := #[67] }:ByteArray) 0 0 0 else false
def CF:Bool:=bif Z0P then false else Z0Z
def Ki:CT:=(7,[],.val [] (.av (.one (.b CF))))
theorem U0  : FE Try.prog 7 (Ki ).2.1 (tO (.b CF)):=by
 refine pwf Try.func7 fun W0 M0 => ?_
 refine AD<|rn ⟨[],[]⟩<|AD ?_
 refine rs 6 HG ⟨[(1,tP 1 0),(2,tO (lst 3 AP.c AQ.2))],[(1,.cells (AH.c AQ.1) 42)]⟩ LB<|AJ<|AD ?_
 refine rs 11 (ceI [.agg (AH.c AQ.1),.one (lst 3 AP.c AQ.2)] (Ko AQ.1 AQ.2)) ⟨[(1,tP 1 0),(3,Z0N)],[(1,.cells (AH.c AQ.1) 42)]⟩ (CX (P1 AQ.1 AQ.2 au17 au17 au17 au17 au17) (.cons (.agg (rr9 (rr3 (.cons (.any _) (rr (rr .nil)))))) (.cons (AvE.refl _) .nil)))<|AJ ?_
 refine AD<|AD ?_
 refine rc [(20,GG (AQ.1.Parts.getD 1 default))] [(Z0O=false)->(Z0O=false),(Z0O=false)->(Z0O=false),(Z0O=false)->(0<=(1:Int)/\(1:Int)<((AQ.1.Parts.length:Nat):Int)),(Z0O=false)->(Z0O=false),(Z0O=false)->(Z0O=false),(Z0O=false)->(Ay (GG (AQ.1.Parts.getD 1 default)).2.1),(Z0O=false)->(Z0O=false),(Z0O=false)->(Z0O=false),Z0O=false->(Z0O=false)] ⟨[(3,Z0N),(23,tB Z0P)],[]⟩ (.cons (Ms (AQ.1.Parts.getD 1 default)) .nil) (ci (ci (.cons (fun hG=>by first | exact (by decide +kernel) | (simp only [decide_eq_true_eq,decide_eq_false_iff_not,Bool.not_eq_true,Bool.and_eq_true] at hG <;> omega) | (simp at hG <;> omega) | (simp only [decide_eq_true_eq,decide_eq_false_iff_not] at hG;simp only [C9];omega)) (ci (ci (.cons (fun _=>rfl) (ci (ci (ci .nil)))))))))<|AJ ?_
 refine Aa _ rfl (fun h1 => ?_) (fun h1 => ?_)
 ·refine AD<|rn ⟨[(0,tB false)],[]⟩ ?_
  refine Af<|BZ ?_
  exact xl (tO (.b false)) (An (by simp only [CF,h1,cond_true,cond_false] <;> rfl))
 refine Ad<|AJ<|AD ?_
 refine rc [(27,Ij Z0Q 3 ({ data := #[65] }:ByteArray) ({ data := #[78] }:ByteArray) 1 2),(32,Ij (L0.getD 1 default) 3 ({ data := #[66] }:ByteArray) ({ data := #[] }:ByteArray) 2 2),(38,Ij (L0.getD 2 default) 7 ({ data := #[65] }:ByteArray) ({ data := #[] }:ByteArray) 1 2),(44,Ij (L0.getD 3 default) 7 ({ data := #[66] }:ByteArray) ({ data := #[78] }:ByteArray) 1 1)] [0<=(0:Int)/\(0:Int)<(((Am AQ.1 AQ.2).length:Nat):Int),Ay (Ij Z0Q 3 ({ data := #[65] }:ByteArray) ({ data := #[78] }:ByteArray) 1 2).2.1,(Z0R=true)->(Z0R=true),(Z0R=true)->(0<=(1:Int)/\(1:Int)<(((Am AQ.1 AQ.2).length:Nat):Int)),(Z0R=true)->(Z0R=true),(Z0R=true)->(Z0R=true),(Z0R=true)->(Ay (Ij ((Am AQ.1 AQ.2).getD 1 default) 3 ({ data := #[66] }:ByteArray) ({ data := #[] }:ByteArray) 2 2).2.1),Z0R=true->(Z0R=true),(Z0S=true)->(Z0S=true),(Z0S=true)->(0<=(2:Int)/\(2:Int)<(((Am AQ.1 AQ.2).length:Nat):Int)),(Z0S=true)->(Z0S=true),(Z0S=true)->(Z0S=true),(Z0S=true)->(Ay (Ij ((Am AQ.1 AQ.2).getD 2 default) 7 ({ data := #[65] }:ByteArray) ({ data := #[] }:ByteArray) 1 2).2.1),Z0S=true->(Z0S=true),(Z0T=true)->(Z0T=true),(Z0T=true)->(0<=(3:Int)/\(3:Int)<(((Am AQ.1 AQ.2).length:Nat):Int)),(Z0T=true)->(Z0T=true),(Z0T=true)->(Z0T=true),(Z0T=true)->(Ay (Ij ((Am AQ.1 AQ.2).getD 3 default) 7 ({ data := #[66] }:ByteArray) ({ data := #[78] }:ByteArray) 1 1).2.1),Z0T=true->(Z0T=true)] ⟨[(3,Z0N),(4,tB Z0U)],[]⟩ (.cons (Pz Z0Q 3 ({ data := #[65] }:ByteArray) ({ data := #[78] }:ByteArray) 1 2) (.cons (Pz ((Am AQ.1 AQ.2).getD 1 default) 3 ({ data := #[66] }:ByteArray) ({ data := #[] }:ByteArray) 2 2) (.cons (Pz ((Am AQ.1 AQ.2).getD 2 default) 7 ({ data := #[65] }:ByteArray) ({ data := #[] }:ByteArray) 1 2) (.cons (Pz ((Am AQ.1 AQ.2).getD 3 default) 7 ({ data := #[66] }:ByteArray) ({ data := #[78] }:ByteArray) 1 1) .nil)))) (.cons (by decide +kernel) (.cons rfl (ci (.cons (fun hG=>by first | exact (by decide +kernel) | (simp only [decide_eq_true_eq,decide_eq_false_iff_not,Bool.not_eq_true,Bool.and_eq_true] at hG <;> omega) | (simp at hG <;> omega) | (simp only [decide_eq_true_eq,decide_eq_false_iff_not] at hG;simp only [C9];omega)) (ci (ci (.cons (fun _=>rfl) (ci (ci (.cons (fun hG=>by first | exact (by decide +kernel) | (simp only [decide_eq_true_eq,decide_eq_false_iff_not,Bool.not_eq_true,Bool.and_eq_true] at hG <;> omega) | (simp at hG <;> omega) | (simp only [decide_eq_true_eq,decide_eq_false_iff_not] at hG;simp only [C9];omega)) (ci (ci (.cons (fun _=>rfl) (ci (ci (.cons (fun hG=>by first | exact (by decide +kernel) | (simp only [decide_eq_true_eq,decide_eq_false_iff_not,Bool.not_eq_true,Bool.and_eq_true] at hG <;> omega) | (simp at hG <;> omega) | (simp only [decide_eq_true_eq,decide_eq_false_iff_not] at hG;simp only [C9];omega)) (ci (ci (.cons (fun _=>rfl) (ci .nil))))))))))))))))))))<|AJ<|AD ?_
 refine rc [(52,Zt (L0.getD 3 default).Shape),(57,Ik ({ data := #[85,49] }:ByteArray) ({ data := #[66] }:ByteArray) 100 65 1),(60,Ik ({ data := #[85,50] }:ByteArray) ({ data := #[66] }:ByteArray) (-15) 0 2),(63,Ik ({ data := #[85,51] }:ByteArray) ({ data := #[65] }:ByteArray) 0 0 0),(66,Ik ({ data := #[85,49] }:ByteArray) ({ data := #[67] }:ByteArray) 0 0 0)] [(Z0U=true)->(Z0U=true),(Z0U=true)->(0<=(3:Int)/\(3:Int)<(((Am AQ.1 AQ.2).length:Nat):Int)),(Z0U=true)->(Z0U=true),(Z0U=true)->(Z0U=true),(Z0U=true)->(Z0U=true),(Z0U=true)->(Ay (Zt ((Am AQ.1 AQ.2).getD 3 default).Shape).2.1),(Z0U=true)->(Z0U=true),(Z0U=true)->(Z0U=true),Z0U=true->(Z0U=true),(Z0V=true)->(Ay (Ik ({ data := #[85,49] }:ByteArray) ({ data := #[66] }:ByteArray) 100 65 1).2.1),Z0V=true->(Z0V=true),(Z0W=true)->(Ay (Ik ({ data := #[85,50] }:ByteArray) ({ data := #[66] }:ByteArray) (-15) 0 2).2.1),Z0W=true->(Z0W=true),(Z0X=true)->(Ay (Ik ({ data := #[85,51] }:ByteArray) ({ data := #[65] }:ByteArray) 0 0 0).2.1),Z0X=true->(Z0X=true),(Z0Y=true)->(Ay (Ik ({ data := #[85,49] }:ByteArray) ({ data := #[67] }:ByteArray) 0 0 0).2.1),Z0Y=true->(Z0Y=true)] ⟨[(0,tB Z0Z)],[]⟩ (.cons (okBox ((Am AQ.1 AQ.2).getD 3 default).Shape au17) (.cons (P0 ({ data := #[85,49] }:ByteArray) ({ data := #[66] }:ByteArray) 100 65 1) (.cons (P0 ({ data := #[85,50] }:ByteArray) ({ data := #[66] }:ByteArray) (-15) 0 2) (.cons (P0 ({ data := #[85,51] }:ByteArray) ({ data := #[65] }:ByteArray) 0 0 0) (.cons (P0 ({ data := #[85,49] }:ByteArray) ({ data := #[67] }:ByteArray) 0 0 0) .nil))))) (ci (.cons (fun hG=>by first | exact (by decide +kernel) | (simp only [decide_eq_true_eq,decide_eq_false_iff_not,Bool.not_eq_true,Bool.and_eq_true] at hG <;> omega) | (simp at hG <;> omega) | (simp only [decide_eq_true_eq,decide_eq_false_iff_not] at hG;simp only [C9];omega)) (ci (ci (ci (.cons (fun _=>rfl) (ci (ci (ci (.cons (fun _=>rfl) (ci (.cons (fun _=>rfl) (ci (.cons (fun _=>rfl) (ci (.cons (fun _=>rfl) (ci .nil)))))))))))))))))<|AJ<|Af ?_
 exact xl (tO (.b Z0Z)) (An (by simp only [CF,h1,cond_true,cond_false] <;> rfl))
theorem Ss  : OKc (Ki ):=cPu<|U0
theorem Wc:CF=true:=by decide +kernel
section
open Go.RowKit
def Ae (k:Int):ByteArray:=([({ data := #[80,49] }:ByteArray),({ data := #[80,50] }:ByteArray),({ data := #[80,51] }:ByteArray),({ data := #[80,52] }:ByteArray),({ data := #[80,53] }:ByteArray),({ data := #[80,54] }:ByteArray)]:List ByteArray).getD k.toNat ⟨#[]⟩
variable (a:AF) (b:AH) (x0 b_:AF) (l:List (List Int)) (d:AE) (k:Int) (s:Ah) (types:List AP) (vs:Nat->Value) (x1:AF)
def CL:CT:=(78,[.one (.i k)],.val [] (.av (.one (.s (Ae k)))))
theorem Ws (k:Int) (hk:0<=k/\k<6):PuP 78 (CL k).2.1 (tO (.s (Ae k))):=by
 refine pwf Try.func78 fun W0 M0 => ?_
 refine AD<|rn ⟨[(0,tI k)],[]⟩<|AD ?_
 refine rc [] [0<=(k:Int)/\(k:Int)<((6:Nat):Int)] ⟨[(2,tO (.s (([({ data := #[80,49] }:ByteArray),({ data := #[80,50] }:ByteArray),({ data := #[80,51] }:ByteArray),({ data := #[80,52] }:ByteArray),({ data := #[80,53] }:ByteArray),({ data := #[80,54] }:ByteArray)]:List ByteArray).getD k.toNat ⟨#[]⟩)))],[]⟩ .nil (.cons au1 .nil)<|AJ<|Af ?_
 exact xl (tO (.s (([({ data := #[80,49] }:ByteArray),({ data := #[80,50] }:ByteArray),({ data := #[80,51] }:ByteArray),({ data := #[80,52] }:ByteArray),({ data := #[80,53] }:ByteArray),({ data := #[80,54] }:ByteArray)]:List ByteArray).getD k.toNat ⟨#[]⟩))) (An (by rfl))
theorem Dv (k:Int) (hk:0<=k/\k<6):OKc (CL k):=cPu<|Ws k hk
def Ff (x0:AG):AY:=AY.mk x0.At x0.Turn x0.Under
def II (x0:AG):CT:=(92,[.agg (AG.c x0)],.val [] (.av (.agg (AY.c (Ff x0)))))
theorem VC (x0:AG):PuP 92 (II x0).2.1 (.av (.agg (AY.c (Ff x0)))):=by
 refine pwf Try.func92 fun W0 M0 => ?_
 refine AD<|rn ⟨HO,[(1,.cells (AG.c x0) 59),(2,.cells [.i 0,.i 0,.i 0,.b false] 66)]⟩<|AD ?_
 refine rn ⟨[(2,tP 2 0)],[(2,.cells (PA x0) 66)]⟩<|Af ?_
 exact xl (.av (.agg (PA x0))) (An (by rfl))
theorem Sw (x0:AG):OKc (II x0):=cPu<|VC x0
def EM (x0:AF) (x1:AF):AO:=AO.mk 1 x0 x1 (AF.mk 0 0)
def Cz:CT:=(58,[.agg (AF.c x0),.agg (AF.c x1)],.val [] (.av (.agg (AO.c (EM x0 x1)))))
abbrev O8:List Cl:=[.i 1,.i x0.X,.i x0.Y,.i x1.X,.i x1.Y,.i 0,.i 0]
abbrev V4:List (Nat×Blk):=[(2,.cells (AF.c x0) 52),(3,.cells (AF.c x1) 52),(4,.cells [.i 0,.i 0,.i 0,.i 0,.i 0,.i 0,.i 0] 133)]
theorem Se (x0:AF) (x1:AF):PuP 58 (Cz x0 x1).2.1 (.av (.agg (AO.c (EM x0 x1)))):=by
 refine pwf Try.func58 fun W0 M0 => ?_
 refine AD<|rn ⟨KU,(V4 x0 x1)⟩<|AD ?_
 refine rn ⟨[(4,tP 4 0)],[(4,.cells (O8 x0 x1) 133)]⟩<|Af ?_
 exact xl (.av (.agg (O8 x0 x1))) (An (by rfl))
theorem FA (x0:AF) (x1:AF):OKc (Cz x0 x1):=cPu<|Se x0 x1
def AR (l:(List (List Int))) (k:Int):(List Int):=bif decide ((k:Int)<(l.length:Int)) then (l.getD k.toNat default) else ([])
def Dx:CT:=(53,[.one (lst 1 (fun x=>[lst 1 eIn x]) l),.one (.i k)],.val [] (.av (.one (lst 1 eIn (AR l k)))))
abbrev oL (l:List (List Int)):Av:=.one (lst 1 (fun x=>[lst 1 (fun x=>[.i x]) x]) l)
theorem ZA (l:(List (List Int))) (k:Int) (hk:0<=k):PuP 53 (Dx l k).2.1 (tO (lst 1 eIn (AR l k))):=by
 refine pwf Try.func53 fun W0 M0 => ?_
 refine AD<|rn ⟨[(0,.av (oL l)),(1,tI k)],[]⟩ ?_
 refine AD<|AD ?_
 refine rn ⟨[(0,.av (oL l)),(1,tI k),(8,tB (decide ((k:Int)<(l.length:Int))))],[]⟩ ?_
 refine Aa _ rfl (fun h1 => ?_) (fun h1 => ?_)
 ·have g1:=oT h1
  refine AD<|rc [] [0<=(k:Int)/\(k:Int)<((l.length:Nat):Int)] ⟨[(4,tO (lst 1 eIn (l.getD k.toNat default)))],[]⟩ .nil (.cons au1 .nil)<|AJ ?_
  refine Af<|BZ ?_
  exact xl (tO (lst 1 eIn (l.getD k.toNat default))) (An (by simp only [AR,h1,cond_true,cond_false] <;> rfl))
 refine Ad<|AJ<|AD ?_
 refine rn ⟨[(4,.av (.one vN))],[]⟩<|Af ?_
 exact xl (.av (.one vN)) (DC (y:=tO (lst 1 eIn [])) (.av (.one (CY 1 eIn))) (by simp only [AR,h1,cond_true,cond_false] <;> rfl))
theorem FB (l:(List (List Int))) (k:Int) (hk:0<=k):OKc (Dx l k):=cPu<|ZA l k hk
abbrev IZ:List Av:=[.one (.ptr 1000 0),.one (.i 4)]
abbrev GK:Blk:=.cells (AE.c d) 146
def Z10:CT:=(54,(IZ:List Av).map (Bp 1000 1000),wrI 1000 (GK d) (tI (AB d 4).1) (.cells (AE.c (AB d 4).2) 146))
def Z11:AO:=EM a (AF.mk (bif (decide (a.X=b_.X)&&(decide (a.Y=b_.Y)&&true)) then (W64 (b_.X+20)) else b_.X) a.Y)
def Z12:AO:=EM (AF.mk (bif (decide (a.X=b_.X)&&(decide (a.Y=b_.Y)&&true)) then (W64 (b_.X+20)) else b_.X) a.Y) (AF.mk (bif (decide (a.X=b_.X)&&(decide (a.Y=b_.Y)&&true)) then (W64 (b_.X+20)) else b_.X) b_.Y)
def Z13:CT:=(54,([.one (.ptr 1000 0),.one (.i 20)]:List Av).map (Bp 1000 1000),wrI 1000 (.cells (AE.c (AB d 4).2) 146) (tI (AB (AB d 4).2 20).1) (.cells (AE.c (AB (AB d 4).2 20).2) 146))
def Z14:Blk:=.cells (AE.c (AB (AB d 4).2 20).2) 146
def Z15:AO:=ET (AF.mk (bif (decide (a.X=b_.X)&&(decide (a.Y=b_.Y)&&true)) then (W64 (b_.X+20)) else b_.X) (W64 (b_.Y+(W64 (5+(AB (AB d 4).2 20).1))))) (W64 (5+(AB (AB d 4).2 20).1)) 3 2
def Z16:AO:=EM a (AF.mk (bif (decide (a.X=b_.X)&&(decide (a.Y=b_.Y)&&true)) then (W64 (b_.X+20)) else b_.X) b_.Y)
def CM (a:AF) (b_:AF) (d:AE):((List AO)×AE):=bif bif bif bif decide ((0:Int)<(AB d 4).1) then decide (((AB d 4).1:Int)<3) else false then !(decide ((bif (decide (a.X=b_.X)&&(decide (a.Y=b_.Y)&&true)) then (W64 (b_.X+20)) else b_.X)=a.X)&&(decide (a.Y=a.Y)&&true)) else false then !(decide ((bif (decide (a.X=b_.X)&&(decide (a.Y=b_.Y)&&true)) then (W64 (b_.X+20)) else b_.X)=(bif (decide (a.X=b_.X)&&(decide (a.Y=b_.Y)&&true)) then (W64 (b_.X+20)) else b_.X))&&(decide (a.Y=b_.Y)&&true)) else false then ([Z11 a b_,Z12 a b_],(AB d 4).2) else (bif decide (((AB d 4).1:Int)=3) then ([Z16 a b_,Z15 a b_ d],(AB (AB d 4).2 20).2) else ([Z16 a b_],(AB d 4).2))
abbrev El:Bool:=decide (a.X=b_.X)&&(decide (a.Y=b_.Y)&&true)
abbrev aB:Av:=.one (.list true 7 2 (Au 7 2 [.i (Z16 a b_).Kind,.i (Z16 a b_).A.X,.i (Z16 a b_).A.Y,.i (Z16 a b_).B.X,.i (Z16 a b_).B.Y,.i (Z16 a b_).C.X,.i (Z16 a b_).C.Y,.i (Z15 a b_ d).Kind,.i (Z15 a b_ d).A.X,.i (Z15 a b_ d).A.Y,.i (Z15 a b_ d).B.X,.i (Z15 a b_ d).B.Y,.i (Z15 a b_ d).C.X,.i (Z15 a b_ d).C.Y]))
abbrev aA:Av:=.one (.list true 7 2 (Au 7 2 [.i (Z11 a b_).Kind,.i (Z11 a b_).A.X,.i (Z11 a b_).A.Y,.i (Z11 a b_).B.X,.i (Z11 a b_).B.Y,.i (Z11 a b_).C.X,.i (Z11 a b_).C.Y,.i (Z12 a b_).Kind,.i (Z12 a b_).A.X,.i (Z12 a b_).A.Y,.i (Z12 a b_).B.X,.i (Z12 a b_).B.Y,.i (Z12 a b_).C.X,.i (Z12 a b_).C.Y]))
abbrev Gw:=bif (El a b_) then (W64 (b_.X+20)) else b_.X
abbrev Fj:Nat×Blk:=(3,.cells (AF.c a) 52)
abbrev Hj:Nat×Blk:=(1000,.cells (AE.c d) 146)
abbrev KD (t_:List (Nat×Tv)):List (Nat×Tv):=(2,tP 1000 0)::(3,tP 3 0)::(4,tP 4 0)::t_
abbrev PB:List (Nat×Tv):=(KD [])
abbrev MD:Nat×Blk:=(1000,.cells (AE.c (AB d 4).2) 146)
abbrev KF:Nat×Blk:=(4,.cells [.i (Gw a b_),.i b_.Y] 52)
theorem au19 {p:Prop} (h:p:=by repeat (first | assumption | exact Ca (by assumption) | refine BR ?_ | refine Cg ?_ ?_ | refine hKd _ _ ?_ | refine cond_dk _ ?_)):p:=h
theorem au7 {p:Prop} (h:p:=by first | decide | omega | (simp only [C9];omega)):p:=h
theorem Wu  (a:AF) (b_:AF) (d:AE) (hd:Bi d):Wr Try.prog 82 1000 [.agg (AF.c a),.agg (AF.c b_),.one (.ptr 1000 0)] (.cells (AE.c d) 146) (tO (lst 7 AO.c (CM a b_ d).1)) (.cells (AE.c (CM a b_ d).2) 146):=by
 refine Ga Try.func82 rfl kr kr kr kr fun W0 M0 X hX => ?_
 refine AD<|rn ⟨PB,[(Fj a),(4,.cells (AF.c b_) 52),(Hj d)]⟩ ?_
 refine AD<|AD ?_
 refine rn ⟨(KD [(13,tB (El a b_))]),[(Fj a),(4,.cells (AF.c b_) 52),(Hj d)]⟩ ?_
 refine Bz (⟨PB,[(Fj a),(4,.cells [.i (bif (El a b_) then (W64 (b_.X+20)) else b_.X),.i b_.Y] 52),(Hj d)]⟩) ?_ ?_
 ·refine Aa _ rfl (fun h1 => ?_) (fun h1 => ?_)
  ·refine rn ⟨PB,[(Fj a),(4,.cells [.i (W64 (b_.X+20)),.i b_.Y] 52),(Hj d)]⟩ ?_
   refine A9 ?_
   first | rfl | (simp only [h1,cond_true,cond_false] <;> rfl)
  refine Ad<|AJ ?_
  refine Cv.trans (ck (⟨PB,[(Fj a),(4,.cells (AF.c b_) 52),(Hj d)]⟩)) (A9 ?_)
  first | rfl | (simp only [h1,cond_true,cond_false] <;> rfl)
 refine AD<|rn ⟨(KD [(7,tP 7 0)]),[(Fj a),(KF a b_),(7,.cells [.i (Gw a b_),.i a.Y] 52),(Hj d)]⟩ ?_
 refine AD<|AD ?_
 refine rb 24 (Z10 d) (GK d) ⟨(KD [(7,tP 7 0),(8,tI (AB d 4).1)]),[(Fj a),(KF a b_),(7,.cells [.i (Gw a b_),.i a.Y] 52),(MD d)]⟩ (cWr (BT d 4 au19 au7))<|AJ ?_
 refine AX<|AD ?_
 refine rc [] (t2 (decide ((0:Int)<(AB d 4).1)) (t3 (bif decide ((0:Int)<(AB d 4).1) then decide (((AB d 4).1:Int)<3) else false) (t3 (bif bif decide ((0:Int)<(AB d 4).1) then decide (((AB d 4).1:Int)<3) else false then !(decide ((Gw a b_)=a.X)&&(decide (a.Y=a.Y)&&true)) else false) []))) ⟨(KD [(7,tP 7 0),(8,tI (AB d 4).1),(25,tB (bif bif bif decide ((0:Int)<(AB d 4).1) then decide (((AB d 4).1:Int)<3) else false then !(decide ((bif (decide (a.X=b_.X)&&(decide (a.Y=b_.Y)&&true)) then (W64 (b_.X+20)) else b_.X)=a.X)&&(decide (a.Y=a.Y)&&true)) else false then !(decide ((bif (decide (a.X=b_.X)&&(decide (a.Y=b_.Y)&&true)) then (W64 (b_.X+20)) else b_.X)=(bif (decide (a.X=b_.X)&&(decide (a.Y=b_.Y)&&true)) then (W64 (b_.X+20)) else b_.X))&&(decide (a.Y=b_.Y)&&true)) else false))]),[(Fj a),(KF a b_),(7,.cells [.i (Gw a b_),.i a.Y] 52),(MD d)]⟩ .nil (c2 (c3 (c3 .nil)))<|AJ ?_
 refine Aa (bif bif bif decide ((0:Int)<(AB d 4).1) then decide (((AB d 4).1:Int)<3) else false then !(decide ((bif (El a b_) then (W64 (b_.X+20)) else b_.X)=a.X)&&(decide (a.Y=a.Y)&&true)) else false then !(decide ((bif (El a b_) then (W64 (b_.X+20)) else b_.X)=(bif (El a b_) then (W64 (b_.X+20)) else b_.X))&&(decide (a.Y=b_.Y)&&true)) else false) kr (fun h1 => ?_) (fun h1 => ?_)
 ·refine AD<|dw [] [(44,Cz a (AF.mk (Gw a b_) a.Y)),(47,Cz (AF.mk (Gw a b_) a.Y) (AF.mk (Gw a b_) b_.Y))] [Ay (Cz a (AF.mk (bif (El a b_) then (W64 (b_.X+20)) else b_.X) a.Y)).2.1,Ay (Cz (AF.mk (bif (El a b_) then (W64 (b_.X+20)) else b_.X) a.Y) (AF.mk (bif (El a b_) then (W64 (b_.X+20)) else b_.X) b_.Y)).2.1] ⟨[(6,.av (aA a b_))],[(MD d)]⟩ (.cons (FA a (AF.mk (bif (El a b_) then (W64 (b_.X+20)) else b_.X) a.Y)) (.cons (FA (AF.mk (bif (El a b_) then (W64 (b_.X+20)) else b_.X) a.Y) (AF.mk (bif (El a b_) then (W64 (b_.X+20)) else b_.X) b_.Y)) .nil)) (.cons rfl (.cons rfl .nil))<|AJ ?_
  refine Af<|Ck<|BZ ?_
  exact xl (.av (aA a b_)) ⟨DC (y:=tO (lst 7 AO.c [Z11 a b_,Z12 a b_])) (.av (.one (Be true (Ar (c:=AO.c) (xs:=([Z11 a b_,Z12 a b_]:List AO)) rfl kr)))) (by unfold CM;rw [h1];rfl),.cells (AE.c (AB d 4).2) 146,by kernel_rfl,DP (by unfold CM;rw [h1];kernel_rfl)⟩
 refine AD<|rn ⟨(KD [(49,tB (decide (((AB d 4).1:Int)=3)))]),[(Fj a),(KF a b_),(MD d)]⟩ ?_
 refine Aa _ rfl (fun h2 => ?_) (fun h2 => ?_)
 ·have g2:=oT h2
  refine AD<|rb 53 (Z13 d) (.cells (AE.c (AB d 4).2) 146) ⟨[(3,tP 3 0),(4,tP 4 0),(9,tI (W64 (5+(AB (AB d 4).2 20).1)))],[(Fj a),(KF a b_),(1000,Z14 d)]⟩ (cWr (BT (AB d 4).2 20 au19 au7))<|AJ<|AD ?_
  refine rs 63 (B7 (AF.mk (bif (El a b_) then (W64 (b_.X+20)) else b_.X) (W64 (b_.Y+(W64 (5+(AB (AB d 4).2 20).1))))) (W64 (5+(AB (AB d 4).2 20).1)) 3 2) ⟨[(3,tP 3 0),(4,tP 4 0),(10,tP 10 0)],[(Fj a),(KF a b_),(10,.cells (AO.c (Z15 a b_ d)) 133),(1000,Z14 d)]⟩ (DX (AF.mk (bif (El a b_) then (W64 (b_.X+20)) else b_.X) (W64 (b_.Y+(W64 (5+(AB (AB d 4).2 20).1))))) (W64 (5+(AB (AB d 4).2 20).1)) 3 2)<|AJ<|AD ?_
  refine dw [] [(66,Cz a (AF.mk (Gw a b_) b_.Y))] [Ay (Cz a (AF.mk (bif (El a b_) then (W64 (b_.X+20)) else b_.X) b_.Y)).2.1] ⟨[(6,.av (aB a b_ d))],[(1000,Z14 d)]⟩ (.cons (FA a (AF.mk (bif (El a b_) then (W64 (b_.X+20)) else b_.X) b_.Y)) .nil) (.cons rfl .nil)<|AJ ?_
  refine Af<|Ck<|BZ ?_
  exact xl (.av (aB a b_ d)) ⟨DC (y:=tO (lst 7 AO.c [Z16 a b_,Z15 a b_ d])) (.av (.one (Be true (Ar (c:=AO.c) (xs:=([Z16 a b_,Z15 a b_ d]:List AO)) rfl kr)))) (by unfold CM;rw [h1,h2];rfl),.cells (AE.c (AB (AB d 4).2 20).2) 146,by kernel_rfl,DP (by unfold CM;rw [h1,h2];kernel_rfl)⟩
 refine Ad<|Bg ?_
 refine AJ<|AD ?_
 refine rs 71 (Cz a (AF.mk (bif (El a b_) then (W64 (b_.X+20)) else b_.X) b_.Y)) ⟨[(6,.av (.one (.list true 7 1 (Au 7 1 (AO.c (Z16 a b_))))))],[(MD d)]⟩ (FA a (AF.mk (bif (El a b_) then (W64 (b_.X+20)) else b_.X) b_.Y))<|AJ<|Af ?_
 exact xl (.av (.one (.list true 7 1 (Au 7 1 (AO.c (Z16 a b_)))))) ⟨DC (y:=tO (lst 7 AO.c [Z16 a b_])) (.av (.one (Be true (Ar (c:=AO.c) (xs:=([Z16 a b_]:List AO)) rfl kr)))) (by unfold CM;rw [h1,h2];rfl),.cells (AE.c (AB d 4).2) 146,by kernel_rfl,DP (by unfold CM;rw [h1,h2];kernel_rfl)⟩
def Z17:CT:=(54,([.one (.ptr 1000 0),.one (.i (b.Nets.length:Int))]:List Av).map (Bp 1000 1001),wrI 1001 (GK d) (tI (AB d (b.Nets.length:Int)).1) (.cells (AE.c (AB d (b.Nets.length:Int)).2) 146))
def CV (b:AH) (d:AE):(ByteArray×AE):=((b.Nets.getD (AB d (b.Nets.length:Int)).1.toNat default).Name,(AB d (b.Nets.length:Int)).2)
abbrev Di:List (Nat×Tv):=[(0,tP 1000 0),(1,tP 1001 0)]
abbrev Vp:List Cl:=(A7 b [.val (vs 6),.val (vs 7),.val (vs 8),.val (vs 9),.val (vs 10),.val (vs 11),.val (vs 12),.val (vs 13),.val (vs 14)])
theorem Pl  (b:AH) (d:AE) (vs:Nat->Value) (hd:Bi d) (hn:1<=(b.Nets.length:Int)/\(b.Nets.length:Int)<=1000000):Wr2 Try.prog 81 1000 1001 [.one (.ptr 1000 0),.one (.ptr 1001 0)] (.cells [.i b.Layers,.i b.Outline.Kind,lst 7 AO.c b.Outline.Edges,.i b.Outline.R,lst 7 AG.c b.Parts,lst 2 BA.c b.Nets,.val (vs 6),.val (vs 7),.val (vs 8),.val (vs 9),.val (vs 10),.val (vs 11),.val (vs 12),.val (vs 13),.val (vs 14)] 42) (.cells (AE.c d) 146) (tO (.s (CV b d).1)) (.cells [.i b.Layers,.i b.Outline.Kind,lst 7 AO.c b.Outline.Edges,.i b.Outline.R,lst 7 AG.c b.Parts,lst 2 BA.c b.Nets,.val (vs 6),.val (vs 7),.val (vs 8),.val (vs 9),.val (vs 10),.val (vs 11),.val (vs 12),.val (vs 13),.val (vs 14)] 42) (.cells (AE.c (CV b d).2) 146):=by
 refine MP Try.func81 rfl kr kr kr rfl kr kr kr fun W0 M0 X hX => ?_
 have hnb:=Ct d (b.Nets.length:Int) oM oM
 refine AD<|rn ⟨Di,[(1000,.cells (Vp b vs) 42),(1001,.cells (AE.c d) 146)]⟩<|AD ?_
 refine dw [] [(15,(Z17 b d))] [Ay (Z17 b d).2.1,Bu (GK d),0<=((AB d (b.Nets.length:Int)).1:Int)/\((AB d (b.Nets.length:Int)).1:Int)<((b.Nets.length:Nat):Int)] ⟨[(4,tO (.s (b.Nets.getD (AB d (b.Nets.length:Int)).1.toNat default).Name))],[(1000,.cells (Vp b vs) 42),(1001,.cells (AE.c (AB d (b.Nets.length:Int)).2) 146)]⟩ (.cons (cWr (BT d (b.Nets.length:Int) au19 au7)) .nil) (.cons rfl (.cons rfl (.cons oM .nil)))<|AJ<|Af ?_
 exact xl (tO (.s (b.Nets.getD (AB d (b.Nets.length:Int)).1.toNat default).Name)) ⟨An (by rfl),⟨.cells (Vp b vs) 42,by kernel_rfl,DP rfl⟩,.cells (AE.c (AB d (b.Nets.length:Int)).2) 146,by kernel_rfl,DP kr⟩
theorem J2 {p q:Prop} [Decidable p] [Decidable q] (h:(bif decide p then decide q else false)=true):q:=by
 by_cases hp:p
 ·rw [decide_eq_true hp] at h;exact oT h
 rw [decide_eq_false hp] at h;cases h
def Ln (b:AH) (types:List AP):Prop:=∀ k:Int,0<=k->k<(b.Parts.length:Int)->1<=((Bf types (b.Parts.getD k.toNat default).Type').1.Pads.length:Int)
theorem Qp {b:AH} {d:AE} (h:(bif decide ((AB d 12).1<8) then decide ((0:Int)<(b.Parts.length:Int)) else false)=true):0<=Int.tmod (AB d 12).1 (b.Parts.length:Int)/\Int.tmod (AB d 12).1 (b.Parts.length:Int)<(b.Parts.length:Int):=Ju (Ct d 12 (by decide) (by decide)).1 (J2 h)
theorem JZ {b:AH} {types:List AP} {d:AE} (hg:Ln b types) (h:(bif decide ((AB d 12).1<8) then decide ((0:Int)<(b.Parts.length:Int)) else false)=true):1<=((Bf types (b.Parts.getD (Int.tmod (AB d 12).1 (b.Parts.length:Int)).toNat default).Type').1.Pads.length:Int):=hg _ (Qp h).1 (Qp h).2
abbrev aC:List Cl:=[.i b.Layers,.i b.Outline.Kind,lst 7 AO.c b.Outline.Edges,.i b.Outline.R,lst 7 AG.c b.Parts,.any,.any,.any,.any,.any,.any,.any,.any,.any,.any]
def Z18:Blk:=.cells (aC b) 42
abbrev SA:List Av:=[.one (.ptr 1000 0),.one (.i 12)]
def Z19:CT:=(54,(SA:List Av).map (Bp 1000 1000),wrI 1000 (GK d) (tI (AB d 12).1) (.cells (AE.c (AB d 12).2) 146))
abbrev MH:List Av:=[.one (.ptr 1000 0),.one (.i 6)]
def Z1a:CT:=(54,(MH:List Av).map (Bp 1000 1000),wrI 1000 (.cells (AE.c (AB d 12).2) 146) (tI (AB (AB d 12).2 6).1) (.cells (AE.c (AB (AB d 12).2 6).2) 146))
def Z1b:Blk:=.cells (AE.c (AB (AB d 12).2 6).2) 146
def Z1c:AG:=b.Parts.getD (Int.tmod (AB d 12).1 (b.Parts.length:Int)).toNat default
def Z1d (types:(List AP)) (b:AH) (d:AE):AF:=((Bf types (Z1c b d).Type').1.Pads.getD (Int.tmod (AB (AB d 12).2 6).1 ((Bf types (Z1c b d).Type').1.Pads.length:Int)).toNat default).At
def Z1e:AF:=DW (Ff (Z1c b d)) (Z1d types b d)
def Bn (b:AH) (types:(List AP)) (d:AE):(AF×AE):=bif bif decide (((AB d 12).1:Int)<8) then decide ((0:Int)<(b.Parts.length:Int)) else false then (Z1e b d types,(AB (AB d 12).2 6).2) else (AF.mk (W64 (30+(Int.tmod (W64 (40*(AB d 12).1)) 360))) (W64 (30+(W64 (60*(AB (AB d 12).2 6).1)))),(AB (AB d 12).2 6).2)
abbrev WC:List Cl:=[.i (W64 (30+(Int.tmod (W64 (40*(AB d 12).1)) 360))),.i (W64 (30+(W64 (60*(AB (AB d 12).2 6).1))))]
theorem Jb  (b:AH) (types:(List AP)) (d:AE) (hd:Bi d) (hb:(b.Parts.length:Int)<=1000000) (ht:(types.length:Int)<=1000000) (hg:Ln b types):Wr Try.prog 83 1000 [.agg [.i b.Layers,.i b.Outline.Kind,lst 7 AO.c b.Outline.Edges,.i b.Outline.R,lst 7 AG.c b.Parts,.any,.any,.any,.any,.any,.any,.any,.any,.any,.any],.one (lst 3 AP.c types),.one (.ptr 1000 0)] (.cells (AE.c d) 146) (.av (.agg (AF.c (Bn b types d).1))) (.cells (AE.c (Bn b types d).2) 146):=by
 refine Ga Try.func83 rfl kr kr kr kr fun W0 M0 X hX => ?_
 refine AD<|rn ⟨[(EY types),(2,tP 1000 0),(3,tP 3 0),(6,tP 6 0)],[(3,Z18 b),F8,(Hj d)]⟩<|AD ?_
 refine rb 13 (Z19 d) (GK d) ⟨[(EY types),(2,tP 1000 0),(3,tP 3 0),(6,tP 6 0),(7,tI (AB d 12).1)],[(3,Z18 b),F8,(1000,.cells (AE.c (AB d 12).2) 146)]⟩ (cWr (BT d 12 au19 au7))<|AJ<|AD ?_
 refine rb 15 (Z1a d) (.cells (AE.c (AB d 12).2) 146) ⟨[(EY types),(3,tP 3 0),(6,tP 6 0),(7,tI (AB d 12).1),(8,tI (AB (AB d 12).2 6).1)],[(3,Z18 b),F8,(1000,Z1b d)]⟩ (cWr (BT (AB d 12).2 6 au19 au7))<|AJ ?_
 refine AD<|AD ?_
 refine rc [] (t4 (decide (((AB d 12).1:Int)<8)) []) ⟨[(EY types),(3,tP 3 0),(6,tP 6 0),(7,tI (AB d 12).1),(8,tI (AB (AB d 12).2 6).1),(23,tB (bif decide (((AB d 12).1:Int)<8) then decide ((0:Int)<(b.Parts.length:Int)) else false))],[(3,Z18 b),F8,(1000,Z1b d)]⟩ .nil (c4 .nil)<|AJ ?_
 refine Aa _ rfl (fun h1 => ?_) (fun h1 => ?_)
 ·have g1:=QW h1
  refine AD<|dw [] [] [((b.Parts.length:Int):Int)≠0,0<=(Int.tmod (AB d 12).1 (b.Parts.length:Int):Int)/\(Int.tmod (AB d 12).1 (b.Parts.length:Int):Int)<((b.Parts.length:Nat):Int)] ⟨[(EY types),(6,tP 6 0),(8,tI (AB (AB d 12).2 6).1),(9,tP 9 0)],[F8,(9,.cells (AG.c (Z1c b d)) 59),(1000,Z1b d)]⟩ .nil (.cons (by first | decide | (have hq:=J2 h1;omega) | (have hq:=JZ hg h1;show ¬ ((Bf types (b.Parts.getD (Int.tmod (AB d 12).1 (b.Parts.length:Int)).toNat default).Type').1.Pads.length:Int)=0;omega)) (.cons (by first | exact Qp h1 | exact Ju (Ct _ 6 (by decide) (by decide)).1 (by have hq:=JZ hg h1;show (0:Int)<((Bf types (b.Parts.getD (Int.tmod (AB d 12).1 (b.Parts.length:Int)).toNat default).Type').1.Pads.length:Int);omega) | decide | omega) .nil))<|AJ<|AD ?_
  refine rs 37 (NS types (Z1c b d).Type') ⟨[(6,tP 6 0),(8,tI (AB (AB d 12).2 6).1),(9,tP 9 0),(10,tP 10 0)],[F8,(9,.cells (AG.c (Z1c b d)) 59),(10,.cells (AP.c (Bf types (Z1c b d).Type').1) 114),(1000,Z1b d)]⟩ (Tz types (Z1c b d).Type' au9)<|AJ<|AD ?_
  refine dw [] [(41,II (Z1c b d)),(52,ER (Ff (Z1c b d)) (Z1d types b d))] [Ay (II (Z1c b d)).2.1,(((Bf types (Z1c b d).Type').1.Pads.length:Int):Int)≠0,0<=(Int.tmod (AB (AB d 12).2 6).1 ((Bf types (Z1c b d).Type').1.Pads.length:Int):Int)/\(Int.tmod (AB (AB d 12).2 6).1 ((Bf types (Z1c b d).Type').1.Pads.length:Int):Int)<(((Bf types (Z1c b d).Type').1.Pads.length:Nat):Int),Ay (ER (Ff (Z1c b d)) (Z1d types b d)).2.1] ⟨[(6,tP 6 0)],[(6,.cells (AF.c (Z1e b d types)) 52),(1000,Z1b d)]⟩ (.cons (Sw (Z1c b d)) (.cons (G1 (Ff (Z1c b d)) (Z1d types b d)) .nil)) (.cons rfl (.cons (by first | decide | (have hq:=J2 h1;omega) | (have hq:=JZ hg h1;show ¬ ((Bf types (b.Parts.getD (Int.tmod (AB d 12).1 (b.Parts.length:Int)).toNat default).Type').1.Pads.length:Int)=0;omega)) (.cons (by first | exact Qp h1 | exact Ju (Ct _ 6 (by decide) (by decide)).1 (by have hq:=JZ hg h1;show (0:Int)<((Bf types (b.Parts.getD (Int.tmod (AB d 12).1 (b.Parts.length:Int)).toNat default).Type').1.Pads.length:Int);omega) | decide | omega) (.cons rfl .nil))))<|AJ ?_
  refine Af<|BZ ?_
  exact xl (.av (.agg (AF.c (Z1e b d types)))) ⟨An (by simp only [Bn,h1,cond_true,cond_false] <;> rfl),.cells (AE.c (AB (AB d 12).2 6).2) 146,by kernel_rfl,DP (by first | (simp only [Bn,h1,cond_true,cond_false];done) | (simp only [Bn,h1,cond_true,cond_false];kernel_rfl))⟩
 refine Ad<|AJ<|AD ?_
 refine rc [] [(360:Int)≠0] ⟨[(6,tP 6 0)],[(6,.cells (WC d) 52),(1000,Z1b d)]⟩ .nil (.cons (by first | decide | (have hq:=J2 h1;omega) | (have hq:=JZ hg h1;show ¬ ((Bf types (b.Parts.getD (Int.tmod (AB d 12).1 (b.Parts.length:Int)).toNat default).Type').1.Pads.length:Int)=0;omega)) .nil)<|AJ<|Af ?_
 exact xl (.av (.agg (WC d))) ⟨An (by simp only [Bn,h1,cond_true,cond_false] <;> rfl),.cells (AE.c (AB (AB d 12).2 6).2) 146,by kernel_rfl,DP (by first | (simp only [Bn,h1,cond_true,cond_false];done) | (simp only [Bn,h1,cond_true,cond_false];kernel_rfl))⟩
def Z1f:Blk:=.cells [.i 0,vN,.i 0] 29
def Z1g:Blk:=.cells [.i s.Kind,.own 6 7 s.Edges.length,.i s.R] 29
def Z1h:Blk:=.row 7 s.Edges.length (AU AO.c s.Edges) 133
def Cu (s:Ah):Ah:=s
def Da:CT:=(39,[.agg (Ah.c s)],.val [] (.av (.agg (Ah.c (Cu s)))))
theorem Pr (s:Ah) (hl:(s.Edges.length:Int)<=1000000):PuP 39 (Da s).2.1 (.av (.agg (Ah.c (Cu s)))):=by
 refine pwf Try.func39 fun W0 M0 => ?_
 refine AD<|rn ⟨HO,[(FN s),(2,Z1f)]⟩<|AD ?_
 refine DQ D6 [3] [] [] [1,2] [1,2,6] [0=0,0+s.Edges.length<=maxLen,(0+s.Edges.length)*56<=140737488355328] ⟨HO,[(1,.cells [.i s.Kind,.own 6 7 (0+s.Edges.length),.i s.R] 29),(2,Z1f),(6,.row 7 (0+s.Edges.length) (fun i_ j_=>if i_<0 then (Au 7 0 []) i_ j_ else (AU AO.c s.Edges) (i_-0) j_) 133)]⟩ .nil kr (.cons rfl (.cons au3 (.cons au3 .nil)))<|AJ ?_
 refine BL (Cv.trans (BH (⟨HO,[(1,Z1g s),(2,Z1f),(6,Z1h s)]⟩) lr (.cons ⟨rfl,.cells _ (rr (.cons (.own _ _ au0) (rr .nil)))⟩ (.cons ⟨rfl,.refl _⟩ (.cons ⟨rfl,Ai 133 (BM (Ar (c:=AO.c) (xs:=(([]:List AO):List AO)) rfl kr) (A8 7 AO.c s.Edges))⟩ .nil)))) (Cv.refl _))<|AD ?_
 refine rn ⟨[(2,tP 2 0)],[(2,Z1g s),(6,Z1h s)]⟩<|Af ?_
 exact yl (Cv.trans (vf 6 7 s.Edges.length (AU AO.c s.Edges) 133 hk0 (.cons ⟨rfl,rfl⟩ .nil)) (Cv.refl _)) (.av (.agg (Ah.c s))) (An (by rfl))
theorem E3 (s:Ah) (hl:(s.Edges.length:Int)<=1000000):OKc (Da s):=cPu<|Pr s hl
theorem DO {α:Type} {c:Bool} {a b:α×AE} (ha:Bi a.2) (hb:Bi b.2):Bi (bif c then a else b).2:=by cases c <;> assumption
theorem D3 {b:AH} {d:AE} (h:Bi d):Bi (CV b d).2:=BR h
theorem C0 {a c:AF} {d:AE} (h:Bi d):Bi (CM a c d).2:=by
 unfold CM
 exact DO (BR h) (DO (BR (BR h)) (BR h))
theorem DK {b:AH} {types:List AP} {d:AE} (h:Bi d):Bi (Bn b types d).2:=by
 unfold Bn
 exact DO (BR (BR h)) (BR (BR h))
theorem C6 {l:List (List Int)} (hl:∀ x∈l,(x.length:Int)<=9223372036854775807) (k:Int):((AR l k).length:Int)<=9223372036854775807:=by
 unfold AR
 by_cases h:k<(l.length:Int)
 ·rw [decide_eq_true h]
  simp only [cond_true]
  by_cases hk:k.toNat<l.length
  ·rw [List.getD_eq_getElem?_getD,List.getElem?_eq_getElem hk]
   exact hl _ (List.getElem_mem _)
  rw [List.getD_eq_getElem?_getD,List.getElem?_eq_none oM]
  decide
 rw [decide_eq_false h]
 exact Int.le_of_lt (by decide:((([]:List Int).length:Nat):Int)<9223372036854775807)
theorem P8 {v:Int} {d:AE} {n:Int} (h:v<(AB d n).1) (h0:0<n) (h1:n<=1000000):v<n:=by
 have:=Ct d n h0 (by omega)
 omega
end
section
open Go.RowKit
variable (b:AH) (AN:List Aj) (AV:List Br) (types:List AP) (Ag:List BB) (v12:Int) (l:List (List Int)) (v6' v6 v6'':AE)
def Z1i:Tv:=.av (oL l)
abbrev Vj:List Cl:=(A7 b [vN,vN,vN,vN,vN,vN,vN,vN,vN])
def Z1j:Blk:=.cells (Vj b) 42
abbrev Kz:List Cl:=(A7 b [lst 6 Aj.c [],lst 8 Br.c [],lst 8 BB.c [],lst 5 BS.c [],lst 4 Bb.c [],lst 2 BJ.c [],lst 20 Aq.c [],lst 3 Ao.c [],lst 3 BW.c []])
abbrev HS:=AH.mk b.Layers b.Outline b.Parts b.Nets [] [] [] [] [] [] [] [] []
abbrev MI:List Av:=[.one (.ptr 1000 0),.one (.ptr 1001 0)]
def Z1k:CT:=(81,(MI:List Av).map (Em 1000 1000 1001 22),wqV 1000 22 [6,7,8,9,10,11,12,13,14] (Kz b) 42 (.cells [lst 1 eIn (AR l 4),.i 0] 146) (.av (.one (.s (CV (HS b) (AE.mk (AR l 4) 0)).1))) (.cells (AE.c (CV (HS b) (AE.mk (AR l 4) 0)).2) 146))
abbrev Z1l:AE:=(CV (AH.mk b.Layers b.Outline b.Parts b.Nets [] [] [] [] [] [] [] [] []) (AE.mk (AR l 4) 0)).2
def Z1m:Tv:=.av (.one (.s (CV (HS b) (AE.mk (AR l 4) 0)).1))
def Z1n:CT:=(54,(MH:List Av).map (Bp 1000 22),wrI 22 (.cells (AE.c (Z1l b l)) 146) (tI (AB (Z1l b l) 6).1) (.cells (AE.c (AB (Z1l b l) 6).2) 146))
def Z1o:Blk:=.cells (AE.c (AB (Z1l b l) 6).2) 146
abbrev EO:List Av:=[.one (.ptr 1000 0),.one (.i 3)]
def Z1p:CT:=(54,(EO:List Av).map (Bp 1000 75),wrI 75 (.cells [lst 1 eIn (AR l 5),.i 0] 146) (tI (AB (AE.mk (AR l 5) 0) 3).1) (.cells (AE.c (AB (AE.mk (AR l 5) 0) 3).2) 146))
def Z1q:Tv:=tI (AB (AE.mk (AR l 5) 0) 3).1
def Z1r:Blk:=.cells (AE.c (AB (AE.mk (AR l 5) 0) 3).2) 146
abbrev Iq:=AB (AE.mk (AR l 6) 0) 3
def Z1s:CT:=(54,(EO:List Av).map (Bp 1000 189),wrI 189 (.cells [lst 1 eIn (AR l 6),.i 0] 146) (tI (Iq l).1) (.cells (AE.c (Iq l).2) 146))
def Z1t:Blk:=.cells (AE.c (Iq l).2) 146
abbrev Ib:=AH.mk b.Layers b.Outline b.Parts [] [] [] [] [] [] [] [] [] []
abbrev ME:List Av:=[.agg (aC b),.one (GC types),.one (.ptr 1000 0)]
def Z1u:CT:=(83,((ME b types):List Av).map (Bp 1000 189),wrI 189 (.cells (AE.c (Iq l).2) 146) (.av (.agg (AF.c (Bn (Ib b) types (Iq l).2).1))) (.cells (AE.c (Bn (Ib b) types (Iq l).2).2) 146))
abbrev Z1v:AE:=(Bn (AH.mk b.Layers b.Outline b.Parts [] [] [] [] [] [] [] [] [] []) types (AB (AE.mk (AR l 6) 0) 3).2).2
def Z1w:AF:=(Bn (AH.mk b.Layers b.Outline b.Parts [] [] [] [] [] [] [] [] [] []) types (AB (AE.mk (AR l 6) 0) 3).2).1
def Z1x:CT:=(54,(EO:List Av).map (Bp 1000 189),wrI 189 (.cells (AE.c (Z1v b types l)) 146) (tI (AB (Z1v b types l) 3).1) (.cells (AE.c (AB (Z1v b types l) 3).2) 146))
def Z1y:Ah:=C4 (Al.mk (Z1w b types l).X (Z1w b types l).Y (W64 ((Z1w b types l).X+30)) (W64 ((Z1w b types l).Y+20)))
abbrev Z1z (l:(List (List Int))) (b:AH) (types:(List AP)):AE:=bif decide (((AB (AE.mk (AR l 6) 0) 3).1:Int)=0) then (AB (Z1v b types l) 3).2 else (AB (AE.mk (AR l 6) 0) 3).2
def Z1A (l:(List (List Int))) (b:AH) (types:(List AP)):(List BS):=bif decide (((AB (AE.mk (AR l 6) 0) 3).1:Int)=0) then [BS.mk 41 (AB (Z1v b types l) 3).1 (Z1y b types l)] else []
def Z1B (l:(List (List Int))) (b:AH) (types:(List AP)):CT:=(54,(EO:List Av).map (Bp 1000 189),wrI 189 (.cells (AE.c (Z1z l b types)) 146) (tI (AB (Z1z l b types) 3).1) (.cells (AE.c (AB (Z1z l b types) 3).2) 146))
def Z1C (l:(List (List Int))) (b:AH) (types:(List AP)):Tv:=tB (decide (((AB (Z1z l b types) 3).1:Int)=0))
def Z1D (l:(List (List Int))) (b:AH) (types:(List AP)):Blk:=.cells (AE.c (AB (Z1z l b types) 3).2) 146
def Z1E:CT:=(83,((ME b types):List Av).map (Bp 1000 189),wrI 189 (.cells (AE.c (AB (Z1z l b types) 3).2) 146) (.av (.agg (AF.c (Bn (Ib b) types (AB (Z1z l b types) 3).2).1))) (.cells (AE.c (Bn (Ib b) types (AB (Z1z l b types) 3).2).2) 146))
abbrev Z1F:AE:=(Bn (AH.mk b.Layers b.Outline b.Parts [] [] [] [] [] [] [] [] [] []) types (AB (Z1z l b types) 3).2).2
def Z1G:AF:=(Bn (AH.mk b.Layers b.Outline b.Parts [] [] [] [] [] [] [] [] [] []) types (AB (Z1z l b types) 3).2).1
def Z1H:CT:=(54,(IZ:List Av).map (Bp 1000 189),wrI 189 (.cells (AE.c (Z1F b types l)) 146) (tI (AB (Z1F b types l) 4).1) (.cells (AE.c (AB (Z1F b types l) 4).2) 146))
def Z1I:AO:=EM (Z1G b types l) (AF.mk (W64 ((Z1G b types l).X+25)) (W64 ((Z1G b types l).Y+10)))
def Z1J:Blk:=.row 8 ([]:List BB).length (AU BB.c ([]:List BB)) 90
def Z1K:Blk:=.row 8 Ag.length (AU BB.c Ag) 90
def Z1L:Blk:=.row 8 ([]:List Br).length (AU Br.c ([]:List Br)) 87
def Z1M:Blk:=.row 8 AV.length (AU Br.c AV) 87
def Z1N:Blk:=.row 6 ([]:List Aj).length (AU Aj.c ([]:List Aj)) 85
def Z1O:Blk:=.cells (A7 b [.own 100000 6 ([]:List Aj).length,vN,vN,vN,vN,vN,vN,vN,vN]) 42
abbrev Qk:List Cl:=(A7 b [.own 100000 6 AN.length,vN,vN,vN,vN,vN,vN,vN,vN])
def Z1P:Blk:=.cells (Qk b AN) 42
def Z1Q:Blk:=.row 6 AN.length (AU Aj.c AN) 85
abbrev GT:List Av:=[.one (.ptr 1000 0),.one (.i 2)]
def Z1R:CT:=(54,(GT:List Av).map (Bp 1000 22),wrI 22 (.cells (AE.c v6) 146) (tI (AB v6 2).1) (.cells (AE.c (AB v6 2).2) 146))
abbrev Gu:=AB (AB v6 2).2 4
def Z1S:CT:=(54,(IZ:List Av).map (Bp 1000 22),wrI 22 (.cells (AE.c (AB v6 2).2) 146) (tI (Gu v6).1) (.cells (AE.c (Gu v6).2) 146))
def Z1T:CT:=(83,((ME b types):List Av).map (Bp 1000 22),wrI 22 (.cells (AE.c (Gu v6).2) 146) (.av (.agg (AF.c (Bn (Ib b) types (Gu v6).2).1))) (.cells (AE.c (Bn (Ib b) types (Gu v6).2).2) 146))
abbrev Z1U:AE:=(Bn (AH.mk b.Layers b.Outline b.Parts [] [] [] [] [] [] [] [] [] []) types (AB (AB v6 2).2 4).2).2
def Z1V:AF:=(Bn (AH.mk b.Layers b.Outline b.Parts [] [] [] [] [] [] [] [] [] []) types (AB (AB v6 2).2 4).2).1
def Z1W:CT:=(83,((ME b types):List Av).map (Bp 1000 22),wrI 22 (.cells (AE.c (Z1U b types v6)) 146) (.av (.agg (AF.c (Bn (Ib b) types (Z1U b types v6)).1))) (.cells (AE.c (Bn (Ib b) types (Z1U b types v6)).2) 146))
abbrev Z1X:AE:=(Bn (AH.mk b.Layers b.Outline b.Parts [] [] [] [] [] [] [] [] [] []) types (Z1U b types v6)).2
def Z1Y:AF:=(Bn (AH.mk b.Layers b.Outline b.Parts [] [] [] [] [] [] [] [] [] []) types (Z1U b types v6)).1
abbrev Td:=CM (Z1V b types v6) (Z1Y b types v6) (Z1X b types v6)
def Z1Z:CT:=(82,([.agg (AF.c (Z1V b types v6)),.agg (AF.c (Z1Y b types v6)),.one (.ptr 1000 0)]:List Av).map (Bp 1000 22),wrI 22 (.cells (AE.c (Z1X b types v6)) 146) (.av (.one (lst 7 AO.c (Td b types v6).1))) (.cells (AE.c (Td b types v6).2) 146))
abbrev Z20:AE:=(CM (Z1V b types v6) (Z1Y b types v6) (Z1X b types v6)).2
abbrev Vn (v9:Int) (v7:ByteArray) (v6:AE) (b:AH) (types:List AP):=[Aj.mk (W64 (11+v9)) v7 (W64 (1+(AB v6 2).1)) (Ah.mk 1 (CM (Z1V b types v6) (Z1Y b types v6) (Z1X b types v6)).1 (W64 (3+(Gu v6).1)))]
def Z21 (AN:List Aj) (v9:Int) (v7:ByteArray) (v6:AE) (b:AH) (types:(List AP)):Blk:=.row 6 (AN++(Vn v9 v7 v6 b types)).length (AU Aj.c (AN++(Vn v9 v7 v6 b types))) 85
abbrev Vq (b:AH) (AN:List Aj) (v9:Int) (v7:ByteArray) (v6:AE) (types:List AP):List Cl:=(A7 b [.own 66 6 (AN++[Aj.mk (W64 (11+v9)) v7 (W64 (1+(AB v6 2).1)) (Ah.mk 1 (CM (Z1V b types v6) (Z1Y b types v6) (Z1X b types v6)).1 (W64 (3+(Gu v6).1)))]).length,vN,vN,vN,vN,vN,vN,vN,vN])
def Z22 (b:AH) (AN:List Aj) (v9:Int) (v7:ByteArray) (v6:AE) (types:(List AP)):Blk:=.cells (Vq b AN v9 v7 v6 types) 42
def Z23:CT:=(81,(MI:List Av).map (Em 1000 1000 1001 22),wqV 1000 22 [6,7,8,9,10,11,12,13,14] (Kz b) 42 (.cells (AE.c (Z20 b types v6)) 146) (.av (.one (.s (CV (HS b) (Z20 b types v6)).1))) (.cells (AE.c (CV (HS b) (Z20 b types v6)).2) 146))
abbrev Z24:AE:=(CV (AH.mk b.Layers b.Outline b.Parts b.Nets [] [] [] [] [] [] [] [] []) (Z20 b types v6)).2
def Z25:Tv:=.av (.one (.s (CV (HS b) (Z20 b types v6)).1))
def Z26:Blk:=.cells (AE.c (Z24 b types v6)) 146
def Z27:CT:=(81,(MI:List Av).map (Em 1000 1000 1001 75),wqV 1000 75 [6,7,8,9,10,11,12,13,14] (Kz b) 42 (.cells (AE.c v6') 146) (.av (.one (.s (CV (HS b) v6').1))) (.cells (AE.c (CV (HS b) v6').2) 146))
abbrev Z28:AE:=(CV (AH.mk b.Layers b.Outline b.Parts b.Nets [] [] [] [] [] [] [] [] []) v6').2
def Z29:CT:=(83,((ME b types):List Av).map (Bp 1000 75),wrI 75 (.cells (AE.c (Z28 b v6')) 146) (.av (.agg (AF.c (Bn (Ib b) types (Z28 b v6')).1))) (.cells (AE.c (Bn (Ib b) types (Z28 b v6')).2) 146))
abbrev Z2a:AE:=(Bn (AH.mk b.Layers b.Outline b.Parts [] [] [] [] [] [] [] [] [] []) types (Z28 b v6')).2
def Z2b:AF:=(Bn (AH.mk b.Layers b.Outline b.Parts [] [] [] [] [] [] [] [] [] []) types (Z28 b v6')).1
abbrev Iy:List Av:=[.one (.ptr 1000 0),.one (.i 5)]
def Z2c:CT:=(54,(Iy:List Av).map (Bp 1000 75),wrI 75 (.cells (AE.c (Z2a b types v6')) 146) (tI (AB (Z2a b types v6') 5).1) (.cells (AE.c (AB (Z2a b types v6') 5).2) 146))
def Z2d:CT:=(54,(EO:List Av).map (Bp 1000 75),wrI 75 (.cells (AE.c (AB (Z2a b types v6') 5).2) 146) (tI (AB (AB (Z2a b types v6') 5).2 3).1) (.cells (AE.c (AB (AB (Z2a b types v6') 5).2 3).2) 146))
abbrev Z2e:AE:=(AB (AB (Z2a b types v6') 5).2 3).2
def Z2f:Blk:=.cells (AE.c (Z2e b types v6')) 146
abbrev Pb (v11:Int) (b:AH) (v6':AE) (types:List AP):=[Br.mk (W64 (21+v11)) (CV (HS b) v6').1 (Z2b b types v6') (W64 (6+(AB (Z2a b types v6') 5).1)) (W64 (4+(W64 (2*(AB (AB (Z2a b types v6') 5).2 3).1)))) 1 2]
def Z2g (AV:List Br) (v11:Int) (b:AH) (v6':AE) (types:(List AP)):Blk:=.row 8 (AV++(Pb v11 b v6' types)).length (AU Br.c (AV++(Pb v11 b v6' types))) 87
def Z2h (b:AH) (AN:List Aj) (AV:List Br) (v11:Int) (v6':AE) (types:(List AP)):Blk:=.cells (A7 b [.own 100000 6 AN.length,.own 108 8 (AV++(Pb v11 b v6' types)).length,vN,vN,vN,vN,vN,vN,vN]) 42
def Z2i:CT:=(54,(EO:List Av).map (Bp 1000 75),wrI 75 (.cells (AE.c v6') 146) (tI (AB v6' 3).1) (.cells (AE.c (AB v6' 3).2) 146))
def Z2j:CT:=(54,(SA:List Av).map (Bp 1000 75),wrI 75 (.cells (AE.c v6'') 146) (tI (AB v6'' 12).1) (.cells (AE.c (AB v6'' 12).2) 146))
abbrev GB:=AB (AB v6'' 12).2 12
def Z2k:CT:=(54,(SA:List Av).map (Bp 1000 75),wrI 75 (.cells (AE.c (AB v6'' 12).2) 146) (tI (GB v6'').1) (.cells (AE.c (GB v6'').2) 146))
def Z2l:CT:=(54,(MH:List Av).map (Bp 1000 75),wrI 75 (.cells (AE.c (GB v6'').2) 146) (tI (AB (GB v6'').2 6).1) (.cells (AE.c (AB (GB v6'').2 6).2) 146))
abbrev Z2m:AE:=(AB (AB (AB v6'' 12).2 12).2 6).2
abbrev I1:=AB (Z2m v6'') 5
def Z2n:CT:=(54,(Iy:List Av).map (Bp 1000 75),wrI 75 (.cells (AE.c (Z2m v6'')) 146) (tI (I1 v6'').1) (.cells (AE.c (I1 v6'').2) 146))
abbrev Oy:=CV (HS b) (I1 v6'').2
def Z2o:CT:=(81,(MI:List Av).map (Em 1000 1000 1001 75),wqV 1000 75 [6,7,8,9,10,11,12,13,14] (Kz b) 42 (.cells (AE.c (I1 v6'').2) 146) (.av (.one (.s (Oy b v6'').1))) (.cells (AE.c (Oy b v6'').2) 146))
abbrev Z2p:AE:=(CV (AH.mk b.Layers b.Outline b.Parts b.Nets [] [] [] [] [] [] [] [] []) (AB (Z2m v6'') 5).2).2
def Z2q:CT:=(54,(GT:List Av).map (Bp 1000 75),wrI 75 (.cells (AE.c (Z2p b v6'')) 146) (tI (AB (Z2p b v6'') 2).1) (.cells (AE.c (AB (Z2p b v6'') 2).2) 146))
abbrev MO:=AB (AB (Z2p b v6'') 2).2 3
def Z2r:CT:=(54,(EO:List Av).map (Bp 1000 75),wrI 75 (.cells (AE.c (AB (Z2p b v6'') 2).2) 146) (tI (MO b v6'').1) (.cells (AE.c (MO b v6'').2) 146))
abbrev Z2s:AE:=(AB (AB (Z2p b v6'') 2).2 3).2
def Z2t:CT:=(54,(GT:List Av).map (Bp 1000 75),wrI 75 (.cells (AE.c (Z2s b v6'')) 146) (tI (AB (Z2s b v6'') 2).1) (.cells (AE.c (AB (Z2s b v6'') 2).2) 146))
abbrev MN:=AB (AB (Z2s b v6'') 2).2 4
def Z2u:CT:=(54,(IZ:List Av).map (Bp 1000 75),wrI 75 (.cells (AE.c (AB (Z2s b v6'') 2).2) 146) (tI (MN b v6'').1) (.cells (AE.c (MN b v6'').2) 146))
abbrev Z2v:AE:=(AB (AB (Z2s b v6'') 2).2 4).2
abbrev Es:=AB (Z2v b v6'') 6
def Z2w:CT:=(54,(MH:List Av).map (Bp 1000 75),wrI 75 (.cells (AE.c (Z2v b v6'')) 146) (tI (Es b v6'').1) (.cells (AE.c (Es b v6'').2) 146))
abbrev GZ:=[Al.mk (AB v6'' 12).1 (AB (AB v6'' 12).2 12).1 (W64 ((W64 ((AB v6'' 12).1+1))+(AB (AB (AB v6'' 12).2 12).2 6).1)) (W64 ((W64 ((AB (AB v6'' 12).2 12).1+1))+(AB (Z2m v6'') 5).1))]
abbrev KE (v12:Int) (b:AH) (v6'':AE) (t_:List Cl):List Cl:=(.i (W64 (31+v12)))::(.s (Oy b v6'').1)::(.i (W64 (1+(AB (Z2p b v6'') 2).1)))::(.i (W64 (20+(W64 (5*(MO b v6'').1)))))::(.i (AB (Z2s b v6'') 2).1)::(.i (([0,0,5,9]:List Int).getD (MN b v6'').1.toNat 0))::t_
def Z2x (v12:Int) (b:AH) (v6'':AE):Blk:=.cells (KE v12 b v6'' [.i (W64 (4+(Es b v6'').1)),.own 158 4 ((GZ v6'').length)]) 90
def Z2y:Blk:=.row 4 ((GZ v6'').length) (AU Al.c (GZ v6'')) 76
def Z2z:CT:=(54,(EO:List Av).map (Bp 1000 75),wrI 75 (.cells (AE.c (Es b v6'').2) 146) (tI (AB (Es b v6'').2 3).1) (.cells (AE.c (AB (Es b v6'').2 3).2) 146))
abbrev Z2A:AE:=(AB (AB (Z2v b v6'') 6).2 3).2
def Z2B:Blk:=.cells (AE.c (Z2A b v6'')) 146
abbrev PX:=[Al.mk (W64 ((AB v6'' 12).1-2)) (GB v6'').1 (W64 ((AB v6'' 12).1+1)) (W64 ((GB v6'').1+2))]
def Z2C:Blk:=.row 4 ((GZ v6'')++(PX v6'')).length (AU Al.c ((GZ v6'')++(PX v6''))) 76
def Z2D:(List Al):=bif decide (((AB (AB (Z2v b v6'') 6).2 3).1:Int)=0) then ([Al.mk (AB v6'' 12).1 (AB (AB v6'' 12).2 12).1 (W64 ((W64 ((AB v6'' 12).1+1))+(AB (AB (AB v6'' 12).2 12).2 6).1)) (W64 ((W64 ((AB (AB v6'' 12).2 12).1+1))+(AB (Z2m v6'') 5).1))]++[Al.mk (W64 ((AB v6'' 12).1-2)) (AB (AB v6'' 12).2 12).1 (W64 ((AB v6'' 12).1+1)) (W64 ((AB (AB v6'' 12).2 12).1+2))]) else [Al.mk (AB v6'' 12).1 (AB (AB v6'' 12).2 12).1 (W64 ((W64 ((AB v6'' 12).1+1))+(AB (AB (AB v6'' 12).2 12).2 6).1)) (W64 ((W64 ((AB (AB v6'' 12).2 12).1+1))+(AB (Z2m v6'') 5).1))]
abbrev Pe (v12:Int) (b:AH) (v6'':AE):=[BB.mk (W64 (31+v12)) (Oy b v6'').1 (W64 (1+(AB (Z2p b v6'') 2).1)) (W64 (20+(W64 (5*(MO b v6'').1)))) (AB (Z2s b v6'') 2).1 (([0,0,5,9]:List Int).getD (MN b v6'').1.toNat 0) (W64 (4+(AB (Z2v b v6'') 6).1)) (Z2D b v6'')]
def Z2E (Ag:List BB) (v12:Int) (b:AH) (v6'':AE):Blk:=.row 8 (Ag++(Pe v12 b v6'')).length (AU BB.c (Ag++(Pe v12 b v6''))) 90
def Z2F (b:AH) (AN:List Aj) (v9:Int) (v7:ByteArray) (v6:AE) (types:(List AP)):Blk:=.cells (A7 b [.own 100000 6 (AN++(Vn v9 v7 v6 b types)).length,vN,vN,vN,vN,vN,vN,vN,vN]) 42
def Z2G:Blk:=.cells (A7 b [.own 100000 6 AN.length,.own 100001 8 ([]:List Br).length,vN,vN,vN,vN,vN,vN,vN]) 42
abbrev EW (t_:List Cl):List Cl:=(.own 100000 6 AN.length)::(.own 100001 8 AV.length)::t_
abbrev Ql:List Cl:=(A7 b (EW AN AV [vN,vN,vN,vN,vN,vN,vN]))
def Z2H:Blk:=.cells (Ql b AN AV) 42
def Z2I:Blk:=.cells (A7 b (EW AN AV [.own 183 8 (Ag++(Pe v12 b v6'')).length,vN,vN,vN,vN,vN,vN])) 42
def Z2J (b:AH) (AN:List Aj) (AV:List Br) (v11:Int) (v6':AE) (types:(List AP)):Blk:=.cells (A7 b [.own 100000 6 AN.length,.own 100001 8 (AV++(Pb v11 b v6' types)).length,vN,vN,vN,vN,vN,vN,vN]) 42
def Z2K:Blk:=.cells (A7 b (EW AN AV [.own 100002 8 ([]:List BB).length,vN,vN,vN,vN,vN,vN])) 42
abbrev Qm:List Cl:=(A7 b (EW AN AV [.own 100002 8 Ag.length,vN,vN,vN,vN,vN,vN]))
def Z2L:Blk:=.cells (Qm b AN AV Ag) 42
abbrev V7 (b:AH) (AN:List Aj) (AV:List Br) (Ag:List BB) (l:List (List Int)) (types:List AP):List Cl:=(A7 b (EW AN AV [.own 100002 8 Ag.length,lst 5 BS.c (Z1A l b types),vN,vN,vN,vN,vN]))
def Z2M (b:AH) (AN:List Aj) (AV:List Br) (Ag:List BB) (l:(List (List Int))) (types:(List AP)):Blk:=.cells (V7 b AN AV Ag l types) 42
def Z2N (v12:Int) (b:AH) (v6'':AE):Blk:=.cells (KE v12 b v6'' [.i (W64 (4+(Es b v6'').1)),.own 100003 4 ((GZ v6'')++(PX v6'')).length]) 90
def Z2O (v12:Int) (b:AH) (v6'':AE):Blk:=.cells (KE v12 b v6'' [.i (W64 (4+(Es b v6'').1)),.own 100003 4 ((GZ v6'').length)]) 90
def Z2P:Blk:=.cells (A7 b (EW AN AV [.own 100002 8 (Ag++(Pe v12 b v6'')).length,vN,vN,vN,vN,vN,vN])) 42
def B6 (b:AH) (types:(List AP)) (l:(List (List Int))) (AN:List Aj) (v6:AE) (v7:ByteArray) (v9:Int) (AV:List Br) (v6':AE) (v11:Int) (K0:List Aj->AE->ByteArray->Int->AH) (K1:List Br->AE->Int->AH):Nat->List BB->AE->Int->AH
 | 0,_,_,_=>default
 | n2+1,Ag,v6'',v12=>bif decide ((v12:Int)<(AB v6' 3).1) then ((B6 b types l AN v6 v7 v9 AV v6' v11 K0 K1 n2) (Ag++[BB.mk (W64 (31+v12)) (CV (AH.mk b.Layers b.Outline b.Parts b.Nets [] [] [] [] [] [] [] [] []) (AB (Z2m v6'') 5).2).1 (W64 (1+(AB (Z2p b v6'') 2).1)) (W64 (20+(W64 (5*(AB (AB (Z2p b v6'') 2).2 3).1)))) (AB (Z2s b v6'') 2).1 (([0,0,5,9]:List Int).getD (AB (AB (Z2s b v6'') 2).2 4).1.toNat 0) (W64 (4+(AB (Z2v b v6'') 6).1)) (Z2D b v6'')]) (Z2A b v6'') (v12+1)) else (bif decide (((AB (Z1z l b types) 3).1:Int)=0) then (AH.mk b.Layers b.Outline b.Parts b.Nets AN AV Ag (Z1A l b types) [Bb.mk 51 (Ah.mk 1 [Z1I b types l] (W64 (3+(AB (Z1F b types l) 4).1)))] [] [] [] []) else (AH.mk b.Layers b.Outline b.Parts b.Nets AN AV Ag (Z1A l b types) [] [] [] [] []))
def CG (b:AH) (types:(List AP)) (l:(List (List Int))) (AN:List Aj) (v6:AE) (v7:ByteArray) (v9:Int) (K0:List Aj->AE->ByteArray->Int->AH):Nat->List Br->AE->Int->AH
 | 0,_,_,_=>default
 | n1+1,AV,v6',v11=>bif decide ((v11:Int)<(AB (AE.mk (AR l 5) 0) 3).1) then ((CG b types l AN v6 v7 v9 K0 n1) (AV++[Br.mk (W64 (21+v11)) (CV (AH.mk b.Layers b.Outline b.Parts b.Nets [] [] [] [] [] [] [] [] []) v6').1 (Z2b b types v6') (W64 (6+(AB (Z2a b types v6') 5).1)) (W64 (4+(W64 (2*(AB (AB (Z2a b types v6') 5).2 3).1)))) 1 2]) (Z2e b types v6') (v11+1)) else (B6 b types l AN v6 v7 v9 AV v6' v11 K0 (CG b types l AN v6 v7 v9 K0 n1) (((AB v6' 3).1-0).toNat+1) ([]:List BB) (AB v6' 3).2 0)
def B1 (b:AH) (types:(List AP)) (l:(List (List Int))):Nat->List Aj->AE->ByteArray->Int->AH
 | 0,_,_,_,_=>default
 | n0+1,AN,v6,v7,v9=>bif decide ((v9:Int)<(AB (Z1l b l) 6).1) then ((B1 b types l n0) (AN++[Aj.mk (W64 (11+v9)) v7 (W64 (1+(AB v6 2).1)) (Ah.mk 1 (CM (Z1V b types v6) (Z1Y b types v6) (Z1X b types v6)).1 (W64 (3+(AB (AB v6 2).2 4).1)))]) (Z24 b types v6) (CV (AH.mk b.Layers b.Outline b.Parts b.Nets [] [] [] [] [] [] [] [] []) (Z20 b types v6)).1 (v9+1)) else (CG b types l AN v6 v7 v9 (B1 b types l n0) (((AB (AE.mk (AR l 5) 0) 3).1-0).toNat+1) ([]:List Br) (AB (AE.mk (AR l 5) 0) 3).2 0)
def BG (b:AH) (types:(List AP)) (l:(List (List Int))):AH:=B1 b types l (((AB (Z1l b l) 6).1-0).toNat+1) ([]:List Aj) (AB (Z1l b l) 6).2 (CV (AH.mk b.Layers b.Outline b.Parts b.Nets [] [] [] [] [] [] [] [] []) (AE.mk (AR l 4) 0)).1 0
abbrev GL:Nat×Tv:=(8,tI (AB v6' 3).1)
abbrev WO (v12:Int) (b:AH) (v6'':AE):List Cl:=(KE v12 b v6'' [.i (W64 (4+(AB (Z2v b v6'') 6).1)),lst 4 Al.c (Z2D b v6'')])
abbrev CB (t_:List (Nat×Tv)):List (Nat×Tv):=(0,tP 1000 0)::(EY types)::(2,Z1i l)::t_
abbrev PV (types:List AP) (l:List (List Int)) (b:AH):List (Nat×Tv):=(CB types l [(6,tP 22 0),(7,Z1m b l),(8,tI (AB (Z1l b l) 6).1),(9,tI 0)])
abbrev MJ (types:List AP) (l:List (List Int)) (v6':AE) (v12:Int):List (Nat×Tv):=(CB types l [(6,tP 75 0),(GL v6'),(12,tI v12),(16,tP 16 0)])
abbrev Gv:Nat×Tv:=(8,tI (AB (Z1l b l) 6).1)
abbrev PQ:List (Nat×Tv):=(CB types l [(6,tP 75 0),(8,Z1q l),(11,tI 0)])
abbrev KS:List (Nat×Tv):=[(0,tP 1000 0),(EY types),(6,tP 189 0)]
abbrev WD:List Cl:=[.i (AB v6'' 12).1,.i (GB v6'').1,.i (W64 ((W64 ((AB v6'' 12).1+1))+(AB (GB v6'').2 6).1)),.i (W64 ((W64 ((GB v6'').1+1))+(I1 v6'').1))]
abbrev SK:List Cl:=[.i 51,.i 1,.list true 7 1 (Au 7 1 (AO.c (Z1I b types l))),.i (W64 (3+(AB (Z1F b types l) 4).1))]
abbrev O9:List (Nat×Tv):=(CB types l [(6,tP 75 0),(GL v6'),(12,tI 0)])
abbrev MC:Nat×Blk:=(75,.cells (AE.c (AB v6' 3).2) 146)
abbrev Vt (v12:Int) (b:AH) (v6'':AE) (t_:List Cl):List Cl:=(.i (W64 (31+v12)))::(.s (CV (HS b) (I1 v6'').2).1)::(.i (W64 (1+(AB (Z2p b v6'') 2).1)))::(.i (W64 (20+(W64 (5*(MO b v6'').1)))))::(.i (AB (Z2s b v6'') 2).1)::(.i (([0,0,5,9]:List Int).getD (MN b v6'').1.toNat 0))::(.i (W64 (4+(AB (Z2v b v6'') 6).1)))::t_
abbrev Lv (v6':AE) (v12:Int) (v6'':AE) (t_:List (Nat×Tv)):List (Nat×Tv):=(6,tP 75 0)::(GL v6')::(12,tI v12)::(13,tI (AB v6'' 12).1)::(14,tI (GB v6'').1)::t_
theorem au4 {p:Prop} (h:p:=by repeat (first | with_reducible assumption | exact Ca (C6 hll _) | with_reducible refine BR ?_ | with_reducible refine D3 ?_ | with_reducible refine DK ?_ | with_reducible refine C0 ?_  | with_reducible refine Cg ?_ ?_)):p:=h
set_option maxHeartbeats 2000000 in
theorem Sf  (b:AH) (types:(List AP)) (l:(List (List Int))) (hb:(b.Parts.length:Int)<=1000000) (ht:(types.length:Int)<=1000000) (hg:Ln b types) (hn:1<=(b.Nets.length:Int)/\(b.Nets.length:Int)<=1000000) (hl:(l.length:Int)<=9223372036854775807) (hll:∀ x∈l,(x.length:Int)<=9223372036854775807):Wr Try.prog 56 1000 [.one (.ptr 1000 0),.one (lst 3 AP.c types),.one (lst 1 (fun x=>[lst 1 eIn x]) l)] (.cells [.i b.Layers,.i b.Outline.Kind,lst 7 AO.c b.Outline.Edges,.i b.Outline.R,lst 7 AG.c b.Parts,lst 2 BA.c b.Nets,vN,vN,vN,vN,vN,vN,vN,vN,vN] 42) (.tup []) (.cells [.i (BG b types l).Layers,.i (BG b types l).Outline.Kind,lst 7 AO.c (BG b types l).Outline.Edges,.i (BG b types l).Outline.R,lst 7 AG.c (BG b types l).Parts,lst 2 BA.c (BG b types l).Nets,lst 6 Aj.c (BG b types l).Tracks,lst 8 Br.c (BG b types l).Vias,lst 8 BB.c (BG b types l).Pours,lst 5 BS.c (BG b types l).Keeps,lst 4 Bb.c (BG b types l).Slots,vN,vN,vN,vN] 42):=by
 refine Ga Try.func56 rfl kr kr kr kr fun W0 M0 X hX => ?_
 refine AD<|rs 20 (Dx l 4) ⟨(CB types l [(6,tP 22 0)]),[(22,.cells [lst 1 eIn (AR l 4),.i 0] 146),(1000,Z1j b)]⟩ (FB l 4 au9)<|AJ<|AD ?_
 refine rc [(25,(Z1k b l))] [Ay (Z1k b l).2.1,Blk.cells (Vj b) 42=Blk.cells (Nh [6,7,8,9,10,11,12,13,14] 0 (Vj b) (Kz b)) 42,Bu (.cells [lst 1 eIn (AR l 4),.i 0] 146)] ⟨(CB types l [(6,tP 22 0),(7,Z1m b l)]),[(22,.cells (AE.c (Z1l b l)) 146),(1000,Z1j b)]⟩ (.cons (HI (B0:=fun vs=>(A7 b [.val (vs 6),.val (vs 7),.val (vs 8),.val (vs 9),.val (vs 10),.val (vs 11),.val (vs 12),.val (vs 13),.val (vs 14)])) (fun _ _=>kr) kr rfl rfl kr (fun vs=>by kernel_rfl) (fun vs=>by kernel_rfl) (fun vs=>Pl (AH.mk b.Layers b.Outline b.Parts b.Nets [] [] [] [] [] [] [] [] []) (AE.mk (AR l 4) 0) vs au4 oM)) .nil) (.cons rfl (.cons rfl (.cons rfl .nil)))<|AJ<|AD ?_
 refine rb 27 (Z1n b l) (.cells (AE.c (Z1l b l)) 146) ⟨(CB types l [(6,tP 22 0),(7,Z1m b l),(Gv b l)]),[(22,Z1o b l),(1000,Z1j b)]⟩ (cWr (BT (Z1l b l) 6 au4 au7))<|AJ ?_
 refine AD<|AD ?_
 refine rn ⟨(PV types l b),[(22,Z1o b l),(1000,Z1j b)]⟩<|AX ?_
 refine BL (Cv.trans (wg (⟨(PV types l b),[(100000,.row 6 0 (fun _ _=>default) 85),(22,Z1o b l),(1000,.cells (A7 b [.own 100000 6 0,vN,vN,vN,vN,vN,vN,vN,vN]) 42)]⟩) 100000 6 (fun _ _=>default) 85 [] [(1000,[6])] (K:=[1000]) hX) (Cv.trans (BH (⟨(PV types l b),[(100000,Z1N),(22,Z1o b l),(1000,Z1O b)]⟩) lr (.cons ⟨rfl,Ai 85 (B5 6 (fun _ _=>default) Aj.c)⟩ (.cons ⟨rfl,.refl _⟩ (.cons ⟨rfl,.cells _ (rr5 (rr (.cons (.own _ _ au0) (rr (rr (rr (rr (rr (rr (rr (rr .nil)))))))))))⟩ .nil)))) (Cv.trans (ck (⟨(PV types l b),[(22,Z1o b l),(1000,Z1O b),(100000,Z1N)]⟩)) (Cv.refl _)))) ?_
 refine BN (ι:=Nat×List Aj×AE×ByteArray×Int) (fun x=>⟨(CB types l [(6,tP 22 0),(7,tO (.s x.2.2.2.1)),(Gv b l),(9,tI x.2.2.2.2)]),[(22,.cells (AE.c x.2.2.1) 146),(1000,.cells (A7 b [.own 100000 6 x.2.1.length,vN,vN,vN,vN,vN,vN,vN,vN]) 42),(100000,.row 6 x.2.1.length (AU Aj.c x.2.1) 85)]⟩) (fun x=>((AB (Z1l b l) 6).1-x.2.2.2.2).toNat<x.1/\(Bi x.2.2.1/\0<=x.2.2.2.2/\(x.2.2.2.2<=(AB (Z1l b l) 6).1\/x.2.2.2.2=0)/\(x.2.1.length:Int)<=0+1*(x.2.2.2.2-0))/\B1 b types l x.1 x.2.1 x.2.2.1 x.2.2.2.1 x.2.2.2.2=BG b types l) (fun x=>x.1) ?_ (((AB (Z1l b l) 6).1-0).toNat+1,([]:List Aj),(AB (Z1l b l) 6).2,(CV (AH.mk b.Layers b.Outline b.Parts b.Nets [] [] [] [] [] [] [] [] []) (AE.mk (AR l 4) 0)).1,0) ⟨Nat.lt_succ_self _,⟨(by show Bi ((AB (Z1l b l) 6).2);repeat (first | with_reducible assumption | exact Ca (C6 hll _) | with_reducible refine BR ?_ | with_reducible refine D3 ?_ | with_reducible refine DK ?_ | with_reducible refine C0 ?_  | with_reducible refine Cg ?_ ?_)),ax0,ax0,ax0⟩,(by simp only [BG,cond_true,cond_false])⟩
 rintro ⟨n0,AN,v6,v7,v9⟩ ⟨hm0,hinv0,hF0⟩
 try dsimp only at hm0 hinv0 hF0
 cases n0 with | zero=>exact nz hm0 | succ n0 => ?_
 have hi0_0:=hinv0.1
 refine AD<|AD ?_
 refine rn ⟨(CB types l [(6,tP 22 0),(7,tO (.s v7)),(Gv b l),(9,tI v9),(30,tB (decide ((v9:Int)<(AB (Z1l b l) 6).1)))]),[(22,.cells (AE.c v6) 146),(1000,Z1P b AN),(100000,Z1Q AN)]⟩ ?_
 refine Aa _ rfl (fun h1 => ?_) (fun h1 => ?_)
 ·have g1:=oT h1
  have k1:=P8 g1 (by decide) (by decide)
  refine Ad<|AJ ?_
  refine AD<|AX<|AD ?_
  refine rb 37 (Z1R v6) (.cells (AE.c v6) 146) ⟨(CB types l [(6,tP 22 0),(Gv b l),(9,tI v9),(10,tP 10 0)]),[(10,.cells [.i (W64 (11+v9)),.s v7,.i (W64 (1+(AB v6 2).1)),.i 0,vN,.i 0] 85),(22,.cells (AE.c (AB v6 2).2) 146),(1000,Z1P b AN),(100000,Z1Q AN)]⟩ (cWr (BT v6 2 au4 au7))<|AJ<|AD ?_
  refine dw [] [(41,(Z1S v6)),(48,ceI [.agg (Qk b AN),.one (GC types),.one (.ptr 22 0)] (Z1T b types v6)),(54,ceI [.agg (Qk b AN),.one (GC types),.one (.ptr 22 0)] (Z1W b types v6)),(56,(Z1Z b types v6))] [Ay (Z1S v6).2.1,Bu (.cells (AE.c (AB v6 2).2) 146),Ay (ceI [.agg (Qk b AN),.one (lst 3 AP.c types),.one (.ptr 22 0)] (Z1T b types v6)).2.1,Bu (.cells (AE.c (AB (AB v6 2).2 4).2) 146),Ay (ceI [.agg (Qk b AN),.one (lst 3 AP.c types),.one (.ptr 22 0)] (Z1W b types v6)).2.1,Bu (.cells (AE.c (Z1U b types v6)) 146),Ay (Z1Z b types v6).2.1,Bu (.cells (AE.c (Z1X b types v6)) 146)] ⟨(CB types l [(6,tP 22 0),(Gv b l),(9,tI v9),(10,tP 10 0)]),[(10,.cells [.i (W64 (11+v9)),.s v7,.i (W64 (1+(AB v6 2).1)),.i 1,lst 7 AO.c (Td b types v6).1,.i (W64 (3+(Gu v6).1))] 85),(22,.cells (AE.c (Z20 b types v6)) 146),(1000,Z1P b AN),(100000,Z1Q AN)]⟩ (.cons (cWr (BT (AB v6 2).2 4 au4 au7)) (.cons (CX (cWr (Jb (AH.mk b.Layers b.Outline b.Parts [] [] [] [] [] [] [] [] [] []) types (AB (AB v6 2).2 4).2 au4 oM oM (by assumption))) (.cons (.agg (rr5 (.cons (.any _) (.cons (.any _) (.cons (.any _) (.cons (.any _) (.cons (.any _) (.cons (.any _) (.cons (.any _) (.cons (.any _) (.cons (.any _) (.cons (.any _) .nil)))))))))))) (.cons (AvE.refl _) (.cons (AvE.refl _) .nil)))) (.cons (CX (cWr (Jb (AH.mk b.Layers b.Outline b.Parts [] [] [] [] [] [] [] [] [] []) types (Z1U b types v6) au4 oM oM (by assumption))) (.cons (.agg (rr5 (.cons (.any _) (.cons (.any _) (.cons (.any _) (.cons (.any _) (.cons (.any _) (.cons (.any _) (.cons (.any _) (.cons (.any _) (.cons (.any _) (.cons (.any _) .nil)))))))))))) (.cons (AvE.refl _) (.cons (AvE.refl _) .nil)))) (.cons (cWr (Wu (Z1V b types v6) (Z1Y b types v6) (Z1X b types v6) au4)) .nil)))) (.cons rfl (.cons rfl (.cons rfl (.cons rfl (.cons rfl (.cons rfl (.cons rfl (.cons rfl .nil))))))))<|AJ<|AD ?_
  refine dw [] [] [AN.length=AN.length,AN.length+1<=maxLen,(AN.length+1)*72<=140737488355328] ⟨(CB types l [(6,tP 22 0),(Gv b l),(9,tI v9)]),[(22,.cells (AE.c (Z20 b types v6)) 146),(66,.row 6 (AN.length+1) (fun i_ j_=>if i_<AN.length then (AU Aj.c AN) i_ j_ else (Au 6 1 [.i (W64 (11+v9)),.s v7,.i (W64 (1+(AB v6 2).1)),.i 1,lst 7 AO.c (Td b types v6).1,.i (W64 (3+(Gu v6).1))]) (i_-AN.length) j_) 85),(1000,.cells (A7 b [.own 66 6 (AN.length+1),vN,vN,vN,vN,vN,vN,vN,vN]) 42)]⟩ .nil (.cons rfl (.cons au3 (.cons au3 .nil)))<|AJ ?_
  refine BL (Cv.trans (BH (⟨(CB types l [(6,tP 22 0),(Gv b l),(9,tI v9)]),[(22,.cells (AE.c (Z20 b types v6)) 146),(66,Z21 AN v9 v7 v6 b types),(1000,Z22 b AN v9 v7 v6 types)]⟩) lr (.cons ⟨rfl,.refl _⟩ (.cons ⟨rfl,Ai 85 (BM (A8 6 Aj.c AN) (Ar (c:=Aj.c) (xs:=([Aj.mk (W64 (11+v9)) v7 (W64 (1+(AB v6 2).1)) (Ah.mk 1 (CM (Z1V b types v6) (Z1Y b types v6) (Z1X b types v6)).1 (W64 (3+(AB (AB v6 2).2 4).1)))]:List Aj)) rfl kr))⟩ (.cons ⟨rfl,.cells _ (rr5 (rr (.cons (.own _ _ au0) (rr (rr (rr (rr (rr (rr (rr (rr .nil)))))))))))⟩ .nil)))) (Cv.refl _)) ?_
  refine rc [(71,(Z23 b types v6))] [Ay (Z23 b types v6).2.1,Blk.cells (Vq b AN v9 v7 v6 types) 42=Blk.cells (Nh [6,7,8,9,10,11,12,13,14] 0 (Vq b AN v9 v7 v6 types) (Kz b)) 42,Bu (.cells (AE.c (Z20 b types v6)) 146)] ⟨(CB types l [(6,tP 22 0),(7,Z25 b types v6),(Gv b l),(9,tI v9)]),[(22,Z26 b types v6),(66,Z21 AN v9 v7 v6 b types),(1000,Z22 b AN v9 v7 v6 types)]⟩ (.cons (HI (B0:=fun vs=>(A7 b [.val (vs 6),.val (vs 7),.val (vs 8),.val (vs 9),.val (vs 10),.val (vs 11),.val (vs 12),.val (vs 13),.val (vs 14)])) (fun _ _=>kr) kr rfl rfl kr (fun vs=>by kernel_rfl) (fun vs=>by kernel_rfl) (fun vs=>Pl (AH.mk b.Layers b.Outline b.Parts b.Nets [] [] [] [] [] [] [] [] []) (Z20 b types v6) vs au4 oM)) .nil) (.cons rfl (.cons rfl (.cons rfl .nil)))<|Bg<|AJ ?_
  refine rg ⟨(CB types l [(6,tP 22 0),(7,Z25 b types v6),(Gv b l),(9,tI (W64 (v9+1)))]),[(22,Z26 b types v6),(66,Z21 AN v9 v7 v6 b types),(1000,Z22 b AN v9 v7 v6 types)]⟩ ?_
  (try rw [(show W64 (v9+1)=v9+1 from Ap oM au8)])
  refine AJ ?_
  refine ⟨(n0,AN++[Aj.mk (W64 (11+v9)) v7 (W64 (1+(AB v6 2).1)) (Ah.mk 1 (CM (Z1V b types v6) (Z1Y b types v6) (Z1X b types v6)).1 (W64 (3+(AB (AB v6 2).2 4).1)))],Z24 b types v6,(CV (AH.mk b.Layers b.Outline b.Parts b.Nets [] [] [] [] [] [] [] [] []) (Z20 b types v6)).1,v9+1),⟨?_,?_,(by rw [<- hF0];simp only [B1,h1,cond_true,cond_false])⟩,Nat.lt_succ_self _,Cv.trans (vr 66 100000 (K:=[1000]) hX) (Cv.trans (vk [0,1,2,6,7,8,9] [22,1000,100000]) (A9 kr))⟩
  ·show ((AB (Z1l b l) 6).1-(v9+1)).toNat<n0;omega
  exact ⟨(by show Bi (Z24 b types v6);repeat (first | with_reducible assumption | exact Ca (C6 hll _) | with_reducible refine BR ?_ | with_reducible refine D3 ?_ | with_reducible refine DK ?_ | with_reducible refine C0 ?_  | with_reducible refine Cg ?_ ?_)),ax0,ax0,ax0⟩
 have g1:=oF h1
 refine BO<|BD ?_
 refine BD<|BP ?_
 refine AJ<|AD ?_
 refine rs 73 (Dx l 5) ⟨(CB types l [(6,tP 75 0)]),[(75,.cells [lst 1 eIn (AR l 5),.i 0] 146),(1000,Z1P b AN),(100000,Z1Q AN)]⟩ (FB l 5 au9)<|AJ<|AD ?_
 refine rb 77 (Z1p l) (.cells [lst 1 eIn (AR l 5),.i 0] 146) ⟨(CB types l [(6,tP 75 0),(8,Z1q l)]),[(75,Z1r l),(1000,Z1P b AN),(100000,Z1Q AN)]⟩ (cWr (BT (AE.mk (AR l 5) 0) 3 au4 au7))<|AJ ?_
 refine AD<|AD ?_
 refine rn ⟨(PQ types l),[(75,Z1r l),(1000,Z1P b AN),(100000,Z1Q AN)]⟩<|AX ?_
 refine BL (Cv.trans (wg (⟨(PQ types l),[(100001,.row 8 0 (fun _ _=>default) 87),(75,Z1r l),(1000,.cells (A7 b [.own 100000 6 AN.length,.own 100001 8 0,vN,vN,vN,vN,vN,vN,vN]) 42),(100000,Z1Q AN)]⟩) 100001 8 (fun _ _=>default) 87 [] [(1000,[7])] (K:=[1000]) hX) (Cv.trans (BH (⟨(PQ types l),[(100001,Z1L),(75,Z1r l),(1000,Z2G b AN),(100000,Z1Q AN)]⟩) lr (.cons ⟨rfl,Ai 87 (B5 8 (fun _ _=>default) Br.c)⟩ (.cons ⟨rfl,.refl _⟩ (.cons ⟨rfl,.cells _ (rr5 (rr2 (.cons (.own _ _ au0) (rr (rr (rr (rr (rr (rr (rr .nil))))))))))⟩ lr)))) (Cv.trans (ck (⟨(PQ types l),[(75,Z1r l),(1000,Z2G b AN),(100000,Z1Q AN),(100001,Z1L)]⟩)) (Cv.refl _)))) ?_
 refine BN (ι:=Nat×List Br×AE×Int) (fun x=>⟨(CB types l [(6,tP 75 0),(8,Z1q l),(11,tI x.2.2.2)]),[(75,.cells (AE.c x.2.2.1) 146),(1000,.cells (A7 b [.own 100000 6 AN.length,.own 100001 8 x.2.1.length,vN,vN,vN,vN,vN,vN,vN]) 42),(100000,Z1Q AN),(100001,.row 8 x.2.1.length (AU Br.c x.2.1) 87)]⟩) (fun x=>((AB (AE.mk (AR l 5) 0) 3).1-x.2.2.2).toNat<x.1/\(Bi x.2.2.1/\0<=x.2.2.2/\(x.2.2.2<=(AB (AE.mk (AR l 5) 0) 3).1\/x.2.2.2=0)/\(x.2.1.length:Int)<=0+1*(x.2.2.2-0))/\CG b types l AN v6 v7 v9 (B1 b types l n0) x.1 x.2.1 x.2.2.1 x.2.2.2=BG b types l) (fun x=>x.1) ?_ (((AB (AE.mk (AR l 5) 0) 3).1-0).toNat+1,([]:List Br),(AB (AE.mk (AR l 5) 0) 3).2,0) ⟨Nat.lt_succ_self _,⟨(by show Bi ((AB (AE.mk (AR l 5) 0) 3).2);repeat (first | with_reducible assumption | exact Ca (C6 hll _) | with_reducible refine BR ?_ | with_reducible refine D3 ?_ | with_reducible refine DK ?_ | with_reducible refine C0 ?_  | with_reducible refine Cg ?_ ?_)),ax0,ax0,ax0⟩,(by rw [<- hF0];simp only [B1,h1,cond_true,cond_false])⟩
 rintro ⟨n1,AV,v6',v11⟩ ⟨hm1,hinv1,hF1⟩
 try dsimp only at hm1 hinv1 hF1
 cases n1 with | zero=>exact nz hm1 | succ n1 => ?_
 have hi1_0:=hinv1.1
 refine AD<|AD ?_
 refine rn ⟨(CB types l [(6,tP 75 0),(8,Z1q l),(11,tI v11),(80,tB (decide ((v11:Int)<(AB (AE.mk (AR l 5) 0) 3).1)))]),[(75,.cells (AE.c v6') 146),(1000,Z2H b AN AV),(100000,Z1Q AN),(100001,Z1M AV)]⟩ ?_
 refine Aa _ rfl (fun h2 => ?_) (fun h2 => ?_)
 ·have g2:=oT h2
  have k2:=P8 g2 (by decide) (by decide)
  refine Ad<|AJ ?_
  refine AD<|AX ?_
  refine dw [] [(92,(Z27 b v6')),(98,ceI [.agg (Ql b AN AV),.one (GC types),.one (.ptr 75 0)] (Z29 b types v6')),(100,(Z2c b types v6')),(103,(Z2d b types v6'))] [Ay (Z27 b v6').2.1,Blk.cells (Ql b AN AV) 42=Blk.cells (Nh [6,7,8,9,10,11,12,13,14] 0 (Ql b AN AV) (Kz b)) 42,Bu (.cells (AE.c v6') 146),Ay (ceI [.agg (Ql b AN AV),.one (lst 3 AP.c types),.one (.ptr 75 0)] (Z29 b types v6')).2.1,Bu (.cells (AE.c (Z28 b v6')) 146),Ay (Z2c b types v6').2.1,Bu (.cells (AE.c (Z2a b types v6')) 146),Ay (Z2d b types v6').2.1,Bu (.cells (AE.c (AB (Z2a b types v6') 5).2) 146),AV.length=AV.length,AV.length+1<=maxLen,(AV.length+1)*72<=140737488355328] ⟨(CB types l [(6,tP 75 0),(8,Z1q l),(11,tI v11)]),[(75,Z2f b types v6'),(108,.row 8 (AV.length+1) (fun i_ j_=>if i_<AV.length then (AU Br.c AV) i_ j_ else (Au 8 1 [.i (W64 (21+v11)),.s (CV (HS b) v6').1,.i (Z2b b types v6').X,.i (Z2b b types v6').Y,.i (W64 (6+(AB (Z2a b types v6') 5).1)),.i (W64 (4+(W64 (2*(AB (AB (Z2a b types v6') 5).2 3).1)))),.i 1,.i 2]) (i_-AV.length) j_) 87),(1000,.cells (A7 b [.own 100000 6 AN.length,.own 108 8 (AV.length+1),vN,vN,vN,vN,vN,vN,vN]) 42),(100000,Z1Q AN)]⟩ (.cons (HI (B0:=fun vs=>(A7 b [.val (vs 6),.val (vs 7),.val (vs 8),.val (vs 9),.val (vs 10),.val (vs 11),.val (vs 12),.val (vs 13),.val (vs 14)])) (fun _ _=>kr) kr rfl rfl kr (fun vs=>by kernel_rfl) (fun vs=>by kernel_rfl) (fun vs=>Pl (AH.mk b.Layers b.Outline b.Parts b.Nets [] [] [] [] [] [] [] [] []) v6' vs au4 oM)) (.cons (CX (cWr (Jb (AH.mk b.Layers b.Outline b.Parts [] [] [] [] [] [] [] [] [] []) types (Z28 b v6') au4 oM oM (by assumption))) (.cons (.agg (rr5 (.cons (.any _) (.cons (.any _) (.cons (.any _) (.cons (.any _) (.cons (.any _) (.cons (.any _) (.cons (.any _) (.cons (.any _) (.cons (.any _) (.cons (.any _) .nil)))))))))))) (.cons (AvE.refl _) (.cons (AvE.refl _) .nil)))) (.cons (cWr (BT (Z2a b types v6') 5 au4 au7)) (.cons (cWr (BT (AB (Z2a b types v6') 5).2 3 au4 au7)) .nil)))) (.cons rfl (.cons rfl (.cons rfl (.cons rfl (.cons rfl (.cons rfl (.cons rfl (.cons rfl (.cons rfl (.cons rfl (.cons au3 (.cons au3 .nil))))))))))))<|Bg<|AJ ?_
  refine BL (Cv.trans (BH (⟨(CB types l [(6,tP 75 0),(8,Z1q l),(11,tI v11)]),[(75,Z2f b types v6'),(108,Z2g AV v11 b v6' types),(1000,Z2h b AN AV v11 v6' types),(100000,Z1Q AN)]⟩) lr (.cons ⟨rfl,.refl _⟩ (.cons ⟨rfl,Ai 87 (BM (A8 8 Br.c AV) (Ar (c:=Br.c) (xs:=([Br.mk (W64 (21+v11)) (CV (AH.mk b.Layers b.Outline b.Parts b.Nets [] [] [] [] [] [] [] [] []) v6').1 (Z2b b types v6') (W64 (6+(AB (Z2a b types v6') 5).1)) (W64 (4+(W64 (2*(AB (AB (Z2a b types v6') 5).2 3).1)))) 1 2]:List Br)) rfl kr))⟩ (.cons ⟨rfl,.cells _ (rr5 (rr2 (.cons (.own _ _ au0) (rr (rr (rr (rr (rr (rr (rr .nil))))))))))⟩ lr)))) (Cv.refl _)) ?_
  refine rg ⟨(CB types l [(6,tP 75 0),(8,Z1q l),(11,tI (W64 (v11+1)))]),[(75,Z2f b types v6'),(108,Z2g AV v11 b v6' types),(1000,Z2h b AN AV v11 v6' types),(100000,Z1Q AN)]⟩ ?_
  (try rw [(show W64 (v11+1)=v11+1 from Ap oM au8)])
  refine AJ ?_
  refine ⟨(n1,AV++[Br.mk (W64 (21+v11)) (CV (AH.mk b.Layers b.Outline b.Parts b.Nets [] [] [] [] [] [] [] [] []) v6').1 (Z2b b types v6') (W64 (6+(AB (Z2a b types v6') 5).1)) (W64 (4+(W64 (2*(AB (AB (Z2a b types v6') 5).2 3).1)))) 1 2],Z2e b types v6',v11+1),⟨?_,?_,(by rw [<- hF1];simp only [CG,h2,cond_true,cond_false])⟩,Nat.lt_succ_self _,Cv.trans (vr 108 100001 (K:=[1000]) hX) (Cv.trans (vk [0,1,2,6,8,11] [75,1000,100000,100001]) (A9 kr))⟩
  ·show ((AB (AE.mk (AR l 5) 0) 3).1-(v11+1)).toNat<n1;omega
  exact ⟨(by show Bi (Z2e b types v6');repeat (first | with_reducible assumption | exact Ca (C6 hll _) | with_reducible refine BR ?_ | with_reducible refine D3 ?_ | with_reducible refine DK ?_ | with_reducible refine C0 ?_  | with_reducible refine Cg ?_ ?_)),ax0,ax0,ax0⟩
 have g2:=oF h2
 refine BO<|BD ?_
 refine BD<|BP ?_
 refine AJ<|AD ?_
 refine rb 112 (Z2i v6') (.cells (AE.c v6') 146) ⟨(CB types l [(6,tP 75 0),(GL v6')]),[(MC v6'),(1000,Z2H b AN AV),(100000,Z1Q AN),(100001,Z1M AV)]⟩ (cWr (BT v6' 3 au4 au7))<|AJ ?_
 refine AD<|AD ?_
 refine rn ⟨(O9 types l v6'),[(MC v6'),(1000,Z2H b AN AV),(100000,Z1Q AN),(100001,Z1M AV)]⟩<|AX ?_
 refine BL (Cv.trans (wg (⟨(O9 types l v6'),[(100002,.row 8 0 (fun _ _=>default) 90),(MC v6'),(1000,.cells (A7 b (EW AN AV [.own 100002 8 0,vN,vN,vN,vN,vN,vN])) 42),(100000,Z1Q AN),(100001,Z1M AV)]⟩) 100002 8 (fun _ _=>default) 90 [] [(1000,[8])] (K:=[1000]) hX) (Cv.trans (BH (⟨(O9 types l v6'),[(100002,Z1J),(MC v6'),(1000,Z2K b AN AV),(100000,Z1Q AN),(100001,Z1M AV)]⟩) lr (.cons ⟨rfl,Ai 90 (B5 8 (fun _ _=>default) BB.c)⟩ (.cons ⟨rfl,.refl _⟩ (.cons ⟨rfl,.cells _ (rr5 (rr3 (.cons (.own _ _ au0) (rr (rr (rr (rr (rr (rr .nil)))))))))⟩ lr)))) (Cv.trans (ck (⟨(O9 types l v6'),[(MC v6'),(1000,Z2K b AN AV),(100000,Z1Q AN),(100001,Z1M AV),(100002,Z1J)]⟩)) (Cv.refl _)))) ?_
 refine BN (ι:=Nat×List BB×AE×Int) (fun x=>⟨(CB types l [(6,tP 75 0),(GL v6'),(12,tI x.2.2.2)]),[(75,.cells (AE.c x.2.2.1) 146),(1000,.cells (A7 b (EW AN AV [.own 100002 8 x.2.1.length,vN,vN,vN,vN,vN,vN])) 42),(100000,Z1Q AN),(100001,Z1M AV),(100002,.row 8 x.2.1.length (AU BB.c x.2.1) 90)]⟩) (fun x=>((AB v6' 3).1-x.2.2.2).toNat<x.1/\(Bi x.2.2.1/\0<=x.2.2.2/\(x.2.2.2<=(AB v6' 3).1\/x.2.2.2=0)/\(x.2.1.length:Int)<=0+1*(x.2.2.2-0))/\B6 b types l AN v6 v7 v9 AV v6' v11 (B1 b types l n0) (CG b types l AN v6 v7 v9 (B1 b types l n0) n1) x.1 x.2.1 x.2.2.1 x.2.2.2=BG b types l) (fun x=>x.1) ?_ (((AB v6' 3).1-0).toNat+1,([]:List BB),(AB v6' 3).2,0) ⟨Nat.lt_succ_self _,⟨(by show Bi ((AB v6' 3).2);repeat (first | with_reducible assumption | exact Ca (C6 hll _) | with_reducible refine BR ?_ | with_reducible refine D3 ?_ | with_reducible refine DK ?_ | with_reducible refine C0 ?_  | with_reducible refine Cg ?_ ?_)),ax0,ax0,ax0⟩,(by rw [<- hF1];simp only [CG,h2,cond_true,cond_false])⟩
 rintro ⟨n2,Ag,v6'',v12⟩ ⟨hm2,hinv2,hF2⟩
 try dsimp only at hm2 hinv2 hF2
 cases n2 with | zero=>exact nz hm2 | succ n2 => ?_
 have hi2_0:=hinv2.1
 refine AD<|AD ?_
 refine rn ⟨(CB types l [(6,tP 75 0),(GL v6'),(12,tI v12),(115,tB (decide ((v12:Int)<(AB v6' 3).1)))]),[(75,.cells (AE.c v6'') 146),(1000,Z2L b AN AV Ag),(100000,Z1Q AN),(100001,Z1M AV),(100002,Z1K Ag)]⟩ ?_
 refine Aa _ rfl (fun h3 => ?_) (fun h3 => ?_)
 ·have g3:=oT h3
  have k3:=P8 g3 (by decide) (by decide)
  refine Ad<|AJ ?_
  refine AD<|AX<|AD ?_
  refine rc [(119,(Z2j v6'')),(121,(Z2k v6''))] [Ay (Z2j v6'').2.1,Bu (.cells (AE.c v6'') 146),Ay (Z2k v6'').2.1,Bu (.cells (AE.c (AB v6'' 12).2) 146)] ⟨(CB types l (Lv v6' v12 v6'' [])),[(75,.cells (AE.c (GB v6'').2) 146),(1000,Z2L b AN AV Ag),(100000,Z1Q AN),(100001,Z1M AV),(100002,Z1K Ag)]⟩ (.cons (cWr (BT v6'' 12 au4 au7)) (.cons (cWr (BT (AB v6'' 12).2 12 au4 au7)) .nil)) (.cons rfl (.cons rfl (.cons rfl (.cons rfl .nil))))<|AJ<|AD ?_
  refine rc [(127,(Z2l v6'')),(132,(Z2n v6''))] [Ay (Z2l v6'').2.1,Bu (.cells (AE.c (AB (AB v6'' 12).2 12).2) 146),Ay (Z2n v6'').2.1,Bu (.cells (AE.c (Z2m v6'')) 146)] ⟨(CB types l (Lv v6' v12 v6'' [(15,tP 15 0)])),[(15,.cells (WD v6'') 76),(75,.cells (AE.c (I1 v6'').2) 146),(1000,Z2L b AN AV Ag),(100000,Z1Q AN),(100001,Z1M AV),(100002,Z1K Ag)]⟩ (.cons (cWr (BT (AB (AB v6'' 12).2 12).2 6 au4 au7)) (.cons (cWr (BT (Z2m v6'') 5 au4 au7)) .nil)) (.cons rfl (.cons rfl (.cons rfl (.cons rfl .nil))))<|AJ<|AD ?_
  refine dw [158] [(139,(Z2o b v6'')),(141,(Z2q b v6'')),(144,(Z2r b v6'')),(148,(Z2t b v6'')),(151,(Z2u b v6'')),(155,(Z2w b v6''))] [Ay (Z2o b v6'').2.1,Blk.cells (Qm b AN AV Ag) 42=Blk.cells (Nh [6,7,8,9,10,11,12,13,14] 0 (Qm b AN AV Ag) (Kz b)) 42,Bu (.cells (AE.c (AB (Z2m v6'') 5).2) 146),Ay (Z2q b v6'').2.1,Bu (.cells (AE.c (Z2p b v6'')) 146),Ay (Z2r b v6'').2.1,Bu (.cells (AE.c (AB (Z2p b v6'') 2).2) 146),Ay (Z2t b v6'').2.1,Bu (.cells (AE.c (Z2s b v6'')) 146),Ay (Z2u b v6'').2.1,Bu (.cells (AE.c (AB (Z2s b v6'') 2).2) 146),0<=((AB (AB (Z2s b v6'') 2).2 4).1:Int)/\((AB (AB (Z2s b v6'') 2).2 4).1:Int)<((4:Nat):Int),Ay (Z2w b v6'').2.1,Bu (.cells (AE.c (Z2v b v6'')) 146)] ⟨(CB types l (Lv v6' v12 v6'' [(16,tP 16 0)])),[(16,.cells (KE v12 b v6'' [.i (W64 (4+(Es b v6'').1)),.own 158 4 1]) 90),(75,.cells (AE.c (Es b v6'').2) 146),(158,.row 4 1 (Au 4 1 (WD v6'')) 76),(1000,Z2L b AN AV Ag),(100000,Z1Q AN),(100001,Z1M AV),(100002,Z1K Ag)]⟩ (.cons (HI (B0:=fun vs=>(A7 b [.val (vs 6),.val (vs 7),.val (vs 8),.val (vs 9),.val (vs 10),.val (vs 11),.val (vs 12),.val (vs 13),.val (vs 14)])) (fun _ _=>kr) kr rfl rfl kr (fun vs=>by kernel_rfl) (fun vs=>by kernel_rfl) (fun vs=>Pl (AH.mk b.Layers b.Outline b.Parts b.Nets [] [] [] [] [] [] [] [] []) (AB (Z2m v6'') 5).2 vs au4 oM)) (.cons (cWr (BT (Z2p b v6'') 2 au4 au7)) (.cons (cWr (BT (AB (Z2p b v6'') 2).2 3 au4 au7)) (.cons (cWr (BT (Z2s b v6'') 2 au4 au7)) (.cons (cWr (BT (AB (Z2s b v6'') 2).2 4 au4 au7)) (.cons (cWr (BT (Z2v b v6'') 6 au4 au7)) .nil)))))) (.cons rfl (.cons rfl (.cons rfl (.cons rfl (.cons rfl (.cons rfl (.cons rfl (.cons rfl (.cons rfl (.cons rfl (.cons rfl (.cons (by first | exact IA _ _ _ (by decide) (by decide) (by decide) | decide | omega) (.cons rfl (.cons rfl .nil))))))))))))))<|AJ ?_
  refine BL (Cv.trans (BH (⟨(CB types l (Lv v6' v12 v6'' [(16,tP 16 0)])),[(16,Z2x v12 b v6''),(75,.cells (AE.c (Es b v6'').2) 146),(158,Z2y v6''),(1000,Z2L b AN AV Ag),(100000,Z1Q AN),(100001,Z1M AV),(100002,Z1K Ag)]⟩) lr (.cons ⟨rfl,.cells _ (rr5 (rr2 (.cons (.own _ _ au0) .nil)))⟩ (.cons ⟨rfl,.refl _⟩ (.cons ⟨rfl,Ai 76 (Ar (c:=Al.c) (xs:=([Al.mk (AB v6'' 12).1 (AB (AB v6'' 12).2 12).1 (W64 ((W64 ((AB v6'' 12).1+1))+(AB (AB (AB v6'' 12).2 12).2 6).1)) (W64 ((W64 ((AB (AB v6'' 12).2 12).1+1))+(AB (Z2m v6'') 5).1))]:List Al)) rfl kr)⟩ lr)))) (Cv.refl _))<|AD<|AD ?_
  refine rb 161 (Z2z b v6'') (.cells (AE.c (AB (Z2v b v6'') 6).2) 146) ⟨(CB types l (Lv v6' v12 v6'' [(16,tP 16 0),(162,tB (decide (((AB (Es b v6'').2 3).1:Int)=0)))])),[(16,Z2x v12 b v6''),(75,Z2B b v6''),(158,Z2y v6''),(1000,Z2L b AN AV Ag),(100000,Z1Q AN),(100001,Z1M AV),(100002,Z1K Ag)]⟩ (cWr (BT (AB (Z2v b v6'') 6).2 3 au4 au7))<|AJ ?_
  refine Bz (⟨[(0,tP 1000 0),(EY types),(2,.av (oL l)),(6,tP 75 0),(GL v6'),(12,tI v12),(16,tP 16 0)],[(16,.cells (KE v12 b v6'' [.i (W64 (4+(Es b v6'').1)),.own 100003 4 (Z2D b v6'').length]) 90),(75,.cells (AE.c (Z2A b v6'')) 146),(1000,.cells (Qm b AN AV Ag) 42),(100000,.row 6 AN.length (AU Aj.c AN) 85),(100001,.row 8 AV.length (AU Br.c AV) 87),(100002,.row 8 Ag.length (AU BB.c Ag) 90),(100003,.row 4 (Z2D b v6'').length (AU Al.c (Z2D b v6'')) 76)]⟩) ?_ ?_
  ·refine Aa _ rfl (fun h4 => ?_) (fun h4 => ?_)
   ·have g4:=oT h4
    refine rc [] [[Al.mk (AB v6'' 12).1 (AB (AB v6'' 12).2 12).1 (W64 ((W64 ((AB v6'' 12).1+1))+(AB (AB (AB v6'' 12).2 12).2 6).1)) (W64 ((W64 ((AB (AB v6'' 12).2 12).1+1))+(AB (Z2m v6'') 5).1))].length=[Al.mk (AB v6'' 12).1 (AB (AB v6'' 12).2 12).1 (W64 ((W64 ((AB v6'' 12).1+1))+(AB (AB (AB v6'' 12).2 12).2 6).1)) (W64 ((W64 ((AB (AB v6'' 12).2 12).1+1))+(AB (Z2m v6'') 5).1))].length,([Al.mk (AB v6'' 12).1 (AB (AB v6'' 12).2 12).1 (W64 ((W64 ((AB v6'' 12).1+1))+(AB (AB (AB v6'' 12).2 12).2 6).1)) (W64 ((W64 ((AB (AB v6'' 12).2 12).1+1))+(AB (Z2m v6'') 5).1))].length)+1<=maxLen,(([Al.mk (AB v6'' 12).1 (AB (AB v6'' 12).2 12).1 (W64 ((W64 ((AB v6'' 12).1+1))+(AB (AB (AB v6'' 12).2 12).2 6).1)) (W64 ((W64 ((AB (AB v6'' 12).2 12).1+1))+(AB (Z2m v6'') 5).1))].length)+1)*32<=140737488355328] ⟨(MJ types l v6' v12),[(16,.cells (Vt v12 b v6'' [.own 174 4 (((GZ v6'').length)+1)]) 90),(75,Z2B b v6''),(174,.row 4 (((GZ v6'').length)+1) (fun i_ j_=>if i_<((GZ v6'').length) then (AU Al.c (GZ v6'')) i_ j_ else (Au 4 1 [.i (W64 ((AB v6'' 12).1-2)),.i (GB v6'').1,.i (W64 ((AB v6'' 12).1+1)),.i (W64 ((GB v6'').1+2))]) (i_-((GZ v6'').length)) j_) 76),(1000,Z2L b AN AV Ag),(100000,Z1Q AN),(100001,Z1M AV),(100002,Z1K Ag)]⟩ .nil (.cons rfl (.cons au3 (.cons au3 .nil)))<|AJ ?_
    refine Cv.trans (BH (⟨(MJ types l v6' v12),[(16,.cells (Vt v12 b v6'' [.own 174 4 ((GZ v6'')++(PX v6'')).length]) 90),(75,Z2B b v6''),(174,Z2C v6''),(1000,Z2L b AN AV Ag),(100000,Z1Q AN),(100001,Z1M AV),(100002,Z1K Ag)]⟩) lr (.cons ⟨rfl,.cells _ (rr5 (rr2 (.cons (.own _ _ au0) .nil)))⟩ (.cons ⟨rfl,.refl _⟩ (.cons ⟨rfl,Ai 76 (BM (A8 4 Al.c [Al.mk (AB v6'' 12).1 (AB (AB v6'' 12).2 12).1 (W64 ((W64 ((AB v6'' 12).1+1))+(AB (AB (AB v6'' 12).2 12).2 6).1)) (W64 ((W64 ((AB (AB v6'' 12).2 12).1+1))+(AB (Z2m v6'') 5).1))]) (Ar (c:=Al.c) (xs:=([Al.mk (W64 ((AB v6'' 12).1-2)) (AB (AB v6'' 12).2 12).1 (W64 ((AB v6'' 12).1+1)) (W64 ((AB (AB v6'' 12).2 12).1+2))]:List Al)) rfl kr))⟩ lr)))) (Cv.trans (vr 174 100003 (K:=[1000]) hX) (Cv.trans (ck (⟨(MJ types l v6' v12),[(16,Z2N v12 b v6''),(75,Z2B b v6''),(1000,Z2L b AN AV Ag),(100000,Z1Q AN),(100001,Z1M AV),(100002,Z1K Ag),(100003,Z2C v6'')]⟩)) (A9 ?_)))
    first | rfl | (simp only [h4,Z2D,cond_true,cond_false] <;> rfl)
   refine Ad<|AJ ?_
   refine Cv.trans (vk [0,1,2,6,8,12,16] [16,75,158,1000,100000,100001,100002]) (Cv.trans (vr 158 100003 (K:=[1000]) hX) (Cv.trans (ck (⟨(MJ types l v6' v12),[(16,Z2O v12 b v6''),(75,Z2B b v6''),(1000,Z2L b AN AV Ag),(100000,Z1Q AN),(100001,Z1M AV),(100002,Z1K Ag),(100003,Z2y v6'')]⟩)) (A9 ?_)))
   first | rfl | (simp only [h4,Z2D,cond_true,cond_false] <;> rfl)
  refine BL (Cv.trans (wf (⟨(MJ types l v6' v12),[(16,.cells (WO v12 b v6'') 90),(75,Z2B b v6''),(1000,Z2L b AN AV Ag),(100000,Z1Q AN),(100001,Z1M AV),(100002,Z1K Ag)]⟩) 100003 4 (Z2D b v6'').length (AU Al.c (Z2D b v6'')) 76 (K:=[1000]) hX (.cons ⟨rfl,rfl⟩ .nil)) (Cv.refl _)) ?_
  refine dw [] [] [Ag.length=Ag.length,Ag.length+1<=maxLen,(Ag.length+1)*88<=140737488355328] ⟨(CB types l [(6,tP 75 0),(GL v6'),(12,tI v12)]),[(75,Z2B b v6''),(183,.row 8 (Ag.length+1) (fun i_ j_=>if i_<Ag.length then (AU BB.c Ag) i_ j_ else (Au 8 1 (WO v12 b v6'')) (i_-Ag.length) j_) 90),(1000,.cells (A7 b (EW AN AV [.own 183 8 (Ag.length+1),vN,vN,vN,vN,vN,vN])) 42),(100000,Z1Q AN),(100001,Z1M AV)]⟩ .nil (.cons rfl (.cons au3 (.cons au3 .nil)))<|Bg<|AJ ?_
  refine BL (Cv.trans (BH (⟨(CB types l [(6,tP 75 0),(GL v6'),(12,tI v12)]),[(75,Z2B b v6''),(183,Z2E Ag v12 b v6''),(1000,Z2I b AN AV Ag v12 v6''),(100000,Z1Q AN),(100001,Z1M AV)]⟩) lr (.cons ⟨rfl,.refl _⟩ (.cons ⟨rfl,Ai 90 (BM (A8 8 BB.c Ag) (Ar (c:=BB.c) (xs:=([BB.mk (W64 (31+v12)) (CV (AH.mk b.Layers b.Outline b.Parts b.Nets [] [] [] [] [] [] [] [] []) (AB (Z2m v6'') 5).2).1 (W64 (1+(AB (Z2p b v6'') 2).1)) (W64 (20+(W64 (5*(AB (AB (Z2p b v6'') 2).2 3).1)))) (AB (Z2s b v6'') 2).1 (([0,0,5,9]:List Int).getD (AB (AB (Z2s b v6'') 2).2 4).1.toNat 0) (W64 (4+(AB (Z2v b v6'') 6).1)) (Z2D b v6'')]:List BB)) rfl kr))⟩ (.cons ⟨rfl,.cells _ (rr5 (rr3 (.cons (.own _ _ au0) (rr (rr (rr (rr (rr (rr .nil)))))))))⟩ lr)))) (Cv.refl _)) ?_
  refine rg ⟨(CB types l [(6,tP 75 0),(GL v6'),(12,tI (W64 (v12+1)))]),[(75,Z2B b v6''),(183,Z2E Ag v12 b v6''),(1000,Z2I b AN AV Ag v12 v6''),(100000,Z1Q AN),(100001,Z1M AV)]⟩ ?_
  (try rw [(show W64 (v12+1)=v12+1 from Ap oM au8)])
  refine AJ ?_
  refine ⟨(n2,Ag++[BB.mk (W64 (31+v12)) (CV (AH.mk b.Layers b.Outline b.Parts b.Nets [] [] [] [] [] [] [] [] []) (AB (Z2m v6'') 5).2).1 (W64 (1+(AB (Z2p b v6'') 2).1)) (W64 (20+(W64 (5*(AB (AB (Z2p b v6'') 2).2 3).1)))) (AB (Z2s b v6'') 2).1 (([0,0,5,9]:List Int).getD (AB (AB (Z2s b v6'') 2).2 4).1.toNat 0) (W64 (4+(AB (Z2v b v6'') 6).1)) (Z2D b v6'')],Z2A b v6'',v12+1),⟨?_,?_,(by rw [<- hF2];simp only [B6,h3,cond_true,cond_false])⟩,Nat.lt_succ_self _,Cv.trans (vr 183 100002 (K:=[1000]) hX) (Cv.trans (vk [0,1,2,6,8,12] [75,1000,100000,100001,100002]) (A9 kr))⟩
  ·show ((AB v6' 3).1-(v12+1)).toNat<n2;omega
  exact ⟨(by show Bi (Z2A b v6'');repeat (first | with_reducible assumption | exact Ca (C6 hll _) | with_reducible refine BR ?_ | with_reducible refine D3 ?_ | with_reducible refine DK ?_ | with_reducible refine C0 ?_  | with_reducible refine Cg ?_ ?_)),ax0,ax0,ax0⟩
 have g3:=oF h3
 refine BO<|BD ?_
 refine BD<|BP ?_
 refine AJ<|AD ?_
 refine rs 187 (Dx l 6) ⟨(KS types),[(189,.cells [lst 1 eIn (AR l 6),.i 0] 146),(1000,Z2L b AN AV Ag),(100000,Z1Q AN),(100001,Z1M AV),(100002,Z1K Ag)]⟩ (FB l 6 au9)<|AJ ?_
 refine AD<|AD ?_
 refine rb 191 (Z1s l) (.cells [lst 1 eIn (AR l 6),.i 0] 146) ⟨[(0,tP 1000 0),(EY types),(6,tP 189 0),(192,tB (decide (((Iq l).1:Int)=0)))],[(189,Z1t l),(1000,Z2L b AN AV Ag),(100000,Z1Q AN),(100001,Z1M AV),(100002,Z1K Ag)]⟩ (cWr (BT (AE.mk (AR l 6) 0) 3 au4 au7))<|AJ ?_
 refine Bz (⟨(KS types),[(189,.cells (AE.c (Z1z l b types)) 146),(1000,.cells (A7 b (EW AN AV [.own 100002 8 Ag.length,lst 5 BS.c (Z1A l b types),vN,vN,vN,vN,vN])) 42),(100000,.row 6 AN.length (AU Aj.c AN) 85),(100001,.row 8 AV.length (AU Br.c AV) 87),(100002,.row 8 Ag.length (AU BB.c Ag) 90)]⟩) ?_ ?_
 ·refine Aa _ rfl (fun h4 => ?_) (fun h4 => ?_)
  ·have g4:=oT h4
   refine AD<|rb 198 (ceI [.agg (Qm b AN AV Ag),.one (lst 3 AP.c types),.one (.ptr 189 0)] (Z1u b types l)) (.cells (AE.c (AB (AE.mk (AR l 6) 0) 3).2) 146) ⟨[(0,tP 1000 0),(EY types),(6,tP 189 0),(17,tP 17 0)],[(17,.cells (AF.c (Z1w b types l)) 52),(189,.cells (AE.c (Z1v b types l)) 146),(1000,Z2L b AN AV Ag),(100000,Z1Q AN),(100001,Z1M AV),(100002,Z1K Ag)]⟩ (CX (cWr (Jb (AH.mk b.Layers b.Outline b.Parts [] [] [] [] [] [] [] [] [] []) types (AB (AE.mk (AR l 6) 0) 3).2 au4 oM oM (by assumption))) (.cons (.agg (rr5 (.cons (.any _) (.cons (.any _) (.cons (.any _) (.cons (.any _) (.cons (.any _) (.cons (.any _) (.cons (.any _) (.cons (.any _) (.cons (.any _) (.cons (.any _) .nil)))))))))))) (.cons (AvE.refl _) (.cons (AvE.refl _) .nil))))<|AJ ?_
   refine dw [] [(201,(Z1x b types l)),(213,HJ (Al.mk (Z1w b types l).X (Z1w b types l).Y (W64 ((Z1w b types l).X+30)) (W64 ((Z1w b types l).Y+20))))] [Ay (Z1x b types l).2.1,Bu (.cells (AE.c (Z1v b types l)) 146),Ay (HJ (Al.mk (Z1w b types l).X (Z1w b types l).Y (W64 ((Z1w b types l).X+30)) (W64 ((Z1w b types l).Y+20)))).2.1] ⟨(KS types),[(189,.cells (AE.c (AB (Z1v b types l) 3).2) 146),(1000,.cells (A7 b (EW AN AV [.own 100002 8 Ag.length,.list true 5 1 (Au 5 1 [.i 41,.i (AB (Z1v b types l) 3).1,.i (Z1y b types l).Kind,lst 7 AO.c (Z1y b types l).Edges,.i (Z1y b types l).R]),vN,vN,vN,vN,vN])) 42),(100000,Z1Q AN),(100001,Z1M AV),(100002,Z1K Ag)]⟩ (.cons (cWr (BT (Z1v b types l) 3 au4 au7)) (.cons (Lh (Al.mk (Z1w b types l).X (Z1w b types l).Y (W64 ((Z1w b types l).X+30)) (W64 ((Z1w b types l).Y+20)))) .nil)) (.cons rfl (.cons rfl (.cons rfl .nil)))<|AJ ?_
   refine Cv.trans (BH (⟨(KS types),[(189,.cells (AE.c (AB (Z1v b types l) 3).2) 146),(1000,.cells (A7 b (EW AN AV [.own 100002 8 Ag.length,lst 5 BS.c [BS.mk 41 (AB (Z1v b types l) 3).1 (Z1y b types l)],vN,vN,vN,vN,vN])) 42),(100000,Z1Q AN),(100001,Z1M AV),(100002,Z1K Ag)]⟩) lr (.cons ⟨rfl,.refl _⟩ (.cons ⟨rfl,.cells _ (rr9 (.cons (Be true (Ar (c:=BS.c) (xs:=([BS.mk 41 (AB (Z1v b types l) 3).1 (Z1y b types l)]:List BS)) rfl kr)) (rr (rr (rr (rr (rr .nil)))))))⟩ lr))) (A9 ?_)
   first | rfl | (simp only [h4,Z1z,Z1A,cond_true,cond_false] <;> rfl)
  refine Ad<|AJ ?_
  refine Cv.trans (ck (⟨(KS types),[(189,Z1t l),(1000,Z2L b AN AV Ag),(100000,Z1Q AN),(100001,Z1M AV),(100002,Z1K Ag)]⟩)) (Cv.trans (BH (⟨(KS types),[(189,Z1t l),(1000,.cells (A7 b (EW AN AV [.own 100002 8 Ag.length,lst 5 BS.c [],vN,vN,vN,vN,vN])) 42),(100000,Z1Q AN),(100001,Z1M AV),(100002,Z1K Ag)]⟩) lr (.cons ⟨rfl,.refl _⟩ (.cons ⟨rfl,.cells _ (rr9 (.cons (CY 5 BS.c) (rr (rr (rr (rr (rr .nil)))))))⟩ lr))) (A9 ?_))
  first | rfl | (simp only [h4,Z1z,Z1A,cond_true,cond_false] <;> rfl)
 refine AD<|rb 219 (Z1B l b types) (.cells (AE.c (Z1z l b types)) 146) ⟨[(0,tP 1000 0),(EY types),(6,tP 189 0),(220,Z1C l b types)],[(189,Z1D l b types),(1000,Z2M b AN AV Ag l types),(100000,Z1Q AN),(100001,Z1M AV),(100002,Z1K Ag)]⟩ (cWr (BT (Z1z l b types) 3 au4 au7))<|AJ ?_
 refine Aa _ rfl (fun h4 => ?_) (fun h4 => ?_)
 ·have g4:=oT h4
  refine AD<|rb 226 (ceI [.agg (V7 b AN AV Ag l types),.one (lst 3 AP.c types),.one (.ptr 189 0)] (Z1E b types l)) (.cells (AE.c (AB (Z1z l b types) 3).2) 146) ⟨[(0,tP 1000 0),(6,tP 189 0),(18,tP 18 0)],[(18,.cells (AF.c (Z1G b types l)) 52),(189,.cells (AE.c (Z1F b types l)) 146),(1000,Z2M b AN AV Ag l types),(100000,Z1Q AN),(100001,Z1M AV),(100002,Z1K Ag)]⟩ (CX (cWr (Jb (AH.mk b.Layers b.Outline b.Parts [] [] [] [] [] [] [] [] [] []) types (AB (Z1z l b types) 3).2 au4 oM oM (by assumption))) (.cons (.agg (rr5 (.cons (.any _) (.cons (.any _) (.cons (.any _) (.cons (.any _) (.cons (.any _) (.cons (.any _) (.cons (.any _) (.cons (.any _) (.cons (.any _) (.cons (.any _) .nil)))))))))))) (.cons (AvE.refl _) (.cons (AvE.refl _) .nil))))<|AJ ?_
  refine dw [] [(229,(Z1H b types l)),(239,Cz (Z1G b types l) (AF.mk (W64 ((Z1G b types l).X+25)) (W64 ((Z1G b types l).Y+10))))] [Ay (Z1H b types l).2.1,Bu (.cells (AE.c (Z1F b types l)) 146),Ay (Cz (Z1G b types l) (AF.mk (W64 ((Z1G b types l).X+25)) (W64 ((Z1G b types l).Y+10)))).2.1] ⟨[],[(1000,.cells (A7 b (EW AN AV [.own 100002 8 Ag.length,lst 5 BS.c (Z1A l b types),.list true 4 1 (Au 4 1 (SK b types l)),vN,vN,vN,vN])) 42),(100000,Z1Q AN),(100001,Z1M AV),(100002,Z1K Ag)]⟩ (.cons (cWr (BT (Z1F b types l) 4 au4 au7)) (.cons (FA (Z1G b types l) (AF.mk (W64 ((Z1G b types l).X+25)) (W64 ((Z1G b types l).Y+10)))) .nil)) (.cons rfl (.cons rfl (.cons rfl .nil))) ?_
  exact yn (Cv.trans (vf 100000 6 AN.length (AU Aj.c AN) 85 (K:=[1000]) hX (.cons ⟨rfl,rfl⟩ .nil)) (Cv.trans (vf 100001 8 AV.length (AU Br.c AV) 87 (K:=[1000]) hX (.cons ⟨rfl,rfl⟩ .nil)) (Cv.trans (vf 100002 8 Ag.length (AU BB.c Ag) 90 (K:=[1000]) hX (.cons ⟨rfl,rfl⟩ .nil)) (Cv.refl _)))) (.tup []) ⟨An rfl,.cells (A7 b [lst 6 Aj.c AN,lst 8 Br.c AV,lst 8 BB.c Ag,lst 5 BS.c (Z1A l b types),.list true 4 1 (Au 4 1 (SK b types l)),vN,vN,vN,vN]) 42,by kernel_rfl,QV (y:=.cells (A7 b [lst 6 Aj.c AN,lst 8 Br.c AV,lst 8 BB.c Ag,lst 5 BS.c (Z1A l b types),lst 4 Bb.c [Bb.mk 51 (Ah.mk 1 [Z1I b types l] (W64 (3+(AB (Z1F b types l) 4).1)))],vN,vN,vN,vN]) 42) (.cells _ (rr9 (rr (.cons (Be true (EQ (c:=Bb.c) (xs:=([Bb.mk 51 (Ah.mk 1 [Z1I b types l] (W64 (3+(AB (Z1F b types l) 4).1)))]:List Bb)) (y:=[(SK b types l)]) (z:=[[.i 51,.i 1,lst 7 AO.c [Z1I b types l],.i (W64 (3+(AB (Z1F b types l) 4).1))]]) rfl kr kr (.cons (rr (rr (.cons (Be true (Ar (c:=AO.c) (xs:=([Z1I b types l]:List AO)) rfl kr)) (rr .nil)))) .nil))) (rr (rr (rr (rr .nil)))))))) (by rw [<- hF2];first | (simp only [B6,h3,h4,cond_true,cond_false];done) | (simp only [B6,h3,h4,cond_true,cond_false];kernel_rfl))⟩
 refine Ad ?_
 exact yn (Cv.trans (vf 100000 6 AN.length (AU Aj.c AN) 85 (K:=[1000]) hX (.cons ⟨rfl,rfl⟩ .nil)) (Cv.trans (vf 100001 8 AV.length (AU Br.c AV) 87 (K:=[1000]) hX (.cons ⟨rfl,rfl⟩ .nil)) (Cv.trans (vf 100002 8 Ag.length (AU BB.c Ag) 90 (K:=[1000]) hX (.cons ⟨rfl,rfl⟩ .nil)) (Cv.refl _)))) (.tup []) ⟨An rfl,.cells (A7 b [lst 6 Aj.c AN,lst 8 Br.c AV,lst 8 BB.c Ag,lst 5 BS.c (Z1A l b types),vN,vN,vN,vN,vN]) 42,by kernel_rfl,QV (y:=.cells (A7 b [lst 6 Aj.c AN,lst 8 Br.c AV,lst 8 BB.c Ag,lst 5 BS.c (Z1A l b types),lst 4 Bb.c [],vN,vN,vN,vN]) 42) (.cells _ (rr9 (rr (.cons (CY 4 Bb.c) (rr (rr (rr (rr .nil)))))))) (by rw [<- hF2];first | (simp only [B6,h3,h4,cond_true,cond_false];done) | (simp only [B6,h3,h4,cond_true,cond_false];kernel_rfl))⟩
end
structure J5 (b:AH) (B:AH):Prop where
 lay:B.Layers=b.Layers
 out:B.Outline=b.Outline
 par:B.Parts=b.Parts
 net:B.Nets=b.Nets
 trk:(B.Tracks.length:Int)<=6
 edg:∀ t∈B.Tracks,(t.Shape.Edges.length:Int)<=2
 via:(B.Vias.length:Int)<=3
 pou:(B.Pours.length:Int)<=3
 kee:(B.Keeps.length:Int)<=1
 slo:(B.Slots.length:Int)<=1
theorem ZU {b B C:AH} {c:Bool} (h:J5 b B) (k:J5 b C):J5 b (bif c then B else C):=by cases c <;> assumption
theorem Px {α:Type} {c:Bool} {x:α}:((bif c then [x] else []:List α).length:Int)<=1:=by cases c <;> simp
theorem Oj (a c:AF) (d:AE):((CM a c d).1.length:Int)<=2:=by
 unfold CM
 generalize (bif _ then _ else false:Bool)=q
 cases q with
 | true=>simp
 | false =>
  simp only [cond_false]
  cases decide (((AB d 4).1:Int)=3) <;> simp
theorem T3 (b:AH) (types:List AP) (l:List (List Int)) (v1:List Aj) (v6:AE) (v7:ByteArray) (v9:Int) (v2:List Br) (v6':AE) (v11:Int) (K0:List Aj->AE->ByteArray->Int->AH) (K1:List Br->AE->Int->AH) (h1:(v1.length:Int)<=6) (he:∀ t∈v1,(t.Shape.Edges.length:Int)<=2) (h2:(v2.length:Int)<=3):∀ (n:Nat) (v:List BB) (d:AE) (k:Int),0<=k->(v.length:Int)<=k->k<=3->((AB v6' 3).1-k).toNat<n->J5 b (B6 b types l v1 v6 v7 v9 v2 v6' v11 K0 K1 n v d k)
 | 0,v,d,k,_,_,_,h=>absurd h (Nat.not_lt_zero _)
 | n+1,v,d,k,k0,kv,k3,h=>by
  unfold B6
  have hb:=Ct v6' 3 (by decide) (by decide)
  by_cases hc:k<(AB v6' 3).1
  ·simp only [hc,decide_true,cond_true]
   exact T3 b types l v1 v6 v7 v9 v2 v6' v11 K0 K1 h1 he h2 n _ _ _ (by omega) (by simp only [List.length_append,List.length_cons,List.length_nil];omega) (by omega) (by omega)
  simp only [hc,decide_false,cond_false]
  have hv:(v.length:Int)<=3:=by omega
  repeat (first | exact ⟨rfl,rfl,rfl,rfl,h1,he,h2,hv,Px,Px⟩ | exact ⟨rfl,rfl,rfl,rfl,h1,he,h2,hv,Px,(by simp:((([_]:List Bb).length:Nat):Int)<=1)⟩ | exact ⟨rfl,rfl,rfl,rfl,h1,he,h2,hv,Px,(by simp:((([]:List Bb).length:Nat):Int)<=1)⟩ | refine ZU ?_ ?_)
theorem T4 (b:AH) (types:List AP) (l:List (List Int)) (v1:List Aj) (v6:AE) (v7:ByteArray) (v9:Int) (K0:List Aj->AE->ByteArray->Int->AH) (h1:(v1.length:Int)<=6) (he:∀ t∈v1,(t.Shape.Edges.length:Int)<=2):∀ (n:Nat) (v:List Br) (d:AE) (k:Int),0<=k->(v.length:Int)<=k->k<=3->((AB (AE.mk (AR l 5) 0) 3).1-k).toNat<n->J5 b (CG b types l v1 v6 v7 v9 K0 n v d k)
 | 0,v,d,k,_,_,_,h=>absurd h (Nat.not_lt_zero _)
 | n+1,v,d,k,k0,kv,k3,h=>by
  unfold CG
  have hb:=Ct (AE.mk (AR l 5) 0) 3 (by decide) (by decide)
  by_cases hc:k<(AB (AE.mk (AR l 5) 0) 3).1
  ·simp only [hc,decide_true,cond_true]
   exact T4 b types l v1 v6 v7 v9 K0 h1 he n _ _ _ (by omega) (by simp only [List.length_append,List.length_cons,List.length_nil];omega) (by omega) (by omega)
  simp only [hc,decide_false,cond_false]
  exact T3 b types l v1 v6 v7 v9 v d k K0 _ h1 he (by omega) _ _ _ 0 (by omega) (by simp) (by omega) (by omega)
theorem T5 (b:AH) (types:List AP) (l:List (List Int)):∀ (n:Nat) (v:List Aj) (d:AE) (s:ByteArray) (k:Int),0<=k->(v.length:Int)<=k->k<=6->(∀ t∈v,(t.Shape.Edges.length:Int)<=2)->((AB (Z1l b l) 6).1-k).toNat<n->J5 b (B1 b types l n v d s k)
 | 0,v,d,s,k,_,_,_,_,h=>absurd h (Nat.not_lt_zero _)
 | n+1,v,d,s,k,k0,kv,k3,he,h=>by
  unfold B1
  have hb:=Ct (Z1l b l) 6 (by decide) (by decide)
  by_cases hc:k<(AB (Z1l b l) 6).1
  ·simp only [hc,decide_true,cond_true]
   refine T5 b types l n _ _ _ _ (by omega) (by simp only [List.length_append,List.length_cons,List.length_nil];omega) (by omega) (fun t ht => ?_) (by omega)
   rcases List.mem_append.1 ht with ht | ht
   ·exact he t ht
   rw [List.mem_singleton.1 ht];exact Oj _ _ _
  simp only [hc,decide_false,cond_false]
  exact T4 b types l v d s k _ (by omega) he _ _ _ 0 (by omega) (by simp) (by omega) (by omega)
theorem FX (b:AH) (types:List AP) (l:List (List Int)):J5 b (BG b types l):=by
 have hb:=Ct (Z1l b l) 6 (by decide) (by decide)
 unfold BG
 exact T5 b types l _ _ _ _ 0 (by omega) (by simp) (by omega) (fun t ht=>by cases ht) (by omega)
section
open Go.RowKit
def AK:BI:=BI.mk 1 (⟨#[]⟩) 0 (Al.mk 0 0 0 0) (OpL.mk 0 (fun _ _=>default))
def CD:CT:=(84,[],.val [] (.av (.agg (BI.c AK))))
abbrev PS:List Cl:=[.i 1,.s (⟨#[]⟩),.i 0,.i 0,.i 0,.i 0,.i 0,vN]
abbrev SJ:List Cl:=[.i 0,.s (⟨#[]⟩),.i 0,.i 0,.i 0,.i 0,.i 0,vN]
theorem U1  : FE Try.prog 84 (CD ).2.1 (.av (.agg (BI.c AK))):=by
 refine pwf Try.func84 fun W0 M0 => ?_
 refine AD<|rn ⟨[(0,tP 0 0)],[(0,.cells SJ 105)]⟩<|AD ?_
 refine rn ⟨[(0,tP 0 0)],[(0,.cells PS 105)]⟩<|Af ?_
 exact xl (.av (.agg PS)) (DC (y:=.av (.agg [.i 1,.s (⟨#[]⟩),.i 0,.i 0,.i 0,.i 0,.i 0,opL (OpL.mk 0 (fun _ _=>default))])) (.av (.agg (rr5 (rr2 (.cons (.nil _ _) .nil))))) (by rfl))
theorem Do  : OKc (CD ):=cPu<|U1
def Z2Q:Blk:=.cells SJ 105
variable (b:AH) (d:AE) (v4 v5 v6 v7 v8 v9:Int)
abbrev HN:Blk:=.cells (AE.c (AB d 9).2) 146
def Z2R:CT:=(54,([.one (.ptr 1000 0),.one (.i 9)]:List Av).map (Bp 1000 1000),wrI 1000 (GK d) (tI (AB d 9).1) (HN d))
abbrev GH:=AB (AB d 9).2 2
def Z2S:CT:=(54,(GT:List Av).map (Bp 1000 1000),wrI 1000 (HN d) (tI (GH d).1) (.cells (AE.c (GH d).2) 146))
def Z2T:Blk:=.cells (AE.c (GH d).2) 146
def Z2U:CT:=(54,(Iy:List Av).map (Bp 1000 1000),wrI 1000 (HN d) (tI (AB (AB d 9).2 5).1) (.cells (AE.c (AB (AB d 9).2 5).2) 146))
def Z2V:CT:=(54,(EO:List Av).map (Bp 1000 1000),wrI 1000 (HN d) (tI (AB (AB d 9).2 3).1) (.cells (AE.c (AB (AB d 9).2 3).2) 146))
def Z2W:CT:=(54,(MH:List Av).map (Bp 1000 1000),wrI 1000 (HN d) (tI (AB (AB d 9).2 6).1) (.cells (AE.c (AB (AB d 9).2 6).2) 146))
def Z2X:CT:=(54,(IZ:List Av).map (Bp 1000 1000),wrI 1000 (.cells (AE.c (GH d).2) 146) (tI (AB (GH d).2 4).1) (.cells (AE.c (AB (GH d).2 4).2) 146))
abbrev Z2Y:AE:=(AB (AB (AB d 9).2 2).2 4).2
def BF (d:AE):(BI×AE):=bif decide (((AB d 9).1:Int)=0) then (BI.mk 2 (([({ data := #[78,49] }:ByteArray),({ data := #[71,78,68] }:ByteArray)]:List ByteArray).getD (AB (AB d 9).2 2).1.toNat ⟨#[]⟩) 0 (Al.mk 0 0 0 0) (OpL.mk 0 (fun _ _=>default)),(AB (AB d 9).2 2).2) else (bif decide (((AB d 9).1:Int)=1) then (BI.mk 3 ({ data := #[112,111,119,101,114] }:ByteArray) 0 (Al.mk 0 0 0 0) (OpL.mk 0 (fun _ _=>default)),(AB d 9).2) else (bif decide (((AB d 9).1:Int)=2) then (BI.mk 4 (⟨#[]⟩) (W64 (1+(AB (AB d 9).2 5).1)) (Al.mk 0 0 0 0) (OpL.mk 0 (fun _ _=>default)),(AB (AB d 9).2 5).2) else (bif decide (((AB d 9).1:Int)=3) then (BI.mk 5 (⟨#[]⟩) (W64 (1+(AB (AB d 9).2 2).1)) (Al.mk 0 0 0 0) (OpL.mk 0 (fun _ _=>default)),(AB (AB d 9).2 2).2) else (bif decide (((AB d 9).1:Int)=4) then (BI.mk 6 (⟨#[]⟩) (W64 (1+(AB (AB d 9).2 3).1)) (Al.mk 0 0 0 0) (OpL.mk 0 (fun _ _=>default)),(AB (AB d 9).2 3).2) else (bif decide (((AB d 9).1:Int)=5) then (BI.mk 7 (⟨#[]⟩) 0 (Al.mk 0 0 (W64 (100+(W64 (50*(AB (AB d 9).2 6).1)))) 400) (OpL.mk 0 (fun _ _=>default)),(AB (AB d 9).2 6).2) else (bif decide (((AB d 9).1:Int)=6) then (BI.mk 8 (⟨#[]⟩) 0 (Al.mk 0 0 0 0) (OpL.mk 1 (Au 8 1 [.i 5,.s (⟨#[]⟩),.i (W64 (1+(AB (AB d 9).2 2).1)),.i 0,.i 0,.i 0,.i 0,vN])),(AB (AB d 9).2 2).2) else (bif decide (((AB d 9).1:Int)=7) then (BI.mk (W64 (9+(AB (AB d 9).2 2).1)) (⟨#[]⟩) 0 (Al.mk 0 0 0 0) (OpL.mk 2 (Au 8 2 [.i 4,.s (⟨#[]⟩),.i (W64 (1+(AB (AB (AB d 9).2 2).2 4).1)),.i 0,.i 0,.i 0,.i 0,vN,.i 2,.s ({ data := #[71,78,68] }:ByteArray),.i 0,.i 0,.i 0,.i 0,.i 0,vN])),Z2Y d) else (BI.mk 1 (⟨#[]⟩) 0 (Al.mk 0 0 0 0) (OpL.mk 0 (fun _ _=>default)),(AB d 9).2))))))))
abbrev Te:List Cl:=[.i 5,.s (⟨#[]⟩),.i (W64 (1+(GH d).1)),.i 0,.i 0,.i 0,.i 0,vN]
abbrev HW:Nat×Blk:=(1000,.cells (AE.c (AB d 9).2) 146)
abbrev V9:List Cl:=[.i 7,.s (⟨#[]⟩),.i 0,.i 0,.i 0,.i (W64 (100+(W64 (50*(AB (AB d 9).2 6).1)))),.i 400,vN]
abbrev aX:Nat×Tv:=(4,tI (AB d 9).1)
abbrev Vz:List Cl:=[.i 4,.s (⟨#[]⟩),.i (W64 (1+(AB (AB d 9).2 5).1)),.i 0,.i 0,.i 0,.i 0,vN]
abbrev Vy:List Cl:=[.i 6,.s (⟨#[]⟩),.i (W64 (1+(AB (AB d 9).2 3).1)),.i 0,.i 0,.i 0,.i 0,vN]
abbrev Vw:List Cl:=[.i 8,.s (⟨#[]⟩),.i 0,.i 0,.i 0,.i 0,.i 0,.list true 8 1 (Au 8 1 (Te d))]
abbrev Hb (t_:List (Nat×Tv)):List (Nat×Tv):=(0,tP 1000 0)::(2,tP 2 0)::(aX d)::t_
theorem Tt  (d:AE) (hd:Bi d):Wr Try.prog 85 1000 [.one (.ptr 1000 0)] (.cells (AE.c d) 146) (.av (.agg (BI.c (BF d).1))) (.cells (AE.c (BF d).2) 146):=by
 refine Ga Try.func85 rfl kr kr kr kr fun W0 M0 X hX => ?_
 refine AD<|rn ⟨[(0,tP 1000 0),(2,tP 2 0)],[(2,Z2Q),(Hj d)]⟩ ?_
 refine AD<|AD ?_
 refine rb 4 (Z2R d) (GK d) ⟨(Hb d []),[(2,Z2Q),(HW d)]⟩ (cWr (BT d 9 au4 au7))<|AJ ?_
 refine AX<|AD ?_
 refine rn ⟨(Hb d [(5,tB (decide (((AB d 9).1:Int)=0)))]),[(2,Z2Q),(HW d)]⟩ ?_
 refine Aa _ rfl (fun h1 => ?_) (fun h1 => ?_)
 ·have g1:=oT h1
  refine AD<|rc [(9,(Z2S d))] [Ay (Z2S d).2.1,Bu (HN d),0<=((AB (AB d 9).2 2).1:Int)/\((AB (AB d 9).2 2).1:Int)<((2:Nat):Int)] ⟨[(2,tP 2 0)],[(2,.cells [.i 2,.s (([({ data := #[78,49] }:ByteArray),({ data := #[71,78,68] }:ByteArray)]:List ByteArray).getD (GH d).1.toNat ⟨#[]⟩),.i 0,.i 0,.i 0,.i 0,.i 0,vN] 105),(1000,Z2T d)]⟩ (.cons (cWr (BT (AB d 9).2 2 au4 au7)) .nil) (.cons rfl (.cons rfl (.cons (by first | exact IA _ _ _ (by decide) (by decide) (by decide) | decide | omega) .nil)))<|AJ ?_
  refine Af<|Ck<|BZ ?_
  exact xl (.av (.agg [.i 2,.s (([({ data := #[78,49] }:ByteArray),({ data := #[71,78,68] }:ByteArray)]:List ByteArray).getD (AB (AB d 9).2 2).1.toNat ⟨#[]⟩),.i 0,.i 0,.i 0,.i 0,.i 0,vN])) ⟨DC (y:=.av (.agg [.i 2,.s (([({ data := #[78,49] }:ByteArray),({ data := #[71,78,68] }:ByteArray)]:List ByteArray).getD (AB (AB d 9).2 2).1.toNat ⟨#[]⟩),.i 0,.i 0,.i 0,.i 0,.i 0,opL (OpL.mk 0 (fun _ _=>default))])) (.av (.agg (rr5 (rr2 (.cons (.nil _ _) .nil))))) (by unfold BF;rw [h1];rfl),.cells (AE.c (AB (AB d 9).2 2).2) 146,by kernel_rfl,DP (by unfold BF;rw [h1];kernel_rfl)⟩
 have g1:=oF h1
 refine AD<|rn ⟨(Hb d [(13,tB (decide (((AB d 9).1:Int)=1)))]),[(2,Z2Q),(HW d)]⟩ ?_
 refine Aa _ rfl (fun h2 => ?_) (fun h2 => ?_)
 ·refine AD<|rn ⟨[(2,tP 2 0)],[(2,.cells [.i 3,.s ({ data := #[112,111,119,101,114] }:ByteArray),.i 0,.i 0,.i 0,.i 0,.i 0,vN] 105),(HW d)]⟩ ?_
  refine Af<|Ck<|BZ ?_
  exact xl (.av (.agg [.i 3,.s ({ data := #[112,111,119,101,114] }:ByteArray),.i 0,.i 0,.i 0,.i 0,.i 0,vN])) ⟨DC (y:=.av (.agg [.i 3,.s ({ data := #[112,111,119,101,114] }:ByteArray),.i 0,.i 0,.i 0,.i 0,.i 0,opL (OpL.mk 0 (fun _ _=>default))])) (.av (.agg (rr5 (rr2 (.cons (.nil _ _) .nil))))) (by unfold BF;rw [h1,h2];rfl),.cells (AE.c (AB d 9).2) 146,by kernel_rfl,DP (by unfold BF;rw [h1,h2];kernel_rfl)⟩
 have g2:=oF h2
 refine AD<|rn ⟨(Hb d [(16,tB (decide (((AB d 9).1:Int)=2)))]),[(2,Z2Q),(HW d)]⟩ ?_
 refine Aa _ rfl (fun h3 => ?_) (fun h3 => ?_)
 ·have g3:=oT h3
  refine AD<|rb 19 (Z2U d) (HN d) ⟨[(2,tP 2 0)],[(2,.cells (Vz d) 105),(1000,.cells (AE.c (AB (AB d 9).2 5).2) 146)]⟩ (cWr (BT (AB d 9).2 5 au4 au7))<|AJ ?_
  refine Af<|Ck<|BZ ?_
  exact xl (.av (.agg (Vz d))) ⟨DC (y:=.av (.agg [.i 4,.s (⟨#[]⟩),.i (W64 (1+(AB (AB d 9).2 5).1)),.i 0,.i 0,.i 0,.i 0,opL (OpL.mk 0 (fun _ _=>default))])) (.av (.agg (rr5 (rr2 (.cons (.nil _ _) .nil))))) (by unfold BF;rw [h1,h2,h3];rfl),.cells (AE.c (AB (AB d 9).2 5).2) 146,by kernel_rfl,DP (by unfold BF;rw [h1,h2,h3];kernel_rfl)⟩
 have g3:=oF h3
 refine AD<|rn ⟨(Hb d [(22,tB (decide (((AB d 9).1:Int)=3)))]),[(2,Z2Q),(HW d)]⟩ ?_
 refine Aa _ rfl (fun h4 => ?_) (fun h4 => ?_)
 ·have g4:=oT h4
  refine AD<|rb 25 (Z2S d) (HN d) ⟨[(2,tP 2 0)],[(2,.cells (Te d) 105),(1000,Z2T d)]⟩ (cWr (BT (AB d 9).2 2 au4 au7))<|AJ ?_
  refine Af<|Ck<|BZ ?_
  exact xl (.av (.agg (Te d))) ⟨DC (y:=.av (.agg [.i 5,.s (⟨#[]⟩),.i (W64 (1+(AB (AB d 9).2 2).1)),.i 0,.i 0,.i 0,.i 0,opL (OpL.mk 0 (fun _ _=>default))])) (.av (.agg (rr5 (rr2 (.cons (.nil _ _) .nil))))) (by unfold BF;rw [h1,h2,h3,h4];rfl),.cells (AE.c (AB (AB d 9).2 2).2) 146,by kernel_rfl,DP (by unfold BF;rw [h1,h2,h3,h4];kernel_rfl)⟩
 have g4:=oF h4
 refine AD<|rn ⟨(Hb d [(28,tB (decide (((AB d 9).1:Int)=4)))]),[(2,Z2Q),(HW d)]⟩ ?_
 refine Aa _ rfl (fun h5 => ?_) (fun h5 => ?_)
 ·have g5:=oT h5
  refine AD<|rb 31 (Z2V d) (HN d) ⟨[(2,tP 2 0)],[(2,.cells (Vy d) 105),(1000,.cells (AE.c (AB (AB d 9).2 3).2) 146)]⟩ (cWr (BT (AB d 9).2 3 au4 au7))<|AJ ?_
  refine Af<|Ck<|BZ ?_
  exact xl (.av (.agg (Vy d))) ⟨DC (y:=.av (.agg [.i 6,.s (⟨#[]⟩),.i (W64 (1+(AB (AB d 9).2 3).1)),.i 0,.i 0,.i 0,.i 0,opL (OpL.mk 0 (fun _ _=>default))])) (.av (.agg (rr5 (rr2 (.cons (.nil _ _) .nil))))) (by unfold BF;rw [h1,h2,h3,h4,h5];rfl),.cells (AE.c (AB (AB d 9).2 3).2) 146,by kernel_rfl,DP (by unfold BF;rw [h1,h2,h3,h4,h5];kernel_rfl)⟩
 have g5:=oF h5
 refine AD<|rn ⟨(Hb d [(34,tB (decide (((AB d 9).1:Int)=5)))]),[(2,Z2Q),(HW d)]⟩ ?_
 refine Aa _ rfl (fun h6 => ?_) (fun h6 => ?_)
 ·have g6:=oT h6
  refine AD<|rb 37 (Z2W d) (HN d) ⟨[(2,tP 2 0)],[(2,.cells (V9 d) 105),(1000,.cells (AE.c (AB (AB d 9).2 6).2) 146)]⟩ (cWr (BT (AB d 9).2 6 au4 au7))<|AJ ?_
  refine Af<|Ck<|BZ ?_
  exact xl (.av (.agg (V9 d))) ⟨DC (y:=.av (.agg [.i 7,.s (⟨#[]⟩),.i 0,.i 0,.i 0,.i (W64 (100+(W64 (50*(AB (AB d 9).2 6).1)))),.i 400,opL (OpL.mk 0 (fun _ _=>default))])) (.av (.agg (rr5 (rr2 (.cons (.nil _ _) .nil))))) (by unfold BF;rw [h1,h2,h3,h4,h5,h6];rfl),.cells (AE.c (AB (AB d 9).2 6).2) 146,by kernel_rfl,DP (by unfold BF;rw [h1,h2,h3,h4,h5,h6];kernel_rfl)⟩
 have g6:=oF h6
 refine AD<|rn ⟨(Hb d [(42,tB (decide (((AB d 9).1:Int)=6)))]),[(2,Z2Q),(HW d)]⟩ ?_
 refine Aa _ rfl (fun h7 => ?_) (fun h7 => ?_)
 ·have g7:=oT h7
  refine AD<|rb 45 (Z2S d) (HN d) ⟨[(2,tP 2 0)],[(2,.cells (Vw d) 105),(1000,Z2T d)]⟩ (cWr (BT (AB d 9).2 2 au4 au7))<|AJ ?_
  refine Af<|Ck<|BZ ?_
  exact xl (.av (.agg (Vw d))) ⟨DC (y:=.av (.agg [.i 8,.s (⟨#[]⟩),.i 0,.i 0,.i 0,.i 0,.i 0,opL (OpL.mk 1 (Au 8 1 (Te d)))])) (.av (.agg (rr5 (rr2 (.cons (.list true false _ _ _ _ (fun _ _ _ _=>.refl _) (fun h=>by cases h)) .nil))))) (by unfold BF;rw [h1,h2,h3,h4,h5,h6,h7];rfl),.cells (AE.c (AB (AB d 9).2 2).2) 146,by kernel_rfl,DP (by unfold BF;rw [h1,h2,h3,h4,h5,h6,h7];kernel_rfl)⟩
 have g7:=oF h7
 refine AD<|rn ⟨[(0,tP 1000 0),(2,tP 2 0),(50,tB (decide (((AB d 9).1:Int)=7)))],[(2,Z2Q),(HW d)]⟩ ?_
 refine Aa _ rfl (fun h8 => ?_) (fun h8 => ?_)
 ·have g8:=oT h8
  refine AD<|rc [(53,(Z2S d)),(56,(Z2X d))] [Ay (Z2S d).2.1,Bu (HN d),Ay (Z2X d).2.1,Bu (.cells (AE.c (AB (AB d 9).2 2).2) 146)] ⟨[(2,tP 2 0)],[(2,.cells [.i (W64 (9+(GH d).1)),.s (⟨#[]⟩),.i 0,.i 0,.i 0,.i 0,.i 0,.list true 8 2 (Au 8 2 [.i 4,.s (⟨#[]⟩),.i (W64 (1+(AB (GH d).2 4).1)),.i 0,.i 0,.i 0,.i 0,vN,.i 2,.s ({ data := #[71,78,68] }:ByteArray),.i 0,.i 0,.i 0,.i 0,.i 0,vN])] 105),(1000,.cells (AE.c (Z2Y d)) 146)]⟩ (.cons (cWr (BT (AB d 9).2 2 au4 au7)) (.cons (cWr (BT (AB (AB d 9).2 2).2 4 au4 au7)) .nil)) (.cons rfl (.cons rfl (.cons rfl (.cons rfl .nil))))<|AJ ?_
  refine Af<|Ck<|BZ ?_
  exact xl (.av (.agg [.i (W64 (9+(AB (AB d 9).2 2).1)),.s (⟨#[]⟩),.i 0,.i 0,.i 0,.i 0,.i 0,.list true 8 2 (Au 8 2 [.i 4,.s (⟨#[]⟩),.i (W64 (1+(AB (AB (AB d 9).2 2).2 4).1)),.i 0,.i 0,.i 0,.i 0,vN,.i 2,.s ({ data := #[71,78,68] }:ByteArray),.i 0,.i 0,.i 0,.i 0,.i 0,vN])])) ⟨DC (y:=.av (.agg [.i (W64 (9+(AB (AB d 9).2 2).1)),.s (⟨#[]⟩),.i 0,.i 0,.i 0,.i 0,.i 0,opL (OpL.mk 2 (Au 8 2 [.i 4,.s (⟨#[]⟩),.i (W64 (1+(AB (AB (AB d 9).2 2).2 4).1)),.i 0,.i 0,.i 0,.i 0,vN,.i 2,.s ({ data := #[71,78,68] }:ByteArray),.i 0,.i 0,.i 0,.i 0,.i 0,vN]))])) (.av (.agg (rr5 (rr2 (.cons (.list true false _ _ _ _ (fun _ _ _ _=>.refl _) (fun h=>by cases h)) .nil))))) (by unfold BF;rw [h1,h2,h3,h4,h5,h6,h7,h8];rfl),.cells (AE.c (Z2Y d)) 146,by kernel_rfl,DP (by unfold BF;rw [h1,h2,h3,h4,h5,h6,h7,h8];kernel_rfl)⟩
 refine Ad<|Bg ?_
 refine AJ<|AD ?_
 refine rn ⟨[(2,tP 2 0)],[(2,.cells PS 105),(HW d)]⟩<|Af ?_
 exact xl (.av (.agg PS)) ⟨DC (y:=.av (.agg [.i 1,.s (⟨#[]⟩),.i 0,.i 0,.i 0,.i 0,.i 0,opL (OpL.mk 0 (fun _ _=>default))])) (.av (.agg (rr5 (rr2 (.cons (.nil _ _) .nil))))) (by unfold BF;rw [h1,h2,h3,h4,h5,h6,h7,h8];rfl),.cells (AE.c (AB d 9).2) 146,by kernel_rfl,DP (by unfold BF;rw [h1,h2,h3,h4,h5,h6,h7,h8];kernel_rfl)⟩
theorem VZ {d:AE} (h:Bi d):Bi (BF d).2:=by
 unfold BF
 exact DO (BR (BR h)) (DO (BR h) (DO (BR (BR h)) (DO (BR (BR h)) (DO (BR (BR h)) (DO (BR (BR h)) (DO (BR (BR h)) (DO (BR (BR (BR h))) (BR h))))))))
abbrev WJ:List Cl:=[.i b.Layers,.any,.any,.any,lst 7 AG.c b.Parts,.any,lst 6 Aj.c b.Tracks,lst 8 Br.c b.Vias,lst 8 BB.c b.Pours,lst 5 BS.c b.Keeps,lst 4 Bb.c b.Slots,.any,.any,.any,.any]
def Z2Z:Blk:=.cells (WJ b) 42
def Z30:Blk:=.row 1 ([]:List Int).length (AU eIn ([]:List Int)) 3
def Z31:Tv:=.av (.one (.own 100000 1 ([]:List Int).length))
abbrev L6:=b.Parts.getD v4.toNat default
def Z32 (v3:List Int) (b:AH) (v4:Int):Blk:=.row 1 (v3++[(L6 b v4).Id]).length (AU eIn (v3++[(L6 b v4).Id])) 3
abbrev HQ:=b.Tracks.getD v5.toNat default
def Z33 (v3':List Int) (b:AH) (v5:Int):Blk:=.row 1 (v3'++[(HQ b v5).Id]).length (AU eIn (v3'++[(HQ b v5).Id])) 3
abbrev L3:=b.Vias.getD v6.toNat default
def Z34 (v3'':List Int) (b:AH) (v6:Int):Blk:=.row 1 (v3''++[(L3 b v6).Id]).length (AU eIn (v3''++[(L3 b v6).Id])) 3
abbrev Hk:=b.Pours.getD v7.toNat default
def Z35 (v3''':List Int) (b:AH) (v7:Int):Blk:=.row 1 (v3'''++[(Hk b v7).Id]).length (AU eIn (v3'''++[(Hk b v7).Id])) 3
abbrev L7:=b.Keeps.getD v8.toNat default
def Z36 (v3'''':List Int) (b:AH) (v8:Int):Blk:=.row 1 (v3''''++[(L7 b v8).Id]).length (AU eIn (v3''''++[(L7 b v8).Id])) 3
abbrev L5:=b.Slots.getD v9.toNat default
def Z37 (v3''''':List Int) (b:AH) (v9:Int):Blk:=.row 1 (v3'''''++[(L5 b v9).Id]).length (AU eIn (v3'''''++[(L5 b v9).Id])) 3
def E1 (b:AH) (v3:List Int) (v4:Int) (v3':List Int) (v5:Int) (v3'':List Int) (v6:Int) (v3''':List Int) (v7:Int) (v3'''':List Int) (v8:Int) (K0:List Int->Int->(List Int)) (K1:List Int->Int->(List Int)) (K2:List Int->Int->(List Int)) (K3:List Int->Int->(List Int)) (K4:List Int->Int->(List Int)):Nat->List Int->Int->(List Int)
 | 0,_,_=>default
 | n5+1,v3''''',v9=>bif decide ((v9:Int)<(b.Slots.length:Int)) then ((E1 b v3 v4 v3' v5 v3'' v6 v3''' v7 v3'''' v8 K0 K1 K2 K3 K4 n5) (v3'''''++[(b.Slots.getD v9.toNat default).Id]) (v9+1)) else v3'''''
def Dz (b:AH) (v3:List Int) (v4:Int) (v3':List Int) (v5:Int) (v3'':List Int) (v6:Int) (v3''':List Int) (v7:Int) (K0:List Int->Int->(List Int)) (K1:List Int->Int->(List Int)) (K2:List Int->Int->(List Int)) (K3:List Int->Int->(List Int)):Nat->List Int->Int->(List Int)
 | 0,_,_=>default
 | n4+1,v3'''',v8=>bif decide ((v8:Int)<(b.Keeps.length:Int)) then ((Dz b v3 v4 v3' v5 v3'' v6 v3''' v7 K0 K1 K2 K3 n4) (v3''''++[(b.Keeps.getD v8.toNat default).Id]) (v8+1)) else (E1 b v3 v4 v3' v5 v3'' v6 v3''' v7 v3'''' v8 K0 K1 K2 K3 (Dz b v3 v4 v3' v5 v3'' v6 v3''' v7 K0 K1 K2 K3 n4) (((b.Slots.length:Int)-0).toNat+1) v3'''' 0)
def DS (b:AH) (v3:List Int) (v4:Int) (v3':List Int) (v5:Int) (v3'':List Int) (v6:Int) (K0:List Int->Int->(List Int)) (K1:List Int->Int->(List Int)) (K2:List Int->Int->(List Int)):Nat->List Int->Int->(List Int)
 | 0,_,_=>default
 | n3+1,v3''',v7=>bif decide ((v7:Int)<(b.Pours.length:Int)) then ((DS b v3 v4 v3' v5 v3'' v6 K0 K1 K2 n3) (v3'''++[(b.Pours.getD v7.toNat default).Id]) (v7+1)) else (Dz b v3 v4 v3' v5 v3'' v6 v3''' v7 K0 K1 K2 (DS b v3 v4 v3' v5 v3'' v6 K0 K1 K2 n3) (((b.Keeps.length:Int)-0).toNat+1) v3''' 0)
def Ce (b:AH) (v3:List Int) (v4:Int) (v3':List Int) (v5:Int) (K0:List Int->Int->(List Int)) (K1:List Int->Int->(List Int)):Nat->List Int->Int->(List Int)
 | 0,_,_=>default
 | n2+1,v3'',v6=>bif decide ((v6:Int)<(b.Vias.length:Int)) then ((Ce b v3 v4 v3' v5 K0 K1 n2) (v3''++[(b.Vias.getD v6.toNat default).Id]) (v6+1)) else (DS b v3 v4 v3' v5 v3'' v6 K0 K1 (Ce b v3 v4 v3' v5 K0 K1 n2) (((b.Pours.length:Int)-0).toNat+1) v3'' 0)
def Bo (b:AH) (v3:List Int) (v4:Int) (K0:List Int->Int->(List Int)):Nat->List Int->Int->(List Int)
 | 0,_,_=>default
 | n1+1,v3',v5=>bif decide ((v5:Int)<(b.Tracks.length:Int)) then ((Bo b v3 v4 K0 n1) (v3'++[(b.Tracks.getD v5.toNat default).Id]) (v5+1)) else (Ce b v3 v4 v3' v5 K0 (Bo b v3 v4 K0 n1) (((b.Vias.length:Int)-0).toNat+1) v3' 0)
def A5 (b:AH):Nat->List Int->Int->(List Int)
 | 0,_,_=>default
 | n0+1,v3,v4=>bif decide ((v4:Int)<(b.Parts.length:Int)) then ((A5 b n0) (v3++[(b.Parts.getD v4.toNat default).Id]) (v4+1)) else (Bo b v3 v4 (A5 b n0) (((b.Tracks.length:Int)-0).toNat+1) v3 0)
def D7 (b:AH):(List Int):=A5 b (((b.Parts.length:Int)-0).toNat+1) ([]:List Int) 0
def TQ:CT:=(86,[.agg (WJ b)],.val [] (.av (.one (lst 1 eIn (D7 b)))))
abbrev KM:Nat×Tv:=(3,.av (.one vN))
theorem bP (b:AH) (h0:(b.Parts.length:Int)<=1000000) (h1:(b.Tracks.length:Int)<=1000000) (h2:(b.Vias.length:Int)<=1000000) (h3:(b.Pours.length:Int)<=1000000) (h4:(b.Keeps.length:Int)<=1000000) (h5:(b.Slots.length:Int)<=1000000):PuP 86 (TQ b).2.1 (tO (lst 1 eIn (D7 b))):=by
 refine pwf Try.func86 fun W0 M0 => ?_
 refine AD<|rn ⟨[(1,tP 1 0)],[(1,Z2Z b)]⟩<|AD ?_
 refine rn ⟨[(1,tP 1 0),KM],[(1,Z2Z b)]⟩ ?_
 refine AD<|AD ?_
 refine rn ⟨[(1,tP 1 0),KM,(4,tI 0)],[(1,Z2Z b)]⟩<|AX ?_
 refine BL (Cv.trans (wg (⟨[(1,tP 1 0),(3,tO (.own 100000 1 0)),(4,tI 0)],[(100000,.row 1 0 (fun _ _=>default) 3),(1,Z2Z b)]⟩) 100000 1 (fun _ _=>default) 3 [(3,[0])] [] hk0) (Cv.trans (BH (⟨[(1,tP 1 0),(3,Z31),(4,tI 0)],[(100000,Z30),(1,Z2Z b)]⟩) (.cons ⟨rfl,.refl _⟩ (.cons ⟨rfl,.av (.one (.own _ _ au0))⟩ lr)) (.cons ⟨rfl,Ai 3 (B5 1 (fun _ _=>default) eIn)⟩ lr)) (Cv.trans (ck (⟨[(1,tP 1 0),(3,Z31),(4,tI 0)],[(1,Z2Z b),(100000,Z30)]⟩)) (Cv.refl _)))) ?_
 refine BN (ι:=Nat×List Int×Int) (fun x=>⟨[(1,tP 1 0),(3,tO (.own 100000 1 x.2.1.length)),(4,tI x.2.2)],[(1,Z2Z b),(100000,.row 1 x.2.1.length (AU eIn x.2.1) 3)]⟩) (fun x=>((b.Parts.length:Int)-x.2.2).toNat<x.1/\(0<=x.2.2/\(x.2.2<=(b.Parts.length:Int)\/x.2.2=0)/\(x.2.1.length:Int)<=0+1*(x.2.2-0))/\A5 b x.1 x.2.1 x.2.2=D7 b) (fun x=>x.1) ?_ (((b.Parts.length:Int)-0).toNat+1,([]:List Int),0) ⟨Nat.lt_succ_self _,⟨ax0,ax0,ax0⟩,(by simp only [D7,cond_true,cond_false])⟩
 rintro ⟨n0,v3,v4⟩ ⟨hm0,hinv0,hF0⟩
 try dsimp only at hm0 hinv0 hF0
 cases n0 with | zero=>exact nz hm0 | succ n0 => ?_
 refine AD<|AD ?_
 refine rn ⟨[(1,tP 1 0),(3,tO (.own 100000 1 v3.length)),(4,tI v4),(14,tB (decide ((v4:Int)<(b.Parts.length:Int))))],[(1,Z2Z b),(100000,.row 1 v3.length (AU eIn v3) 3)]⟩ ?_
 refine Aa _ rfl (fun h1 => ?_) (fun h1 => ?_)
 ·have g1:=oT h1
  refine Ad<|AJ ?_
  refine AD<|AX ?_
  refine rc [] [0<=(v4:Int)/\(v4:Int)<((b.Parts.length:Nat):Int),v3.length=v3.length,v3.length+1<=maxLen,(v3.length+1)*8<=140737488355328] ⟨[(1,tP 1 0),(3,tO (.own 25 1 (v3.length+1))),(4,tI v4)],[(1,Z2Z b),(25,.row 1 (v3.length+1) (fun i_ j_=>if i_<v3.length then (AU eIn v3) i_ j_ else (Au 1 1 [.i (L6 b v4).Id]) (i_-v3.length) j_) 3)]⟩ .nil (.cons au1 (.cons rfl (.cons au3 (.cons au3 .nil))))<|Bg<|AJ ?_
  refine BL (Cv.trans (BH (⟨[(1,tP 1 0),(3,tO (.own 25 1 (v3++[(L6 b v4).Id]).length)),(4,tI v4)],[(1,Z2Z b),(25,Z32 v3 b v4)]⟩) (.cons ⟨rfl,.refl _⟩ (.cons ⟨rfl,.av (.one (.own _ _ au0))⟩ lr)) (.cons ⟨rfl,.refl _⟩ (.cons ⟨rfl,Ai 3 (BM (A8 1 eIn v3) (Ar (c:=eIn) (xs:=([(b.Parts.getD v4.toNat default).Id]:List Int)) rfl kr))⟩ .nil))) (Cv.refl _)) ?_
  refine rg ⟨[(1,tP 1 0),(3,tO (.own 25 1 (v3++[(L6 b v4).Id]).length)),(4,tI (W64 (v4+1)))],[(1,Z2Z b),(25,Z32 v3 b v4)]⟩ ?_
  (try rw [(show W64 (v4+1)=v4+1 from Ap oM au8)])
  refine AJ ?_
  refine ⟨(n0,v3++[(b.Parts.getD v4.toNat default).Id],v4+1),⟨?_,?_,(by rw [<- hF0];simp only [A5,h1,cond_true,cond_false])⟩,Nat.lt_succ_self _,Cv.trans (vr 25 100000 hk0) (A9 kr)⟩
  ·show ((b.Parts.length:Int)-(v4+1)).toNat<n0;omega
  exact ⟨ax0,ax0,ax0⟩
 have g1:=oF h1
 refine BO<|BD ?_
 refine BD<|BP ?_
 refine AJ<|AD<|AD ?_
 refine rn ⟨[(1,tP 1 0),(3,tO (.own 100000 1 v3.length)),(5,tI 0)],[(1,Z2Z b),(100000,.row 1 v3.length (AU eIn v3) 3)]⟩<|AX ?_
 refine BN (ι:=Nat×List Int×Int) (fun x=>⟨[(1,tP 1 0),(3,tO (.own 100000 1 x.2.1.length)),(5,tI x.2.2)],[(1,Z2Z b),(100000,.row 1 x.2.1.length (AU eIn x.2.1) 3)]⟩) (fun x=>((b.Tracks.length:Int)-x.2.2).toNat<x.1/\(0<=x.2.2/\(x.2.2<=(b.Tracks.length:Int)\/x.2.2=0)/\(x.2.1.length:Int)<=(v3.length:Int)+1*(x.2.2-0))/\Bo b v3 v4 (A5 b n0) x.1 x.2.1 x.2.2=D7 b) (fun x=>x.1) ?_ (((b.Tracks.length:Int)-0).toNat+1,v3,0) ⟨Nat.lt_succ_self _,⟨ax0,ax0,ax0⟩,(by rw [<- hF0];simp only [A5,h1,cond_true,cond_false])⟩
 rintro ⟨n1,v3',v5⟩ ⟨hm1,hinv1,hF1⟩
 try dsimp only at hm1 hinv1 hF1
 cases n1 with | zero=>exact nz hm1 | succ n1 => ?_
 refine AD<|AD ?_
 refine rn ⟨[(1,tP 1 0),(3,tO (.own 100000 1 v3'.length)),(5,tI v5),(30,tB (decide ((v5:Int)<(b.Tracks.length:Int))))],[(1,Z2Z b),(100000,.row 1 v3'.length (AU eIn v3') 3)]⟩ ?_
 refine Aa _ rfl (fun h2 => ?_) (fun h2 => ?_)
 ·have g2:=oT h2
  refine Ad<|AJ ?_
  refine AD<|AX ?_
  refine rc [] [0<=(v5:Int)/\(v5:Int)<((b.Tracks.length:Nat):Int),v3'.length=v3'.length,v3'.length+1<=maxLen,(v3'.length+1)*8<=140737488355328] ⟨[(1,tP 1 0),(3,tO (.own 41 1 (v3'.length+1))),(5,tI v5)],[(1,Z2Z b),(41,.row 1 (v3'.length+1) (fun i_ j_=>if i_<v3'.length then (AU eIn v3') i_ j_ else (Au 1 1 [.i (HQ b v5).Id]) (i_-v3'.length) j_) 3)]⟩ .nil (.cons au1 (.cons rfl (.cons au3 (.cons au3 .nil))))<|Bg<|AJ ?_
  refine BL (Cv.trans (BH (⟨[(1,tP 1 0),(3,tO (.own 41 1 (v3'++[(HQ b v5).Id]).length)),(5,tI v5)],[(1,Z2Z b),(41,Z33 v3' b v5)]⟩) (.cons ⟨rfl,.refl _⟩ (.cons ⟨rfl,.av (.one (.own _ _ au0))⟩ lr)) (.cons ⟨rfl,.refl _⟩ (.cons ⟨rfl,Ai 3 (BM (A8 1 eIn v3') (Ar (c:=eIn) (xs:=([(b.Tracks.getD v5.toNat default).Id]:List Int)) rfl kr))⟩ .nil))) (Cv.refl _)) ?_
  refine rg ⟨[(1,tP 1 0),(3,tO (.own 41 1 (v3'++[(HQ b v5).Id]).length)),(5,tI (W64 (v5+1)))],[(1,Z2Z b),(41,Z33 v3' b v5)]⟩ ?_
  (try rw [(show W64 (v5+1)=v5+1 from Ap oM au8)])
  refine AJ ?_
  refine ⟨(n1,v3'++[(b.Tracks.getD v5.toNat default).Id],v5+1),⟨?_,?_,(by rw [<- hF1];simp only [Bo,h2,cond_true,cond_false])⟩,Nat.lt_succ_self _,Cv.trans (vr 41 100000 hk0) (A9 kr)⟩
  ·show ((b.Tracks.length:Int)-(v5+1)).toNat<n1;omega
  exact ⟨ax0,ax0,ax0⟩
 have g2:=oF h2
 refine BO<|BD ?_
 refine BD<|BP ?_
 refine AJ<|AD<|AD ?_
 refine rn ⟨[(1,tP 1 0),(3,tO (.own 100000 1 v3'.length)),(6,tI 0)],[(1,Z2Z b),(100000,.row 1 v3'.length (AU eIn v3') 3)]⟩<|AX ?_
 refine BN (ι:=Nat×List Int×Int) (fun x=>⟨[(1,tP 1 0),(3,tO (.own 100000 1 x.2.1.length)),(6,tI x.2.2)],[(1,Z2Z b),(100000,.row 1 x.2.1.length (AU eIn x.2.1) 3)]⟩) (fun x=>((b.Vias.length:Int)-x.2.2).toNat<x.1/\(0<=x.2.2/\(x.2.2<=(b.Vias.length:Int)\/x.2.2=0)/\(x.2.1.length:Int)<=(v3'.length:Int)+1*(x.2.2-0))/\Ce b v3 v4 v3' v5 (A5 b n0) (Bo b v3 v4 (A5 b n0) n1) x.1 x.2.1 x.2.2=D7 b) (fun x=>x.1) ?_ (((b.Vias.length:Int)-0).toNat+1,v3',0) ⟨Nat.lt_succ_self _,⟨ax0,ax0,ax0⟩,(by rw [<- hF1];simp only [Bo,h2,cond_true,cond_false])⟩
 rintro ⟨n2,v3'',v6⟩ ⟨hm2,hinv2,hF2⟩
 try dsimp only at hm2 hinv2 hF2
 cases n2 with | zero=>exact nz hm2 | succ n2 => ?_
 refine AD<|AD ?_
 refine rn ⟨[(1,tP 1 0),(3,tO (.own 100000 1 v3''.length)),(6,tI v6),(46,tB (decide ((v6:Int)<(b.Vias.length:Int))))],[(1,Z2Z b),(100000,.row 1 v3''.length (AU eIn v3'') 3)]⟩ ?_
 refine Aa _ rfl (fun h3 => ?_) (fun h3 => ?_)
 ·have g3:=oT h3
  refine Ad<|AJ ?_
  refine AD<|AX ?_
  refine rc [] [0<=(v6:Int)/\(v6:Int)<((b.Vias.length:Nat):Int),v3''.length=v3''.length,v3''.length+1<=maxLen,(v3''.length+1)*8<=140737488355328] ⟨[(1,tP 1 0),(3,tO (.own 57 1 (v3''.length+1))),(6,tI v6)],[(1,Z2Z b),(57,.row 1 (v3''.length+1) (fun i_ j_=>if i_<v3''.length then (AU eIn v3'') i_ j_ else (Au 1 1 [.i (L3 b v6).Id]) (i_-v3''.length) j_) 3)]⟩ .nil (.cons au1 (.cons rfl (.cons au3 (.cons au3 .nil))))<|Bg<|AJ ?_
  refine BL (Cv.trans (BH (⟨[(1,tP 1 0),(3,tO (.own 57 1 (v3''++[(L3 b v6).Id]).length)),(6,tI v6)],[(1,Z2Z b),(57,Z34 v3'' b v6)]⟩) (.cons ⟨rfl,.refl _⟩ (.cons ⟨rfl,.av (.one (.own _ _ au0))⟩ lr)) (.cons ⟨rfl,.refl _⟩ (.cons ⟨rfl,Ai 3 (BM (A8 1 eIn v3'') (Ar (c:=eIn) (xs:=([(b.Vias.getD v6.toNat default).Id]:List Int)) rfl kr))⟩ .nil))) (Cv.refl _)) ?_
  refine rg ⟨[(1,tP 1 0),(3,tO (.own 57 1 (v3''++[(L3 b v6).Id]).length)),(6,tI (W64 (v6+1)))],[(1,Z2Z b),(57,Z34 v3'' b v6)]⟩ ?_
  (try rw [(show W64 (v6+1)=v6+1 from Ap oM au8)])
  refine AJ ?_
  refine ⟨(n2,v3''++[(b.Vias.getD v6.toNat default).Id],v6+1),⟨?_,?_,(by rw [<- hF2];simp only [Ce,h3,cond_true,cond_false])⟩,Nat.lt_succ_self _,Cv.trans (vr 57 100000 hk0) (A9 kr)⟩
  ·show ((b.Vias.length:Int)-(v6+1)).toNat<n2;omega
  exact ⟨ax0,ax0,ax0⟩
 have g3:=oF h3
 refine BO<|BD ?_
 refine BD<|BP ?_
 refine AJ<|AD<|AD ?_
 refine rn ⟨[(1,tP 1 0),(3,tO (.own 100000 1 v3''.length)),(7,tI 0)],[(1,Z2Z b),(100000,.row 1 v3''.length (AU eIn v3'') 3)]⟩<|AX ?_
 refine BN (ι:=Nat×List Int×Int) (fun x=>⟨[(1,tP 1 0),(3,tO (.own 100000 1 x.2.1.length)),(7,tI x.2.2)],[(1,Z2Z b),(100000,.row 1 x.2.1.length (AU eIn x.2.1) 3)]⟩) (fun x=>((b.Pours.length:Int)-x.2.2).toNat<x.1/\(0<=x.2.2/\(x.2.2<=(b.Pours.length:Int)\/x.2.2=0)/\(x.2.1.length:Int)<=(v3''.length:Int)+1*(x.2.2-0))/\DS b v3 v4 v3' v5 v3'' v6 (A5 b n0) (Bo b v3 v4 (A5 b n0) n1) (Ce b v3 v4 v3' v5 (A5 b n0) (Bo b v3 v4 (A5 b n0) n1) n2) x.1 x.2.1 x.2.2=D7 b) (fun x=>x.1) ?_ (((b.Pours.length:Int)-0).toNat+1,v3'',0) ⟨Nat.lt_succ_self _,⟨ax0,ax0,ax0⟩,(by rw [<- hF2];simp only [Ce,h3,cond_true,cond_false])⟩
 rintro ⟨n3,v3''',v7⟩ ⟨hm3,hinv3,hF3⟩
 try dsimp only at hm3 hinv3 hF3
 cases n3 with | zero=>exact nz hm3 | succ n3 => ?_
 refine AD<|AD ?_
 refine rn ⟨[(1,tP 1 0),(3,tO (.own 100000 1 v3'''.length)),(7,tI v7),(62,tB (decide ((v7:Int)<(b.Pours.length:Int))))],[(1,Z2Z b),(100000,.row 1 v3'''.length (AU eIn v3''') 3)]⟩ ?_
 refine Aa _ rfl (fun h4 => ?_) (fun h4 => ?_)
 ·have g4:=oT h4
  refine Ad<|AJ ?_
  refine AD<|AX ?_
  refine rc [] [0<=(v7:Int)/\(v7:Int)<((b.Pours.length:Nat):Int),v3'''.length=v3'''.length,v3'''.length+1<=maxLen,(v3'''.length+1)*8<=140737488355328] ⟨[(1,tP 1 0),(3,tO (.own 73 1 (v3'''.length+1))),(7,tI v7)],[(1,Z2Z b),(73,.row 1 (v3'''.length+1) (fun i_ j_=>if i_<v3'''.length then (AU eIn v3''') i_ j_ else (Au 1 1 [.i (Hk b v7).Id]) (i_-v3'''.length) j_) 3)]⟩ .nil (.cons au1 (.cons rfl (.cons au3 (.cons au3 .nil))))<|Bg<|AJ ?_
  refine BL (Cv.trans (BH (⟨[(1,tP 1 0),(3,tO (.own 73 1 (v3'''++[(Hk b v7).Id]).length)),(7,tI v7)],[(1,Z2Z b),(73,Z35 v3''' b v7)]⟩) (.cons ⟨rfl,.refl _⟩ (.cons ⟨rfl,.av (.one (.own _ _ au0))⟩ lr)) (.cons ⟨rfl,.refl _⟩ (.cons ⟨rfl,Ai 3 (BM (A8 1 eIn v3''') (Ar (c:=eIn) (xs:=([(b.Pours.getD v7.toNat default).Id]:List Int)) rfl kr))⟩ .nil))) (Cv.refl _)) ?_
  refine rg ⟨[(1,tP 1 0),(3,tO (.own 73 1 (v3'''++[(Hk b v7).Id]).length)),(7,tI (W64 (v7+1)))],[(1,Z2Z b),(73,Z35 v3''' b v7)]⟩ ?_
  (try rw [(show W64 (v7+1)=v7+1 from Ap oM au8)])
  refine AJ ?_
  refine ⟨(n3,v3'''++[(b.Pours.getD v7.toNat default).Id],v7+1),⟨?_,?_,(by rw [<- hF3];simp only [DS,h4,cond_true,cond_false])⟩,Nat.lt_succ_self _,Cv.trans (vr 73 100000 hk0) (A9 kr)⟩
  ·show ((b.Pours.length:Int)-(v7+1)).toNat<n3;omega
  exact ⟨ax0,ax0,ax0⟩
 have g4:=oF h4
 refine BO<|BD ?_
 refine BD<|BP ?_
 refine AJ<|AD<|AD ?_
 refine rn ⟨[(1,tP 1 0),(3,tO (.own 100000 1 v3'''.length)),(8,tI 0)],[(1,Z2Z b),(100000,.row 1 v3'''.length (AU eIn v3''') 3)]⟩<|AX ?_
 refine BN (ι:=Nat×List Int×Int) (fun x=>⟨[(1,tP 1 0),(3,tO (.own 100000 1 x.2.1.length)),(8,tI x.2.2)],[(1,Z2Z b),(100000,.row 1 x.2.1.length (AU eIn x.2.1) 3)]⟩) (fun x=>((b.Keeps.length:Int)-x.2.2).toNat<x.1/\(0<=x.2.2/\(x.2.2<=(b.Keeps.length:Int)\/x.2.2=0)/\(x.2.1.length:Int)<=(v3'''.length:Int)+1*(x.2.2-0))/\Dz b v3 v4 v3' v5 v3'' v6 v3''' v7 (A5 b n0) (Bo b v3 v4 (A5 b n0) n1) (Ce b v3 v4 v3' v5 (A5 b n0) (Bo b v3 v4 (A5 b n0) n1) n2) (DS b v3 v4 v3' v5 v3'' v6 (A5 b n0) (Bo b v3 v4 (A5 b n0) n1) (Ce b v3 v4 v3' v5 (A5 b n0) (Bo b v3 v4 (A5 b n0) n1) n2) n3) x.1 x.2.1 x.2.2=D7 b) (fun x=>x.1) ?_ (((b.Keeps.length:Int)-0).toNat+1,v3''',0) ⟨Nat.lt_succ_self _,⟨ax0,ax0,ax0⟩,(by rw [<- hF3];simp only [DS,h4,cond_true,cond_false])⟩
 rintro ⟨n4,v3'''',v8⟩ ⟨hm4,hinv4,hF4⟩
 try dsimp only at hm4 hinv4 hF4
 cases n4 with | zero=>exact nz hm4 | succ n4 => ?_
 refine AD<|AD ?_
 refine rn ⟨[(1,tP 1 0),(3,tO (.own 100000 1 v3''''.length)),(8,tI v8),(78,tB (decide ((v8:Int)<(b.Keeps.length:Int))))],[(1,Z2Z b),(100000,.row 1 v3''''.length (AU eIn v3'''') 3)]⟩ ?_
 refine Aa _ rfl (fun h5 => ?_) (fun h5 => ?_)
 ·have g5:=oT h5
  refine Ad<|AJ ?_
  refine AD<|AX ?_
  refine rc [] [0<=(v8:Int)/\(v8:Int)<((b.Keeps.length:Nat):Int),v3''''.length=v3''''.length,v3''''.length+1<=maxLen,(v3''''.length+1)*8<=140737488355328] ⟨[(1,tP 1 0),(3,tO (.own 89 1 (v3''''.length+1))),(8,tI v8)],[(1,Z2Z b),(89,.row 1 (v3''''.length+1) (fun i_ j_=>if i_<v3''''.length then (AU eIn v3'''') i_ j_ else (Au 1 1 [.i (L7 b v8).Id]) (i_-v3''''.length) j_) 3)]⟩ .nil (.cons au1 (.cons rfl (.cons au3 (.cons au3 .nil))))<|Bg<|AJ ?_
  refine BL (Cv.trans (BH (⟨[(1,tP 1 0),(3,tO (.own 89 1 (v3''''++[(L7 b v8).Id]).length)),(8,tI v8)],[(1,Z2Z b),(89,Z36 v3'''' b v8)]⟩) (.cons ⟨rfl,.refl _⟩ (.cons ⟨rfl,.av (.one (.own _ _ au0))⟩ lr)) (.cons ⟨rfl,.refl _⟩ (.cons ⟨rfl,Ai 3 (BM (A8 1 eIn v3'''') (Ar (c:=eIn) (xs:=([(b.Keeps.getD v8.toNat default).Id]:List Int)) rfl kr))⟩ .nil))) (Cv.refl _)) ?_
  refine rg ⟨[(1,tP 1 0),(3,tO (.own 89 1 (v3''''++[(L7 b v8).Id]).length)),(8,tI (W64 (v8+1)))],[(1,Z2Z b),(89,Z36 v3'''' b v8)]⟩ ?_
  (try rw [(show W64 (v8+1)=v8+1 from Ap oM au8)])
  refine AJ ?_
  refine ⟨(n4,v3''''++[(b.Keeps.getD v8.toNat default).Id],v8+1),⟨?_,?_,(by rw [<- hF4];simp only [Dz,h5,cond_true,cond_false])⟩,Nat.lt_succ_self _,Cv.trans (vr 89 100000 hk0) (A9 kr)⟩
  ·show ((b.Keeps.length:Int)-(v8+1)).toNat<n4;omega
  exact ⟨ax0,ax0,ax0⟩
 have g5:=oF h5
 refine BO<|BD ?_
 refine BD<|BP ?_
 refine AJ<|AD<|AD ?_
 refine rn ⟨[(1,tP 1 0),(3,tO (.own 100000 1 v3''''.length)),(9,tI 0)],[(1,Z2Z b),(100000,.row 1 v3''''.length (AU eIn v3'''') 3)]⟩<|AX ?_
 refine BN (ι:=Nat×List Int×Int) (fun x=>⟨[(1,tP 1 0),(3,tO (.own 100000 1 x.2.1.length)),(9,tI x.2.2)],[(1,Z2Z b),(100000,.row 1 x.2.1.length (AU eIn x.2.1) 3)]⟩) (fun x=>((b.Slots.length:Int)-x.2.2).toNat<x.1/\(0<=x.2.2/\(x.2.2<=(b.Slots.length:Int)\/x.2.2=0)/\(x.2.1.length:Int)<=(v3''''.length:Int)+1*(x.2.2-0))/\E1 b v3 v4 v3' v5 v3'' v6 v3''' v7 v3'''' v8 (A5 b n0) (Bo b v3 v4 (A5 b n0) n1) (Ce b v3 v4 v3' v5 (A5 b n0) (Bo b v3 v4 (A5 b n0) n1) n2) (DS b v3 v4 v3' v5 v3'' v6 (A5 b n0) (Bo b v3 v4 (A5 b n0) n1) (Ce b v3 v4 v3' v5 (A5 b n0) (Bo b v3 v4 (A5 b n0) n1) n2) n3) (Dz b v3 v4 v3' v5 v3'' v6 v3''' v7 (A5 b n0) (Bo b v3 v4 (A5 b n0) n1) (Ce b v3 v4 v3' v5 (A5 b n0) (Bo b v3 v4 (A5 b n0) n1) n2) (DS b v3 v4 v3' v5 v3'' v6 (A5 b n0) (Bo b v3 v4 (A5 b n0) n1) (Ce b v3 v4 v3' v5 (A5 b n0) (Bo b v3 v4 (A5 b n0) n1) n2) n3) n4) x.1 x.2.1 x.2.2=D7 b) (fun x=>x.1) ?_ (((b.Slots.length:Int)-0).toNat+1,v3'''',0) ⟨Nat.lt_succ_self _,⟨ax0,ax0,ax0⟩,(by rw [<- hF4];simp only [Dz,h5,cond_true,cond_false])⟩
 rintro ⟨n5,v3''''',v9⟩ ⟨hm5,hinv5,hF5⟩
 try dsimp only at hm5 hinv5 hF5
 cases n5 with | zero=>exact nz hm5 | succ n5 => ?_
 refine AD<|AD ?_
 refine rn ⟨[(1,tP 1 0),(3,tO (.own 100000 1 v3'''''.length)),(9,tI v9),(94,tB (decide ((v9:Int)<(b.Slots.length:Int))))],[(1,Z2Z b),(100000,.row 1 v3'''''.length (AU eIn v3''''') 3)]⟩ ?_
 refine Aa _ rfl (fun h6 => ?_) (fun h6 => ?_)
 ·have g6:=oT h6
  refine Ad<|AJ ?_
  refine AD<|AX ?_
  refine rc [] [0<=(v9:Int)/\(v9:Int)<((b.Slots.length:Nat):Int),v3'''''.length=v3'''''.length,v3'''''.length+1<=maxLen,(v3'''''.length+1)*8<=140737488355328] ⟨[(1,tP 1 0),(3,tO (.own 105 1 (v3'''''.length+1))),(9,tI v9)],[(1,Z2Z b),(105,.row 1 (v3'''''.length+1) (fun i_ j_=>if i_<v3'''''.length then (AU eIn v3''''') i_ j_ else (Au 1 1 [.i (L5 b v9).Id]) (i_-v3'''''.length) j_) 3)]⟩ .nil (.cons au1 (.cons rfl (.cons au3 (.cons au3 .nil))))<|Bg<|AJ ?_
  refine BL (Cv.trans (BH (⟨[(1,tP 1 0),(3,tO (.own 105 1 (v3'''''++[(L5 b v9).Id]).length)),(9,tI v9)],[(1,Z2Z b),(105,Z37 v3''''' b v9)]⟩) (.cons ⟨rfl,.refl _⟩ (.cons ⟨rfl,.av (.one (.own _ _ au0))⟩ lr)) (.cons ⟨rfl,.refl _⟩ (.cons ⟨rfl,Ai 3 (BM (A8 1 eIn v3''''') (Ar (c:=eIn) (xs:=([(b.Slots.getD v9.toNat default).Id]:List Int)) rfl kr))⟩ .nil))) (Cv.refl _)) ?_
  refine rg ⟨[(1,tP 1 0),(3,tO (.own 105 1 (v3'''''++[(L5 b v9).Id]).length)),(9,tI (W64 (v9+1)))],[(1,Z2Z b),(105,Z37 v3''''' b v9)]⟩ ?_
  (try rw [(show W64 (v9+1)=v9+1 from Ap oM au8)])
  refine AJ ?_
  refine ⟨(n5,v3'''''++[(b.Slots.getD v9.toNat default).Id],v9+1),⟨?_,?_,(by rw [<- hF5];simp only [E1,h6,cond_true,cond_false])⟩,Nat.lt_succ_self _,Cv.trans (vr 105 100000 hk0) (A9 kr)⟩
  ·show ((b.Slots.length:Int)-(v9+1)).toNat<n5;omega
  exact ⟨ax0,ax0,ax0⟩
 refine BO<|BD ?_
 refine BD<|BP ?_
 refine AJ<|AD ?_
 refine rn ⟨[(2,tO (.own 100000 1 v3'''''.length))],[(100000,.row 1 v3'''''.length (AU eIn v3''''') 3)]⟩<|Af ?_
 exact yl (Cv.trans (vf 100000 1 v3'''''.length (AU eIn v3''''') 3 hk0 (.cons ⟨rfl,rfl⟩ .nil)) (Cv.refl _)) (tO (lst 1 eIn v3''''')) (An (by rw [<- hF5];first | (simp only [E1,h6,cond_true,cond_false] <;> rfl)))
theorem ZS (b:AH) (h0:(b.Parts.length:Int)<=1000000) (h1:(b.Tracks.length:Int)<=1000000) (h2:(b.Vias.length:Int)<=1000000) (h3:(b.Pours.length:Int)<=1000000) (h4:(b.Keeps.length:Int)<=1000000) (h5:(b.Slots.length:Int)<=1000000):OKc (TQ b):=cPu<|bP b h0 h1 h2 h3 h4 h5
theorem Xl (b:AH) (v3:List Int) (v4:Int) (v3':List Int) (v5:Int) (v3'':List Int) (v6:Int) (v3''':List Int) (v7:Int) (v3'''':List Int) (v8:Int) (K0:List Int->Int->List Int) (K1:List Int->Int->List Int) (K2:List Int->Int->List Int) (K3:List Int->Int->List Int) (K4:List Int->Int->List Int):∀ (n:Nat) (v:List Int) (i:Int),0<=i->i<=b.Slots.length->((b.Slots.length:Int)-i).toNat<n->((E1 b v3 v4 v3' v5 v3'' v6 v3''' v7 v3'''' v8 K0 K1 K2 K3 K4 n v i).length:Int)=v.length+((b.Slots.length:Int)-i)
 | 0,v,i,h0,h1,h2=>absurd h2 (Nat.not_lt_zero _)
 | n+1,v,i,h0,h1,h2=>by
  unfold E1
  by_cases h:i<(b.Slots.length:Int)
  ·simp only [h,decide_true,cond_true]
   have:=Xl b v3 v4 v3' v5 v3'' v6 v3''' v7 v3'''' v8 K0 K1 K2 K3 K4 n (v++[(b.Slots.getD i.toNat default).Id]) (i+1) (by omega) (by omega) (by omega)
   rw [this]
   simp only [List.length_append,List.length_cons,List.length_nil]
   omega
  simp only [h,decide_false,cond_false]
  omega
theorem Xm (b:AH) (v3:List Int) (v4:Int) (v3':List Int) (v5:Int) (v3'':List Int) (v6:Int) (v3''':List Int) (v7:Int) (K0:List Int->Int->List Int) (K1:List Int->Int->List Int) (K2:List Int->Int->List Int) (K3:List Int->Int->List Int):∀ (n:Nat) (v:List Int) (i:Int),0<=i->i<=b.Keeps.length->((b.Keeps.length:Int)-i).toNat<n->((Dz b v3 v4 v3' v5 v3'' v6 v3''' v7 K0 K1 K2 K3 n v i).length:Int)=v.length+((b.Keeps.length:Int)-i)+(b.Slots.length:Int)
 | 0,v,i,h0,h1,h2=>absurd h2 (Nat.not_lt_zero _)
 | n+1,v,i,h0,h1,h2=>by
  unfold Dz
  by_cases h:i<(b.Keeps.length:Int)
  ·simp only [h,decide_true,cond_true]
   have:=Xm b v3 v4 v3' v5 v3'' v6 v3''' v7 K0 K1 K2 K3 n (v++[(b.Keeps.getD i.toNat default).Id]) (i+1) (by omega) (by omega) (by omega)
   rw [this]
   simp only [List.length_append,List.length_cons,List.length_nil]
   omega
  simp only [h,decide_false,cond_false]
  rw [Xl _ _ _ _ _ _ _ _ _ _ _ _ _ _ _ _ _ v 0 (by omega) (by omega) (by omega)]
  omega
theorem Xn (b:AH) (v3:List Int) (v4:Int) (v3':List Int) (v5:Int) (v3'':List Int) (v6:Int) (K0:List Int->Int->List Int) (K1:List Int->Int->List Int) (K2:List Int->Int->List Int):∀ (n:Nat) (v:List Int) (i:Int),0<=i->i<=b.Pours.length->((b.Pours.length:Int)-i).toNat<n->((DS b v3 v4 v3' v5 v3'' v6 K0 K1 K2 n v i).length:Int)=v.length+((b.Pours.length:Int)-i)+(b.Keeps.length:Int)+(b.Slots.length:Int)
 | 0,v,i,h0,h1,h2=>absurd h2 (Nat.not_lt_zero _)
 | n+1,v,i,h0,h1,h2=>by
  unfold DS
  by_cases h:i<(b.Pours.length:Int)
  ·simp only [h,decide_true,cond_true]
   have:=Xn b v3 v4 v3' v5 v3'' v6 K0 K1 K2 n (v++[(b.Pours.getD i.toNat default).Id]) (i+1) (by omega) (by omega) (by omega)
   rw [this]
   simp only [List.length_append,List.length_cons,List.length_nil]
   omega
  simp only [h,decide_false,cond_false]
  rw [Xm _ _ _ _ _ _ _ _ _ _ _ _ _ _ v 0 (by omega) (by omega) (by omega)]
  omega
theorem Xo (b:AH) (v3:List Int) (v4:Int) (v3':List Int) (v5:Int) (K0:List Int->Int->List Int) (K1:List Int->Int->List Int):∀ (n:Nat) (v:List Int) (i:Int),0<=i->i<=b.Vias.length->((b.Vias.length:Int)-i).toNat<n->((Ce b v3 v4 v3' v5 K0 K1 n v i).length:Int)=v.length+((b.Vias.length:Int)-i)+(b.Pours.length:Int)+(b.Keeps.length:Int)+(b.Slots.length:Int)
 | 0,v,i,h0,h1,h2=>absurd h2 (Nat.not_lt_zero _)
 | n+1,v,i,h0,h1,h2=>by
  unfold Ce
  by_cases h:i<(b.Vias.length:Int)
  ·simp only [h,decide_true,cond_true]
   have:=Xo b v3 v4 v3' v5 K0 K1 n (v++[(b.Vias.getD i.toNat default).Id]) (i+1) (by omega) (by omega) (by omega)
   rw [this]
   simp only [List.length_append,List.length_cons,List.length_nil]
   omega
  simp only [h,decide_false,cond_false]
  rw [Xn _ _ _ _ _ _ _ _ _ _ _ v 0 (by omega) (by omega) (by omega)]
  omega
theorem Xp (b:AH) (v3:List Int) (v4:Int) (K0:List Int->Int->List Int):∀ (n:Nat) (v:List Int) (i:Int),0<=i->i<=b.Tracks.length->((b.Tracks.length:Int)-i).toNat<n->((Bo b v3 v4 K0 n v i).length:Int)=v.length+((b.Tracks.length:Int)-i)+(b.Vias.length:Int)+(b.Pours.length:Int)+(b.Keeps.length:Int)+(b.Slots.length:Int)
 | 0,v,i,h0,h1,h2=>absurd h2 (Nat.not_lt_zero _)
 | n+1,v,i,h0,h1,h2=>by
  unfold Bo
  by_cases h:i<(b.Tracks.length:Int)
  ·simp only [h,decide_true,cond_true]
   have:=Xp b v3 v4 K0 n (v++[(b.Tracks.getD i.toNat default).Id]) (i+1) (by omega) (by omega) (by omega)
   rw [this]
   simp only [List.length_append,List.length_cons,List.length_nil]
   omega
  simp only [h,decide_false,cond_false]
  rw [Xo _ _ _ _ _ _ _ _ v 0 (by omega) (by omega) (by omega)]
  omega
theorem Xq (b:AH)   : ∀ (n:Nat) (v:List Int) (i:Int),0<=i->i<=b.Parts.length->((b.Parts.length:Int)-i).toNat<n->((A5 b n v i).length:Int)=v.length+((b.Parts.length:Int)-i)+(b.Tracks.length:Int)+(b.Vias.length:Int)+(b.Pours.length:Int)+(b.Keeps.length:Int)+(b.Slots.length:Int)
 | 0,v,i,h0,h1,h2=>absurd h2 (Nat.not_lt_zero _)
 | n+1,v,i,h0,h1,h2=>by
  unfold A5
  by_cases h:i<(b.Parts.length:Int)
  ·simp only [h,decide_true,cond_true]
   have:=Xq b n (v++[(b.Parts.getD i.toNat default).Id]) (i+1) (by omega) (by omega) (by omega)
   rw [this]
   simp only [List.length_append,List.length_cons,List.length_nil]
   omega
  simp only [h,decide_false,cond_false]
  rw [Xp _ _ _ _ _ v 0 (by omega) (by omega) (by omega)]
  omega
theorem UM (b:AH):((D7 b).length:Int)=(b.Parts.length:Int)+(b.Tracks.length:Int)+(b.Vias.length:Int)+(b.Pours.length:Int)+(b.Keeps.length:Int)+(b.Slots.length:Int):=by
 unfold D7
 rw [Xq b _ _ 0 (by omega) (by omega) (by omega)]
 simp only [List.length_nil]
 omega
end
end Go.Proofs.Ytdbampcfmjbgmaa
