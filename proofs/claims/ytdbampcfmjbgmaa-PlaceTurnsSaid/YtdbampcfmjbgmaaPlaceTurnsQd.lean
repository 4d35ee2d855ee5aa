/-
  No statement is proved in this text. It holds a part of what the proof of PlaceTurns needs.
-/
import Derived.Test.YtdbampcfmjbgmaaPlaceTurnsQc
namespace Go.Proofs.Ytdbampcfmjbgmaa
set_option maxRecDepth 100000
set_option linter.unusedVariables false
set_option linter.unusedSimpArgs false
open Go.RowKit
section
open Go.RowKit
variable (b:AG) (types:List AQ) (x2_:Nat) (AM:List (Ab×ByteArray)) (Ak:List A5) (x0_:Nat)
def Z0j:CT:=(41,[.one (lst 2 A3.c b.Nets)],.val [] (.av (.one (.clo 67 1 (CU [.eptr 1 1 (fun _ j_=>([lst 2 A3.c b.Nets]:List Cl).getD j_ default) 0 0])))))
def Z0k:CT:=(42,[.agg (DL b),.one (GD types)],.val [] (.av (.one (.clo 68 2 (CU [.eptr 15 1 (fun _ j_=>((DL b):List Cl).getD j_ default) 0 0,.eptr 1 1 (fun _ j_=>([lst 3 AQ.c types]:List Cl).getD j_ default) 0 0])))))
def F5 (b:AG) (types:(List AQ)) (AM:List (Ab×ByteArray)) (x0:Nat) (K0:List (Ab×ByteArray)->(List A5)):Nat->List (Ab×ByteArray)->Int->(List A5)
 | 0,_,_=>default
 | n1+1,Au,v23=>bif decide ((v23:Int)<((b.Nets.getD (b.Nets.length-1-x0) default).Pins.length:Int)) then ((F5 b types AM x0 K0 n1) (Gz Bc Au ((b.Nets.getD (b.Nets.length-1-x0) default).Pins.getD v23.toNat default) (b.Nets.getD (b.Nets.length-1-x0) default).Name) (v23+1)) else (K0 Au)
def DH (b:AG) (types:(List AQ)) (AM:List (Ab×ByteArray)) (K0:List (Ab×ByteArray)->(List A5)):Nat->Nat->List A5->(List A5)
 | 0,_,Ak=>Ak
 | m+1,x,Ak=>(DH b types AM K0 m (x+1)) (Ak++[A5.mk ((Ad b types).getD x default).1.Id ((Ad b types).getD x default).2.Name 1 (bif D7 Bc AM (Ab.mk ((Ad b types).getD x default).1.Ref ((Ad b types).getD x default).2.Name) then (AM.getD (DE Bc AM (Ab.mk ((Ad b types).getD x default).1.Ref ((Ad b types).getD x default).2.Name)) default).2 else ⟨#[]⟩) (bif decide ((((Ad b types).getD x default).2.Drill:Int)=0) then (Cj b ((Ad b types).getD x default).1) else 1) (bif decide ((((Ad b types).getD x default).2.Drill:Int)=0) then (Cj b ((Ad b types).getD x default).1) else b.Layers) (Cn ((Ad b types).getD x default).2.Shape (Bo ((Ad b types).getD x default).1))])
def Cw (b:AG) (types:(List AQ)):Nat->Nat->List (Ab×ByteArray)->(List A5)
 | 0,_,AM=>DH b types AM (fun _=>default) (Ad b types).length 0 ([]:List A5)
 | m+1,x,AM=>F5 b types AM x (Cw b types m (x+1)) ((((b.Nets.getD (b.Nets.length-1-x) default).Pins.length:Int)-0).toNat+1) AM 0
def BC (b:AG) (types:(List AQ)):(List A5):=Cw b types b.Nets.length 0 ([]:List (Ab×ByteArray))
abbrev PU:=Ab.mk ((Ad b types).getD x2_ default).1.Ref ((Ad b types).getD x2_ default).2.Name
abbrev Uo:=[A5.mk ((Ad b types).getD x2_ default).1.Id ((Ad b types).getD x2_ default).2.Name 1 (bif D7 Bc AM (PU b types x2_) then (AM.getD (DE Bc AM (PU b types x2_)) default).2 else ⟨#[]⟩) (bif decide ((((Ad b types).getD x2_ default).2.Drill:Int)=0) then (Cj b ((Ad b types).getD x2_ default).1) else 1) (bif decide ((((Ad b types).getD x2_ default).2.Drill:Int)=0) then (Cj b ((Ad b types).getD x2_ default).1) else b.Layers) (Cn ((Ad b types).getD x2_ default).2.Shape (Bo ((Ad b types).getD x2_ default).1))]
abbrev Yi (AM:List (Ab×ByteArray)) (b:AG) (types:List AQ) (x2_:Nat):=bif D7 Bc AM (PU b types x2_) then (AM.getD (DE Bc AM (PU b types x2_)) default).2 else ⟨#[]⟩
abbrev Nx:=Ab.mk ((Ad b types).getD x2_ default).1.Ref ((Ad b types).getD x2_ default).2.Name
abbrev Da:=b.Nets.getD (b.Nets.length-1-x0_) default
abbrev Eb:Nat×Tv:=(1,tO (lst 3 AQ.c types))
abbrev DO:Nat×Blk:=(200005,.cells [.om 200014] 124)
abbrev zzc36:=(bif decide ((((Ad b types).getD x2_ default).2.Drill:Int)=0) then (Cj b ((Ad b types).getD x2_ default).1) else b.Layers)
abbrev Lx:Nat×Tv:=(17,.av (.one (.clo 67 1 (CU [.eptr 1 1 (gD [lst 2 A3.c b.Nets]) 0 0]))))
abbrev Vp:=Cn ((Ad b types).getD x2_ default).2.Shape (Bo ((Ad b types).getD x2_ default).1)
abbrev zzc44:=(bif decide ((((Ad b types).getD x2_ default).2.Drill:Int)=0) then (Cj b ((Ad b types).getD x2_ default).1) else 1)
abbrev DN:Nat×Blk:=(200002,.cells (DL b) 42)
abbrev HV:Nat×Blk:=(100000,.row 9 Ak.length (AU A5.c Ak) 63)
abbrev Th:Nat×Tv:=(11,.av (.one (.eptr 7 1 (gD (AF.c ((Ad b types).getD x2_ default).1)) 0 0)))
abbrev IY:Nat×Blk:=(200010,.cells [.own 100000 9 Ak.length] 60)
abbrev Vf:Nat×Tv:=(12,.av (.one (.eptr 7 1 (gD (A1.c ((Ad b types).getD x2_ default).2)) 0 0)))
abbrev Ha (t_:List (Nat×Tv)):List (Nat×Tv):=(2,tP 200002 0)::(5,tP 200005 0)::(10,tP 200010 0)::t_
abbrev PZ:List (Nat×Tv):=(Ha [(Th b types x2_),(Vf b types x2_),(13,tP 13 0),(34,.av (Hf b types))])
abbrev SO:Nat×Tv:=(7,.av (.one (.eptr 2 1 (gD (A3.c (Da b x0_))) 0 0)))
abbrev MN:List (Nat×Tv):=(Ha [(34,.av (Hf b types))])
abbrev WH:List Cl:=[.i ((Ad b types).getD x2_ default).1.Id,.s ((Ad b types).getD x2_ default).2.Name,.i 1,.s (Yi AM b types x2_),.i (zzc44 b types x2_),.i (zzc36 b types x2_),.i (Vp b types x2_).Kind,lst 7 AO.c (Vp b types x2_).Edges,.i (Vp b types x2_).R]
abbrev WG:Nat×Tv:=(22,tI ((Da b x0_).Pins.length:Int))
abbrev WE:Nat×Tv:=(21,tO (lst 2 Ab.c (Da b x0_).Pins))
abbrev FL (t_:List (Nat×Tv)):List (Nat×Tv):=(Eb types)::(2,tP 200002 0)::(5,tP 200005 0)::t_
abbrev L1 (t_:List Cl):List Cl:=(.i ((Ad b types).getD x2_ default).1.Id)::(.s ((Ad b types).getD x2_ default).2.Name)::(.i 1)::t_
abbrev KH (t_:List (Nat×Tv)):List (Nat×Tv):=(SO b x0_)::(Lx b)::(WE b x0_)::(WG b x0_)::t_
theorem qPads (b:AG) (types:(List AQ)) (hn:(b.Nets.length:Int)<=1000000) (hp:b.Parts.length<20) (ht:CP types) (hm:((Ad b types).length:Int)<=20000000) (hq:∀ n∈b.Nets,(n.Pins.length:Int)<=1000000):Fr Try.prog 14 [.agg (DL b),.one (lst 3 AQ.c types)] (.row 9 (BC b types).length (AU A5.c (BC b types)) 63) (fun d=>tO (.own d 9 (BC b types).length)):=by
 refine ID Try.func14 rfl kr (Mr _ _) fun W0 M0 => ?_
 refine AB<|rn ⟨[(Eb types),(2,tP 2 0)],[(Hc b)]⟩<|AB ?_
 refine rn ⟨[(Eb types),(2,tP 2 0),(5,tP 5 0)],[(Hc b),(5,.cells [.om 14] 124),(14,.omap false 1 0 (fun _=>undef) (fun _ _=>default))]⟩ ?_
 refine BN (Cv.trans (BF (⟨[(Eb types),(2,tP 2 0),(5,tP 5 0)],[(Hc b),(5,.cells [.om 14] 124),(14,.omap false 1 ([]:List (Ab×ByteArray)).length (kfG Bh ([]:List (Ab×ByteArray))) (vfG (fun x=>[.s x]) ([]:List (Ab×ByteArray))))]⟩) lr (.cons ⟨rfl,.refl _⟩ (.cons ⟨rfl,.refl _⟩ (.cons ⟨rfl,YR (ck:=Bh) (cv:=(fun x=>[.s x]))⟩ .nil)))) (Cv.refl _))<|AB<|AB ?_
 refine rs 17 (Z0j b) ⟨[(Eb types),(2,tP 2 0),(5,tP 5 0),(Lx b)],[(Hc b),(5,.cells [.om 14] 124),(14,.omap false 1 ([]:List (Ab×ByteArray)).length (kfG Bh ([]:List (Ab×ByteArray))) (vfG (fun x=>[.s x]) ([]:List (Ab×ByteArray))))]⟩ (cPu<|U7 b.Nets)<|AH<|AX ?_
 refine BN (Cv.trans (vr 2 200002 hk0) (Cv.trans (vr 5 200005 hk0) (Cv.trans (wr (⟨(FL types [(Lx b)]),[(DN b),DO,(200014,.omap false 1 ([]:List (Ab×ByteArray)).length (kfG Bh ([]:List (Ab×ByteArray))) (vfG (fun x=>[.s x]) ([]:List (Ab×ByteArray))))]⟩) 14 200014 hk0) (Cv.refl _)))) ?_
 refine NX (ι:=List (Ab×ByteArray)) [200002,200005,200014] 299999 200002 9999 299998 (fun x=>[(200002,.cells (DL b) 42),(200005,.cells [.om 200014] 124),(200014,.omap false 1 x.length (kfG Bh x) (vfG (fun x=>[.s x]) x))]) (fun x0=>[(1,tO (lst 3 AQ.c types)),(2,tP 200002 0),(5,tP 200005 0),(7,.av (.one (.eptr 2 1 (gD (A3.c (b.Nets.getD (b.Nets.length-1-x0.val) default))) 0 0))),(17,.av (.one (.clo 67 1 (CU [.eptr 1 1 (gD [lst 2 A3.c b.Nets]) 0 0]))))]) (fun j x=>True) (fun y x=>Cw b types (b.Nets.length-y) y x=BC b types) ([]:List (Ab×ByteArray)) (fun _=>rfl) kr kr (fun _ _=>kr) (Zp b.Nets oM) kr (fun _=>by kernel_rfl) (fun _=>rfl) (fun _=>rfl) (fun x=>(C4 (p:=BkN) (by simp only [List.forall_mem_cons];exact ⟨Ry (Kb _),Ry (by simp only [List.forall_mem_cons];exact ⟨(.om _),fun x hx=>by cases hx⟩),aM (fun x y hy=>by rw [List.mem_singleton.1 hy];exact (.val _)),fun x hx=>by cases hx⟩))) (fun x0=>(C4 (p:=TvM) (by simp only [List.forall_mem_cons];exact ⟨CB (CW Mw),CB (.ptr _ _),CB (.ptr _ _),CB (GM (P7 _)),CB (XL (by simp only [List.forall_mem_cons];exact ⟨(GM (by simp only [List.forall_mem_cons];exact ⟨(CW P7),fun x hx=>by cases hx⟩)),fun x hx=>by cases hx⟩)),fun x hx=>by cases hx⟩))) (fun _=>by kernel_rfl) ax0 (by simp only [BC,Nat.sub_zero,cond_true,cond_false]) (fun l1 W1 M1 X1 x0 j AM hinv hPX => ?_) (fun l2 W2 M2 X2 x0 j AM hPX hj hinv => ?_) (fun AM hinv hF0 => ?_)
 ·have hinv0:True:=hinv;clear hinv
  refine EF ?_
  refine rg ⟨(FL types [(7,tP 7 0),(Lx b)]),[(7,.cells (A3.c (Da b x0.val)) 48),(DN b),DO,(200014,.omap false 1 AM.length (kfG Bh AM) (vfG (fun x=>[.s x]) AM))]⟩ ?_
  exact ⟨_,Cv.trans (NO (⟨(FL types [(SO b x0.val),(Lx b)]),[(DN b),DO,(200014,.omap false 1 AM.length (kfG Bh AM) (vfG (fun x=>[.s x]) AM))]⟩) 7 (A3.c (b.Nets.getD (b.Nets.length-1-x0.val) default)) 48 [200002,200005,200014] 299998 hPX kr (fun h=>by obtain ⟨_,h⟩:=h;cases h) kr kr kr) (Cv.refl _),rfl,rfl⟩
 ·have hinv0:True:=hinv;clear hinv
  obtain ⟨Xb0,hXb0⟩:∃ Xb,Cw b types (b.Nets.length-x0.val) x0.val AM=Xb:=⟨_,rfl⟩
  have hF0:=hXb0
  rw [show b.Nets.length-x0.val=(b.Nets.length-(x0.val+1))+1 by have:=x0.isLt;omega] at hF0
  have hqx:=E5 (p:=fun n:A3=>(n.Pins.length:Int)<=1000000) (by decide) hq (b.Nets.length-1-x0.val)
  refine EF<|AX<|AB ?_
  refine rn ⟨(FL types (KH b x0.val [(23,tI 0)])),[(DN b),DO,(200014,.omap false 1 AM.length (kfG Bh AM) (vfG (fun x=>[.s x]) AM))]⟩<|AX ?_
  refine BH (ι:=Nat×List (Ab×ByteArray)×Int) (fun x=>⟨(FL types (KH b x0.val [(23,tI x.2.2)])),[(DN b),DO,(200014,.omap false 1 x.2.1.length (kfG Bh x.2.1) (vfG (fun x=>[.s x]) x.2.1))]⟩) (fun x=>(((b.Nets.getD (b.Nets.length-1-x0.val) default).Pins.length:Int)-x.2.2).toNat<x.1/\(0<=x.2.2/\(x.2.2<=((b.Nets.getD (b.Nets.length-1-x0.val) default).Pins.length:Int)\/x.2.2=0))/\F5 b types AM x0.val (Cw b types (b.Nets.length-(x0.val+1)) (x0.val+1)) x.1 x.2.1 x.2.2=Xb0) (fun x=>x.1) ?_ ((((b.Nets.getD (b.Nets.length-1-x0.val) default).Pins.length:Int)-0).toNat+1,AM,0) ⟨Nat.lt_succ_self _,⟨ax0,ax0⟩,(by rw [<- hF0];simp only [Cw,cond_true,cond_false])⟩
  rintro ⟨n1,Au,v23⟩ ⟨hm1,hinv1,hF1⟩
  try dsimp only at hm1 hinv1 hF1
  cases n1 with | zero=>exact nz hm1 | succ n1 => ?_
  refine AB<|rn ⟨(FL types (KH b x0.val [(23,tI v23),(24,tB (decide ((v23:Int)<((b.Nets.getD (b.Nets.length-1-x0.val) default).Pins.length:Int))))])),[(DN b),DO,(200014,.omap false 1 Au.length (kfG Bh Au) (vfG (fun x=>[.s x]) Au))]⟩<|AB ?_
  refine Aa _ rfl (fun h1 => ?_) (fun h1 => ?_)
  ·have g1:=oT h1
   refine Ac<|AH ?_
   refine AB<|AX<|AB ?_
   refine rc [] [0<=(v23:Int)/\(v23:Int)<(((b.Nets.getD (b.Nets.length-1-x0.val) default).Pins.length:Nat):Int)] ⟨(FL types [(SO b x0.val),(9,tP 9 0),(Lx b),(WE b x0.val),(WG b x0.val),(23,tI v23)]),[(9,.cells (Ab.c ((Da b x0.val).Pins.getD v23.toNat default)) 25),(DN b),DO,(200014,.omap false 1 Au.length (kfG Bh Au) (vfG (fun x=>[.s x]) Au))]⟩ .nil (.cons au1 .nil)<|AH ?_
   refine DW D9 [] [(999999,((D7 Bc Au ((Da b x0.val).Pins.getD v23.toNat default)),(DE Bc Au ((Da b x0.val).Pins.getD v23.toNat default))))] [] [1,2,5,7,17,21,22,23] [200002,200005,200014] [R3 Try.prog eqE 25 Au.length (kfG Bh Au) (Bh ((b.Nets.getD (b.Nets.length-1-x0.val) default).Pins.getD v23.toNat default)) (D7 Bc Au ((b.Nets.getD (b.Nets.length-1-x0.val) default).Pins.getD v23.toNat default)) (DE Bc Au ((b.Nets.getD (b.Nets.length-1-x0.val) default).Pins.getD v23.toNat default))] ⟨(FL types (KH b x0.val [(23,tI v23)])),[(DN b),DO,(200014,.omap false 1 (bif D7 Bc Au ((Da b x0.val).Pins.getD v23.toNat default) then Au.length else Au.length+1) (fun j=>bif Nat.beq j (bif D7 Bc Au ((Da b x0.val).Pins.getD v23.toNat default) then DE Bc Au ((Da b x0.val).Pins.getD v23.toNat default) else Au.length) then Bh ((Da b x0.val).Pins.getD v23.toNat default) else kfG Bh Au j) (fun j c=>bif Nat.beq j (bif D7 Bc Au ((Da b x0.val).Pins.getD v23.toNat default) then DE Bc Au ((Da b x0.val).Pins.getD v23.toNat default) else Au.length) then ([.s (Da b x0.val).Name]:List Cl).getD c default else vfG (fun x=>[.s x]) Au j c))]⟩ .nil kr (.cons (Ra Od Rt _ _) .nil)<|Bd<|AH ?_
   refine BN (Cv.trans (BF (⟨(FL types (KH b x0.val [(23,tI v23)])),[(DN b),DO,(200014,.omap false 1 (Gz Bc Au ((Da b x0.val).Pins.getD v23.toNat default) (Da b x0.val).Name).length (kfG Bh (Gz Bc Au ((Da b x0.val).Pins.getD v23.toNat default) (Da b x0.val).Name)) (vfG (fun x=>[.s x]) (Gz Bc Au ((Da b x0.val).Pins.getD v23.toNat default) (Da b x0.val).Name)))]⟩) lr (.cons ⟨rfl,.refl _⟩ (.cons ⟨rfl,.refl _⟩ (.cons ⟨rfl,YQ (ck:=Bh) (cv:=(fun x=>[.s x])) (eq:=Bc) Au ((b.Nets.getD (b.Nets.length-1-x0.val) default).Pins.getD v23.toNat default) (b.Nets.getD (b.Nets.length-1-x0.val) default).Name [.s (b.Nets.getD (b.Nets.length-1-x0.val) default).Name] rfl⟩ .nil)))) (Cv.refl _)) ?_
   refine rg ⟨(FL types (KH b x0.val [(23,tI (W64 (v23+1)))])),[(DN b),DO,(200014,.omap false 1 (Gz Bc Au ((Da b x0.val).Pins.getD v23.toNat default) (Da b x0.val).Name).length (kfG Bh (Gz Bc Au ((Da b x0.val).Pins.getD v23.toNat default) (Da b x0.val).Name)) (vfG (fun x=>[.s x]) (Gz Bc Au ((Da b x0.val).Pins.getD v23.toNat default) (Da b x0.val).Name)))]⟩ ?_
   (try rw [(show W64 (v23+1)=v23+1 from Ao oM au6)])
   refine AH ?_
   refine ⟨(n1,Gz Bc Au ((b.Nets.getD (b.Nets.length-1-x0.val) default).Pins.getD v23.toNat default) (b.Nets.getD (b.Nets.length-1-x0.val) default).Name,v23+1),⟨?_,?_,(by rw [<- hF1];simp only [F5,h1,cond_true,cond_false])⟩,Nat.lt_succ_self _,A6 kr⟩
   ·show (((b.Nets.getD (b.Nets.length-1-x0.val) default).Pins.length:Int)-(v23+1)).toNat<n1;omega
   exact ⟨ax0,ax0⟩
  have g1:=oF h1
  refine BJ<|A4 ?_
  refine A4<|BK<|Bd ?_
  refine ⟨_,Cv.trans (ck (⟨(FL types [(Lx b)]),[(DN b),DO,(200014,.omap false 1 Au.length (kfG Bh Au) (vfG (fun x=>[.s x]) Au))]⟩)) (Cv.refl _),rfl,Au,ax0,fun hk hF => ?_,fun _ _ h=>h⟩
  have e0:Cw b types (b.Nets.length-(x0.val+1)) (x0.val+1) Au=Xb0:=by
   rw [<- hF1]
   first | (simp only [F5,h1,cond_true,cond_false] <;> rfl)
  subst hk
  change Cw b types (b.Nets.length-x0.val) x0.val AM=BC b types at hF
  show Cw b types (b.Nets.length-(x0.val+1)) (x0.val+1) Au=BC b types
  exact e0.trans (hXb0.symm.trans hF)
 have hinv0:True:=hinv;clear hinv
 change Cw b types (b.Nets.length-b.Nets.length) b.Nets.length AM=BC b types at hF0
 rw [Nat.sub_self] at hF0
 refine Bd<|AH<|AB ?_
 refine rn ⟨(FL types [(10,tP 10 0)]),[(10,.cells [vN] 60),(DN b),DO,(200014,.omap false 1 AM.length (kfG Bh AM) (vfG (fun x=>[.s x]) AM))]⟩ ?_
 refine AB<|AB ?_
 refine rs 34 (Z0k b types) ⟨[(2,tP 200002 0),(5,tP 200005 0),(10,tP 10 0),(34,.av (Hf b types))],[(10,.cells [vN] 60),(DN b),DO,(200014,.omap false 1 AM.length (kfG Bh AM) (vfG (fun x=>[.s x]) AM))]⟩ (cPu<|ppads b types)<|AH<|AX ?_
 refine BN (Cv.trans (vr 10 200010 hk0) (Cv.trans (vk [2,5,10,34] [200002,200005,200010,200014]) (Cv.trans (wg (⟨(MN b types),[(100000,.row 9 0 (fun _ _=>default) 63),(DN b),DO,(200010,.cells [.own 100000 9 0] 60),(200014,.omap false 1 AM.length (kfG Bh AM) (vfG (fun x=>[.s x]) AM))]⟩) 100000 9 (fun _ _=>default) 63 [] [(200010,[0])] hk0) (Cv.trans (BF (⟨(MN b types),[(100000,.row 9 ([]:List A5).length (AU A5.c ([]:List A5)) 63),(DN b),DO,(200010,.cells [.own 100000 9 ([]:List A5).length] 60),(200014,.omap false 1 AM.length (kfG Bh AM) (vfG (fun x=>[.s x]) AM))]⟩) lr (.cons ⟨rfl,Ai 63 (B8 9 (fun _ _=>default) A5.c)⟩ (.cons ⟨rfl,.refl _⟩ (.cons ⟨rfl,.refl _⟩ (.cons ⟨rfl,.cells _ (.cons (.own _ _ au0) .nil)⟩ lr))))) (Cv.refl _))))) ?_
 refine NX (ι:=List A5) [200002,200005,200010,200014] 299999 200010 0 100000 (fun x=>[(100000,.row 9 x.length (AU A5.c x) 63),(200002,.cells (DL b) 42),(200005,.cells [.om 200014] 124),(200010,.cells [.own 100000 9 x.length] 60),(200014,.omap false 1 AM.length (kfG Bh AM) (vfG (fun x=>[.s x]) AM))]) (fun x2=>[(2,tP 200002 0),(5,tP 200005 0),(10,tP 200010 0),(11,.av (.one (.eptr 7 1 (gD (AF.c ((Ad b types).getD x2.val default).1)) 0 0))),(12,.av (.one (.eptr 7 1 (gD (A1.c ((Ad b types).getD x2.val default).2)) 0 0))),(34,.av (.one (.clo 68 2 (CU [.eptr 15 1 (gD (DL b)) 0 0,.eptr 1 1 (gD [lst 3 AQ.c types]) 0 0]))))]) (fun j x=>x.length<=j) (fun y x=>DH b types AM (fun _=>default) ((Ad b types).length-y) y x=BC b types) ([]:List A5) (fun _=>rfl) kr kr (fun _ _=>kr) (ZF b types hp ht) kr (fun _=>by kernel_rfl) (fun _=>rfl) (fun _=>rfl) (fun x=>(C4 (p:=BkN) (by simp only [List.forall_mem_cons];exact ⟨bkN_r XR,Ry (Kb _),Ry (by simp only [List.forall_mem_cons];exact ⟨(.om _),fun x hx=>by cases hx⟩),Ry (by simp only [List.forall_mem_cons];exact ⟨(.own _ _ _),fun x hx=>by cases hx⟩),aM (fun x y hy=>by rw [List.mem_singleton.1 hy];exact (.val _)),fun x hx=>by cases hx⟩))) (fun x2=>(C4 (p:=TvM) (by simp only [List.forall_mem_cons];exact ⟨CB (.ptr _ _),CB (.ptr _ _),CB (.ptr _ _),CB (GM (Eu _)),CB (GM (H6 _)),CB (XL (by simp only [List.forall_mem_cons];exact ⟨(GM (Kb _)),(GM (by simp only [List.forall_mem_cons];exact ⟨(CW Mw),fun x hx=>by cases hx⟩)),fun x hx=>by cases hx⟩)),fun x hx=>by cases hx⟩))) (fun _=>by kernel_rfl) ax0 (by rw [<- hF0];simp only [Cw,Nat.sub_zero,cond_true,cond_false]) (fun l1 W1 M1 X1 x2 j Ak hinv hPX => ?_) (fun l2 W2 M2 X2 x2 j Ak hPX hj hinv => ?_) (fun Ak hinv hF2 => ?_)
 ·have hinv2:Ak.length<=j:=hinv;clear hinv
  refine EF<|AB ?_
  refine rn ⟨(Ha [(11,tP 11 0),(34,.av (Hf b types)),(36,.av (.agg (A1.c ((Ad b types).getD x2.val default).2)))]),[(11,.cells (AF.c ((Ad b types).getD x2.val default).1) 59),(HV Ak),(DN b),DO,(IY Ak),(200014,.omap false 1 AM.length (kfG Bh AM) (vfG (fun x=>[.s x]) AM))]⟩ ?_
  refine rg ⟨(Ha [(11,tP 11 0),(12,tP 12 0),(34,.av (Hf b types))]),[(11,.cells (AF.c ((Ad b types).getD x2.val default).1) 59),(12,.cells (A1.c ((Ad b types).getD x2.val default).2) 118),(HV Ak),(DN b),DO,(IY Ak),(200014,.omap false 1 AM.length (kfG Bh AM) (vfG (fun x=>[.s x]) AM))]⟩ ?_
  exact ⟨_,Cv.trans (NO (⟨(Ha [(Th b types x2.val),(12,tP 12 0),(34,.av (Hf b types))]),[(12,.cells (A1.c ((Ad b types).getD x2.val default).2) 118),(HV Ak),(DN b),DO,(IY Ak),(200014,.omap false 1 AM.length (kfG Bh AM) (vfG (fun x=>[.s x]) AM))]⟩) 11 (AF.c ((Ad b types).getD x2.val default).1) 59 [200002,200005,200010,200014] 100000 hPX kr (fun _=>⟨_,rfl⟩) kr kr kr) (Cv.trans (NO (⟨(Ha [(Th b types x2.val),(Vf b types x2.val),(34,.av (Hf b types))]),[(HV Ak),(DN b),DO,(IY Ak),(200014,.omap false 1 AM.length (kfG Bh AM) (vfG (fun x=>[.s x]) AM))]⟩) 12 (A1.c ((Ad b types).getD x2.val default).2) 118 [200002,200005,200010,200014] 100000 hPX kr (fun _=>⟨_,rfl⟩) kr kr kr) (Cv.refl _)),rfl,rfl⟩
 ·have hinv2:Ak.length<=j:=hinv;clear hinv
  obtain ⟨Xb2,hXb2⟩:∃ Xb,DH b types AM (fun _=>default) ((Ad b types).length-x2.val) x2.val Ak=Xb:=⟨_,rfl⟩
  have hF2:=hXb2
  rw [show (Ad b types).length-x2.val=((Ad b types).length-(x2.val+1))+1 by have:=x2.isLt;omega] at hF2
  have hpe:=U9 (b:=b) ht x2.val
  refine EF<|AX<|AB ?_
  refine Ug aL D9 [] [(47,((D7 Bc AM (Nx b types x2.val)),(DE Bc AM (Nx b types x2.val))))] [] [2,5,10,11,12,13,34] [13,100000,200002,200005,200010,200014] [R3 Try.prog eqE 25 AM.length (kfG Bh AM) (Bh (Ab.mk ((Ad b types).getD x2.val default).1.Ref ((Ad b types).getD x2.val default).2.Name)) (D7 Bc AM (Ab.mk ((Ad b types).getD x2.val default).1.Ref ((Ad b types).getD x2.val default).2.Name)) (DE Bc AM (Ab.mk ((Ad b types).getD x2.val default).1.Ref ((Ad b types).getD x2.val default).2.Name))] ⟨(PZ b types x2.val),[(13,.cells (L1 b types x2.val [.s (Yi AM b types x2.val),.i 1,.i b.Layers,.i 0,vN,.i 0]) 63),(HV Ak),(DN b),DO,(IY Ak),(200014,.omap false 1 AM.length (kfG Bh AM) (vfG (fun x=>[.s x]) AM))]⟩ .nil kr kr (.cons (Ra Od Rt _ _) .nil)<|AH ?_
  refine AB<|AB ?_
  refine rn ⟨(Ha [(Th b types x2.val),(Vf b types x2.val),(13,tP 13 0),(34,.av (Hf b types)),(53,tB (decide ((((Ad b types).getD x2.val default).2.Drill:Int)=0)))]),[(13,.cells (L1 b types x2.val [.s (Yi AM b types x2.val),.i 1,.i b.Layers,.i 0,vN,.i 0]) 63),(HV Ak),(DN b),DO,(IY Ak),(200014,.omap false 1 AM.length (kfG Bh AM) (vfG (fun x=>[.s x]) AM))]⟩ ?_
  refine Bz (⟨(PZ b types x2.val),[(13,.cells (L1 b types x2.val [.s (bif D7 Bc AM (Nx b types x2.val) then (AM.getD (DE Bc AM (Nx b types x2.val)) default).2 else ⟨#[]⟩),.i (bif decide ((((Ad b types).getD x2.val default).2.Drill:Int)=0) then (Cj b ((Ad b types).getD x2.val default).1) else 1),.i (bif decide ((((Ad b types).getD x2.val default).2.Drill:Int)=0) then (Cj b ((Ad b types).getD x2.val default).1) else b.Layers),.i 0,vN,.i 0]) 63),(HV Ak),(DN b),DO,(IY Ak),(200014,.omap false 1 AM.length (kfG Bh AM) (vfG (fun x=>[.s x]) AM))]⟩) ?_ ?_
  ·refine Aa _ rfl (fun h1 => ?_) (fun h1 => ?_)
   ·refine dw [] [(56,LU b ((Ad b types).getD x2.val default).1),(59,LU b ((Ad b types).getD x2.val default).1)] [Aw (LU b ((Ad b types).getD x2.val default).1).2.1,Aw (LU b ((Ad b types).getD x2.val default).1).2.1] ⟨(PZ b types x2.val),[(13,.cells (L1 b types x2.val [.s (Yi AM b types x2.val),.i (Cj b ((Ad b types).getD x2.val default).1),.i (Cj b ((Ad b types).getD x2.val default).1),.i 0,vN,.i 0]) 63),(HV Ak),(DN b),DO,(IY Ak),(200014,.omap false 1 AM.length (kfG Bh AM) (vfG (fun x=>[.s x]) AM))]⟩ (.cons (Su b ((Ad b types).getD x2.val default).1) (.cons (Su b ((Ad b types).getD x2.val default).1) .nil)) (.cons rfl (.cons rfl .nil))<|AH ?_
    refine A6 ?_
    first | rfl | (simp only [h1,cond_true,cond_false] <;> rfl)
   refine Ac<|AH ?_
   refine Cv.trans (ck (⟨(PZ b types x2.val),[(13,.cells (L1 b types x2.val [.s (bif D7 Bc AM (Nx b types x2.val) then (AM.getD (DE Bc AM (Nx b types x2.val)) default).2 else ⟨#[]⟩),.i 1,.i b.Layers,.i 0,vN,.i 0]) 63),(HV Ak),(DN b),DO,(IY Ak),(200014,.omap false 1 AM.length (kfG Bh AM) (vfG (fun x=>[.s x]) AM))]⟩)) (A6 ?_)
   first | rfl | (simp only [h1,cond_true,cond_false] <;> rfl)
  refine AB<|dw [] [(65,GG ((Ad b types).getD x2.val default).1),(66,NS ((Ad b types).getD x2.val default).2.Shape (Bo ((Ad b types).getD x2.val default).1))] [Aw (GG ((Ad b types).getD x2.val default).1).2.1,Aw (NS ((Ad b types).getD x2.val default).2.Shape (Bo ((Ad b types).getD x2.val default).1)).2.1] ⟨(Ha [(13,tP 13 0),(34,.av (Hf b types))]),[(13,.cells (WH b types x2.val AM) 63),(HV Ak),(DN b),DO,(IY Ak),(200014,.omap false 1 AM.length (kfG Bh AM) (vfG (fun x=>[.s x]) AM))]⟩ (.cons (Mv ((Ad b types).getD x2.val default).1) (.cons (T0 ((Ad b types).getD x2.val default).2.Shape (Bo ((Ad b types).getD x2.val default).1) au16) .nil)) (.cons rfl (.cons rfl .nil))<|AH ?_
  refine rc [] [Ak.length=Ak.length,Ak.length+1<=maxLen,(Ak.length+1)*104<=140737488355328] ⟨(MN b types),[(71,.row 9 (Ak.length+1) (fun i_ j_=>if i_<Ak.length then (AU A5.c Ak) i_ j_ else (As 9 1 (WH b types x2.val AM)) (i_-Ak.length) j_) 63),(DN b),DO,(200010,.cells [.own 71 9 (Ak.length+1)] 60),(200014,.omap false 1 AM.length (kfG Bh AM) (vfG (fun x=>[.s x]) AM))]⟩ .nil (.cons rfl (.cons au3 (.cons au3 .nil)))<|Bd ?_
  refine ⟨_,Cv.trans (BF (⟨(MN b types),[(71,.row 9 (Ak++(Uo b types x2.val AM)).length (AU A5.c (Ak++(Uo b types x2.val AM))) 63),(DN b),DO,(200010,.cells [.own 71 9 (Ak++(Uo b types x2.val AM)).length] 60),(200014,.omap false 1 AM.length (kfG Bh AM) (vfG (fun x=>[.s x]) AM))]⟩) lr (.cons ⟨rfl,Ai 63 (BO (BA 9 A5.c Ak) (Ar (c:=A5.c) (xs:=([A5.mk ((Ad b types).getD x2.val default).1.Id ((Ad b types).getD x2.val default).2.Name 1 (bif D7 Bc AM (Ab.mk ((Ad b types).getD x2.val default).1.Ref ((Ad b types).getD x2.val default).2.Name) then (AM.getD (DE Bc AM (Ab.mk ((Ad b types).getD x2.val default).1.Ref ((Ad b types).getD x2.val default).2.Name)) default).2 else ⟨#[]⟩) (bif decide ((((Ad b types).getD x2.val default).2.Drill:Int)=0) then (Cj b ((Ad b types).getD x2.val default).1) else 1) (bif decide ((((Ad b types).getD x2.val default).2.Drill:Int)=0) then (Cj b ((Ad b types).getD x2.val default).1) else b.Layers) (Cn ((Ad b types).getD x2.val default).2.Shape (Bo ((Ad b types).getD x2.val default).1))]:List A5)) rfl kr))⟩ (.cons ⟨rfl,.refl _⟩ (.cons ⟨rfl,.refl _⟩ (.cons ⟨rfl,.cells _ (.cons (.own _ _ au0) .nil)⟩ lr))))) (Cv.trans (wr (⟨(MN b types),[(100000,.row 9 (Ak++(Uo b types x2.val AM)).length (AU A5.c (Ak++(Uo b types x2.val AM))) 63),(DN b),DO,(200010,.cells [.own 100000 9 (Ak++(Uo b types x2.val AM)).length] 60),(200014,.omap false 1 AM.length (kfG Bh AM) (vfG (fun x=>[.s x]) AM))]⟩) 71 100000 (K:=[299999,200002,200005,200010,200014]) hPX) (Cv.refl _)),rfl,(Ak++[A5.mk ((Ad b types).getD x2.val default).1.Id ((Ad b types).getD x2.val default).2.Name 1 (bif D7 Bc AM (Ab.mk ((Ad b types).getD x2.val default).1.Ref ((Ad b types).getD x2.val default).2.Name) then (AM.getD (DE Bc AM (Ab.mk ((Ad b types).getD x2.val default).1.Ref ((Ad b types).getD x2.val default).2.Name)) default).2 else ⟨#[]⟩) (bif decide ((((Ad b types).getD x2.val default).2.Drill:Int)=0) then (Cj b ((Ad b types).getD x2.val default).1) else 1) (bif decide ((((Ad b types).getD x2.val default).2.Drill:Int)=0) then (Cj b ((Ad b types).getD x2.val default).1) else b.Layers) (Cn ((Ad b types).getD x2.val default).2.Shape (Bo ((Ad b types).getD x2.val default).1))]),ax0,fun hk hF => ?_,fun _ _ h=>h⟩
  have e0:DH b types AM (fun _=>default) ((Ad b types).length-(x2.val+1)) (x2.val+1) (Ak++[A5.mk ((Ad b types).getD x2.val default).1.Id ((Ad b types).getD x2.val default).2.Name 1 (bif D7 Bc AM (Ab.mk ((Ad b types).getD x2.val default).1.Ref ((Ad b types).getD x2.val default).2.Name) then (AM.getD (DE Bc AM (Ab.mk ((Ad b types).getD x2.val default).1.Ref ((Ad b types).getD x2.val default).2.Name)) default).2 else ⟨#[]⟩) (bif decide ((((Ad b types).getD x2.val default).2.Drill:Int)=0) then (Cj b ((Ad b types).getD x2.val default).1) else 1) (bif decide ((((Ad b types).getD x2.val default).2.Drill:Int)=0) then (Cj b ((Ad b types).getD x2.val default).1) else b.Layers) (Cn ((Ad b types).getD x2.val default).2.Shape (Bo ((Ad b types).getD x2.val default).1))])=Xb2:=by
   rw [<- hF2]
   first | (simp only [DH,cond_true,cond_false] <;> rfl)
  subst hk
  change DH b types AM (fun _=>default) ((Ad b types).length-x2.val) x2.val Ak=BC b types at hF
  show DH b types AM (fun _=>default) ((Ad b types).length-(x2.val+1)) (x2.val+1) (Ak++[A5.mk ((Ad b types).getD x2.val default).1.Id ((Ad b types).getD x2.val default).2.Name 1 (bif D7 Bc AM (Ab.mk ((Ad b types).getD x2.val default).1.Ref ((Ad b types).getD x2.val default).2.Name) then (AM.getD (DE Bc AM (Ab.mk ((Ad b types).getD x2.val default).1.Ref ((Ad b types).getD x2.val default).2.Name)) default).2 else ⟨#[]⟩) (bif decide ((((Ad b types).getD x2.val default).2.Drill:Int)=0) then (Cj b ((Ad b types).getD x2.val default).1) else 1) (bif decide ((((Ad b types).getD x2.val default).2.Drill:Int)=0) then (Cj b ((Ad b types).getD x2.val default).1) else b.Layers) (Cn ((Ad b types).getD x2.val default).2.Shape (Bo ((Ad b types).getD x2.val default).1))])=BC b types
  exact e0.trans (hXb2.symm.trans hF)
 have hinv2:Ak.length<=(Ad b types).length:=hinv;clear hinv
 change DH b types AM (fun _=>default) ((Ad b types).length-(Ad b types).length) (Ad b types).length Ak=BC b types at hF2
 rw [Nat.sub_self] at hF2
 refine Bd<|AH<|AB ?_
 refine rn ⟨[(4,tO (.own 100000 9 Ak.length))],[(HV Ak)]⟩<|Ae ?_
 exact xl (tO (.own 100000 9 Ak.length)) (frE (c:=A5.c) (xs:=Ak) (by rw [<- hF2];first | (simp only [DH,cond_true,cond_false] <;> rfl)) kr)
end
section
open Go.RowKit
theorem Np {types:List AQ} (h:CP types) (name:ByteArray):((Cg types name).1.Pads.length:Int)<=1000000:=by rw [IR];exact G2 h name
def D8 (b:AG) (v:List (Ab×ByteArray)) (x:AF×A1):A5:=A5.mk x.1.Id x.2.Name 1 (bif D7 Bc v (Ab.mk x.1.Ref x.2.Name) then (v.getD (DE Bc v (Ab.mk x.1.Ref x.2.Name)) default).2 else ⟨#[]⟩) (bif decide (x.2.Drill=0) then Cj b x.1 else 1) (bif decide (x.2.Drill=0) then Cj b x.1 else b.Layers) (Cn x.2.Shape (Bo x.1))
def aI (v:List (Ab×ByteArray)) (n:A3):List (Ab×ByteArray):=n.Pins.foldl (fun v p=>Gz Bc v p n.Name) v
def LF (b:AG):List (Ab×ByteArray):=b.Nets.reverse.foldl aI []
theorem KC (b:AG) (types:List AQ):BC b types=(Ad b types).map (D8 b (LF b)):=by
 have h2:∀ v K0,DH b types v K0 (Ad b types).length 0 []=(Ad b types).map (D8 b v):=fun v K0=>by
  have:=Xw (Ad b types) (fun acc x=>acc++[D8 b v x]) (DH b types v K0) id (fun x acc=>by rw [DH];rfl) (fun m x acc hx=>by rw [DH];rfl) (Ad b types).length 0 [] (by omega)
  rw [this,List.drop_zero,OY,List.nil_append];rfl
 have hrev:∀ x,x<b.Nets.reverse.length->b.Nets.getD (b.Nets.length-1-x) default=b.Nets.reverse.getD x default:=fun x hx=>by
  rw [List.length_reverse] at hx
  rw [List.getD_eq_getElem?_getD,List.getD_eq_getElem?_getD,List.getElem?_reverse hx]
 unfold BC
 have:=Xw b.Nets.reverse aI (Cw b types) (fun v=>(Ad b types).map (D8 b v)) (fun x acc=>by rw [Cw];exact h2 _ _) (fun m x acc hx=>by
  rw [Cw,hrev x hx]
  have h1:=cO (b.Nets.reverse.getD x default).Pins (fun v p=>Gz Bc v p (b.Nets.reverse.getD x default).Name) (F5 b types acc x (Cw b types m (x+1))) (fun v _=>Cw b types m (x+1) v) (fun m v k=>by rw [F5,hrev x hx,Int.toNat_natCast]) (b.Nets.reverse.getD x default).Pins.length 0 ((((b.Nets.reverse.getD x default).Pins.length:Int)-0).toNat+1) acc rfl (Nat.zero_le _) (by omega)
  rw [List.drop_zero] at h1
  exact h1) b.Nets.length 0 [] (by rw [List.length_reverse];omega)
 rw [this,List.drop_zero];rfl
theorem Ot (b:AG) (types:List AQ):(BC b types).length=(Ad b types).length:=by rw [KC,List.length_map]
variable (b:AG) (t:AQ) (types:List AQ) (p:Ab) (pad:ByteArray)
def Ku:CT:=(14,[.agg (DL b),.one (GD types)],.val [] (.av (.one (lst 9 A5.c (BC b types)))))
theorem P3 (b:AG) (types:(List AQ)) (hn:(b.Nets.length:Int)<=1000000) (hp:b.Parts.length<20) (ht:CP types) (hm:((Ad b types).length:Int)<=20000000) (hq:∀ n∈b.Nets,(n.Pins.length:Int)<=1000000):OKc (Ku b types):=cPu<|Mi (qPads b types hn hp ht hm hq)
def Z0l:Blk:=.cells [.s (⟨#[]⟩),.i 0,vN,.i 0,.i 0,.i 0,.i 0] 118
def Z0m:A1:=t.Pads.getD (FK t.Pads pad).toNat default
def Z0n:Blk:=.cells [.s (Z0m t pad).Name,.i (Z0m t pad).Shape.Kind,.own 23 7 (Z0m t pad).Shape.Edges.length,.i (Z0m t pad).Shape.R,.i (Z0m t pad).At.X,.i (Z0m t pad).At.Y,.i (Z0m t pad).Drill] 118
def Z0o:Blk:=.row 7 (Z0m t pad).Shape.Edges.length (AU AO.c (Z0m t pad).Shape.Edges) 133
def FU (t:AQ) (pad:ByteArray):(A1×Bool):=bif decide (((FK t.Pads pad):Int)<0) then (A1.mk (⟨#[]⟩) (Ah.mk 0 [] 0) (AD.mk 0 0) 0,false) else (A1.mk (Z0m t pad).Name (Ah.mk (Z0m t pad).Shape.Kind (Z0m t pad).Shape.Edges (Z0m t pad).Shape.R) (Z0m t pad).At (Z0m t pad).Drill,true)
def YN:CT:=(32,[.agg (AQ.c t),.one (.s pad)],.val [] (.tup [.agg (A1.c (FU t pad).1),.one (.b (FU t pad).2)]))
theorem pFind (t:AQ) (pad:ByteArray) (h0:(t.Pads.length:Int)<=1000000) (ha:∀ k,((t.Pads.getD k default).Shape.Edges.length:Int)<=1000000):PuP 32 (YN t pad).2.1 (.tup [.agg (A1.c (FU t pad).1),.one (.b (FU t pad).2)]):=by
 refine pwf Try.func32 fun W0 M0 => ?_
 have ha1:=ha (FK t.Pads pad).toNat
 refine AB<|rn ⟨KZ,[(2,.cells (AQ.c t) 114),(3,.cells [.s pad] 9),(4,Z0l)]⟩<|AB ?_
 refine rc [(11,(62,[.one (lst 7 A1.c t.Pads),.one (.clo 63 1 (CU [.ptr 3 0]))],rdI [3] [.cells [.s pad] 9] (tI (FK t.Pads pad))))] [Aw [.one (lst 7 A1.c t.Pads),.one (.clo 63 1 (CU [.ptr 3 0]))],QY [.cells [.s pad] 9]] ⟨[(2,tP 2 0),(4,tP 4 0),(6,tI (FK t.Pads pad))],[(2,.cells (AQ.c t) 114),(4,Z0l)]⟩ (.cons (Kr (fun _ _=>kr) kr kr (Pl (pixPd t.Pads pad au16) (.cons (AvE.refl _) (.cons (.one (.clo 63 1 _ _ (FY kr))) .nil)))) .nil) (.cons rfl (.cons rfl .nil))<|AH ?_
 refine AB<|AB ?_
 refine rn ⟨[(2,tP 2 0),(4,tP 4 0),(6,tI (FK t.Pads pad)),(13,tB (decide (((FK t.Pads pad):Int)<0)))],[(2,.cells (AQ.c t) 114),(4,Z0l)]⟩ ?_
 refine Aa _ rfl (fun h1 => ?_) (fun h1 => ?_)
 ·refine AB<|rn ⟨[(4,tP 4 0),(5,tB false)],[(4,Z0l)]⟩ ?_
  refine Ae<|Bb ?_
  exact xl (.tup [.agg [.s (⟨#[]⟩),.i 0,vN,.i 0,.i 0,.i 0,.i 0],.one (.b false)]) (DI (y:=.tup [.agg [.s (⟨#[]⟩),.i 0,lst 7 AO.c [],.i 0,.i 0,.i 0,.i 0],.one (.b false)]) (.tup (.cons (.agg (rr2 (.cons (CZ 7 AO.c) (rr (rr (rr (rr .nil))))))) (.cons (AvE.refl _) .nil))) (by simp only [FU,h1,cond_true,cond_false] <;> rfl))
 have g1:=oF h1
 refine Ac<|AH<|AB ?_
 refine rc [] [0<=(FK t.Pads pad:Int)/\(FK t.Pads pad:Int)<((t.Pads.length:Nat):Int)] ⟨[(4,tP 4 0),(7,tP 7 0)],[(4,Z0l),(7,.cells (A1.c (Z0m t pad)) 118)]⟩ .nil (.cons (by first | exact cI (by assumption) | omega) .nil)<|AH<|AB ?_
 refine rs 23 (Lm (Z0m t pad).Shape.Edges) ⟨[(4,tP 4 0),(7,tP 7 0)],[(4,Z0l),(7,Z0n t pad),(23,Z0o t pad)]⟩ (Mu (Z0m t pad).Shape.Edges au16)<|AH<|AB ?_
 refine rn ⟨[(4,tP 4 0),(5,tB true)],[(4,Z0n t pad),(23,Z0o t pad)]⟩<|Ae ?_
 exact yl (Cv.trans (vf 23 7 (Z0m t pad).Shape.Edges.length (AU AO.c (Z0m t pad).Shape.Edges) 133 hk0 (.cons ⟨rfl,rfl⟩ .nil)) (Cv.refl _)) (.tup [.agg (A1.c (Z0m t pad)),.one (.b true)]) (An (by simp only [FU,h1,cond_true,cond_false] <;> rfl))
theorem bU (t:AQ) (pad:ByteArray) (h0:(t.Pads.length:Int)<=1000000) (ha:∀ k,((t.Pads.getD k default).Shape.Edges.length:Int)<=1000000):OKc (YN t pad):=cPu<|pFind t pad h0 ha
theorem Rm {types:List AQ} (h:CP types) (name:ByteArray):∀ k,(((Cg types name).1.Pads.getD k default).Shape.Edges.length:Int)<=1000000:=by
 rw [IR]
 unfold TC
 cases hf:types.find? (fun t=>Gr t name) with
 | none=>exact fun k=>(by decide:((0:Nat):Int)<=1000000)
 | some t=>exact fun k=>Mq (h.2 t (List.mem_of_find?_eq_some hf)) k
def Z0p (types:(List AQ)) (b:AG) (p:Ab):AQ:=(Cg types (b.Parts.getD (Cu b.Parts p).toNat default).Type').1
def Z0q:AF:=b.Parts.getD (Cu b.Parts p).toNat default
def Z0r (b:AG) (p:Ab) (types:(List AQ)):AD:=AY (Bo (Z0q b p)) (FU (Z0p types b p) p.Pad).1.At
def FAt (b:AG) (types:(List AQ)) (p:Ab):(AD×Int×Bool):=bif decide (((Cu b.Parts p):Int)<0) then (AD.mk 0 0,0,false) else (bif !((FU (Z0p types b p) p.Pad).2) then (AD.mk 0 0,0,false) else (Z0r b p types,Cj b (Z0q b p),true))
def cAt:CT:=(10,[.agg (DL b),.one (GD types),.agg (Ab.c p)],.val [] (.tup [.agg (AD.c (FAt b types p).1),.one (.i (FAt b types p).2.1),.one (.b (FAt b types p).2.2)]))
abbrev F9:Nat×Blk:=(6,.cells [.i 0,.i 0] 52)
abbrev Vu:Tv:=.tup [.agg [.i 0,.i 0],.one (.i 0),.one (.b false)]
abbrev KL:Nat×Blk:=(3,.cells (DL b) 42)
theorem au20 {p:Prop} (h:p:=by first | (exact Rm ht _) | (exact Np ht _) | with_reducible assumption | omega | decide | (simp only [List.length_cons,List.length_nil,List.length_append];omega) | assumption):p:=h
theorem au24 {p:Prop} (h:p:=by first | exact cH (by assumption) | omega):p:=h
theorem pAt (b:AG) (types:(List AQ)) (p:Ab) (hp:(b.Parts.length:Int)<=1000000) (ht:CP types):PuP 10 (cAt b types p).2.1 (.tup [.agg (AD.c (FAt b types p).1),.one (.i (FAt b types p).2.1),.one (.b (FAt b types p).2.2)]):=by
 refine pwf Try.func10 fun W0 M0 => ?_
 refine AB<|rn ⟨[(Eb types),(3,tP 3 0),(5,tP 5 0),(6,tP 6 0)],[(KL b),(5,.cells (Ab.c p) 25),F9]⟩<|AB ?_
 refine rc [(17,(29,[.one (lst 7 AF.c b.Parts),.one (.clo 30 1 (CU [.ptr 5 0]))],rdI [5] [.cells (Ab.c p) 25] (tI (Cu b.Parts p))))] [Aw [.one (lst 7 AF.c b.Parts),.one (.clo 30 1 (CU [.ptr 5 0]))],QY [.cells (Ab.c p) 25]] ⟨[(Eb types),(3,tP 3 0),(5,tP 5 0),(6,tP 6 0),(9,tI (Cu b.Parts p))],[(KL b),(5,.cells (Ab.c p) 25),F9]⟩ (.cons (Kr (fun _ _=>kr) kr kr (Pl (pixPl b.Parts p au20) (.cons (AvE.refl _) (.cons (.one (.clo 30 1 _ _ (FY kr))) .nil)))) .nil) (.cons rfl (.cons rfl .nil))<|AH ?_
 refine AB<|AB ?_
 refine rn ⟨[(Eb types),(3,tP 3 0),(5,tP 5 0),(6,tP 6 0),(9,tI (Cu b.Parts p)),(19,tB (decide (((Cu b.Parts p):Int)<0)))],[(KL b),(5,.cells (Ab.c p) 25),F9]⟩ ?_
 refine Aa _ rfl (fun h1 => ?_) (fun h1 => ?_)
 ·refine AB<|rn ⟨[(6,tP 6 0),(7,tI 0),(8,tB false)],[F9]⟩ ?_
  refine Ae<|Bb ?_
  exact xl Vu (An (by simp only [FAt,h1,cond_true,cond_false] <;> rfl))
 have g1:=oF h1
 refine Ac<|AH<|AB ?_
 refine rc [(29,YM types (b.Parts.getD (Cu b.Parts p).toNat default).Type')] [0<=(Cu b.Parts p:Int)/\(Cu b.Parts p:Int)<((b.Parts.length:Nat):Int),Aw (YM types (b.Parts.getD (Cu b.Parts p).toNat default).Type').2.1] ⟨[(3,tP 3 0),(5,tP 5 0),(6,tP 6 0),(9,tI (Cu b.Parts p)),(10,tP 10 0)],[(KL b),(5,.cells (Ab.c p) 25),F9,(10,.cells (AQ.c (Z0p types b p)) 114)]⟩ (.cons (aA types (b.Parts.getD (Cu b.Parts p).toNat default).Type' au20) .nil) (.cons au24 (.cons rfl .nil))<|AH<|AB ?_
 refine rs 36 (YN (Z0p types b p) p.Pad) ⟨[(3,tP 3 0),(6,tP 6 0),(9,tI (Cu b.Parts p)),(12,tP 12 0),(13,tB (FU (Z0p types b p) p.Pad).2)],[(KL b),F9,(12,.cells (A1.c (FU (Z0p types b p) p.Pad).1) 118)]⟩ (bU (Z0p types b p) p.Pad au20 au20)<|AH ?_
 refine AB<|AB ?_
 refine rn ⟨[(3,tP 3 0),(6,tP 6 0),(9,tI (Cu b.Parts p)),(12,tP 12 0),(40,tB (!((FU (Z0p types b p) p.Pad).2)))],[(KL b),F9,(12,.cells (A1.c (FU (Z0p types b p) p.Pad).1) 118)]⟩ ?_
 refine Aa _ rfl (fun h2 => ?_) (fun h2 => ?_)
 ·refine AB<|rn ⟨[(6,tP 6 0),(7,tI 0),(8,tB false)],[F9]⟩ ?_
  refine Ae<|Bb ?_
  exact xl Vu (An (by simp only [FAt,h1,h2,cond_true,cond_false] <;> rfl))
 refine Ac<|AH<|AB ?_
 refine dw [] [(47,GG (Z0q b p)),(50,B6 (Bo (Z0q b p)) (FU (Z0p types b p) p.Pad).1.At),(57,LU b (Z0q b p))] [0<=(Cu b.Parts p:Int)/\(Cu b.Parts p:Int)<((b.Parts.length:Nat):Int),Aw (GG (Z0q b p)).2.1,Aw (B6 (Bo (Z0q b p)) (FU (Z0p types b p) p.Pad).1.At).2.1,0<=(Cu b.Parts p:Int)/\(Cu b.Parts p:Int)<((b.Parts.length:Nat):Int),Aw (LU b (Z0q b p)).2.1] ⟨[(6,tP 6 0),(7,tI (Cj b (Z0q b p))),(8,tB true)],[(6,.cells (AD.c (Z0r b p types)) 52)]⟩ (.cons (Mv (Z0q b p)) (.cons (DJ (Bo (Z0q b p)) (FU (Z0p types b p) p.Pad).1.At) (.cons (Su b (Z0q b p)) .nil))) (.cons au24 (.cons rfl (.cons rfl (.cons au24 (.cons rfl .nil)))))<|AH<|Ae ?_
 exact xl (.tup [.agg (AD.c (Z0r b p types)),.one (.i (Cj b (Z0q b p))),.one (.b true)]) (An (by simp only [FAt,h1,h2,cond_true,cond_false] <;> rfl))
theorem bV (b:AG) (types:(List AQ)) (p:Ab) (hp:(b.Parts.length:Int)<=1000000) (ht:CP types):OKc (cAt b types p):=cPu<|pAt b types p hp ht
end
def Z0s:Blk:=.cells MC 114
def Z0t (types:(List AQ)) (k:Int) (name:ByteArray):Bool:=((types.getD k.toNat default).Name.toList==name.toList)
def D3 (types:(List AQ)) (name:ByteArray):Nat->Int->(AQ×Bool)
 | 0,_=>default
 | n0+1,k=>bif decide ((k:Int)<(types.length:Int)) then (bif Z0t types k name then (types.getD k.toNat default,true) else ((D3 types name n0) (k+1))) else (AQ.mk (⟨#[]⟩) [] [],false)
def Bi (types:(List AQ)) (name:ByteArray):(AQ×Bool):=D3 types name (((types.length:Int)-0).toNat+1) 0
def NT (types:(List AQ)) (name:ByteArray):CT:=(35,[.one (GD types),.one (.s name)],.val [] (.tup [.agg (AQ.c (Bi types name).1),.one (.b (Bi types name).2)]))
theorem bI (types:(List AQ)) (name:ByteArray) (h0:(types.length:Int)<=1000000):PuP 35 (NT types name).2.1 (.tup [.agg (AQ.c (Bi types name).1),.one (.b (Bi types name).2)]):=by
 refine pwf Try.func35 fun W0 M0 => ?_
 refine AB<|rn ⟨[(Fk types),(1,tO (.s name)),(4,tP 4 0)],[(4,Z0s)]⟩ ?_
 refine AB<|AB ?_
 refine rn ⟨[(Fk types),(1,tO (.s name)),(4,tP 4 0),(6,tI 0)],[(4,Z0s)]⟩<|AX ?_
 refine BH (ι:=Nat×Int) (fun x=>⟨[(Fk types),(1,tO (.s name)),(4,tP 4 0),(6,tI x.2)],[(4,Z0s)]⟩) (fun x=>((types.length:Int)-x.2).toNat<x.1/\(0<=x.2/\0<=x.2/\(x.2<=(types.length:Int)\/x.2=0))/\D3 types name x.1 x.2=Bi types name) (fun x=>x.1) ?_ (((types.length:Int)-0).toNat+1,0) ⟨Nat.lt_succ_self _,⟨ax0,ax0,ax0⟩,(by simp only [Bi,cond_true,cond_false])⟩
 rintro ⟨n0,k⟩ ⟨hm0,hinv0,hF0⟩
 try dsimp only at hm0 hinv0 hF0
 cases n0 with | zero=>exact nz hm0 | succ n0 => ?_
 refine AB<|AB ?_
 refine rn ⟨[(Fk types),(1,tO (.s name)),(4,tP 4 0),(6,tI k),(10,tB (decide ((k:Int)<(types.length:Int))))],[(4,Z0s)]⟩ ?_
 refine Aa _ rfl (fun h1 => ?_) (fun h1 => ?_)
 ·have g1:=oT h1
  refine Ac<|AH ?_
  refine AB<|AX<|AB ?_
  refine rc [] [0<=(k:Int)/\(k:Int)<((types.length:Nat):Int)] ⟨[(Fk types),(1,tO (.s name)),(4,tP 4 0),(6,tI k),(19,tB (Z0t types k name))],[(4,Z0s)]⟩ .nil (.cons au1 .nil)<|AH ?_
  refine Aa _ rfl (fun h2 => ?_) (fun h2 => ?_)
  ·refine AB<|rc [] [0<=(k:Int)/\(k:Int)<((types.length:Nat):Int)] ⟨[(4,tP 4 0),(5,tB true)],[(4,.cells (AQ.c (types.getD k.toNat default)) 114)]⟩ .nil (.cons au1 .nil)<|AH ?_
   refine Ae<|Cq ?_
   refine Bb<|Bb ?_
   refine Cq<|Bb ?_
   exact xl (.tup [.agg (AQ.c (types.getD k.toNat default)),.one (.b true)]) (An (by rw [<- hF0];first | (simp only [D3,h1,h2,cond_true,cond_false] <;> rfl)))
  refine Ac<|Bd<|AH ?_
  refine rg ⟨[(Fk types),(1,tO (.s name)),(4,tP 4 0),(6,tI (W64 (k+1)))],[(4,Z0s)]⟩ ?_
  (try rw [(show W64 (k+1)=k+1 from Ao oM oM)])
  refine AH ?_
  refine ⟨(n0,k+1),⟨?_,?_,(by rw [<- hF0];simp only [D3,h1,h2,cond_true,cond_false])⟩,Nat.lt_succ_self _,A6 kr⟩
  ·show ((types.length:Int)-(k+1)).toNat<n0;omega
  exact ⟨ax0,ax0,ax0⟩
 refine BJ<|A4 ?_
 refine A4<|BK ?_
 refine AH<|AB ?_
 refine rn ⟨[(4,tP 4 0),(5,tB false)],[(4,Z0s)]⟩<|Ae ?_
 exact xl (.tup [.agg MC,.one (.b false)]) (DI (y:=.tup V3) (.tup (.cons (.agg (rr (.cons (CZ 7 A1.c) (.cons (CZ 2 Az.c) .nil)))) (.cons (AvE.refl _) .nil))) (by rw [<- hF0];first | (simp only [D3,h1,cond_true,cond_false] <;> rfl)))
theorem T3 (types:(List AQ)) (name:ByteArray) (h0:(types.length:Int)<=1000000):OKc (NT types name):=cPu<|bI types name h0
theorem ZA {b:AG} (h:∀ n∈b.Nets,(n.Pins.length:Int)<=1000000) (k:Nat):((b.Nets.getD k default).Pins.length:Int)<=1000000:=E5 (p:=fun n:A3=>(n.Pins.length:Int)<=1000000) (by decide) h k
section
open Go.RowKit
theorem or3_f {p q r:Prop} [Decidable p] [Decidable q] [Decidable r] (h:(bif bif !decide p then true else !decide q then true else !decide r)=false):p/\q/\r:=by
 by_cases hp:p <;> by_cases hq:q <;> by_cases hr:r <;> simp_all
def EW (a:Ah) (b:Ah):Nat->Int->Bool
 | 0,_=>default
 | n0+1,k=>bif decide ((k:Int)<(a.Edges.length:Int)) then (bif !(decide ((a.Edges.getD k.toNat default).Kind=(b.Edges.getD k.toNat default).Kind)&&(decide ((a.Edges.getD k.toNat default).A.X=(b.Edges.getD k.toNat default).A.X)&&(decide ((a.Edges.getD k.toNat default).A.Y=(b.Edges.getD k.toNat default).A.Y)&&(decide ((a.Edges.getD k.toNat default).B.X=(b.Edges.getD k.toNat default).B.X)&&(decide ((a.Edges.getD k.toNat default).B.Y=(b.Edges.getD k.toNat default).B.Y)&&(decide ((a.Edges.getD k.toNat default).C.X=(b.Edges.getD k.toNat default).C.X)&&(decide ((a.Edges.getD k.toNat default).C.Y=(b.Edges.getD k.toNat default).C.Y)&&true))))))) then false else ((EW a b n0) (k+1))) else true
def H0 (a:Ah) (b:Ah):Bool:=bif bif bif !decide ((a.Kind:Int)=b.Kind) then true else !decide ((a.R:Int)=b.R) then true else !decide (((a.Edges.length:Int):Int)=(b.Edges.length:Int)) then false else (EW a b (((a.Edges.length:Int)-0).toNat+1) 0)
def TS (a:Ah) (b:Ah):CT:=(45,[.agg (Ah.c a),.agg (Ah.c b)],.val [] (.av (.one (.b (H0 a b)))))
abbrev I1 (a:Ah) (b:Ah):List (Nat×Blk):=[(2,.cells (Ah.c a) 29),(3,.cells (Ah.c b) 29)]
abbrev Vv (a:Ah) (b:Ah):=(bif !decide ((a.Kind:Int)=b.Kind) then true else !decide ((a.R:Int)=b.R))
theorem bA (a:Ah) (b:Ah) (h0:(a.Edges.length:Int)<=1000000) (h1:(b.Edges.length:Int)<=1000000):PuP 45 (TS a b).2.1 (tO (.b (H0 a b))):=by
 refine pwf Try.func45 fun W0 M0 => ?_
 refine AB<|rn ⟨O4,(I1 a b)⟩ ?_
 refine AB<|AB ?_
 refine rc [] (i5 (!decide ((a.Kind:Int)=b.Kind)) (i2 (Vv a b) (i5 (Vv a b) []))) ⟨[(2,tP 2 0),(3,tP 3 0),(26,tB (bif bif !decide ((a.Kind:Int)=b.Kind) then true else !decide ((a.R:Int)=b.R) then true else !decide (((a.Edges.length:Int):Int)=(b.Edges.length:Int))))],(I1 a b)⟩ .nil (c5 (c2 (c5 .nil)))<|AH ?_
 refine Aa _ rfl (fun h1 => ?_) (fun h1 => ?_)
 ·refine AB<|rn ⟨[(4,tB false)],[]⟩ ?_
  refine Ae<|Bb ?_
  exact xl (tO (.b false)) (An (by simp only [H0,h1,cond_true,cond_false] <;> rfl))
 refine Ac<|AH ?_
 refine AB<|AB ?_
 refine rn ⟨[(2,tP 2 0),(3,tP 3 0),(5,tI 0)],(I1 a b)⟩<|AX ?_
 refine BH (ι:=Nat×Int) (fun x=>⟨[(2,tP 2 0),(3,tP 3 0),(5,tI x.2)],(I1 a b)⟩) (fun x=>((a.Edges.length:Int)-x.2).toNat<x.1/\(0<=x.2/\(x.2<=(a.Edges.length:Int)\/x.2=0))/\EW a b x.1 x.2=H0 a b) (fun x=>x.1) ?_ (((a.Edges.length:Int)-0).toNat+1,0) ⟨Nat.lt_succ_self _,⟨ax0,ax0⟩,(by simp only [H0,h1,cond_true,cond_false])⟩
 rintro ⟨n0,k⟩ ⟨hm0,hinv0,hF0⟩
 try dsimp only at hm0 hinv0 hF0
 cases n0 with | zero=>exact nz hm0 | succ n0 => ?_
 have hE:=(or3_f h1).2.2
 refine AB<|AB ?_
 refine rn ⟨[(2,tP 2 0),(3,tP 3 0),(5,tI k),(31,tB (decide ((k:Int)<(a.Edges.length:Int))))],(I1 a b)⟩ ?_
 refine Aa _ rfl (fun h2 => ?_) (fun h2 => ?_)
 ·have g2:=oT h2
  refine Ac<|AH ?_
  refine AB<|AX<|AB ?_
  refine dw [] [] [0<=(k:Int)/\(k:Int)<((a.Edges.length:Nat):Int),0<=(k:Int)/\(k:Int)<((b.Edges.length:Nat):Int)] ⟨[(2,tP 2 0),(3,tP 3 0),(5,tI k),(44,tB (!(decide ((a.Edges.getD k.toNat default).Kind=(b.Edges.getD k.toNat default).Kind)&&(decide ((a.Edges.getD k.toNat default).A.X=(b.Edges.getD k.toNat default).A.X)&&(decide ((a.Edges.getD k.toNat default).A.Y=(b.Edges.getD k.toNat default).A.Y)&&(decide ((a.Edges.getD k.toNat default).B.X=(b.Edges.getD k.toNat default).B.X)&&(decide ((a.Edges.getD k.toNat default).B.Y=(b.Edges.getD k.toNat default).B.Y)&&(decide ((a.Edges.getD k.toNat default).C.X=(b.Edges.getD k.toNat default).C.X)&&(decide ((a.Edges.getD k.toNat default).C.Y=(b.Edges.getD k.toNat default).C.Y)&&true)))))))))],(I1 a b)⟩ .nil (.cons au1 (.cons au1 .nil))<|AH ?_
  refine Aa (!(decide ((a.Edges.getD k.toNat default).Kind=(b.Edges.getD k.toNat default).Kind)&&(decide ((a.Edges.getD k.toNat default).A.X=(b.Edges.getD k.toNat default).A.X)&&(decide ((a.Edges.getD k.toNat default).A.Y=(b.Edges.getD k.toNat default).A.Y)&&(decide ((a.Edges.getD k.toNat default).B.X=(b.Edges.getD k.toNat default).B.X)&&(decide ((a.Edges.getD k.toNat default).B.Y=(b.Edges.getD k.toNat default).B.Y)&&(decide ((a.Edges.getD k.toNat default).C.X=(b.Edges.getD k.toNat default).C.X)&&(decide ((a.Edges.getD k.toNat default).C.Y=(b.Edges.getD k.toNat default).C.Y)&&true)))))))) kr (fun h3 => ?_) (fun h3 => ?_)
  ·refine AB<|rn ⟨[(4,tB false)],[]⟩ ?_
   refine Ae<|Cq ?_
   refine Bb<|Bb ?_
   refine Cq<|Bb ?_
   exact xl (tO (.b false)) (An (by rw [<- hF0];first | (simp only [EW,h2,h3,cond_true,cond_false] <;> rfl)))
  refine Ac<|Bd<|AH ?_
  refine rg ⟨[(2,tP 2 0),(3,tP 3 0),(5,tI (W64 (k+1)))],(I1 a b)⟩ ?_
  (try rw [(show W64 (k+1)=k+1 from Ao oM au6)])
  refine AH ?_
  refine ⟨(n0,k+1),⟨?_,?_,(by rw [<- hF0];simp only [EW,h2,h3,cond_true,cond_false])⟩,Nat.lt_succ_self _,A6 kr⟩
  ·show ((a.Edges.length:Int)-(k+1)).toNat<n0;omega
  exact ⟨ax0,ax0⟩
 refine BJ<|A4 ?_
 refine A4<|BK ?_
 refine AH<|AB ?_
 refine rn ⟨[(4,tB true)],[]⟩<|Ae ?_
 exact xl (tO (.b true)) (An (by rw [<- hF0];first | (simp only [EW,h2,cond_true,cond_false] <;> rfl)))
theorem ZP (a:Ah) (b:Ah) (h0:(a.Edges.length:Int)<=1000000) (h1:(b.Edges.length:Int)<=1000000):OKc (TS a b):=cPu<|bA a b h0 h1
variable (a:List A5) (s_1:List AO) (l:List AD) (v3:Al) (s:Ah) (x0:AD) (b:List A5) (k:Int) (r:Al) (v21 v5 x1:Int)
abbrev D5:=a.getD v5.toNat default
def Z0u:Blk:=.cells (A5.c (D5 a v5)) 63
def Z0v (a:(List A5)) (v5:Int) (b:(List A5)):Bool:=H0 (a.getD v5.toNat default).Shape (b.getD v5.toNat default).Shape
def Dt (a:(List A5)) (b:(List A5)):Nat->Int->Bool
 | 0,_=>default
 | n0+1,v5=>bif decide ((v5:Int)<(a.length:Int)) then (bif bif bif bif bif bif bif !(Z0v a v5 b) then true else !decide (((a.getD v5.toNat default).Id:Int)=(b.getD v5.toNat default).Id) then true else !((a.getD v5.toNat default).Pad.toList==(b.getD v5.toNat default).Pad.toList) then true else !decide (((a.getD v5.toNat default).Kind:Int)=(b.getD v5.toNat default).Kind) then true else !((a.getD v5.toNat default).Net.toList==(b.getD v5.toNat default).Net.toList) then true else !decide (((a.getD v5.toNat default).From:Int)=(b.getD v5.toNat default).From) then true else !decide (((a.getD v5.toNat default).To:Int)=(b.getD v5.toNat default).To) then false else ((Dt a b n0) (v5+1))) else true
def Fe (a:(List A5)) (b:(List A5)):Bool:=bif !decide (((a.length:Int):Int)=(b.length:Int)) then false else (Dt a b (((a.length:Int)-0).toNat+1) 0)
def Ln:CT:=(16,[.one (lst 9 A5.c a),.one (lst 9 A5.c b)],.val [] (.av (.one (.b (Fe a b)))))
abbrev E9:=b.getD v5.toNat default
abbrev GK:Nat×Tv:=(0,tO (lst 9 A5.c a))
abbrev GJ:Nat×Tv:=(1,tO (lst 9 A5.c b))
theorem ZG (a:(List A5)) (b:(List A5)) (h0:(a.length:Int)<=1000000000) (ha:∀ k,(((a.getD k default).Shape.Edges.length:Int)<=1000000)) (hbb:∀ k,(((b.getD k default).Shape.Edges.length:Int)<=1000000)):PuP 16 (Ln a b).2.1 (tO (.b (Fe a b))):=by
 refine pwf Try.func16 fun W0 M0 => ?_
 refine AB<|rn ⟨[(GK a),(GJ b)],[]⟩ ?_
 refine AB<|AB ?_
 refine rn ⟨[(GK a),(GJ b),(13,tB (!decide (((a.length:Int):Int)=(b.length:Int))))],[]⟩ ?_
 refine Aa _ rfl (fun h1 => ?_) (fun h1 => ?_)
 ·have g1:=Dd h1
  refine AB<|rn ⟨[(4,tB false)],[]⟩ ?_
  refine Ae<|Bb ?_
  exact xl (tO (.b false)) (An (by simp only [Fe,h1,cond_true,cond_false] <;> rfl))
 have g1:=DR h1
 refine Ac<|AH ?_
 refine AB<|AB ?_
 refine rn ⟨[(GK a),(GJ b),(5,tI 0)],[]⟩<|AX ?_
 refine BH (ι:=Nat×Int) (fun x=>⟨[(GK a),(GJ b),(5,tI x.2)],[]⟩) (fun x=>((a.length:Int)-x.2).toNat<x.1/\(0<=x.2/\(x.2<=(a.length:Int)\/x.2=0))/\Dt a b x.1 x.2=Fe a b) (fun x=>x.1) ?_ (((a.length:Int)-0).toNat+1,0) ⟨Nat.lt_succ_self _,⟨ax0,ax0⟩,(by simp only [Fe,h1,cond_true,cond_false])⟩
 rintro ⟨n0,v5⟩ ⟨hm0,hinv0,hF0⟩
 try dsimp only at hm0 hinv0 hF0
 cases n0 with | zero=>exact nz hm0 | succ n0 => ?_
 refine AB<|AB ?_
 refine rn ⟨[(GK a),(GJ b),(5,tI v5),(17,tB (decide ((v5:Int)<(a.length:Int))))],[]⟩ ?_
 refine Aa _ rfl (fun h2 => ?_) (fun h2 => ?_)
 ·have g2:=oT h2
  refine Ac<|AH ?_
  refine AB<|AX<|AB ?_
  refine rc [] [0<=(v5:Int)/\(v5:Int)<((a.length:Nat):Int)] ⟨[(GK a),(GJ b),(5,tI v5),(6,tP 6 0)],[(6,Z0u a v5)]⟩ .nil (.cons au1 .nil)<|AH<|AB ?_
  refine rc [] [0<=(v5:Int)/\(v5:Int)<((b.length:Nat):Int)] ⟨[(GK a),(GJ b),(5,tI v5),(6,tP 6 0),(7,tP 7 0)],[(6,Z0u a v5),(7,.cells (A5.c (E9 b v5)) 63)]⟩ .nil (.cons au1 .nil)<|AH<|AB ?_
  refine rs 32 (TS (a.getD v5.toNat default).Shape (b.getD v5.toNat default).Shape) ⟨[(GK a),(GJ b),(5,tI v5),(6,tP 6 0),(7,tP 7 0),(8,tB (Z0v a v5 b))],[(6,Z0u a v5),(7,.cells (A5.c (E9 b v5)) 63)]⟩ (ZP (a.getD v5.toNat default).Shape (b.getD v5.toNat default).Shape (by first | (exact ha _) | (exact hbb _) | with_reducible assumption | omega | decide | (simp only [List.length_cons,List.length_nil,List.length_append];omega) | assumption) (by first | (exact ha _) | (exact hbb _) | with_reducible assumption | omega | decide | (simp only [List.length_cons,List.length_nil,List.length_append];omega) | assumption))<|AH<|AB ?_
  refine rc [] (i5 (!(Z0v a v5 b)) (i5 (bif !(Z0v a v5 b) then true else !decide (((D5 a v5).Id:Int)=(E9 b v5).Id)) (i5 (bif bif !(Z0v a v5 b) then true else !decide (((D5 a v5).Id:Int)=(E9 b v5).Id) then true else !((D5 a v5).Pad.toList==(E9 b v5).Pad.toList)) (i5 (bif bif bif !(Z0v a v5 b) then true else !decide (((D5 a v5).Id:Int)=(E9 b v5).Id) then true else !((D5 a v5).Pad.toList==(E9 b v5).Pad.toList) then true else !decide (((D5 a v5).Kind:Int)=(E9 b v5).Kind)) (i5 (bif bif bif bif !(Z0v a v5 b) then true else !decide (((D5 a v5).Id:Int)=(E9 b v5).Id) then true else !((D5 a v5).Pad.toList==(E9 b v5).Pad.toList) then true else !decide (((D5 a v5).Kind:Int)=(E9 b v5).Kind) then true else !((D5 a v5).Net.toList==(E9 b v5).Net.toList)) (i5 (bif bif bif bif bif !(Z0v a v5 b) then true else !decide (((D5 a v5).Id:Int)=(E9 b v5).Id) then true else !((D5 a v5).Pad.toList==(E9 b v5).Pad.toList) then true else !decide (((D5 a v5).Kind:Int)=(E9 b v5).Kind) then true else !((D5 a v5).Net.toList==(E9 b v5).Net.toList) then true else !decide (((D5 a v5).From:Int)=(E9 b v5).From)) [])))))) ⟨[(GK a),(GJ b),(5,tI v5),(76,tB (bif bif bif bif bif bif !(Z0v a v5 b) then true else !decide (((a.getD v5.toNat default).Id:Int)=(b.getD v5.toNat default).Id) then true else !((a.getD v5.toNat default).Pad.toList==(b.getD v5.toNat default).Pad.toList) then true else !decide (((a.getD v5.toNat default).Kind:Int)=(b.getD v5.toNat default).Kind) then true else !((a.getD v5.toNat default).Net.toList==(b.getD v5.toNat default).Net.toList) then true else !decide (((a.getD v5.toNat default).From:Int)=(b.getD v5.toNat default).From) then true else !decide (((a.getD v5.toNat default).To:Int)=(b.getD v5.toNat default).To)))],[]⟩ .nil (c5 (c5 (c5 (c5 (c5 (c5 .nil))))))<|AH ?_
  refine Aa _ rfl (fun h3 => ?_) (fun h3 => ?_)
  ·refine AB<|rn ⟨[(4,tB false)],[]⟩ ?_
   refine Ae<|Cq ?_
   refine Bb<|Bb ?_
   refine Cq<|Bb ?_
   exact xl (tO (.b false)) (An (by rw [<- hF0];first | (simp only [Dt,h2,h3,cond_true,cond_false] <;> rfl)))
  refine Ac<|Bd<|AH ?_
  refine rg ⟨[(GK a),(GJ b),(5,tI (W64 (v5+1)))],[]⟩ ?_
  (try rw [(show W64 (v5+1)=v5+1 from Ao oM au6)])
  refine AH ?_
  refine ⟨(n0,v5+1),⟨?_,?_,(by rw [<- hF0];simp only [Dt,h2,h3,cond_true,cond_false])⟩,Nat.lt_succ_self _,A6 kr⟩
  ·show ((a.length:Int)-(v5+1)).toNat<n0;omega
  exact ⟨ax0,ax0⟩
 refine BJ<|A4 ?_
 refine A4<|BK ?_
 refine AH<|AB ?_
 refine rn ⟨[(4,tB true)],[]⟩<|Ae ?_
 exact xl (tO (.b true)) (An (by rw [<- hF0];first | (simp only [Dt,h2,cond_true,cond_false] <;> rfl)))
theorem XC (a:(List A5)) (b:(List A5)) (h0:(a.length:Int)<=1000000000) (ha:∀ k,(((a.getD k default).Shape.Edges.length:Int)<=1000000)) (hbb:∀ k,(((b.getD k default).Shape.Edges.length:Int)<=1000000)):OKc (Ln a b):=cPu<|ZG a b h0 ha hbb
def Z0w:Blk:=.cells (Al.c (Cc (s.Edges.getD 0 default))) 76
def Z0x:Tv:=tI (((((s.Edges.length:Nat):Int):Int).toNat-(1:Int).toNat:Nat):Int)
def Z0y:Tv:=.av (.one (lst 7 AO.c (s.Edges.drop (1:Int).toNat)))
def Z0z:AO:=(s.Edges.drop (1:Int).toNat).getD v21.toNat default
def Z0A:Blk:=.cells [.i (min v3.X0 (Cc (Z0z s v21)).X0),.i (min v3.Y0 (Cc (Z0z s v21)).Y0),.i (max v3.X1 (Cc (Z0z s v21)).X1),.i (max v3.Y1 (Cc (Z0z s v21)).Y1)] 76
def KD (s:Ah):Nat->Al->Int->Al
 | 0,_,_=>default
 | n0+1,v3,v21=>bif decide ((v21:Int)<(((((s.Edges.length:Nat):Int):Int).toNat-(1:Int).toNat:Nat):Int)) then ((KD s n0) (Al.mk (min v3.X0 (Cc (Z0z s v21)).X0) (min v3.Y0 (Cc (Z0z s v21)).Y0) (max v3.X1 (Cc (Z0z s v21)).X1) (max v3.Y1 (Cc (Z0z s v21)).Y1)) (v21+1)) else (Al.mk (W64 (v3.X0-s.R)) (W64 (v3.Y0-s.R)) (W64 (v3.X1+s.R)) (W64 (v3.Y1+s.R)))
def Qh (s:Ah):Al:=bif decide (((s.Edges.length:Int):Int)=0) then (Al.mk 0 0 0 0) else (KD s (((((((s.Edges.length:Nat):Int):Int).toNat-(1:Int).toNat:Nat):Int)-0).toNat+1) (Cc (s.Edges.getD 0 default)) 0)
def Zn:CT:=(22,[.agg (Ah.c s)],.val [] (.av (.agg (Al.c (Qh s)))))
abbrev HM:Nat×Blk:=(2,.cells [.i 0,.i 0,.i 0,.i 0] 76)
abbrev FP:Nat×Blk:=(1,.cells (Ah.c s) 29)
abbrev A8 (t_:List (Nat×Tv)):List (Nat×Tv):=(1,tP 1 0)::(2,tP 2 0)::(3,tP 3 0)::t_
abbrev SD:List (Nat×Tv):=(A8 [])
abbrev Vx:List Cl:=[.i (W64 (v3.X0-s.R)),.i (W64 (v3.Y0-s.R)),.i (W64 (v3.X1+s.R)),.i (W64 (v3.Y1+s.R))]
theorem pBox (s:Ah) (h0:(s.Edges.length:Int)<=1000000):PuP 22 (Zn s).2.1 (.av (.agg (Al.c (Qh s)))):=by
 refine pwf Try.func22 fun W0 M0 => ?_
 refine AB<|rn ⟨HL,[(FP s),HM]⟩ ?_
 refine AB<|AB ?_
 refine rn ⟨[(1,tP 1 0),(2,tP 2 0),(10,tB (decide (((s.Edges.length:Int):Int)=0)))],[(FP s),HM]⟩ ?_
 refine Aa _ rfl (fun h1 => ?_) (fun h1 => ?_)
 ·refine AB<|rn ⟨[(2,tP 2 0)],[HM]⟩ ?_
  refine Ae<|Bb ?_
  exact xl (.av (.agg [.i 0,.i 0,.i 0,.i 0])) (An (by simp only [Qh,h1,cond_true,cond_false] <;> rfl))
 have g1:=oF h1
 refine Ac<|AH<|AB ?_
 refine rc [(16,Hs (s.Edges.getD 0 default))] [0<=(0:Int)/\(0:Int)<((s.Edges.length:Nat):Int),Aw (Hs (s.Edges.getD 0 default)).2.1] ⟨SD,[(FP s),HM,(3,Z0w s)]⟩ (.cons (OB (s.Edges.getD 0 default)) .nil) (.cons au1 (.cons rfl .nil))<|AH ?_
 refine AB<|AB ?_
 refine rc [] [0<=(1:Int)/\(1:Int)<=(((s.Edges.length:Nat):Int):Int)/\(((s.Edges.length:Nat):Int):Int)<=((s.Edges.length:Nat):Int)] ⟨(A8 [(19,.av (.one (.list false 7 ((((s.Edges.length:Nat):Int):Int).toNat-(1:Int).toNat) (fun i_ j_=>(AU AO.c s.Edges) (i_+(1:Int).toNat) j_)))),(20,Z0x s),(21,tI 0)]),[(FP s),HM,(3,Z0w s)]⟩ .nil (.cons au1 .nil)<|AH ?_
 refine BN (Cv.trans (BF (⟨(A8 [(19,Z0y s),(20,Z0x s),(21,tI 0)]),[(FP s),HM,(3,Z0w s)]⟩) (.cons ⟨rfl,.refl _⟩ (.cons ⟨rfl,.refl _⟩ (.cons ⟨rfl,.refl _⟩ (.cons ⟨rfl,.av (.one (Bk false (Ut (a:=1) (BA 7 AO.c s.Edges) (by have hc:=(show 0<=(1:Int)/\(1:Int)<=(((s.Edges.length:Nat):Int):Int)/\(((s.Edges.length:Nat):Int):Int)<=((s.Edges.length:Nat):Int) from au1);exact hc.1) (by have hc:=(show 0<=(1:Int)/\(1:Int)<=(((s.Edges.length:Nat):Int):Int)/\(((s.Edges.length:Nat):Int):Int)<=((s.Edges.length:Nat):Int) from au1);exact hc.2.1))))⟩ lr)))) lr) (Cv.refl _))<|AX ?_
 refine BH (ι:=Nat×Al×Int) (fun x=>⟨(A8 [(19,Z0y s),(20,Z0x s),(21,tI x.2.2)]),[(FP s),HM,(3,.cells (Al.c x.2.1) 76)]⟩) (fun x=>((((((s.Edges.length:Nat):Int):Int).toNat-(1:Int).toNat:Nat):Int)-x.2.2).toNat<x.1/\(0<=x.2.2/\(x.2.2<=(((((s.Edges.length:Nat):Int):Int).toNat-(1:Int).toNat:Nat):Int)\/x.2.2=0))/\KD s x.1 x.2.1 x.2.2=Qh s) (fun x=>x.1) ?_ (((((((s.Edges.length:Nat):Int):Int).toNat-(1:Int).toNat:Nat):Int)-0).toNat+1,Cc (s.Edges.getD 0 default),0) ⟨Nat.lt_succ_self _,⟨ax0,ax0⟩,(by simp only [Qh,h1,cond_true,cond_false])⟩
 rintro ⟨n0,v3,v21⟩ ⟨hm0,hinv0,hF0⟩
 try dsimp only at hm0 hinv0 hF0
 cases n0 with | zero=>exact nz hm0 | succ n0 => ?_
 refine AB<|rn ⟨(A8 [(19,Z0y s),(20,Z0x s),(21,tI v21),(22,tB (decide ((v21:Int)<(((((s.Edges.length:Nat):Int):Int).toNat-(1:Int).toNat:Nat):Int))))]),[(FP s),HM,(3,.cells (Al.c v3) 76)]⟩<|AB ?_
 refine Aa (decide ((v21:Int)<(((((s.Edges.length:Nat):Int):Int).toNat-(1:Int).toNat:Nat):Int))) kr (fun h2 => ?_) (fun h2 => ?_)
 ·have g2:=oT h2
  refine Ac<|AH ?_
  refine AB<|AX<|AB ?_
  refine rc [] [0<=(v21:Int)/\(v21:Int)<(((s.Edges.drop (1:Int).toNat).length:Nat):Int)] ⟨(A8 [(5,tP 5 0),(19,Z0y s),(20,Z0x s),(21,tI v21)]),[(FP s),HM,(3,.cells (Al.c v3) 76),(5,.cells (AO.c (Z0z s v21)) 133)]⟩ .nil (.cons au1 .nil)<|AH<|AB ?_
  refine rs 26 (Hs (Z0z s v21)) ⟨(A8 [(6,tP 6 0),(19,Z0y s),(20,Z0x s),(21,tI v21)]),[(FP s),HM,(3,.cells (Al.c v3) 76),(6,.cells (Al.c (Cc (Z0z s v21))) 76)]⟩ (OB (Z0z s v21))<|AH ?_
  refine rg ⟨(A8 [(19,Z0y s),(20,Z0x s),(21,tI v21)]),[(FP s),HM,(3,Z0A v3 s v21)]⟩<|Bd<|AH ?_
  refine rg ⟨(A8 [(19,Z0y s),(20,Z0x s),(21,tI (W64 (v21+1)))]),[(FP s),HM,(3,Z0A v3 s v21)]⟩ ?_
  (try rw [(show W64 (v21+1)=v21+1 from Ao oM au6)])
  refine AH ?_
  refine ⟨(n0,Al.mk (min v3.X0 (Cc (Z0z s v21)).X0) (min v3.Y0 (Cc (Z0z s v21)).Y0) (max v3.X1 (Cc (Z0z s v21)).X1) (max v3.Y1 (Cc (Z0z s v21)).Y1),v21+1),⟨?_,?_,(by rw [<- hF0];simp only [KD,h2,cond_true,cond_false])⟩,Nat.lt_succ_self _,A6 kr⟩
  ·show ((((((s.Edges.length:Nat):Int):Int).toNat-(1:Int).toNat:Nat):Int)-(v21+1)).toNat<n0;omega
  exact ⟨ax0,ax0⟩
 refine BJ<|A4 ?_
 refine A4<|BK ?_
 refine AH<|AB ?_
 refine rn ⟨[(2,tP 2 0)],[(2,.cells (Vx v3 s) 76)]⟩<|Ae ?_
 exact xl (.av (.agg (Vx v3 s))) (An (by rw [<- hF0];first | (simp only [KD,h2,cond_true,cond_false] <;> rfl)))
theorem okBox (s:Ah) (h0:(s.Edges.length:Int)<=1000000):OKc (Zn s):=cPu<|pBox s h0
def Z0B:Blk:=.cells [.i 0,vN,.i 0] 29
def Z0C:Blk:=.row 7 ([]:List AO).length (AU AO.c ([]:List AO)) 133
def Z0D:Blk:=.cells [.i 2,.own 100000 7 ([]:List AO).length,.i 0] 29
def Z0E:AD:=l.getD (Int.tmod (W64 (k+1)) (l.length:Int)).toNat default
abbrev SE:=[AO.mk 1 (l.getD k.toNat default) (Z0E l k) (AD.mk 0 0)]
def Z0F:Blk:=.cells [.i 2,.own 28 7 (s_1++(SE l k)).length,.i 0] 29
def Z0G:Blk:=.row 7 (s_1++(SE l k)).length (AU AO.c (s_1++(SE l k))) 133
def H3 (l:(List AD)):Nat->List AO->Int->Ah
 | 0,_,_=>default
 | n0+1,s_1,k=>bif decide ((k:Int)<(l.length:Int)) then ((H3 l n0) (s_1++[AO.mk 1 (l.getD k.toNat default) (Z0E l k) (AD.mk 0 0)]) (k+1)) else (Ah.mk 2 s_1 0)
def R5 (l:(List AD)):Ah:=H3 l (((l.length:Int)-0).toNat+1) ([]:List AO) 0
def YL:CT:=(77,[.one (lst 2 AD.c l)],.val [] (.av (.agg (Ah.c (R5 l)))))
abbrev PP:List (Nat×Tv):=[(0,tO (lst 2 AD.c l)),(2,tP 2 0),(3,tP 3 0),(4,tI 0)]
abbrev Iv:Nat×Tv:=(0,tO (lst 2 AD.c l))
theorem pLoop (l:(List AD)) (h0:(l.length:Int)<=1000000):PuP 77 (YL l).2.1 (.av (.agg (Ah.c (R5 l)))):=by
 refine pwf Try.func77 fun W0 M0 => ?_
 refine AB<|rn ⟨[(Iv l),(2,tP 2 0)],[(2,Z0B)]⟩<|AB ?_
 refine rn ⟨[(Iv l),(2,tP 2 0),(3,tP 3 0)],[(2,Z0B),(3,.cells [.i 2,vN,.i 0] 29)]⟩ ?_
 refine AB<|AB ?_
 refine rn ⟨(PP l),[(2,Z0B),(3,.cells [.i 2,vN,.i 0] 29)]⟩<|AX ?_
 refine BN (Cv.trans (wg (⟨(PP l),[(100000,.row 7 0 (fun _ _=>default) 133),(2,Z0B),(3,.cells [.i 2,.own 100000 7 0,.i 0] 29)]⟩) 100000 7 (fun _ _=>default) 133 [] [(3,[1])] hk0) (Cv.trans (BF (⟨(PP l),[(100000,Z0C),(2,Z0B),(3,Z0D)]⟩) lr (.cons ⟨rfl,Ai 133 (B8 7 (fun _ _=>default) AO.c)⟩ (.cons ⟨rfl,.refl _⟩ (.cons ⟨rfl,.cells _ (rr (.cons (.own _ _ au0) (rr .nil)))⟩ .nil)))) (Cv.trans (ck (⟨(PP l),[(2,Z0B),(3,Z0D),(100000,Z0C)]⟩)) (Cv.refl _)))) ?_
 refine BH (ι:=Nat×List AO×Int) (fun x=>⟨[(Iv l),(2,tP 2 0),(3,tP 3 0),(4,tI x.2.2)],[(2,Z0B),(3,.cells [.i 2,.own 100000 7 x.2.1.length,.i 0] 29),(100000,.row 7 x.2.1.length (AU AO.c x.2.1) 133)]⟩) (fun x=>((l.length:Int)-x.2.2).toNat<x.1/\(0<=x.2.2/\(x.2.2<=(l.length:Int)\/x.2.2=0)/\(x.2.1.length:Int)<=0+1*(x.2.2-0))/\H3 l x.1 x.2.1 x.2.2=R5 l) (fun x=>x.1) ?_ (((l.length:Int)-0).toNat+1,([]:List AO),0) ⟨Nat.lt_succ_self _,⟨ax0,ax0,ax0⟩,(by simp only [R5,cond_true,cond_false])⟩
 rintro ⟨n0,s_1,k⟩ ⟨hm0,hinv0,hF0⟩
 try dsimp only at hm0 hinv0 hF0
 cases n0 with | zero=>exact nz hm0 | succ n0 => ?_
 refine AB<|AB ?_
 refine rn ⟨[(Iv l),(2,tP 2 0),(3,tP 3 0),(4,tI k),(9,tB (decide ((k:Int)<(l.length:Int))))],[(2,Z0B),(3,.cells [.i 2,.own 100000 7 s_1.length,.i 0] 29),(100000,.row 7 s_1.length (AU AO.c s_1) 133)]⟩ ?_
 refine Aa _ rfl (fun h1 => ?_) (fun h1 => ?_)
 ·have g1:=oT h1
  refine Ac<|AH ?_
  refine AB<|AX ?_
  refine dw [] [] [0<=(k:Int)/\(k:Int)<((l.length:Nat):Int),((l.length:Int):Int)≠0,0<=(Int.tmod (W64 (k+1)) (l.length:Int):Int)/\(Int.tmod (W64 (k+1)) (l.length:Int):Int)<((l.length:Nat):Int),s_1.length=s_1.length,s_1.length+1<=maxLen,(s_1.length+1)*56<=140737488355328] ⟨[(Iv l),(2,tP 2 0),(3,tP 3 0),(4,tI k)],[(2,Z0B),(3,.cells [.i 2,.own 28 7 (s_1.length+1),.i 0] 29),(28,.row 7 (s_1.length+1) (fun i_ j_=>if i_<s_1.length then (AU AO.c s_1) i_ j_ else (As 7 1 [.i 1,.i (l.getD k.toNat default).X,.i (l.getD k.toNat default).Y,.i (Z0E l k).X,.i (Z0E l k).Y,.i 0,.i 0]) (i_-s_1.length) j_) 133)]⟩ .nil (.cons au1 (.cons au15 (.cons au1 (.cons rfl (.cons au3 (.cons au3 .nil))))))<|Bd<|AH ?_
  refine BN (Cv.trans (BF (⟨[(Iv l),(2,tP 2 0),(3,tP 3 0),(4,tI k)],[(2,Z0B),(3,Z0F s_1 l k),(28,Z0G s_1 l k)]⟩) lr (.cons ⟨rfl,.refl _⟩ (.cons ⟨rfl,.cells _ (rr (.cons (.own _ _ au0) (rr .nil)))⟩ (.cons ⟨rfl,Ai 133 (BO (BA 7 AO.c s_1) (Ar (c:=AO.c) (xs:=([AO.mk 1 (l.getD k.toNat default) (Z0E l k) (AD.mk 0 0)]:List AO)) rfl kr))⟩ .nil)))) (Cv.refl _)) ?_
  refine rg ⟨[(Iv l),(2,tP 2 0),(3,tP 3 0),(4,tI (W64 (k+1)))],[(2,Z0B),(3,Z0F s_1 l k),(28,Z0G s_1 l k)]⟩ ?_
  (try rw [(show W64 (k+1)=k+1 from Ao oM au6)])
  refine AH ?_
  refine ⟨(n0,s_1++[AO.mk 1 (l.getD k.toNat default) (Z0E l k) (AD.mk 0 0)],k+1),⟨?_,?_,(by rw [<- hF0];simp only [H3,h1,cond_true,cond_false])⟩,Nat.lt_succ_self _,Cv.trans (vr 28 100000 hk0) (A6 kr)⟩
  ·show ((l.length:Int)-(k+1)).toNat<n0;omega
  exact ⟨ax0,ax0,ax0⟩
 refine BJ<|A4 ?_
 refine A4<|BK ?_
 refine AH<|AB ?_
 refine rn ⟨[(2,tP 2 0)],[(2,.cells [.i 2,.own 100000 7 s_1.length,.i 0] 29),(100000,.row 7 s_1.length (AU AO.c s_1) 133)]⟩<|Ae ?_
 exact yl (Cv.trans (vf 100000 7 s_1.length (AU AO.c s_1) 133 hk0 (.cons ⟨rfl,rfl⟩ .nil)) (Cv.refl _)) (.av (.agg [.i 2,lst 7 AO.c s_1,.i 0])) (An (by rw [<- hF0];first | (simp only [H3,h1,cond_true,cond_false] <;> rfl)))
theorem bS (l:(List AD)) (h0:(l.length:Int)<=1000000):OKc (YL l):=cPu<|pLoop l h0
def Z0H:Ah:=R5 [AD.mk r.X0 r.Y0,AD.mk r.X1 r.Y0,AD.mk r.X1 r.Y1,AD.mk r.X0 r.Y1]
def DB (r:Al):Ah:=Z0H r
def HG:CT:=(50,[.agg (Al.c r)],.val [] (.av (.agg (Ah.c (DB r)))))
theorem bB (r:Al):PuP 50 (HG r).2.1 (.av (.agg (Ah.c (DB r)))):=by
 refine pwf Try.func50 fun W0 M0 => ?_
 refine AB<|rn ⟨HL,[(1,.cells (Al.c r) 76),(2,.cells [.i 0,vN,.i 0] 29)]⟩<|AB ?_
 refine rs 24 (ceI [.one (.list true 2 4 (As 2 4 [.i r.X0,.i r.Y0,.i r.X1,.i r.Y0,.i r.X1,.i r.Y1,.i r.X0,.i r.Y1]))] (YL [AD.mk r.X0 r.Y0,AD.mk r.X1 r.Y0,AD.mk r.X1 r.Y1,AD.mk r.X0 r.Y1])) ⟨[(2,tP 2 0)],[(2,.cells (Ah.c (Z0H r)) 29)]⟩ (Cd (bS [AD.mk r.X0 r.Y0,AD.mk r.X1 r.Y0,AD.mk r.X1 r.Y1,AD.mk r.X0 r.Y1] au9) (.cons (.one (Bk true (Ar (c:=AD.c) (xs:=([AD.mk r.X0 r.Y0,AD.mk r.X1 r.Y0,AD.mk r.X1 r.Y1,AD.mk r.X0 r.Y1]:List AD)) rfl kr))) .nil))<|AH<|Ae ?_
 exact xl (.av (.agg (Ah.c (Z0H r)))) (An (by rfl))
theorem Lj (r:Al):OKc (HG r):=cPu<|bB r
def Dv (x0:AD) (x1:Int):Ah:=Ah.mk 1 [AO.mk 1 x0 x0 (AD.mk 0 0)] x1
def Kv:CT:=(28,[.agg (AD.c x0),.one (.i x1)],.val [] (.av (.agg (Ah.c (Dv x0 x1)))))
theorem bJ (x0:AD) (x1:Int):PuP 28 (Kv x0 x1).2.1 (.av (.agg (Ah.c (Dv x0 x1)))):=by
 refine pwf Try.func28 fun W0 M0 => ?_
 refine AB<|rn ⟨[(1,tI x1),(2,tP 2 0),(4,tP 4 0)],[(2,.cells (AD.c x0) 52),Ls]⟩<|AB ?_
 refine rn ⟨[(4,tP 4 0)],[(4,.cells [.i 1,.list true 7 1 (As 7 1 [.i 1,.i x0.X,.i x0.Y,.i x0.X,.i x0.Y,.i 0,.i 0]),.i x1] 29)]⟩<|Ae ?_
 exact xl (.av (.agg [.i 1,.list true 7 1 (As 7 1 [.i 1,.i x0.X,.i x0.Y,.i x0.X,.i x0.Y,.i 0,.i 0]),.i x1])) (DI (y:=.av (.agg [.i 1,lst 7 AO.c [AO.mk 1 x0 x0 (AD.mk 0 0)],.i x1])) (.av (.agg (rr (.cons (Bk true (Ar (c:=AO.c) (xs:=([AO.mk 1 x0 x0 (AD.mk 0 0)]:List AO)) rfl kr)) (rr .nil))))) (by rfl))
theorem T4 (x0:AD) (x1:Int):OKc (Kv x0 x1):=cPu<|bJ x0 x1
end
abbrev Nv:List Cl:=[.i 0,.i 0,vN,.i 0,vN,vN,vN,vN,vN,vN,vN,vN,vN,vN,vN]
def Z0I:Blk:=.cells Nv 42
abbrev KW:=DB (Al.mk 10 (-3) 20 3)
abbrev KT:=Dv (AD.mk 0 0) 5
def Z0J:Blk:=.cells [.s ({ data := #[84] }:ByteArray),.list true 7 2 (As 7 2 [.s ({ data := #[65] }:ByteArray),.i KT.Kind,lst 7 AO.c KT.Edges,.i KT.R,.i 0,.i 0,.i 4,.s ({ data := #[66] }:ByteArray),.i KW.Kind,lst 7 AO.c KW.Edges,.i KW.R,.i 15,.i 0,.i 0]),vN] 114
def Z0K:Blk:=.cells [.i 2,.i 0,vN,.i 0,.list true 7 2 (As 7 2 [.i 7,.s ({ data := #[85,49] }:ByteArray),.s ({ data := #[84] }:ByteArray),.i 100,.i 50,.i 1,.b false,.i 3,.s ({ data := #[85,50] }:ByteArray),.s ({ data := #[84] }:ByteArray),.i 0,.i 0,.i 0,.b true]),.list true 2 1 (As 2 1 [.s ({ data := #[78] }:ByteArray),.list true 2 2 (As 2 2 [.s ({ data := #[85,49] }:ByteArray),.s ({ data := #[66] }:ByteArray),.s ({ data := #[85,50] }:ByteArray),.s ({ data := #[65] }:ByteArray)])]),vN,vN,vN,vN,vN,vN,vN,vN,vN] 42
def AP:(AG×(List AQ)):=(AG.mk 2 (Ah.mk 0 [] 0) [AF.mk 7 ({ data := #[85,49] }:ByteArray) ({ data := #[84] }:ByteArray) (AD.mk 100 50) 1 false,AF.mk 3 ({ data := #[85,50] }:ByteArray) ({ data := #[84] }:ByteArray) (AD.mk 0 0) 0 true] [A3.mk ({ data := #[78] }:ByteArray) [Ab.mk ({ data := #[85,49] }:ByteArray) ({ data := #[66] }:ByteArray),Ab.mk ({ data := #[85,50] }:ByteArray) ({ data := #[65] }:ByteArray)]] [] [] [] [] [] [] [] [] [],[AQ.mk ({ data := #[84] }:ByteArray) [A1.mk ({ data := #[65] }:ByteArray) (Dv (AD.mk 0 0) 5) (AD.mk 0 0) 4,A1.mk ({ data := #[66] }:ByteArray) (DB (Al.mk 10 (-3) 20 3)) (AD.mk 15 0) 0] []])
def HD:CT:=(19,[],.val [] (.tup [.agg (AG.c AP.1),.one (lst 3 AQ.c AP.2)]))
theorem Sm  : FG Try.prog 19 (HD ).2.1 (.tup [.agg (AG.c AP.1),.one (lst 3 AQ.c AP.2)]):=by
 refine pwf Try.func19 fun W0 M0 => ?_
 refine AB<|rn ⟨[(0,tP 0 0)],[(0,Z0I)]⟩<|AB ?_
 refine rc [(5,Kv (AD.mk 0 0) 5),(8,HG (Al.mk 10 (-3) 20 3))] [Aw (Kv (AD.mk 0 0) 5).2.1,Aw (HG (Al.mk 10 (-3) 20 3)).2.1] ⟨[(0,tP 0 0),(2,tP 2 0)],[(0,Z0I),(2,Z0J)]⟩ (.cons (T4 (AD.mk 0 0) 5) (.cons (Lj (Al.mk 10 (-3) 20 3)) .nil)) (.cons rfl (.cons rfl .nil))<|AH<|AB ?_
 refine rn ⟨[(0,tP 0 0),(2,tP 2 0),(3,tP 3 0)],[(0,Z0I),(2,Z0J),(3,.cells [.i 2,.i 0,vN,.i 0,.list true 7 2 (As 7 2 [.i 7,.s ({ data := #[85,49] }:ByteArray),.s ({ data := #[84] }:ByteArray),.i 100,.i 50,.i 1,.b false,.i 3,.s ({ data := #[85,50] }:ByteArray),.s ({ data := #[84] }:ByteArray),.i 0,.i 0,.i 0,.b true]),vN,vN,vN,vN,vN,vN,vN,vN,vN,vN] 42)]⟩<|AB ?_
 refine rn ⟨[(0,tP 0 0),(2,tP 2 0),(3,tP 3 0)],[(0,Z0I),(2,Z0J),(3,Z0K)]⟩<|AB ?_
 refine dw [] [] [] ⟨[(0,tP 0 0),(1,.av (.one (.list true 3 1 (As 3 1 [.s ({ data := #[84] }:ByteArray),.list true 7 2 (As 7 2 [.s ({ data := #[65] }:ByteArray),.i KT.Kind,lst 7 AO.c KT.Edges,.i KT.R,.i 0,.i 0,.i 4,.s ({ data := #[66] }:ByteArray),.i KW.Kind,lst 7 AO.c KW.Edges,.i KW.R,.i 15,.i 0,.i 0]),vN]))))],[(0,Z0K)]⟩ .nil .nil<|AH<|Ae ?_
 exact xl (.tup [.agg [.i 2,.i 0,vN,.i 0,.list true 7 2 (As 7 2 [.i 7,.s ({ data := #[85,49] }:ByteArray),.s ({ data := #[84] }:ByteArray),.i 100,.i 50,.i 1,.b false,.i 3,.s ({ data := #[85,50] }:ByteArray),.s ({ data := #[84] }:ByteArray),.i 0,.i 0,.i 0,.b true]),.list true 2 1 (As 2 1 [.s ({ data := #[78] }:ByteArray),.list true 2 2 (As 2 2 [.s ({ data := #[85,49] }:ByteArray),.s ({ data := #[66] }:ByteArray),.s ({ data := #[85,50] }:ByteArray),.s ({ data := #[65] }:ByteArray)])]),vN,vN,vN,vN,vN,vN,vN,vN,vN],.one (.list true 3 1 (As 3 1 [.s ({ data := #[84] }:ByteArray),.list true 7 2 (As 7 2 [.s ({ data := #[65] }:ByteArray),.i (Dv (AD.mk 0 0) 5).Kind,lst 7 AO.c (Dv (AD.mk 0 0) 5).Edges,.i (Dv (AD.mk 0 0) 5).R,.i 0,.i 0,.i 4,.s ({ data := #[66] }:ByteArray),.i (DB (Al.mk 10 (-3) 20 3)).Kind,lst 7 AO.c (DB (Al.mk 10 (-3) 20 3)).Edges,.i (DB (Al.mk 10 (-3) 20 3)).R,.i 15,.i 0,.i 0]),vN]))]) (DI (y:=.tup [.agg [.i 2,.i 0,lst 7 AO.c [],.i 0,lst 7 AF.c [AF.mk 7 ({ data := #[85,49] }:ByteArray) ({ data := #[84] }:ByteArray) (AD.mk 100 50) 1 false,AF.mk 3 ({ data := #[85,50] }:ByteArray) ({ data := #[84] }:ByteArray) (AD.mk 0 0) 0 true],lst 2 A3.c [A3.mk ({ data := #[78] }:ByteArray) [Ab.mk ({ data := #[85,49] }:ByteArray) ({ data := #[66] }:ByteArray),Ab.mk ({ data := #[85,50] }:ByteArray) ({ data := #[65] }:ByteArray)]],lst 6 Aj.c [],lst 8 Br.c [],lst 8 BB.c [],lst 5 BQ.c [],lst 4 BX.c [],lst 2 BI.c [],lst 20 Ap.c [],lst 3 Am.c [],lst 3 BT.c []],.one (lst 3 AQ.c [AQ.mk ({ data := #[84] }:ByteArray) [A1.mk ({ data := #[65] }:ByteArray) (Dv (AD.mk 0 0) 5) (AD.mk 0 0) 4,A1.mk ({ data := #[66] }:ByteArray) (DB (Al.mk 10 (-3) 20 3)) (AD.mk 15 0) 0] []])]) (.tup (.cons (.agg (rr2 (.cons (CZ 7 AO.c) (rr (.cons (Bk true (Ar (c:=AF.c) (xs:=([AF.mk 7 ({ data := #[85,49] }:ByteArray) ({ data := #[84] }:ByteArray) (AD.mk 100 50) 1 false,AF.mk 3 ({ data := #[85,50] }:ByteArray) ({ data := #[84] }:ByteArray) (AD.mk 0 0) 0 true]:List AF)) rfl kr)) (.cons (Bk true (ES (c:=A3.c) (xs:=([A3.mk ({ data := #[78] }:ByteArray) [Ab.mk ({ data := #[85,49] }:ByteArray) ({ data := #[66] }:ByteArray),Ab.mk ({ data := #[85,50] }:ByteArray) ({ data := #[65] }:ByteArray)]]:List A3)) (y:=[[.s ({ data := #[78] }:ByteArray),.list true 2 2 (As 2 2 [.s ({ data := #[85,49] }:ByteArray),.s ({ data := #[66] }:ByteArray),.s ({ data := #[85,50] }:ByteArray),.s ({ data := #[65] }:ByteArray)])]]) (z:=[[.s ({ data := #[78] }:ByteArray),lst 2 Ab.c [Ab.mk ({ data := #[85,49] }:ByteArray) ({ data := #[66] }:ByteArray),Ab.mk ({ data := #[85,50] }:ByteArray) ({ data := #[65] }:ByteArray)]]]) rfl kr kr (.cons (rr (.cons (Bk true (Ar (c:=Ab.c) (xs:=([Ab.mk ({ data := #[85,49] }:ByteArray) ({ data := #[66] }:ByteArray),Ab.mk ({ data := #[85,50] }:ByteArray) ({ data := #[65] }:ByteArray)]:List Ab)) rfl kr)) .nil)) .nil))) (.cons (CZ 6 Aj.c) (.cons (CZ 8 Br.c) (.cons (CZ 8 BB.c) (.cons (CZ 5 BQ.c) (.cons (CZ 4 BX.c) (.cons (CZ 2 BI.c) (.cons (CZ 20 Ap.c) (.cons (CZ 3 Am.c) (.cons (CZ 3 BT.c) .nil))))))))))))))) (.cons (.one (Bk true (ES (c:=AQ.c) (xs:=([AQ.mk ({ data := #[84] }:ByteArray) [A1.mk ({ data := #[65] }:ByteArray) (Dv (AD.mk 0 0) 5) (AD.mk 0 0) 4,A1.mk ({ data := #[66] }:ByteArray) (DB (Al.mk 10 (-3) 20 3)) (AD.mk 15 0) 0] []]:List AQ)) (y:=[[.s ({ data := #[84] }:ByteArray),.list true 7 2 (As 7 2 [.s ({ data := #[65] }:ByteArray),.i (Dv (AD.mk 0 0) 5).Kind,lst 7 AO.c (Dv (AD.mk 0 0) 5).Edges,.i (Dv (AD.mk 0 0) 5).R,.i 0,.i 0,.i 4,.s ({ data := #[66] }:ByteArray),.i (DB (Al.mk 10 (-3) 20 3)).Kind,lst 7 AO.c (DB (Al.mk 10 (-3) 20 3)).Edges,.i (DB (Al.mk 10 (-3) 20 3)).R,.i 15,.i 0,.i 0]),vN]]) (z:=[[.s ({ data := #[84] }:ByteArray),lst 7 A1.c [A1.mk ({ data := #[65] }:ByteArray) (Dv (AD.mk 0 0) 5) (AD.mk 0 0) 4,A1.mk ({ data := #[66] }:ByteArray) (DB (Al.mk 10 (-3) 20 3)) (AD.mk 15 0) 0],lst 2 Az.c []]]) rfl kr kr (.cons (rr (.cons (Bk true (Ar (c:=A1.c) (xs:=([A1.mk ({ data := #[65] }:ByteArray) (Dv (AD.mk 0 0) 5) (AD.mk 0 0) 4,A1.mk ({ data := #[66] }:ByteArray) (DB (Al.mk 10 (-3) 20 3)) (AD.mk 15 0) 0]:List A1)) rfl kr)) (.cons (CZ 2 Az.c) .nil))) .nil)))) .nil))) (by rfl))
theorem LE  : OKc (HD ):=cPu<|Sm
def Oo (x:A5) (id_:Int) (pad:ByteArray) (net:ByteArray) (from_:Int) (to_:Int):Bool:=bif bif bif bif bif decide ((x.Id:Int)=id_) then (x.Pad.toList==pad.toList) else false then (x.Net.toList==net.toList) else false then decide ((x.From:Int)=from_) else false then decide ((x.To:Int)=to_) else false then decide ((x.Kind:Int)=1) else false
def Ih (x:A5) (id_:Int) (pad:ByteArray) (net:ByteArray) (from_:Int) (to_:Int):CT:=(21,[.agg (A5.c x),.one (.i id_),.one (.s pad),.one (.s net),.one (.i from_),.one (.i to_)],.val [] (.av (.one (.b (Oo x id_ pad net from_ to_)))))
theorem pis18 (x:A5) (id_:Int) (pad:ByteArray) (net:ByteArray) (from_:Int) (to_:Int):PuP 21 (Ih x id_ pad net from_ to_).2.1 (tO (.b (Oo x id_ pad net from_ to_))):=by
 refine pwf Try.func21 fun W0 M0 => ?_
 refine AB<|rn ⟨[(1,tI id_),(2,tO (.s pad)),(3,tO (.s net)),(4,tI from_),(5,tI to_),(6,tP 6 0)],[(6,.cells (A5.c x) 63)]⟩<|AB ?_
 refine rc [] (t4 (decide ((x.Id:Int)=id_)) (t4 (bif decide ((x.Id:Int)=id_) then (x.Pad.toList==pad.toList) else false) (t4 (bif bif decide ((x.Id:Int)=id_) then (x.Pad.toList==pad.toList) else false then (x.Net.toList==net.toList) else false) (t4 (bif bif bif decide ((x.Id:Int)=id_) then (x.Pad.toList==pad.toList) else false then (x.Net.toList==net.toList) else false then decide ((x.From:Int)=from_) else false) (t3 (bif bif bif bif decide ((x.Id:Int)=id_) then (x.Pad.toList==pad.toList) else false then (x.Net.toList==net.toList) else false then decide ((x.From:Int)=from_) else false then decide ((x.To:Int)=to_) else false) []))))) ⟨[(12,tB (bif bif bif bif bif decide ((x.Id:Int)=id_) then (x.Pad.toList==pad.toList) else false then (x.Net.toList==net.toList) else false then decide ((x.From:Int)=from_) else false then decide ((x.To:Int)=to_) else false then decide ((x.Kind:Int)=1) else false))],[]⟩ .nil (c4 (c4 (c4 (c4 (c3 .nil)))))<|AH<|Ae ?_
 exact xl (tO (.b (bif bif bif bif bif decide ((x.Id:Int)=id_) then (x.Pad.toList==pad.toList) else false then (x.Net.toList==net.toList) else false then decide ((x.From:Int)=from_) else false then decide ((x.To:Int)=to_) else false then decide ((x.Kind:Int)=1) else false))) (An (by rfl))
theorem P1 (x:A5) (id_:Int) (pad:ByteArray) (net:ByteArray) (from_:Int) (to_:Int):OKc (Ih x id_ pad net from_ to_):=cPu<|pis18 x id_ pad net from_ to_
theorem X3:CP AP.2:=by
 refine ⟨by decide,fun t ht => ?_⟩
 rw [show AP.2=[AP.2.getD 0 default] from rfl,List.mem_singleton] at ht
 subst ht
 refine ⟨by decide,by decide,fun p hp => ?_,fun g hg=>by cases hg⟩
 have hl:(AP.2.getD 0 default).Pads=[(AP.2.getD 0 default).Pads.getD 0 default,(AP.2.getD 0 default).Pads.getD 1 default]:=rfl
 rw [hl] at hp
 simp only [List.mem_cons,List.not_mem_nil,or_false] at hp
 rcases hp with rfl | rfl <;> (unfold R2;decide)
theorem Zh:∀ n∈AP.1.Nets,(n.Pins.length:Int)<=1000000:=by
 intro n hn
 rw [show AP.1.Nets=[AP.1.Nets.getD 0 default] from rfl,List.mem_singleton] at hn
 subst hn
 decide
def Z0L (ref:ByteArray) (pad:ByteArray):AD:=(FAt AP.1 AP.2 (Ab.mk ref pad)).1
def Z0M (ref:ByteArray) (pad:ByteArray):Bool:=(FAt AP.1 AP.2 (Ab.mk ref pad)).2.2
def Oq (ref:ByteArray) (pad:ByteArray) (x:Int) (y:Int) (layer:Int):Bool:=bif bif ((Z0M ref pad)==(decide ((0:Int)<layer))) then (decide ((Z0L ref pad).X=x)&&(decide ((Z0L ref pad).Y=y)&&true)) else false then decide (((FAt AP.1 AP.2 (Ab.mk ref pad)).2.1:Int)=layer) else false
def Ii (ref:ByteArray) (pad:ByteArray) (x:Int) (y:Int) (layer:Int):CT:=(23,[.one (.s ref),.one (.s pad),.one (.i x),.one (.i y),.one (.i layer)],.val [] (.av (.one (.b (Oq ref pad x y layer)))))
theorem au17 {p:Prop} (h:p:=by first | (exact X3) | (exact Zh) | (decide +kernel) | with_reducible assumption | omega | decide | (simp only [List.length_cons,List.length_nil,List.length_append];omega) | assumption):p:=h
theorem pat18 (ref:ByteArray) (pad:ByteArray) (x:Int) (y:Int) (layer:Int):PuP 23 (Ii ref pad x y layer).2.1 (tO (.b (Oq ref pad x y layer))):=by
 refine pwf Try.func23 fun W0 M0 => ?_
 refine AB<|rn ⟨[(0,tO (.s ref)),(1,tO (.s pad)),(2,tI x),(3,tI y),(4,tI layer)],[]⟩<|AB ?_
 refine rs 17 HD ⟨[(0,tO (.s ref)),(1,tO (.s pad)),(2,tI x),(3,tI y),(4,tI layer),(11,tP 11 0),(12,tO (lst 3 AQ.c AP.2))],[(11,.cells (AG.c AP.1) 42)]⟩ LE<|AH<|AB ?_
 refine rs 26 (ceI [.agg (AG.c AP.1),.one (lst 3 AQ.c AP.2),.agg [.s ref,.s pad]] (cAt AP.1 AP.2 (Ab.mk ref pad))) ⟨[(2,tI x),(3,tI y),(4,tI layer),(13,tP 13 0),(14,tI (FAt AP.1 AP.2 (Ab.mk ref pad)).2.1),(15,tB (Z0M ref pad))],[(13,.cells (AD.c (Z0L ref pad)) 52)]⟩ (Cd (bV AP.1 AP.2 (Ab.mk ref pad) au17 au17) (.cons (.agg (rr9 (rr3 (.cons (.any _) (rr (rr .nil)))))) (.cons (AvE.refl _) (.cons (AvE.refl _) .nil))))<|AH<|AB ?_
 refine rc [] (t5 ((Z0M ref pad)==(decide ((0:Int)<layer))) (t3 (bif ((Z0M ref pad)==(decide ((0:Int)<layer))) then (decide ((Z0L ref pad).X=x)&&(decide ((Z0L ref pad).Y=y)&&true)) else false) [])) ⟨[(10,tB (bif bif ((Z0M ref pad)==(decide ((0:Int)<layer))) then (decide ((Z0L ref pad).X=x)&&(decide ((Z0L ref pad).Y=y)&&true)) else false then decide (((FAt AP.1 AP.2 (Ab.mk ref pad)).2.1:Int)=layer) else false))],[]⟩ .nil (c5 (c3 .nil))<|AH<|Ae ?_
 exact xl (tO (.b (bif bif ((Z0M ref pad)==(decide ((0:Int)<layer))) then (decide ((Z0L ref pad).X=x)&&(decide ((Z0L ref pad).Y=y)&&true)) else false then decide (((FAt AP.1 AP.2 (Ab.mk ref pad)).2.1:Int)=layer) else false))) (An (by rfl))
theorem P2 (ref:ByteArray) (pad:ByteArray) (x:Int) (y:Int) (layer:Int):OKc (Ii ref pad x y layer):=cPu<|pat18 ref pad x y layer
abbrev L5:=BC AP.1 AP.2
def Z0N:Tv:=.av (.one (lst 9 A5.c L5))
def Z0O:Bool := !decide ((((BC AP.1 AP.2).length:Int):Int)=4)
def Z0P:Bool:=bif Z0O then true else !(decide ((Bo (AP.1.Parts.getD 1 default)).At.X=0)&&(decide ((Bo (AP.1.Parts.getD 1 default)).At.Y=0)&&(decide ((Bo (AP.1.Parts.getD 1 default)).Turn=0)&&(((Bo (AP.1.Parts.getD 1 default)).Mirror==true)&&true))))
def Z0Q:A5:=(BC AP.1 AP.2).getD 0 default
def Z0R:Bool:=Oo Z0Q 3 ({ data := #[65] }:ByteArray) ({ data := #[78] }:ByteArray) 1 2
def Z0S:Bool:=bif Z0R then Oo ((BC AP.1 AP.2).getD 1 default) 3 ({ data := #[66] }:ByteArray) ({ data := #[] }:ByteArray) 2 2 else false
def Z0T:Bool:=bif Z0S then Oo ((BC AP.1 AP.2).getD 2 default) 7 ({ data := #[65] }:ByteArray) ({ data := #[] }:ByteArray) 1 2 else false
def Z0U:Bool:=bif Z0T then Oo ((BC AP.1 AP.2).getD 3 default) 7 ({ data := #[66] }:ByteArray) ({ data := #[78] }:ByteArray) 1 1 else false
def Z0V:Bool:=bif Z0U then (decide ((Qh ((BC AP.1 AP.2).getD 3 default).Shape).X0=97)&&(decide ((Qh ((BC AP.1 AP.2).getD 3 default).Shape).Y0=60)&&(decide ((Qh ((BC AP.1 AP.2).getD 3 default).Shape).X1=103)&&(decide ((Qh ((BC AP.1 AP.2).getD 3 default).Shape).Y1=70)&&true)))) else false
def Z0W:Bool:=bif Z0V then Oq ({ data := #[85,49] }:ByteArray) ({ data := #[66] }:ByteArray) 100 65 1 else false
def Z0X:Bool:=bif Z0W then Oq ({ data := #[85,50] }:ByteArray) ({ data := #[66] }:ByteArray) (-15) 0 2 else false
def Z0Y:Bool:=bif Z0X then Oq ({ data := #[85,51] }:ByteArray) ({ data := #[65] }:ByteArray) 0 0 0 else false
def Z0Z:Bool:=bif Z0Y then Oq ({ data := #[85,49] }:ByteArray) ({ data := #[67] }:ByteArray) 0 0 0 else false
def DC:Bool:=bif Z0P then false else Z0Z
def Kn:CT:=(7,[],.val [] (.av (.one (.b DC))))
theorem U1  : FG Try.prog 7 (Kn ).2.1 (tO (.b DC)):=by
 refine pwf Try.func7 fun W0 M0 => ?_
 refine AB<|rn ⟨[],[]⟩<|AB ?_
 refine rs 6 HD ⟨[(1,tP 1 0),(2,tO (lst 3 AQ.c AP.2))],[(1,.cells (AG.c AP.1) 42)]⟩ LE<|AH<|AB ?_
 refine rs 11 (ceI [.agg (AG.c AP.1),.one (lst 3 AQ.c AP.2)] (Ku AP.1 AP.2)) ⟨[(1,tP 1 0),(3,Z0N)],[(1,.cells (AG.c AP.1) 42)]⟩ (Cd (P3 AP.1 AP.2 au17 au17 au17 au17 au17) (.cons (.agg (rr9 (rr3 (.cons (.any _) (rr (rr .nil)))))) (.cons (AvE.refl _) .nil)))<|AH ?_
 refine AB<|AB ?_
 refine rc [(20,GG (AP.1.Parts.getD 1 default))] [(Z0O=false)->(Z0O=false),(Z0O=false)->(Z0O=false),(Z0O=false)->(0<=(1:Int)/\(1:Int)<((AP.1.Parts.length:Nat):Int)),(Z0O=false)->(Z0O=false),(Z0O=false)->(Z0O=false),(Z0O=false)->(Aw (GG (AP.1.Parts.getD 1 default)).2.1),(Z0O=false)->(Z0O=false),(Z0O=false)->(Z0O=false),Z0O=false->(Z0O=false)] ⟨[(3,Z0N),(23,tB Z0P)],[]⟩ (.cons (Mv (AP.1.Parts.getD 1 default)) .nil) (ci (ci (.cons (fun hG=>by first | exact (by decide +kernel) | (simp only [decide_eq_true_eq,decide_eq_false_iff_not,Bool.not_eq_true,Bool.and_eq_true] at hG <;> omega) | (simp at hG <;> omega) | (simp only [decide_eq_true_eq,decide_eq_false_iff_not] at hG;simp only [C9];omega)) (ci (ci (.cons (fun _=>rfl) (ci (ci (ci .nil)))))))))<|AH ?_
 refine Aa _ rfl (fun h1 => ?_) (fun h1 => ?_)
 ·refine AB<|rn ⟨[(0,tB false)],[]⟩ ?_
  refine Ae<|Bb ?_
  exact xl (tO (.b false)) (An (by simp only [DC,h1,cond_true,cond_false] <;> rfl))
 refine Ac<|AH<|AB ?_
 refine rc [(27,Ih Z0Q 3 ({ data := #[65] }:ByteArray) ({ data := #[78] }:ByteArray) 1 2),(32,Ih (L5.getD 1 default) 3 ({ data := #[66] }:ByteArray) ({ data := #[] }:ByteArray) 2 2),(38,Ih (L5.getD 2 default) 7 ({ data := #[65] }:ByteArray) ({ data := #[] }:ByteArray) 1 2),(44,Ih (L5.getD 3 default) 7 ({ data := #[66] }:ByteArray) ({ data := #[78] }:ByteArray) 1 1)] [0<=(0:Int)/\(0:Int)<(((BC AP.1 AP.2).length:Nat):Int),Aw (Ih Z0Q 3 ({ data := #[65] }:ByteArray) ({ data := #[78] }:ByteArray) 1 2).2.1,(Z0R=true)->(Z0R=true),(Z0R=true)->(0<=(1:Int)/\(1:Int)<(((BC AP.1 AP.2).length:Nat):Int)),(Z0R=true)->(Z0R=true),(Z0R=true)->(Z0R=true),(Z0R=true)->(Aw (Ih ((BC AP.1 AP.2).getD 1 default) 3 ({ data := #[66] }:ByteArray) ({ data := #[] }:ByteArray) 2 2).2.1),Z0R=true->(Z0R=true),(Z0S=true)->(Z0S=true),(Z0S=true)->(0<=(2:Int)/\(2:Int)<(((BC AP.1 AP.2).length:Nat):Int)),(Z0S=true)->(Z0S=true),(Z0S=true)->(Z0S=true),(Z0S=true)->(Aw (Ih ((BC AP.1 AP.2).getD 2 default) 7 ({ data := #[65] }:ByteArray) ({ data := #[] }:ByteArray) 1 2).2.1),Z0S=true->(Z0S=true),(Z0T=true)->(Z0T=true),(Z0T=true)->(0<=(3:Int)/\(3:Int)<(((BC AP.1 AP.2).length:Nat):Int)),(Z0T=true)->(Z0T=true),(Z0T=true)->(Z0T=true),(Z0T=true)->(Aw (Ih ((BC AP.1 AP.2).getD 3 default) 7 ({ data := #[66] }:ByteArray) ({ data := #[78] }:ByteArray) 1 1).2.1),Z0T=true->(Z0T=true)] ⟨[(3,Z0N),(4,tB Z0U)],[]⟩ (.cons (P1 Z0Q 3 ({ data := #[65] }:ByteArray) ({ data := #[78] }:ByteArray) 1 2) (.cons (P1 ((BC AP.1 AP.2).getD 1 default) 3 ({ data := #[66] }:ByteArray) ({ data := #[] }:ByteArray) 2 2) (.cons (P1 ((BC AP.1 AP.2).getD 2 default) 7 ({ data := #[65] }:ByteArray) ({ data := #[] }:ByteArray) 1 2) (.cons (P1 ((BC AP.1 AP.2).getD 3 default) 7 ({ data := #[66] }:ByteArray) ({ data := #[78] }:ByteArray) 1 1) .nil)))) (.cons (by decide +kernel) (.cons rfl (ci (.cons (fun hG=>by first | exact (by decide +kernel) | (simp only [decide_eq_true_eq,decide_eq_false_iff_not,Bool.not_eq_true,Bool.and_eq_true] at hG <;> omega) | (simp at hG <;> omega) | (simp only [decide_eq_true_eq,decide_eq_false_iff_not] at hG;simp only [C9];omega)) (ci (ci (.cons (fun _=>rfl) (ci (ci (.cons (fun hG=>by first | exact (by decide +kernel) | (simp only [decide_eq_true_eq,decide_eq_false_iff_not,Bool.not_eq_true,Bool.and_eq_true] at hG <;> omega) | (simp at hG <;> omega) | (simp only [decide_eq_true_eq,decide_eq_false_iff_not] at hG;simp only [C9];omega)) (ci (ci (.cons (fun _=>rfl) (ci (ci (.cons (fun hG=>by first | exact (by decide +kernel) | (simp only [decide_eq_true_eq,decide_eq_false_iff_not,Bool.not_eq_true,Bool.and_eq_true] at hG <;> omega) | (simp at hG <;> omega) | (simp only [decide_eq_true_eq,decide_eq_false_iff_not] at hG;simp only [C9];omega)) (ci (ci (.cons (fun _=>rfl) (ci .nil))))))))))))))))))))<|AH<|AB ?_
 refine rc [(52,Zn (L5.getD 3 default).Shape),(57,Ii ({ data := #[85,49] }:ByteArray) ({ data := #[66] }:ByteArray) 100 65 1),(60,Ii ({ data := #[85,50] }:ByteArray) ({ data := #[66] }:ByteArray) (-15) 0 2),(63,Ii ({ data := #[85,51] }:ByteArray) ({ data := #[65] }:ByteArray) 0 0 0),(66,Ii ({ data := #[85,49] }:ByteArray) ({ data := #[67] }:ByteArray) 0 0 0)] [(Z0U=true)->(Z0U=true),(Z0U=true)->(0<=(3:Int)/\(3:Int)<(((BC AP.1 AP.2).length:Nat):Int)),(Z0U=true)->(Z0U=true),(Z0U=true)->(Z0U=true),(Z0U=true)->(Z0U=true),(Z0U=true)->(Aw (Zn ((BC AP.1 AP.2).getD 3 default).Shape).2.1),(Z0U=true)->(Z0U=true),(Z0U=true)->(Z0U=true),Z0U=true->(Z0U=true),(Z0V=true)->(Aw (Ii ({ data := #[85,49] }:ByteArray) ({ data := #[66] }:ByteArray) 100 65 1).2.1),Z0V=true->(Z0V=true),(Z0W=true)->(Aw (Ii ({ data := #[85,50] }:ByteArray) ({ data := #[66] }:ByteArray) (-15) 0 2).2.1),Z0W=true->(Z0W=true),(Z0X=true)->(Aw (Ii ({ data := #[85,51] }:ByteArray) ({ data := #[65] }:ByteArray) 0 0 0).2.1),Z0X=true->(Z0X=true),(Z0Y=true)->(Aw (Ii ({ data := #[85,49] }:ByteArray) ({ data := #[67] }:ByteArray) 0 0 0).2.1),Z0Y=true->(Z0Y=true)] ⟨[(0,tB Z0Z)],[]⟩ (.cons (okBox ((BC AP.1 AP.2).getD 3 default).Shape au17) (.cons (P2 ({ data := #[85,49] }:ByteArray) ({ data := #[66] }:ByteArray) 100 65 1) (.cons (P2 ({ data := #[85,50] }:ByteArray) ({ data := #[66] }:ByteArray) (-15) 0 2) (.cons (P2 ({ data := #[85,51] }:ByteArray) ({ data := #[65] }:ByteArray) 0 0 0) (.cons (P2 ({ data := #[85,49] }:ByteArray) ({ data := #[67] }:ByteArray) 0 0 0) .nil))))) (ci (.cons (fun hG=>by first | exact (by decide +kernel) | (simp only [decide_eq_true_eq,decide_eq_false_iff_not,Bool.not_eq_true,Bool.and_eq_true] at hG <;> omega) | (simp at hG <;> omega) | (simp only [decide_eq_true_eq,decide_eq_false_iff_not] at hG;simp only [C9];omega)) (ci (ci (ci (.cons (fun _=>rfl) (ci (ci (ci (.cons (fun _=>rfl) (ci (.cons (fun _=>rfl) (ci (.cons (fun _=>rfl) (ci (.cons (fun _=>rfl) (ci .nil)))))))))))))))))<|AH<|Ae ?_
 exact xl (tO (.b Z0Z)) (An (by simp only [DC,h1,cond_true,cond_false] <;> rfl))
theorem Sv  : OKc (Kn ):=cPu<|U1
theorem aX:DC=true:=by decide +kernel
section
open Go.RowKit
def Af (k:Int):ByteArray:=([({ data := #[80,49] }:ByteArray),({ data := #[80,50] }:ByteArray),({ data := #[80,51] }:ByteArray),({ data := #[80,52] }:ByteArray),({ data := #[80,53] }:ByteArray),({ data := #[80,54] }:ByteArray)]:List ByteArray).getD k.toNat ⟨#[]⟩
variable (a:AD) (b:AG) (x0 b_:AD) (l:List (List Int)) (d:AC) (k:Int) (s:Ah) (types:List AQ) (vs:Nat->Value) (x1:AD)
def CN:CT:=(78,[.one (.i k)],.val [] (.av (.one (.s (Af k)))))
theorem Ws (k:Int) (hk:0<=k/\k<6):PuP 78 (CN k).2.1 (tO (.s (Af k))):=by
 refine pwf Try.func78 fun W0 M0 => ?_
 refine AB<|rn ⟨[(0,tI k)],[]⟩<|AB ?_
 refine rc [] [0<=(k:Int)/\(k:Int)<((6:Nat):Int)] ⟨[(2,tO (.s (([({ data := #[80,49] }:ByteArray),({ data := #[80,50] }:ByteArray),({ data := #[80,51] }:ByteArray),({ data := #[80,52] }:ByteArray),({ data := #[80,53] }:ByteArray),({ data := #[80,54] }:ByteArray)]:List ByteArray).getD k.toNat ⟨#[]⟩)))],[]⟩ .nil (.cons au1 .nil)<|AH<|Ae ?_
 exact xl (tO (.s (([({ data := #[80,49] }:ByteArray),({ data := #[80,50] }:ByteArray),({ data := #[80,51] }:ByteArray),({ data := #[80,52] }:ByteArray),({ data := #[80,53] }:ByteArray),({ data := #[80,54] }:ByteArray)]:List ByteArray).getD k.toNat ⟨#[]⟩))) (An (by rfl))
theorem Dy (k:Int) (hk:0<=k/\k<6):OKc (CN k):=cPu<|Ws k hk
def Fh (x0:AF):AV:=AV.mk x0.At x0.Turn x0.Under
def IF (x0:AF):CT:=(92,[.agg (AF.c x0)],.val [] (.av (.agg (AV.c (Fh x0)))))
theorem VC (x0:AF):PuP 92 (IF x0).2.1 (.av (.agg (AV.c (Fh x0)))):=by
 refine pwf Try.func92 fun W0 M0 => ?_
 refine AB<|rn ⟨HL,[(1,.cells (AF.c x0) 59),(2,.cells [.i 0,.i 0,.i 0,.b false] 66)]⟩<|AB ?_
 refine rn ⟨[(2,tP 2 0)],[(2,.cells (PA x0) 66)]⟩<|Ae ?_
 exact xl (.av (.agg (PA x0))) (An (by rfl))
theorem Sy (x0:AF):OKc (IF x0):=cPu<|VC x0
def EP (x0:AD) (x1:AD):AO:=AO.mk 1 x0 x1 (AD.mk 0 0)
def C5:CT:=(58,[.agg (AD.c x0),.agg (AD.c x1)],.val [] (.av (.agg (AO.c (EP x0 x1)))))
abbrev O9:List Cl:=[.i 1,.i x0.X,.i x0.Y,.i x1.X,.i x1.Y,.i 0,.i 0]
abbrev V4:List (Nat×Blk):=[(2,.cells (AD.c x0) 52),(3,.cells (AD.c x1) 52),(4,.cells [.i 0,.i 0,.i 0,.i 0,.i 0,.i 0,.i 0] 133)]
theorem Sg (x0:AD) (x1:AD):PuP 58 (C5 x0 x1).2.1 (.av (.agg (AO.c (EP x0 x1)))):=by
 refine pwf Try.func58 fun W0 M0 => ?_
 refine AB<|rn ⟨KZ,(V4 x0 x1)⟩<|AB ?_
 refine rn ⟨[(4,tP 4 0)],[(4,.cells (O9 x0 x1) 133)]⟩<|Ae ?_
 exact xl (.av (.agg (O9 x0 x1))) (An (by rfl))
theorem FC (x0:AD) (x1:AD):OKc (C5 x0 x1):=cPu<|Sg x0 x1
def AR (l:(List (List Int))) (k:Int):(List Int):=bif decide ((k:Int)<(l.length:Int)) then (l.getD k.toNat default) else ([])
def D0:CT:=(53,[.one (lst 1 (fun x=>[lst 1 eIn x]) l),.one (.i k)],.val [] (.av (.one (lst 1 eIn (AR l k)))))
abbrev oL (l:List (List Int)):Av:=.one (lst 1 (fun x=>[lst 1 (fun x=>[.i x]) x]) l)
theorem Y7 (l:(List (List Int))) (k:Int) (hk:0<=k):PuP 53 (D0 l k).2.1 (tO (lst 1 eIn (AR l k))):=by
 refine pwf Try.func53 fun W0 M0 => ?_
 refine AB<|rn ⟨[(0,.av (oL l)),(1,tI k)],[]⟩ ?_
 refine AB<|AB ?_
 refine rn ⟨[(0,.av (oL l)),(1,tI k),(8,tB (decide ((k:Int)<(l.length:Int))))],[]⟩ ?_
 refine Aa _ rfl (fun h1 => ?_) (fun h1 => ?_)
 ·have g1:=oT h1
  refine AB<|rc [] [0<=(k:Int)/\(k:Int)<((l.length:Nat):Int)] ⟨[(4,tO (lst 1 eIn (l.getD k.toNat default)))],[]⟩ .nil (.cons au1 .nil)<|AH ?_
  refine Ae<|Bb ?_
  exact xl (tO (lst 1 eIn (l.getD k.toNat default))) (An (by simp only [AR,h1,cond_true,cond_false] <;> rfl))
 refine Ac<|AH<|AB ?_
 refine rn ⟨[(4,.av (.one vN))],[]⟩<|Ae ?_
 exact xl (.av (.one vN)) (DI (y:=tO (lst 1 eIn [])) (.av (.one (CZ 1 eIn))) (by simp only [AR,h1,cond_true,cond_false] <;> rfl))
theorem FD (l:(List (List Int))) (k:Int) (hk:0<=k):OKc (D0 l k):=cPu<|Y7 l k hk
abbrev IX:List Av:=[.one (.ptr 1000 0),.one (.i 4)]
abbrev GL:Blk:=.cells (AC.c d) 146
def Z10:CT:=(54,(IX:List Av).map (Bq 1000 1000),wrI 1000 (GL d) (tI (AA d 4).1) (.cells (AC.c (AA d 4).2) 146))
def Z11:AO:=EP a (AD.mk (bif (decide (a.X=b_.X)&&(decide (a.Y=b_.Y)&&true)) then (W64 (b_.X+20)) else b_.X) a.Y)
def Z12:AO:=EP (AD.mk (bif (decide (a.X=b_.X)&&(decide (a.Y=b_.Y)&&true)) then (W64 (b_.X+20)) else b_.X) a.Y) (AD.mk (bif (decide (a.X=b_.X)&&(decide (a.Y=b_.Y)&&true)) then (W64 (b_.X+20)) else b_.X) b_.Y)
def Z13:CT:=(54,([.one (.ptr 1000 0),.one (.i 20)]:List Av).map (Bq 1000 1000),wrI 1000 (.cells (AC.c (AA d 4).2) 146) (tI (AA (AA d 4).2 20).1) (.cells (AC.c (AA (AA d 4).2 20).2) 146))
def Z14:Blk:=.cells (AC.c (AA (AA d 4).2 20).2) 146
def Z15:AO:=EV (AD.mk (bif (decide (a.X=b_.X)&&(decide (a.Y=b_.Y)&&true)) then (W64 (b_.X+20)) else b_.X) (W64 (b_.Y+(W64 (5+(AA (AA d 4).2 20).1))))) (W64 (5+(AA (AA d 4).2 20).1)) 3 2
def Z16:AO:=EP a (AD.mk (bif (decide (a.X=b_.X)&&(decide (a.Y=b_.Y)&&true)) then (W64 (b_.X+20)) else b_.X) b_.Y)
def CO (a:AD) (b_:AD) (d:AC):((List AO)×AC):=bif bif bif bif decide ((0:Int)<(AA d 4).1) then decide (((AA d 4).1:Int)<3) else false then !(decide ((bif (decide (a.X=b_.X)&&(decide (a.Y=b_.Y)&&true)) then (W64 (b_.X+20)) else b_.X)=a.X)&&(decide (a.Y=a.Y)&&true)) else false then !(decide ((bif (decide (a.X=b_.X)&&(decide (a.Y=b_.Y)&&true)) then (W64 (b_.X+20)) else b_.X)=(bif (decide (a.X=b_.X)&&(decide (a.Y=b_.Y)&&true)) then (W64 (b_.X+20)) else b_.X))&&(decide (a.Y=b_.Y)&&true)) else false then ([Z11 a b_,Z12 a b_],(AA d 4).2) else (bif decide (((AA d 4).1:Int)=3) then ([Z16 a b_,Z15 a b_ d],(AA (AA d 4).2 20).2) else ([Z16 a b_],(AA d 4).2))
abbrev En:Bool:=decide (a.X=b_.X)&&(decide (a.Y=b_.Y)&&true)
abbrev Z5:Av:=.one (.list true 7 2 (As 7 2 [.i (Z16 a b_).Kind,.i (Z16 a b_).A.X,.i (Z16 a b_).A.Y,.i (Z16 a b_).B.X,.i (Z16 a b_).B.Y,.i (Z16 a b_).C.X,.i (Z16 a b_).C.Y,.i (Z15 a b_ d).Kind,.i (Z15 a b_ d).A.X,.i (Z15 a b_ d).A.Y,.i (Z15 a b_ d).B.X,.i (Z15 a b_ d).B.Y,.i (Z15 a b_ d).C.X,.i (Z15 a b_ d).C.Y]))
abbrev Z4:Av:=.one (.list true 7 2 (As 7 2 [.i (Z11 a b_).Kind,.i (Z11 a b_).A.X,.i (Z11 a b_).A.Y,.i (Z11 a b_).B.X,.i (Z11 a b_).B.Y,.i (Z11 a b_).C.X,.i (Z11 a b_).C.Y,.i (Z12 a b_).Kind,.i (Z12 a b_).A.X,.i (Z12 a b_).A.Y,.i (Z12 a b_).B.X,.i (Z12 a b_).B.Y,.i (Z12 a b_).C.X,.i (Z12 a b_).C.Y]))
abbrev Gw:=bif (En a b_) then (W64 (b_.X+20)) else b_.X
abbrev Fl:Nat×Blk:=(3,.cells (AD.c a) 52)
abbrev Hg:Nat×Blk:=(1000,.cells (AC.c d) 146)
abbrev KI (t_:List (Nat×Tv)):List (Nat×Tv):=(2,tP 1000 0)::(3,tP 3 0)::(4,tP 4 0)::t_
abbrev PB:List (Nat×Tv):=(KI [])
abbrev MH:Nat×Blk:=(1000,.cells (AC.c (AA d 4).2) 146)
abbrev KK:Nat×Blk:=(4,.cells [.i (Gw a b_),.i b_.Y] 52)
theorem au19 {p:Prop} (h:p:=by repeat (first | assumption | exact Ca (by assumption) | refine BR ?_ | refine Ci ?_ ?_ | refine hKd _ _ ?_ | refine cond_dk _ ?_)):p:=h
theorem au7 {p:Prop} (h:p:=by first | decide | omega | (simp only [C9];omega)):p:=h
theorem Wu  (a:AD) (b_:AD) (d:AC) (hd:Bf d):Wr Try.prog 82 1000 [.agg (AD.c a),.agg (AD.c b_),.one (.ptr 1000 0)] (.cells (AC.c d) 146) (tO (lst 7 AO.c (CO a b_ d).1)) (.cells (AC.c (CO a b_ d).2) 146):=by
 refine GX Try.func82 rfl kr kr kr kr fun W0 M0 X hX => ?_
 refine AB<|rn ⟨PB,[(Fl a),(4,.cells (AD.c b_) 52),(Hg d)]⟩ ?_
 refine AB<|AB ?_
 refine rn ⟨(KI [(13,tB (En a b_))]),[(Fl a),(4,.cells (AD.c b_) 52),(Hg d)]⟩ ?_
 refine Bz (⟨PB,[(Fl a),(4,.cells [.i (bif (En a b_) then (W64 (b_.X+20)) else b_.X),.i b_.Y] 52),(Hg d)]⟩) ?_ ?_
 ·refine Aa _ rfl (fun h1 => ?_) (fun h1 => ?_)
  ·refine rn ⟨PB,[(Fl a),(4,.cells [.i (W64 (b_.X+20)),.i b_.Y] 52),(Hg d)]⟩ ?_
   refine A6 ?_
   first | rfl | (simp only [h1,cond_true,cond_false] <;> rfl)
  refine Ac<|AH ?_
  refine Cv.trans (ck (⟨PB,[(Fl a),(4,.cells (AD.c b_) 52),(Hg d)]⟩)) (A6 ?_)
  first | rfl | (simp only [h1,cond_true,cond_false] <;> rfl)
 refine AB<|rn ⟨(KI [(7,tP 7 0)]),[(Fl a),(KK a b_),(7,.cells [.i (Gw a b_),.i a.Y] 52),(Hg d)]⟩ ?_
 refine AB<|AB ?_
 refine rb 24 (Z10 d) (GL d) ⟨(KI [(7,tP 7 0),(8,tI (AA d 4).1)]),[(Fl a),(KK a b_),(7,.cells [.i (Gw a b_),.i a.Y] 52),(MH d)]⟩ (cWr (BS d 4 au19 au7))<|AH ?_
 refine AX<|AB ?_
 refine rc [] (t2 (decide ((0:Int)<(AA d 4).1)) (t3 (bif decide ((0:Int)<(AA d 4).1) then decide (((AA d 4).1:Int)<3) else false) (t3 (bif bif decide ((0:Int)<(AA d 4).1) then decide (((AA d 4).1:Int)<3) else false then !(decide ((Gw a b_)=a.X)&&(decide (a.Y=a.Y)&&true)) else false) []))) ⟨(KI [(7,tP 7 0),(8,tI (AA d 4).1),(25,tB (bif bif bif decide ((0:Int)<(AA d 4).1) then decide (((AA d 4).1:Int)<3) else false then !(decide ((bif (decide (a.X=b_.X)&&(decide (a.Y=b_.Y)&&true)) then (W64 (b_.X+20)) else b_.X)=a.X)&&(decide (a.Y=a.Y)&&true)) else false then !(decide ((bif (decide (a.X=b_.X)&&(decide (a.Y=b_.Y)&&true)) then (W64 (b_.X+20)) else b_.X)=(bif (decide (a.X=b_.X)&&(decide (a.Y=b_.Y)&&true)) then (W64 (b_.X+20)) else b_.X))&&(decide (a.Y=b_.Y)&&true)) else false))]),[(Fl a),(KK a b_),(7,.cells [.i (Gw a b_),.i a.Y] 52),(MH d)]⟩ .nil (c2 (c3 (c3 .nil)))<|AH ?_
 refine Aa (bif bif bif decide ((0:Int)<(AA d 4).1) then decide (((AA d 4).1:Int)<3) else false then !(decide ((bif (En a b_) then (W64 (b_.X+20)) else b_.X)=a.X)&&(decide (a.Y=a.Y)&&true)) else false then !(decide ((bif (En a b_) then (W64 (b_.X+20)) else b_.X)=(bif (En a b_) then (W64 (b_.X+20)) else b_.X))&&(decide (a.Y=b_.Y)&&true)) else false) kr (fun h1 => ?_) (fun h1 => ?_)
 ·refine AB<|dw [] [(44,C5 a (AD.mk (Gw a b_) a.Y)),(47,C5 (AD.mk (Gw a b_) a.Y) (AD.mk (Gw a b_) b_.Y))] [Aw (C5 a (AD.mk (bif (En a b_) then (W64 (b_.X+20)) else b_.X) a.Y)).2.1,Aw (C5 (AD.mk (bif (En a b_) then (W64 (b_.X+20)) else b_.X) a.Y) (AD.mk (bif (En a b_) then (W64 (b_.X+20)) else b_.X) b_.Y)).2.1] ⟨[(6,.av (Z4 a b_))],[(MH d)]⟩ (.cons (FC a (AD.mk (bif (En a b_) then (W64 (b_.X+20)) else b_.X) a.Y)) (.cons (FC (AD.mk (bif (En a b_) then (W64 (b_.X+20)) else b_.X) a.Y) (AD.mk (bif (En a b_) then (W64 (b_.X+20)) else b_.X) b_.Y)) .nil)) (.cons rfl (.cons rfl .nil))<|AH ?_
  refine Ae<|Cq<|Bb ?_
  exact xl (.av (Z4 a b_)) ⟨DI (y:=tO (lst 7 AO.c [Z11 a b_,Z12 a b_])) (.av (.one (Bk true (Ar (c:=AO.c) (xs:=([Z11 a b_,Z12 a b_]:List AO)) rfl kr)))) (by unfold CO;rw [h1];rfl),.cells (AC.c (AA d 4).2) 146,by kernel_rfl,DV (by unfold CO;rw [h1];kernel_rfl)⟩
 refine AB<|rn ⟨(KI [(49,tB (decide (((AA d 4).1:Int)=3)))]),[(Fl a),(KK a b_),(MH d)]⟩ ?_
 refine Aa _ rfl (fun h2 => ?_) (fun h2 => ?_)
 ·have g2:=oT h2
  refine AB<|rb 53 (Z13 d) (.cells (AC.c (AA d 4).2) 146) ⟨[(3,tP 3 0),(4,tP 4 0),(9,tI (W64 (5+(AA (AA d 4).2 20).1)))],[(Fl a),(KK a b_),(1000,Z14 d)]⟩ (cWr (BS (AA d 4).2 20 au19 au7))<|AH<|AB ?_
  refine rs 63 (CA (AD.mk (bif (En a b_) then (W64 (b_.X+20)) else b_.X) (W64 (b_.Y+(W64 (5+(AA (AA d 4).2 20).1))))) (W64 (5+(AA (AA d 4).2 20).1)) 3 2) ⟨[(3,tP 3 0),(4,tP 4 0),(10,tP 10 0)],[(Fl a),(KK a b_),(10,.cells (AO.c (Z15 a b_ d)) 133),(1000,Z14 d)]⟩ (Dc (AD.mk (bif (En a b_) then (W64 (b_.X+20)) else b_.X) (W64 (b_.Y+(W64 (5+(AA (AA d 4).2 20).1))))) (W64 (5+(AA (AA d 4).2 20).1)) 3 2)<|AH<|AB ?_
  refine dw [] [(66,C5 a (AD.mk (Gw a b_) b_.Y))] [Aw (C5 a (AD.mk (bif (En a b_) then (W64 (b_.X+20)) else b_.X) b_.Y)).2.1] ⟨[(6,.av (Z5 a b_ d))],[(1000,Z14 d)]⟩ (.cons (FC a (AD.mk (bif (En a b_) then (W64 (b_.X+20)) else b_.X) b_.Y)) .nil) (.cons rfl .nil)<|AH ?_
  refine Ae<|Cq<|Bb ?_
  exact xl (.av (Z5 a b_ d)) ⟨DI (y:=tO (lst 7 AO.c [Z16 a b_,Z15 a b_ d])) (.av (.one (Bk true (Ar (c:=AO.c) (xs:=([Z16 a b_,Z15 a b_ d]:List AO)) rfl kr)))) (by unfold CO;rw [h1,h2];rfl),.cells (AC.c (AA (AA d 4).2 20).2) 146,by kernel_rfl,DV (by unfold CO;rw [h1,h2];kernel_rfl)⟩
 refine Ac<|Bd ?_
 refine AH<|AB ?_
 refine rs 71 (C5 a (AD.mk (bif (En a b_) then (W64 (b_.X+20)) else b_.X) b_.Y)) ⟨[(6,.av (.one (.list true 7 1 (As 7 1 (AO.c (Z16 a b_))))))],[(MH d)]⟩ (FC a (AD.mk (bif (En a b_) then (W64 (b_.X+20)) else b_.X) b_.Y))<|AH<|Ae ?_
 exact xl (.av (.one (.list true 7 1 (As 7 1 (AO.c (Z16 a b_)))))) ⟨DI (y:=tO (lst 7 AO.c [Z16 a b_])) (.av (.one (Bk true (Ar (c:=AO.c) (xs:=([Z16 a b_]:List AO)) rfl kr)))) (by unfold CO;rw [h1,h2];rfl),.cells (AC.c (AA d 4).2) 146,by kernel_rfl,DV (by unfold CO;rw [h1,h2];kernel_rfl)⟩
def Z17:CT:=(54,([.one (.ptr 1000 0),.one (.i (b.Nets.length:Int))]:List Av).map (Bq 1000 1001),wrI 1001 (GL d) (tI (AA d (b.Nets.length:Int)).1) (.cells (AC.c (AA d (b.Nets.length:Int)).2) 146))
def CX (b:AG) (d:AC):(ByteArray×AC):=((b.Nets.getD (AA d (b.Nets.length:Int)).1.toNat default).Name,(AA d (b.Nets.length:Int)).2)
abbrev Dm:List (Nat×Tv):=[(0,tP 1000 0),(1,tP 1001 0)]
abbrev Vn:List Cl:=(A9 b [.val (vs 6),.val (vs 7),.val (vs 8),.val (vs 9),.val (vs 10),.val (vs 11),.val (vs 12),.val (vs 13),.val (vs 14)])
theorem Pn  (b:AG) (d:AC) (vs:Nat->Value) (hd:Bf d) (hn:1<=(b.Nets.length:Int)/\(b.Nets.length:Int)<=1000000):Wr2 Try.prog 81 1000 1001 [.one (.ptr 1000 0),.one (.ptr 1001 0)] (.cells [.i b.Layers,.i b.Outline.Kind,lst 7 AO.c b.Outline.Edges,.i b.Outline.R,lst 7 AF.c b.Parts,lst 2 A3.c b.Nets,.val (vs 6),.val (vs 7),.val (vs 8),.val (vs 9),.val (vs 10),.val (vs 11),.val (vs 12),.val (vs 13),.val (vs 14)] 42) (.cells (AC.c d) 146) (tO (.s (CX b d).1)) (.cells [.i b.Layers,.i b.Outline.Kind,lst 7 AO.c b.Outline.Edges,.i b.Outline.R,lst 7 AF.c b.Parts,lst 2 A3.c b.Nets,.val (vs 6),.val (vs 7),.val (vs 8),.val (vs 9),.val (vs 10),.val (vs 11),.val (vs 12),.val (vs 13),.val (vs 14)] 42) (.cells (AC.c (CX b d).2) 146):=by
 refine MS Try.func81 rfl kr kr kr rfl kr kr kr fun W0 M0 X hX => ?_
 have hnb:=Cy d (b.Nets.length:Int) oM oM
 refine AB<|rn ⟨Dm,[(1000,.cells (Vn b vs) 42),(1001,.cells (AC.c d) 146)]⟩<|AB ?_
 refine dw [] [(15,(Z17 b d))] [Aw (Z17 b d).2.1,Bu (GL d),0<=((AA d (b.Nets.length:Int)).1:Int)/\((AA d (b.Nets.length:Int)).1:Int)<((b.Nets.length:Nat):Int)] ⟨[(4,tO (.s (b.Nets.getD (AA d (b.Nets.length:Int)).1.toNat default).Name))],[(1000,.cells (Vn b vs) 42),(1001,.cells (AC.c (AA d (b.Nets.length:Int)).2) 146)]⟩ (.cons (cWr (BS d (b.Nets.length:Int) au19 au7)) .nil) (.cons rfl (.cons rfl (.cons oM .nil)))<|AH<|Ae ?_
 exact xl (tO (.s (b.Nets.getD (AA d (b.Nets.length:Int)).1.toNat default).Name)) ⟨An (by rfl),⟨.cells (Vn b vs) 42,by kernel_rfl,DV rfl⟩,.cells (AC.c (AA d (b.Nets.length:Int)).2) 146,by kernel_rfl,DV kr⟩
theorem J5 {p q:Prop} [Decidable p] [Decidable q] (h:(bif decide p then decide q else false)=true):q:=by
 by_cases hp:p
 ·rw [decide_eq_true hp] at h;exact oT h
 rw [decide_eq_false hp] at h;cases h
def Lq (b:AG) (types:List AQ):Prop:=∀ k:Int,0<=k->k<(b.Parts.length:Int)->1<=((Bi types (b.Parts.getD k.toNat default).Type').1.Pads.length:Int)
theorem Qv {b:AG} {d:AC} (h:(bif decide ((AA d 12).1<8) then decide ((0:Int)<(b.Parts.length:Int)) else false)=true):0<=Int.tmod (AA d 12).1 (b.Parts.length:Int)/\Int.tmod (AA d 12).1 (b.Parts.length:Int)<(b.Parts.length:Int):=Jy (Cy d 12 (by decide) (by decide)).1 (J5 h)
theorem Jd {b:AG} {types:List AQ} {d:AC} (hg:Lq b types) (h:(bif decide ((AA d 12).1<8) then decide ((0:Int)<(b.Parts.length:Int)) else false)=true):1<=((Bi types (b.Parts.getD (Int.tmod (AA d 12).1 (b.Parts.length:Int)).toNat default).Type').1.Pads.length:Int):=hg _ (Qv h).1 (Qv h).2
abbrev Z6:List Cl:=[.i b.Layers,.i b.Outline.Kind,lst 7 AO.c b.Outline.Edges,.i b.Outline.R,lst 7 AF.c b.Parts,.any,.any,.any,.any,.any,.any,.any,.any,.any,.any]
def Z18:Blk:=.cells (Z6 b) 42
abbrev SC:List Av:=[.one (.ptr 1000 0),.one (.i 12)]
def Z19:CT:=(54,(SC:List Av).map (Bq 1000 1000),wrI 1000 (GL d) (tI (AA d 12).1) (.cells (AC.c (AA d 12).2) 146))
abbrev MK:List Av:=[.one (.ptr 1000 0),.one (.i 6)]
def Z1a:CT:=(54,(MK:List Av).map (Bq 1000 1000),wrI 1000 (.cells (AC.c (AA d 12).2) 146) (tI (AA (AA d 12).2 6).1) (.cells (AC.c (AA (AA d 12).2 6).2) 146))
def Z1b:Blk:=.cells (AC.c (AA (AA d 12).2 6).2) 146
def Z1c:AF:=b.Parts.getD (Int.tmod (AA d 12).1 (b.Parts.length:Int)).toNat default
def Z1d (types:(List AQ)) (b:AG) (d:AC):AD:=((Bi types (Z1c b d).Type').1.Pads.getD (Int.tmod (AA (AA d 12).2 6).1 ((Bi types (Z1c b d).Type').1.Pads.length:Int)).toNat default).At
def Z1e:AD:=BZ (Fh (Z1c b d)) (Z1d types b d)
def Bn (b:AG) (types:(List AQ)) (d:AC):(AD×AC):=bif bif decide (((AA d 12).1:Int)<8) then decide ((0:Int)<(b.Parts.length:Int)) else false then (Z1e b d types,(AA (AA d 12).2 6).2) else (AD.mk (W64 (30+(Int.tmod (W64 (40*(AA d 12).1)) 360))) (W64 (30+(W64 (60*(AA (AA d 12).2 6).1)))),(AA (AA d 12).2 6).2)
abbrev WC:List Cl:=[.i (W64 (30+(Int.tmod (W64 (40*(AA d 12).1)) 360))),.i (W64 (30+(W64 (60*(AA (AA d 12).2 6).1))))]
theorem Jg  (b:AG) (types:(List AQ)) (d:AC) (hd:Bf d) (hb:(b.Parts.length:Int)<=1000000) (ht:(types.length:Int)<=1000000) (hg:Lq b types):Wr Try.prog 83 1000 [.agg [.i b.Layers,.i b.Outline.Kind,lst 7 AO.c b.Outline.Edges,.i b.Outline.R,lst 7 AF.c b.Parts,.any,.any,.any,.any,.any,.any,.any,.any,.any,.any],.one (lst 3 AQ.c types),.one (.ptr 1000 0)] (.cells (AC.c d) 146) (.av (.agg (AD.c (Bn b types d).1))) (.cells (AC.c (Bn b types d).2) 146):=by
 refine GX Try.func83 rfl kr kr kr kr fun W0 M0 X hX => ?_
 refine AB<|rn ⟨[(Eb types),(2,tP 1000 0),(3,tP 3 0),(6,tP 6 0)],[(3,Z18 b),F9,(Hg d)]⟩<|AB ?_
 refine rb 13 (Z19 d) (GL d) ⟨[(Eb types),(2,tP 1000 0),(3,tP 3 0),(6,tP 6 0),(7,tI (AA d 12).1)],[(3,Z18 b),F9,(1000,.cells (AC.c (AA d 12).2) 146)]⟩ (cWr (BS d 12 au19 au7))<|AH<|AB ?_
 refine rb 15 (Z1a d) (.cells (AC.c (AA d 12).2) 146) ⟨[(Eb types),(3,tP 3 0),(6,tP 6 0),(7,tI (AA d 12).1),(8,tI (AA (AA d 12).2 6).1)],[(3,Z18 b),F9,(1000,Z1b d)]⟩ (cWr (BS (AA d 12).2 6 au19 au7))<|AH ?_
 refine AB<|AB ?_
 refine rc [] (t4 (decide (((AA d 12).1:Int)<8)) []) ⟨[(Eb types),(3,tP 3 0),(6,tP 6 0),(7,tI (AA d 12).1),(8,tI (AA (AA d 12).2 6).1),(23,tB (bif decide (((AA d 12).1:Int)<8) then decide ((0:Int)<(b.Parts.length:Int)) else false))],[(3,Z18 b),F9,(1000,Z1b d)]⟩ .nil (c4 .nil)<|AH ?_
 refine Aa _ rfl (fun h1 => ?_) (fun h1 => ?_)
 ·have g1:=QX h1
  refine AB<|dw [] [] [((b.Parts.length:Int):Int)≠0,0<=(Int.tmod (AA d 12).1 (b.Parts.length:Int):Int)/\(Int.tmod (AA d 12).1 (b.Parts.length:Int):Int)<((b.Parts.length:Nat):Int)] ⟨[(Eb types),(6,tP 6 0),(8,tI (AA (AA d 12).2 6).1),(9,tP 9 0)],[F9,(9,.cells (AF.c (Z1c b d)) 59),(1000,Z1b d)]⟩ .nil (.cons (by first | decide | (have hq:=J5 h1;omega) | (have hq:=Jd hg h1;show ¬ ((Bi types (b.Parts.getD (Int.tmod (AA d 12).1 (b.Parts.length:Int)).toNat default).Type').1.Pads.length:Int)=0;omega)) (.cons (by first | exact Qv h1 | exact Jy (Cy _ 6 (by decide) (by decide)).1 (by have hq:=Jd hg h1;show (0:Int)<((Bi types (b.Parts.getD (Int.tmod (AA d 12).1 (b.Parts.length:Int)).toNat default).Type').1.Pads.length:Int);omega) | decide | omega) .nil))<|AH<|AB ?_
  refine rs 37 (NT types (Z1c b d).Type') ⟨[(6,tP 6 0),(8,tI (AA (AA d 12).2 6).1),(9,tP 9 0),(10,tP 10 0)],[F9,(9,.cells (AF.c (Z1c b d)) 59),(10,.cells (AQ.c (Bi types (Z1c b d).Type').1) 114),(1000,Z1b d)]⟩ (T3 types (Z1c b d).Type' au9)<|AH<|AB ?_
  refine dw [] [(41,IF (Z1c b d)),(52,C0 (Fh (Z1c b d)) (Z1d types b d))] [Aw (IF (Z1c b d)).2.1,(((Bi types (Z1c b d).Type').1.Pads.length:Int):Int)≠0,0<=(Int.tmod (AA (AA d 12).2 6).1 ((Bi types (Z1c b d).Type').1.Pads.length:Int):Int)/\(Int.tmod (AA (AA d 12).2 6).1 ((Bi types (Z1c b d).Type').1.Pads.length:Int):Int)<(((Bi types (Z1c b d).Type').1.Pads.length:Nat):Int),Aw (C0 (Fh (Z1c b d)) (Z1d types b d)).2.1] ⟨[(6,tP 6 0)],[(6,.cells (AD.c (Z1e b d types)) 52),(1000,Z1b d)]⟩ (.cons (Sy (Z1c b d)) (.cons (Ec (Fh (Z1c b d)) (Z1d types b d)) .nil)) (.cons rfl (.cons (by first | decide | (have hq:=J5 h1;omega) | (have hq:=Jd hg h1;show ¬ ((Bi types (b.Parts.getD (Int.tmod (AA d 12).1 (b.Parts.length:Int)).toNat default).Type').1.Pads.length:Int)=0;omega)) (.cons (by first | exact Qv h1 | exact Jy (Cy _ 6 (by decide) (by decide)).1 (by have hq:=Jd hg h1;show (0:Int)<((Bi types (b.Parts.getD (Int.tmod (AA d 12).1 (b.Parts.length:Int)).toNat default).Type').1.Pads.length:Int);omega) | decide | omega) (.cons rfl .nil))))<|AH ?_
  refine Ae<|Bb ?_
  exact xl (.av (.agg (AD.c (Z1e b d types)))) ⟨An (by simp only [Bn,h1,cond_true,cond_false] <;> rfl),.cells (AC.c (AA (AA d 12).2 6).2) 146,by kernel_rfl,DV (by first | (simp only [Bn,h1,cond_true,cond_false];done) | (simp only [Bn,h1,cond_true,cond_false];kernel_rfl))⟩
 refine Ac<|AH<|AB ?_
 refine rc [] [(360:Int)≠0] ⟨[(6,tP 6 0)],[(6,.cells (WC d) 52),(1000,Z1b d)]⟩ .nil (.cons (by first | decide | (have hq:=J5 h1;omega) | (have hq:=Jd hg h1;show ¬ ((Bi types (b.Parts.getD (Int.tmod (AA d 12).1 (b.Parts.length:Int)).toNat default).Type').1.Pads.length:Int)=0;omega)) .nil)<|AH<|Ae ?_
 exact xl (.av (.agg (WC d))) ⟨An (by simp only [Bn,h1,cond_true,cond_false] <;> rfl),.cells (AC.c (AA (AA d 12).2 6).2) 146,by kernel_rfl,DV (by first | (simp only [Bn,h1,cond_true,cond_false];done) | (simp only [Bn,h1,cond_true,cond_false];kernel_rfl))⟩
def Z1f:Blk:=.cells [.i 0,vN,.i 0] 29
def Z1g:Blk:=.cells [.i s.Kind,.own 6 7 s.Edges.length,.i s.R] 29
def Z1h:Blk:=.row 7 s.Edges.length (AU AO.c s.Edges) 133
def Cz (s:Ah):Ah:=s
def Df:CT:=(39,[.agg (Ah.c s)],.val [] (.av (.agg (Ah.c (Cz s)))))
theorem Pt (s:Ah) (hl:(s.Edges.length:Int)<=1000000):PuP 39 (Df s).2.1 (.av (.agg (Ah.c (Cz s)))):=by
 refine pwf Try.func39 fun W0 M0 => ?_
 refine AB<|rn ⟨HL,[(FP s),(2,Z1f)]⟩<|AB ?_
 refine DW D9 [3] [] [] [1,2] [1,2,6] [0=0,0+s.Edges.length<=maxLen,(0+s.Edges.length)*56<=140737488355328] ⟨HL,[(1,.cells [.i s.Kind,.own 6 7 (0+s.Edges.length),.i s.R] 29),(2,Z1f),(6,.row 7 (0+s.Edges.length) (fun i_ j_=>if i_<0 then (As 7 0 []) i_ j_ else (AU AO.c s.Edges) (i_-0) j_) 133)]⟩ .nil kr (.cons rfl (.cons au3 (.cons au3 .nil)))<|AH ?_
 refine BN (Cv.trans (BF (⟨HL,[(1,Z1g s),(2,Z1f),(6,Z1h s)]⟩) lr (.cons ⟨rfl,.cells _ (rr (.cons (.own _ _ au0) (rr .nil)))⟩ (.cons ⟨rfl,.refl _⟩ (.cons ⟨rfl,Ai 133 (BO (Ar (c:=AO.c) (xs:=(([]:List AO):List AO)) rfl kr) (BA 7 AO.c s.Edges))⟩ .nil)))) (Cv.refl _))<|AB ?_
 refine rn ⟨[(2,tP 2 0)],[(2,Z1g s),(6,Z1h s)]⟩<|Ae ?_
 exact yl (Cv.trans (vf 6 7 s.Edges.length (AU AO.c s.Edges) 133 hk0 (.cons ⟨rfl,rfl⟩ .nil)) (Cv.refl _)) (.av (.agg (Ah.c s))) (An (by rfl))
theorem E3 (s:Ah) (hl:(s.Edges.length:Int)<=1000000):OKc (Df s):=cPu<|Pt s hl
theorem DU {α:Type} {c:Bool} {a b:α×AC} (ha:Bf a.2) (hb:Bf b.2):Bf (bif c then a else b).2:=by cases c <;> assumption
theorem D6 {b:AG} {d:AC} (h:Bf d):Bf (CX b d).2:=BR h
theorem C6 {a c:AD} {d:AC} (h:Bf d):Bf (CO a c d).2:=by
 unfold CO
 exact DU (BR h) (DU (BR (BR h)) (BR h))
theorem DQ {b:AG} {types:List AQ} {d:AC} (h:Bf d):Bf (Bn b types d).2:=by
 unfold Bn
 exact DU (BR (BR h)) (BR (BR h))
theorem DD {l:List (List Int)} (hl:∀ x∈l,(x.length:Int)<=9223372036854775807) (k:Int):((AR l k).length:Int)<=9223372036854775807:=by
 unfold AR
 by_cases h:k<(l.length:Int)
 ·rw [decide_eq_true h]
  simp only [cond_true]
  by_cases hk:k.toNat<l.length
  ·rw [List.getD_eq_getElem?_getD,List.getElem?_eq_getElem hk]
   exact hl _ (List.getElem_mem _)
  rw [List.getD_eq_getElem?_getD,List.getElem?_eq_none oM]
  decide
 rw [decide_eq_false h]
 exact Int.le_of_lt (by decide:((([]:List Int).length:Nat):Int)<9223372036854775807)
theorem QA {v:Int} {d:AC} {n:Int} (h:v<(AA d n).1) (h0:0<n) (h1:n<=1000000):v<n:=by
 have:=Cy d n h0 (by omega)
 omega
end
section
open Go.RowKit
variable (b:AG) (AN:List Aj) (AW:List Br) (types:List AQ) (Ag:List BB) (v12:Int) (l:List (List Int)) (v6' v6 v6'':AC)
def Z1i:Tv:=.av (oL l)
abbrev Vh:List Cl:=(A9 b [vN,vN,vN,vN,vN,vN,vN,vN,vN])
def Z1j:Blk:=.cells (Vh b) 42
abbrev LA:List Cl:=(A9 b [lst 6 Aj.c [],lst 8 Br.c [],lst 8 BB.c [],lst 5 BQ.c [],lst 4 BX.c [],lst 2 BI.c [],lst 20 Ap.c [],lst 3 Am.c [],lst 3 BT.c []])
abbrev HP:=AG.mk b.Layers b.Outline b.Parts b.Nets [] [] [] [] [] [] [] [] []
abbrev ML:List Av:=[.one (.ptr 1000 0),.one (.ptr 1001 0)]
def Z1k:CT:=(81,(ML:List Av).map (Eo 1000 1000 1001 22),wqV 1000 22 [6,7,8,9,10,11,12,13,14] (LA b) 42 (.cells [lst 1 eIn (AR l 4),.i 0] 146) (.av (.one (.s (CX (HP b) (AC.mk (AR l 4) 0)).1))) (.cells (AC.c (CX (HP b) (AC.mk (AR l 4) 0)).2) 146))
abbrev Z1l:AC:=(CX (AG.mk b.Layers b.Outline b.Parts b.Nets [] [] [] [] [] [] [] [] []) (AC.mk (AR l 4) 0)).2
def Z1m:Tv:=.av (.one (.s (CX (HP b) (AC.mk (AR l 4) 0)).1))
def Z1n:CT:=(54,(MK:List Av).map (Bq 1000 22),wrI 22 (.cells (AC.c (Z1l b l)) 146) (tI (AA (Z1l b l) 6).1) (.cells (AC.c (AA (Z1l b l) 6).2) 146))
def Z1o:Blk:=.cells (AC.c (AA (Z1l b l) 6).2) 146
abbrev ER:List Av:=[.one (.ptr 1000 0),.one (.i 3)]
def Z1p:CT:=(54,(ER:List Av).map (Bq 1000 75),wrI 75 (.cells [lst 1 eIn (AR l 5),.i 0] 146) (tI (AA (AC.mk (AR l 5) 0) 3).1) (.cells (AC.c (AA (AC.mk (AR l 5) 0) 3).2) 146))
def Z1q:Tv:=tI (AA (AC.mk (AR l 5) 0) 3).1
def Z1r:Blk:=.cells (AC.c (AA (AC.mk (AR l 5) 0) 3).2) 146
abbrev Io:=AA (AC.mk (AR l 6) 0) 3
def Z1s:CT:=(54,(ER:List Av).map (Bq 1000 189),wrI 189 (.cells [lst 1 eIn (AR l 6),.i 0] 146) (tI (Io l).1) (.cells (AC.c (Io l).2) 146))
def Z1t:Blk:=.cells (AC.c (Io l).2) 146
abbrev IZ:=AG.mk b.Layers b.Outline b.Parts [] [] [] [] [] [] [] [] [] []
abbrev MI:List Av:=[.agg (Z6 b),.one (GD types),.one (.ptr 1000 0)]
def Z1u:CT:=(83,((MI b types):List Av).map (Bq 1000 189),wrI 189 (.cells (AC.c (Io l).2) 146) (.av (.agg (AD.c (Bn (IZ b) types (Io l).2).1))) (.cells (AC.c (Bn (IZ b) types (Io l).2).2) 146))
abbrev Z1v:AC:=(Bn (AG.mk b.Layers b.Outline b.Parts [] [] [] [] [] [] [] [] [] []) types (AA (AC.mk (AR l 6) 0) 3).2).2
def Z1w:AD:=(Bn (AG.mk b.Layers b.Outline b.Parts [] [] [] [] [] [] [] [] [] []) types (AA (AC.mk (AR l 6) 0) 3).2).1
def Z1x:CT:=(54,(ER:List Av).map (Bq 1000 189),wrI 189 (.cells (AC.c (Z1v b types l)) 146) (tI (AA (Z1v b types l) 3).1) (.cells (AC.c (AA (Z1v b types l) 3).2) 146))
def Z1y:Ah:=DB (Al.mk (Z1w b types l).X (Z1w b types l).Y (W64 ((Z1w b types l).X+30)) (W64 ((Z1w b types l).Y+20)))
abbrev Z1z (l:(List (List Int))) (b:AG) (types:(List AQ)):AC:=bif decide (((AA (AC.mk (AR l 6) 0) 3).1:Int)=0) then (AA (Z1v b types l) 3).2 else (AA (AC.mk (AR l 6) 0) 3).2
def Z1A (l:(List (List Int))) (b:AG) (types:(List AQ)):(List BQ):=bif decide (((AA (AC.mk (AR l 6) 0) 3).1:Int)=0) then [BQ.mk 41 (AA (Z1v b types l) 3).1 (Z1y b types l)] else []
def Z1B (l:(List (List Int))) (b:AG) (types:(List AQ)):CT:=(54,(ER:List Av).map (Bq 1000 189),wrI 189 (.cells (AC.c (Z1z l b types)) 146) (tI (AA (Z1z l b types) 3).1) (.cells (AC.c (AA (Z1z l b types) 3).2) 146))
def Z1C (l:(List (List Int))) (b:AG) (types:(List AQ)):Tv:=tB (decide (((AA (Z1z l b types) 3).1:Int)=0))
def Z1D (l:(List (List Int))) (b:AG) (types:(List AQ)):Blk:=.cells (AC.c (AA (Z1z l b types) 3).2) 146
def Z1E:CT:=(83,((MI b types):List Av).map (Bq 1000 189),wrI 189 (.cells (AC.c (AA (Z1z l b types) 3).2) 146) (.av (.agg (AD.c (Bn (IZ b) types (AA (Z1z l b types) 3).2).1))) (.cells (AC.c (Bn (IZ b) types (AA (Z1z l b types) 3).2).2) 146))
abbrev Z1F:AC:=(Bn (AG.mk b.Layers b.Outline b.Parts [] [] [] [] [] [] [] [] [] []) types (AA (Z1z l b types) 3).2).2
def Z1G:AD:=(Bn (AG.mk b.Layers b.Outline b.Parts [] [] [] [] [] [] [] [] [] []) types (AA (Z1z l b types) 3).2).1
def Z1H:CT:=(54,(IX:List Av).map (Bq 1000 189),wrI 189 (.cells (AC.c (Z1F b types l)) 146) (tI (AA (Z1F b types l) 4).1) (.cells (AC.c (AA (Z1F b types l) 4).2) 146))
def Z1I:AO:=EP (Z1G b types l) (AD.mk (W64 ((Z1G b types l).X+25)) (W64 ((Z1G b types l).Y+10)))
def Z1J:Blk:=.row 8 ([]:List BB).length (AU BB.c ([]:List BB)) 90
def Z1K:Blk:=.row 8 Ag.length (AU BB.c Ag) 90
def Z1L:Blk:=.row 8 ([]:List Br).length (AU Br.c ([]:List Br)) 87
def Z1M:Blk:=.row 8 AW.length (AU Br.c AW) 87
def Z1N:Blk:=.row 6 ([]:List Aj).length (AU Aj.c ([]:List Aj)) 85
def Z1O:Blk:=.cells (A9 b [.own 100000 6 ([]:List Aj).length,vN,vN,vN,vN,vN,vN,vN,vN]) 42
abbrev Ql:List Cl:=(A9 b [.own 100000 6 AN.length,vN,vN,vN,vN,vN,vN,vN,vN])
def Z1P:Blk:=.cells (Ql b AN) 42
def Z1Q:Blk:=.row 6 AN.length (AU Aj.c AN) 85
abbrev GT:List Av:=[.one (.ptr 1000 0),.one (.i 2)]
def Z1R:CT:=(54,(GT:List Av).map (Bq 1000 22),wrI 22 (.cells (AC.c v6) 146) (tI (AA v6 2).1) (.cells (AC.c (AA v6 2).2) 146))
abbrev Gs:=AA (AA v6 2).2 4
def Z1S:CT:=(54,(IX:List Av).map (Bq 1000 22),wrI 22 (.cells (AC.c (AA v6 2).2) 146) (tI (Gs v6).1) (.cells (AC.c (Gs v6).2) 146))
def Z1T:CT:=(83,((MI b types):List Av).map (Bq 1000 22),wrI 22 (.cells (AC.c (Gs v6).2) 146) (.av (.agg (AD.c (Bn (IZ b) types (Gs v6).2).1))) (.cells (AC.c (Bn (IZ b) types (Gs v6).2).2) 146))
abbrev Z1U:AC:=(Bn (AG.mk b.Layers b.Outline b.Parts [] [] [] [] [] [] [] [] [] []) types (AA (AA v6 2).2 4).2).2
def Z1V:AD:=(Bn (AG.mk b.Layers b.Outline b.Parts [] [] [] [] [] [] [] [] [] []) types (AA (AA v6 2).2 4).2).1
def Z1W:CT:=(83,((MI b types):List Av).map (Bq 1000 22),wrI 22 (.cells (AC.c (Z1U b types v6)) 146) (.av (.agg (AD.c (Bn (IZ b) types (Z1U b types v6)).1))) (.cells (AC.c (Bn (IZ b) types (Z1U b types v6)).2) 146))
abbrev Z1X:AC:=(Bn (AG.mk b.Layers b.Outline b.Parts [] [] [] [] [] [] [] [] [] []) types (Z1U b types v6)).2
def Z1Y:AD:=(Bn (AG.mk b.Layers b.Outline b.Parts [] [] [] [] [] [] [] [] [] []) types (Z1U b types v6)).1
abbrev Tf:=CO (Z1V b types v6) (Z1Y b types v6) (Z1X b types v6)
def Z1Z:CT:=(82,([.agg (AD.c (Z1V b types v6)),.agg (AD.c (Z1Y b types v6)),.one (.ptr 1000 0)]:List Av).map (Bq 1000 22),wrI 22 (.cells (AC.c (Z1X b types v6)) 146) (.av (.one (lst 7 AO.c (Tf b types v6).1))) (.cells (AC.c (Tf b types v6).2) 146))
abbrev Z20:AC:=(CO (Z1V b types v6) (Z1Y b types v6) (Z1X b types v6)).2
abbrev Vl (v9:Int) (v7:ByteArray) (v6:AC) (b:AG) (types:List AQ):=[Aj.mk (W64 (11+v9)) v7 (W64 (1+(AA v6 2).1)) (Ah.mk 1 (CO (Z1V b types v6) (Z1Y b types v6) (Z1X b types v6)).1 (W64 (3+(Gs v6).1)))]
def Z21 (AN:List Aj) (v9:Int) (v7:ByteArray) (v6:AC) (b:AG) (types:(List AQ)):Blk:=.row 6 (AN++(Vl v9 v7 v6 b types)).length (AU Aj.c (AN++(Vl v9 v7 v6 b types))) 85
abbrev Vo (b:AG) (AN:List Aj) (v9:Int) (v7:ByteArray) (v6:AC) (types:List AQ):List Cl:=(A9 b [.own 66 6 (AN++[Aj.mk (W64 (11+v9)) v7 (W64 (1+(AA v6 2).1)) (Ah.mk 1 (CO (Z1V b types v6) (Z1Y b types v6) (Z1X b types v6)).1 (W64 (3+(Gs v6).1)))]).length,vN,vN,vN,vN,vN,vN,vN,vN])
def Z22 (b:AG) (AN:List Aj) (v9:Int) (v7:ByteArray) (v6:AC) (types:(List AQ)):Blk:=.cells (Vo b AN v9 v7 v6 types) 42
def Z23:CT:=(81,(ML:List Av).map (Eo 1000 1000 1001 22),wqV 1000 22 [6,7,8,9,10,11,12,13,14] (LA b) 42 (.cells (AC.c (Z20 b types v6)) 146) (.av (.one (.s (CX (HP b) (Z20 b types v6)).1))) (.cells (AC.c (CX (HP b) (Z20 b types v6)).2) 146))
abbrev Z24:AC:=(CX (AG.mk b.Layers b.Outline b.Parts b.Nets [] [] [] [] [] [] [] [] []) (Z20 b types v6)).2
def Z25:Tv:=.av (.one (.s (CX (HP b) (Z20 b types v6)).1))
def Z26:Blk:=.cells (AC.c (Z24 b types v6)) 146
def Z27:CT:=(81,(ML:List Av).map (Eo 1000 1000 1001 75),wqV 1000 75 [6,7,8,9,10,11,12,13,14] (LA b) 42 (.cells (AC.c v6') 146) (.av (.one (.s (CX (HP b) v6').1))) (.cells (AC.c (CX (HP b) v6').2) 146))
abbrev Z28:AC:=(CX (AG.mk b.Layers b.Outline b.Parts b.Nets [] [] [] [] [] [] [] [] []) v6').2
def Z29:CT:=(83,((MI b types):List Av).map (Bq 1000 75),wrI 75 (.cells (AC.c (Z28 b v6')) 146) (.av (.agg (AD.c (Bn (IZ b) types (Z28 b v6')).1))) (.cells (AC.c (Bn (IZ b) types (Z28 b v6')).2) 146))
abbrev Z2a:AC:=(Bn (AG.mk b.Layers b.Outline b.Parts [] [] [] [] [] [] [] [] [] []) types (Z28 b v6')).2
def Z2b:AD:=(Bn (AG.mk b.Layers b.Outline b.Parts [] [] [] [] [] [] [] [] [] []) types (Z28 b v6')).1
abbrev Iy:List Av:=[.one (.ptr 1000 0),.one (.i 5)]
def Z2c:CT:=(54,(Iy:List Av).map (Bq 1000 75),wrI 75 (.cells (AC.c (Z2a b types v6')) 146) (tI (AA (Z2a b types v6') 5).1) (.cells (AC.c (AA (Z2a b types v6') 5).2) 146))
def Z2d:CT:=(54,(ER:List Av).map (Bq 1000 75),wrI 75 (.cells (AC.c (AA (Z2a b types v6') 5).2) 146) (tI (AA (AA (Z2a b types v6') 5).2 3).1) (.cells (AC.c (AA (AA (Z2a b types v6') 5).2 3).2) 146))
abbrev Z2e:AC:=(AA (AA (Z2a b types v6') 5).2 3).2
def Z2f:Blk:=.cells (AC.c (Z2e b types v6')) 146
abbrev Pc (v11:Int) (b:AG) (v6':AC) (types:List AQ):=[Br.mk (W64 (21+v11)) (CX (HP b) v6').1 (Z2b b types v6') (W64 (6+(AA (Z2a b types v6') 5).1)) (W64 (4+(W64 (2*(AA (AA (Z2a b types v6') 5).2 3).1)))) 1 2]
def Z2g (AW:List Br) (v11:Int) (b:AG) (v6':AC) (types:(List AQ)):Blk:=.row 8 (AW++(Pc v11 b v6' types)).length (AU Br.c (AW++(Pc v11 b v6' types))) 87
def Z2h (b:AG) (AN:List Aj) (AW:List Br) (v11:Int) (v6':AC) (types:(List AQ)):Blk:=.cells (A9 b [.own 100000 6 AN.length,.own 108 8 (AW++(Pc v11 b v6' types)).length,vN,vN,vN,vN,vN,vN,vN]) 42
def Z2i:CT:=(54,(ER:List Av).map (Bq 1000 75),wrI 75 (.cells (AC.c v6') 146) (tI (AA v6' 3).1) (.cells (AC.c (AA v6' 3).2) 146))
def Z2j:CT:=(54,(SC:List Av).map (Bq 1000 75),wrI 75 (.cells (AC.c v6'') 146) (tI (AA v6'' 12).1) (.cells (AC.c (AA v6'' 12).2) 146))
abbrev GC:=AA (AA v6'' 12).2 12
def Z2k:CT:=(54,(SC:List Av).map (Bq 1000 75),wrI 75 (.cells (AC.c (AA v6'' 12).2) 146) (tI (GC v6'').1) (.cells (AC.c (GC v6'').2) 146))
def Z2l:CT:=(54,(MK:List Av).map (Bq 1000 75),wrI 75 (.cells (AC.c (GC v6'').2) 146) (tI (AA (GC v6'').2 6).1) (.cells (AC.c (AA (GC v6'').2 6).2) 146))
abbrev Z2m:AC:=(AA (AA (AA v6'' 12).2 12).2 6).2
abbrev Lr:=AA (Z2m v6'') 5
def Z2n:CT:=(54,(Iy:List Av).map (Bq 1000 75),wrI 75 (.cells (AC.c (Z2m v6'')) 146) (tI (Lr v6'').1) (.cells (AC.c (Lr v6'').2) 146))
abbrev O0:=CX (HP b) (Lr v6'').2
def Z2o:CT:=(81,(ML:List Av).map (Eo 1000 1000 1001 75),wqV 1000 75 [6,7,8,9,10,11,12,13,14] (LA b) 42 (.cells (AC.c (Lr v6'').2) 146) (.av (.one (.s (O0 b v6'').1))) (.cells (AC.c (O0 b v6'').2) 146))
abbrev Z2p:AC:=(CX (AG.mk b.Layers b.Outline b.Parts b.Nets [] [] [] [] [] [] [] [] []) (AA (Z2m v6'') 5).2).2
def Z2q:CT:=(54,(GT:List Av).map (Bq 1000 75),wrI 75 (.cells (AC.c (Z2p b v6'')) 146) (tI (AA (Z2p b v6'') 2).1) (.cells (AC.c (AA (Z2p b v6'') 2).2) 146))
abbrev MR:=AA (AA (Z2p b v6'') 2).2 3
def Z2r:CT:=(54,(ER:List Av).map (Bq 1000 75),wrI 75 (.cells (AC.c (AA (Z2p b v6'') 2).2) 146) (tI (MR b v6'').1) (.cells (AC.c (MR b v6'').2) 146))
abbrev Z2s:AC:=(AA (AA (Z2p b v6'') 2).2 3).2
def Z2t:CT:=(54,(GT:List Av).map (Bq 1000 75),wrI 75 (.cells (AC.c (Z2s b v6'')) 146) (tI (AA (Z2s b v6'') 2).1) (.cells (AC.c (AA (Z2s b v6'') 2).2) 146))
abbrev MQ:=AA (AA (Z2s b v6'') 2).2 4
def Z2u:CT:=(54,(IX:List Av).map (Bq 1000 75),wrI 75 (.cells (AC.c (AA (Z2s b v6'') 2).2) 146) (tI (MQ b v6'').1) (.cells (AC.c (MQ b v6'').2) 146))
abbrev Z2v:AC:=(AA (AA (Z2s b v6'') 2).2 4).2
abbrev Er:=AA (Z2v b v6'') 6
def Z2w:CT:=(54,(MK:List Av).map (Bq 1000 75),wrI 75 (.cells (AC.c (Z2v b v6'')) 146) (tI (Er b v6'').1) (.cells (AC.c (Er b v6'').2) 146))
abbrev KG:=[Al.mk (AA v6'' 12).1 (AA (AA v6'' 12).2 12).1 (W64 ((W64 ((AA v6'' 12).1+1))+(AA (AA (AA v6'' 12).2 12).2 6).1)) (W64 ((W64 ((AA (AA v6'' 12).2 12).1+1))+(AA (Z2m v6'') 5).1))]
abbrev KJ (v12:Int) (b:AG) (v6'':AC) (t_:List Cl):List Cl:=(.i (W64 (31+v12)))::(.s (O0 b v6'').1)::(.i (W64 (1+(AA (Z2p b v6'') 2).1)))::(.i (W64 (20+(W64 (5*(MR b v6'').1)))))::(.i (AA (Z2s b v6'') 2).1)::(.i (([0,0,5,9]:List Int).getD (MQ b v6'').1.toNat 0))::t_
def Z2x (v12:Int) (b:AG) (v6'':AC):Blk:=.cells (KJ v12 b v6'' [.i (W64 (4+(Er b v6'').1)),.own 158 4 ((KG v6'').length)]) 90
def Z2y:Blk:=.row 4 ((KG v6'').length) (AU Al.c (KG v6'')) 76
def Z2z:CT:=(54,(ER:List Av).map (Bq 1000 75),wrI 75 (.cells (AC.c (Er b v6'').2) 146) (tI (AA (Er b v6'').2 3).1) (.cells (AC.c (AA (Er b v6'').2 3).2) 146))
abbrev Z2A:AC:=(AA (AA (Z2v b v6'') 6).2 3).2
def Z2B:Blk:=.cells (AC.c (Z2A b v6'')) 146
abbrev PY:=[Al.mk (W64 ((AA v6'' 12).1-2)) (GC v6'').1 (W64 ((AA v6'' 12).1+1)) (W64 ((GC v6'').1+2))]
def Z2C:Blk:=.row 4 ((KG v6'')++(PY v6'')).length (AU Al.c ((KG v6'')++(PY v6''))) 76
def Z2D:(List Al):=bif decide (((AA (AA (Z2v b v6'') 6).2 3).1:Int)=0) then ([Al.mk (AA v6'' 12).1 (AA (AA v6'' 12).2 12).1 (W64 ((W64 ((AA v6'' 12).1+1))+(AA (AA (AA v6'' 12).2 12).2 6).1)) (W64 ((W64 ((AA (AA v6'' 12).2 12).1+1))+(AA (Z2m v6'') 5).1))]++[Al.mk (W64 ((AA v6'' 12).1-2)) (AA (AA v6'' 12).2 12).1 (W64 ((AA v6'' 12).1+1)) (W64 ((AA (AA v6'' 12).2 12).1+2))]) else [Al.mk (AA v6'' 12).1 (AA (AA v6'' 12).2 12).1 (W64 ((W64 ((AA v6'' 12).1+1))+(AA (AA (AA v6'' 12).2 12).2 6).1)) (W64 ((W64 ((AA (AA v6'' 12).2 12).1+1))+(AA (Z2m v6'') 5).1))]
abbrev Pf (v12:Int) (b:AG) (v6'':AC):=[BB.mk (W64 (31+v12)) (O0 b v6'').1 (W64 (1+(AA (Z2p b v6'') 2).1)) (W64 (20+(W64 (5*(MR b v6'').1)))) (AA (Z2s b v6'') 2).1 (([0,0,5,9]:List Int).getD (MQ b v6'').1.toNat 0) (W64 (4+(AA (Z2v b v6'') 6).1)) (Z2D b v6'')]
def Z2E (Ag:List BB) (v12:Int) (b:AG) (v6'':AC):Blk:=.row 8 (Ag++(Pf v12 b v6'')).length (AU BB.c (Ag++(Pf v12 b v6''))) 90
def Z2F (b:AG) (AN:List Aj) (v9:Int) (v7:ByteArray) (v6:AC) (types:(List AQ)):Blk:=.cells (A9 b [.own 100000 6 (AN++(Vl v9 v7 v6 b types)).length,vN,vN,vN,vN,vN,vN,vN,vN]) 42
def Z2G:Blk:=.cells (A9 b [.own 100000 6 AN.length,.own 100001 8 ([]:List Br).length,vN,vN,vN,vN,vN,vN,vN]) 42
abbrev EY (t_:List Cl):List Cl:=(.own 100000 6 AN.length)::(.own 100001 8 AW.length)::t_
abbrev Qm:List Cl:=(A9 b (EY AN AW [vN,vN,vN,vN,vN,vN,vN]))
def Z2H:Blk:=.cells (Qm b AN AW) 42
def Z2I:Blk:=.cells (A9 b (EY AN AW [.own 183 8 (Ag++(Pf v12 b v6'')).length,vN,vN,vN,vN,vN,vN])) 42
def Z2J (b:AG) (AN:List Aj) (AW:List Br) (v11:Int) (v6':AC) (types:(List AQ)):Blk:=.cells (A9 b [.own 100000 6 AN.length,.own 100001 8 (AW++(Pc v11 b v6' types)).length,vN,vN,vN,vN,vN,vN,vN]) 42
def Z2K:Blk:=.cells (A9 b (EY AN AW [.own 100002 8 ([]:List BB).length,vN,vN,vN,vN,vN,vN])) 42
abbrev Qn:List Cl:=(A9 b (EY AN AW [.own 100002 8 Ag.length,vN,vN,vN,vN,vN,vN]))
def Z2L:Blk:=.cells (Qn b AN AW Ag) 42
abbrev V7 (b:AG) (AN:List Aj) (AW:List Br) (Ag:List BB) (l:List (List Int)) (types:List AQ):List Cl:=(A9 b (EY AN AW [.own 100002 8 Ag.length,lst 5 BQ.c (Z1A l b types),vN,vN,vN,vN,vN]))
def Z2M (b:AG) (AN:List Aj) (AW:List Br) (Ag:List BB) (l:(List (List Int))) (types:(List AQ)):Blk:=.cells (V7 b AN AW Ag l types) 42
def Z2N (v12:Int) (b:AG) (v6'':AC):Blk:=.cells (KJ v12 b v6'' [.i (W64 (4+(Er b v6'').1)),.own 100003 4 ((KG v6'')++(PY v6'')).length]) 90
def Z2O (v12:Int) (b:AG) (v6'':AC):Blk:=.cells (KJ v12 b v6'' [.i (W64 (4+(Er b v6'').1)),.own 100003 4 ((KG v6'').length)]) 90
def Z2P:Blk:=.cells (A9 b (EY AN AW [.own 100002 8 (Ag++(Pf v12 b v6'')).length,vN,vN,vN,vN,vN,vN])) 42
def B9 (b:AG) (types:(List AQ)) (l:(List (List Int))) (AN:List Aj) (v6:AC) (v7:ByteArray) (v9:Int) (AW:List Br) (v6':AC) (v11:Int) (K0:List Aj->AC->ByteArray->Int->AG) (K1:List Br->AC->Int->AG):Nat->List BB->AC->Int->AG
 | 0,_,_,_=>default
 | n2+1,Ag,v6'',v12=>bif decide ((v12:Int)<(AA v6' 3).1) then ((B9 b types l AN v6 v7 v9 AW v6' v11 K0 K1 n2) (Ag++[BB.mk (W64 (31+v12)) (CX (AG.mk b.Layers b.Outline b.Parts b.Nets [] [] [] [] [] [] [] [] []) (AA (Z2m v6'') 5).2).1 (W64 (1+(AA (Z2p b v6'') 2).1)) (W64 (20+(W64 (5*(AA (AA (Z2p b v6'') 2).2 3).1)))) (AA (Z2s b v6'') 2).1 (([0,0,5,9]:List Int).getD (AA (AA (Z2s b v6'') 2).2 4).1.toNat 0) (W64 (4+(AA (Z2v b v6'') 6).1)) (Z2D b v6'')]) (Z2A b v6'') (v12+1)) else (bif decide (((AA (Z1z l b types) 3).1:Int)=0) then (AG.mk b.Layers b.Outline b.Parts b.Nets AN AW Ag (Z1A l b types) [BX.mk 51 (Ah.mk 1 [Z1I b types l] (W64 (3+(AA (Z1F b types l) 4).1)))] [] [] [] []) else (AG.mk b.Layers b.Outline b.Parts b.Nets AN AW Ag (Z1A l b types) [] [] [] [] []))
def CI (b:AG) (types:(List AQ)) (l:(List (List Int))) (AN:List Aj) (v6:AC) (v7:ByteArray) (v9:Int) (K0:List Aj->AC->ByteArray->Int->AG):Nat->List Br->AC->Int->AG
 | 0,_,_,_=>default
 | n1+1,AW,v6',v11=>bif decide ((v11:Int)<(AA (AC.mk (AR l 5) 0) 3).1) then ((CI b types l AN v6 v7 v9 K0 n1) (AW++[Br.mk (W64 (21+v11)) (CX (AG.mk b.Layers b.Outline b.Parts b.Nets [] [] [] [] [] [] [] [] []) v6').1 (Z2b b types v6') (W64 (6+(AA (Z2a b types v6') 5).1)) (W64 (4+(W64 (2*(AA (AA (Z2a b types v6') 5).2 3).1)))) 1 2]) (Z2e b types v6') (v11+1)) else (B9 b types l AN v6 v7 v9 AW v6' v11 K0 (CI b types l AN v6 v7 v9 K0 n1) (((AA v6' 3).1-0).toNat+1) ([]:List BB) (AA v6' 3).2 0)
def B3 (b:AG) (types:(List AQ)) (l:(List (List Int))):Nat->List Aj->AC->ByteArray->Int->AG
 | 0,_,_,_,_=>default
 | n0+1,AN,v6,v7,v9=>bif decide ((v9:Int)<(AA (Z1l b l) 6).1) then ((B3 b types l n0) (AN++[Aj.mk (W64 (11+v9)) v7 (W64 (1+(AA v6 2).1)) (Ah.mk 1 (CO (Z1V b types v6) (Z1Y b types v6) (Z1X b types v6)).1 (W64 (3+(AA (AA v6 2).2 4).1)))]) (Z24 b types v6) (CX (AG.mk b.Layers b.Outline b.Parts b.Nets [] [] [] [] [] [] [] [] []) (Z20 b types v6)).1 (v9+1)) else (CI b types l AN v6 v7 v9 (B3 b types l n0) (((AA (AC.mk (AR l 5) 0) 3).1-0).toNat+1) ([]:List Br) (AA (AC.mk (AR l 5) 0) 3).2 0)
def BG (b:AG) (types:(List AQ)) (l:(List (List Int))):AG:=B3 b types l (((AA (Z1l b l) 6).1-0).toNat+1) ([]:List Aj) (AA (Z1l b l) 6).2 (CX (AG.mk b.Layers b.Outline b.Parts b.Nets [] [] [] [] [] [] [] [] []) (AC.mk (AR l 4) 0)).1 0
abbrev CE (t_:List (Nat×Tv)):List (Nat×Tv):=(0,tP 1000 0)::(Eb types)::(2,Z1i l)::t_
abbrev MO (types:List AQ) (l:List (List Int)) (v6':AC) (v12:Int):List (Nat×Tv):=(CE types l [(6,tP 75 0),(8,tI (AA v6' 3).1),(12,tI v12),(16,tP 16 0)])
abbrev WO (v12:Int) (b:AG) (v6'':AC):List Cl:=(KJ v12 b v6'' [.i (W64 (4+(AA (Z2v b v6'') 6).1)),lst 4 Al.c (Z2D b v6'')])
abbrev PW (types:List AQ) (l:List (List Int)) (b:AG):List (Nat×Tv):=(CE types l [(6,tP 22 0),(7,Z1m b l),(8,tI (AA (Z1l b l) 6).1),(9,tI 0)])
abbrev Gv:Nat×Tv:=(8,tI (AA v6' 3).1)
abbrev Gu:Nat×Tv:=(8,tI (AA (Z1l b l) 6).1)
abbrev PQ:List (Nat×Tv):=(CE types l [(6,tP 75 0),(8,Z1q l),(11,tI 0)])
abbrev KX:List (Nat×Tv):=[(0,tP 1000 0),(Eb types),(6,tP 189 0)]
abbrev WD:List Cl:=[.i (AA v6'' 12).1,.i (GC v6'').1,.i (W64 ((W64 ((AA v6'' 12).1+1))+(AA (GC v6'').2 6).1)),.i (W64 ((W64 ((GC v6'').1+1))+(Lr v6'').1))]
abbrev SM:List Cl:=[.i 51,.i 1,.list true 7 1 (As 7 1 (AO.c (Z1I b types l))),.i (W64 (3+(AA (Z1F b types l) 4).1))]
abbrev MG:Nat×Blk:=(75,.cells (AC.c (AA v6' 3).2) 146)
abbrev O1:List (Nat×Tv):=(CE types l [(6,tP 75 0),(Gv v6'),(12,tI 0)])
abbrev Vs (v12:Int) (b:AG) (v6'':AC) (t_:List Cl):List Cl:=(.i (W64 (31+v12)))::(.s (CX (HP b) (Lr v6'').2).1)::(.i (W64 (1+(AA (Z2p b v6'') 2).1)))::(.i (W64 (20+(W64 (5*(MR b v6'').1)))))::(.i (AA (Z2s b v6'') 2).1)::(.i (([0,0,5,9]:List Int).getD (MQ b v6'').1.toNat 0))::(.i (W64 (4+(AA (Z2v b v6'') 6).1)))::t_
abbrev Lz (v6':AC) (v12:Int) (v6'':AC) (t_:List (Nat×Tv)):List (Nat×Tv):=(6,tP 75 0)::(Gv v6')::(12,tI v12)::(13,tI (AA v6'' 12).1)::(14,tI (GC v6'').1)::t_
theorem au4 {p:Prop} (h:p:=by repeat (first | with_reducible assumption | exact Ca (DD hll _) | with_reducible refine BR ?_ | with_reducible refine D6 ?_ | with_reducible refine DQ ?_ | with_reducible refine C6 ?_  | with_reducible refine Ci ?_ ?_)):p:=h
set_option maxHeartbeats 2000000 in
theorem Sh  (b:AG) (types:(List AQ)) (l:(List (List Int))) (hb:(b.Parts.length:Int)<=1000000) (ht:(types.length:Int)<=1000000) (hg:Lq b types) (hn:1<=(b.Nets.length:Int)/\(b.Nets.length:Int)<=1000000) (hl:(l.length:Int)<=9223372036854775807) (hll:∀ x∈l,(x.length:Int)<=9223372036854775807):Wr Try.prog 56 1000 [.one (.ptr 1000 0),.one (lst 3 AQ.c types),.one (lst 1 (fun x=>[lst 1 eIn x]) l)] (.cells [.i b.Layers,.i b.Outline.Kind,lst 7 AO.c b.Outline.Edges,.i b.Outline.R,lst 7 AF.c b.Parts,lst 2 A3.c b.Nets,vN,vN,vN,vN,vN,vN,vN,vN,vN] 42) (.tup []) (.cells [.i (BG b types l).Layers,.i (BG b types l).Outline.Kind,lst 7 AO.c (BG b types l).Outline.Edges,.i (BG b types l).Outline.R,lst 7 AF.c (BG b types l).Parts,lst 2 A3.c (BG b types l).Nets,lst 6 Aj.c (BG b types l).Tracks,lst 8 Br.c (BG b types l).Vias,lst 8 BB.c (BG b types l).Pours,lst 5 BQ.c (BG b types l).Keeps,lst 4 BX.c (BG b types l).Slots,vN,vN,vN,vN] 42):=by
 refine GX Try.func56 rfl kr kr kr kr fun W0 M0 X hX => ?_
 refine AB<|rs 20 (D0 l 4) ⟨(CE types l [(6,tP 22 0)]),[(22,.cells [lst 1 eIn (AR l 4),.i 0] 146),(1000,Z1j b)]⟩ (FD l 4 au9)<|AH<|AB ?_
 refine rc [(25,(Z1k b l))] [Aw (Z1k b l).2.1,Blk.cells (Vh b) 42=Blk.cells (Nh [6,7,8,9,10,11,12,13,14] 0 (Vh b) (LA b)) 42,Bu (.cells [lst 1 eIn (AR l 4),.i 0] 146)] ⟨(CE types l [(6,tP 22 0),(7,Z1m b l)]),[(22,.cells (AC.c (Z1l b l)) 146),(1000,Z1j b)]⟩ (.cons (HF (B0:=fun vs=>(A9 b [.val (vs 6),.val (vs 7),.val (vs 8),.val (vs 9),.val (vs 10),.val (vs 11),.val (vs 12),.val (vs 13),.val (vs 14)])) (fun _ _=>kr) kr rfl rfl kr (fun vs=>by kernel_rfl) (fun vs=>by kernel_rfl) (fun vs=>Pn (AG.mk b.Layers b.Outline b.Parts b.Nets [] [] [] [] [] [] [] [] []) (AC.mk (AR l 4) 0) vs au4 oM)) .nil) (.cons rfl (.cons rfl (.cons rfl .nil)))<|AH<|AB ?_
 refine rb 27 (Z1n b l) (.cells (AC.c (Z1l b l)) 146) ⟨(CE types l [(6,tP 22 0),(7,Z1m b l),(Gu b l)]),[(22,Z1o b l),(1000,Z1j b)]⟩ (cWr (BS (Z1l b l) 6 au4 au7))<|AH ?_
 refine AB<|AB ?_
 refine rn ⟨(PW types l b),[(22,Z1o b l),(1000,Z1j b)]⟩<|AX ?_
 refine BN (Cv.trans (wg (⟨(PW types l b),[(100000,.row 6 0 (fun _ _=>default) 85),(22,Z1o b l),(1000,.cells (A9 b [.own 100000 6 0,vN,vN,vN,vN,vN,vN,vN,vN]) 42)]⟩) 100000 6 (fun _ _=>default) 85 [] [(1000,[6])] (K:=[1000]) hX) (Cv.trans (BF (⟨(PW types l b),[(100000,Z1N),(22,Z1o b l),(1000,Z1O b)]⟩) lr (.cons ⟨rfl,Ai 85 (B8 6 (fun _ _=>default) Aj.c)⟩ (.cons ⟨rfl,.refl _⟩ (.cons ⟨rfl,.cells _ (rr5 (rr (.cons (.own _ _ au0) (rr (rr (rr (rr (rr (rr (rr (rr .nil)))))))))))⟩ .nil)))) (Cv.trans (ck (⟨(PW types l b),[(22,Z1o b l),(1000,Z1O b),(100000,Z1N)]⟩)) (Cv.refl _)))) ?_
 refine BH (ι:=Nat×List Aj×AC×ByteArray×Int) (fun x=>⟨(CE types l [(6,tP 22 0),(7,tO (.s x.2.2.2.1)),(Gu b l),(9,tI x.2.2.2.2)]),[(22,.cells (AC.c x.2.2.1) 146),(1000,.cells (A9 b [.own 100000 6 x.2.1.length,vN,vN,vN,vN,vN,vN,vN,vN]) 42),(100000,.row 6 x.2.1.length (AU Aj.c x.2.1) 85)]⟩) (fun x=>((AA (Z1l b l) 6).1-x.2.2.2.2).toNat<x.1/\(Bf x.2.2.1/\0<=x.2.2.2.2/\(x.2.2.2.2<=(AA (Z1l b l) 6).1\/x.2.2.2.2=0)/\(x.2.1.length:Int)<=0+1*(x.2.2.2.2-0))/\B3 b types l x.1 x.2.1 x.2.2.1 x.2.2.2.1 x.2.2.2.2=BG b types l) (fun x=>x.1) ?_ (((AA (Z1l b l) 6).1-0).toNat+1,([]:List Aj),(AA (Z1l b l) 6).2,(CX (AG.mk b.Layers b.Outline b.Parts b.Nets [] [] [] [] [] [] [] [] []) (AC.mk (AR l 4) 0)).1,0) ⟨Nat.lt_succ_self _,⟨(by show Bf ((AA (Z1l b l) 6).2);repeat (first | with_reducible assumption | exact Ca (DD hll _) | with_reducible refine BR ?_ | with_reducible refine D6 ?_ | with_reducible refine DQ ?_ | with_reducible refine C6 ?_  | with_reducible refine Ci ?_ ?_)),ax0,ax0,ax0⟩,(by simp only [BG,cond_true,cond_false])⟩
 rintro ⟨n0,AN,v6,v7,v9⟩ ⟨hm0,hinv0,hF0⟩
 try dsimp only at hm0 hinv0 hF0
 cases n0 with | zero=>exact nz hm0 | succ n0 => ?_
 have hi0_0:=hinv0.1
 refine AB<|AB ?_
 refine rn ⟨(CE types l [(6,tP 22 0),(7,tO (.s v7)),(Gu b l),(9,tI v9),(30,tB (decide ((v9:Int)<(AA (Z1l b l) 6).1)))]),[(22,.cells (AC.c v6) 146),(1000,Z1P b AN),(100000,Z1Q AN)]⟩ ?_
 refine Aa _ rfl (fun h1 => ?_) (fun h1 => ?_)
 ·have g1:=oT h1
  have k1:=QA g1 (by decide) (by decide)
  refine Ac<|AH ?_
  refine AB<|AX<|AB ?_
  refine rb 37 (Z1R v6) (.cells (AC.c v6) 146) ⟨(CE types l [(6,tP 22 0),(Gu b l),(9,tI v9),(10,tP 10 0)]),[(10,.cells [.i (W64 (11+v9)),.s v7,.i (W64 (1+(AA v6 2).1)),.i 0,vN,.i 0] 85),(22,.cells (AC.c (AA v6 2).2) 146),(1000,Z1P b AN),(100000,Z1Q AN)]⟩ (cWr (BS v6 2 au4 au7))<|AH<|AB ?_
  refine dw [] [(41,(Z1S v6)),(48,ceI [.agg (Ql b AN),.one (GD types),.one (.ptr 22 0)] (Z1T b types v6)),(54,ceI [.agg (Ql b AN),.one (GD types),.one (.ptr 22 0)] (Z1W b types v6)),(56,(Z1Z b types v6))] [Aw (Z1S v6).2.1,Bu (.cells (AC.c (AA v6 2).2) 146),Aw (ceI [.agg (Ql b AN),.one (lst 3 AQ.c types),.one (.ptr 22 0)] (Z1T b types v6)).2.1,Bu (.cells (AC.c (AA (AA v6 2).2 4).2) 146),Aw (ceI [.agg (Ql b AN),.one (lst 3 AQ.c types),.one (.ptr 22 0)] (Z1W b types v6)).2.1,Bu (.cells (AC.c (Z1U b types v6)) 146),Aw (Z1Z b types v6).2.1,Bu (.cells (AC.c (Z1X b types v6)) 146)] ⟨(CE types l [(6,tP 22 0),(Gu b l),(9,tI v9),(10,tP 10 0)]),[(10,.cells [.i (W64 (11+v9)),.s v7,.i (W64 (1+(AA v6 2).1)),.i 1,lst 7 AO.c (Tf b types v6).1,.i (W64 (3+(Gs v6).1))] 85),(22,.cells (AC.c (Z20 b types v6)) 146),(1000,Z1P b AN),(100000,Z1Q AN)]⟩ (.cons (cWr (BS (AA v6 2).2 4 au4 au7)) (.cons (Cd (cWr (Jg (AG.mk b.Layers b.Outline b.Parts [] [] [] [] [] [] [] [] [] []) types (AA (AA v6 2).2 4).2 au4 oM oM (by assumption))) (.cons (.agg (rr5 (.cons (.any _) (.cons (.any _) (.cons (.any _) (.cons (.any _) (.cons (.any _) (.cons (.any _) (.cons (.any _) (.cons (.any _) (.cons (.any _) (.cons (.any _) .nil)))))))))))) (.cons (AvE.refl _) (.cons (AvE.refl _) .nil)))) (.cons (Cd (cWr (Jg (AG.mk b.Layers b.Outline b.Parts [] [] [] [] [] [] [] [] [] []) types (Z1U b types v6) au4 oM oM (by assumption))) (.cons (.agg (rr5 (.cons (.any _) (.cons (.any _) (.cons (.any _) (.cons (.any _) (.cons (.any _) (.cons (.any _) (.cons (.any _) (.cons (.any _) (.cons (.any _) (.cons (.any _) .nil)))))))))))) (.cons (AvE.refl _) (.cons (AvE.refl _) .nil)))) (.cons (cWr (Wu (Z1V b types v6) (Z1Y b types v6) (Z1X b types v6) au4)) .nil)))) (.cons rfl (.cons rfl (.cons rfl (.cons rfl (.cons rfl (.cons rfl (.cons rfl (.cons rfl .nil))))))))<|AH<|AB ?_
  refine dw [] [] [AN.length=AN.length,AN.length+1<=maxLen,(AN.length+1)*72<=140737488355328] ⟨(CE types l [(6,tP 22 0),(Gu b l),(9,tI v9)]),[(22,.cells (AC.c (Z20 b types v6)) 146),(66,.row 6 (AN.length+1) (fun i_ j_=>if i_<AN.length then (AU Aj.c AN) i_ j_ else (As 6 1 [.i (W64 (11+v9)),.s v7,.i (W64 (1+(AA v6 2).1)),.i 1,lst 7 AO.c (Tf b types v6).1,.i (W64 (3+(Gs v6).1))]) (i_-AN.length) j_) 85),(1000,.cells (A9 b [.own 66 6 (AN.length+1),vN,vN,vN,vN,vN,vN,vN,vN]) 42)]⟩ .nil (.cons rfl (.cons au3 (.cons au3 .nil)))<|AH ?_
  refine BN (Cv.trans (BF (⟨(CE types l [(6,tP 22 0),(Gu b l),(9,tI v9)]),[(22,.cells (AC.c (Z20 b types v6)) 146),(66,Z21 AN v9 v7 v6 b types),(1000,Z22 b AN v9 v7 v6 types)]⟩) lr (.cons ⟨rfl,.refl _⟩ (.cons ⟨rfl,Ai 85 (BO (BA 6 Aj.c AN) (Ar (c:=Aj.c) (xs:=([Aj.mk (W64 (11+v9)) v7 (W64 (1+(AA v6 2).1)) (Ah.mk 1 (CO (Z1V b types v6) (Z1Y b types v6) (Z1X b types v6)).1 (W64 (3+(AA (AA v6 2).2 4).1)))]:List Aj)) rfl kr))⟩ (.cons ⟨rfl,.cells _ (rr5 (rr (.cons (.own _ _ au0) (rr (rr (rr (rr (rr (rr (rr (rr .nil)))))))))))⟩ .nil)))) (Cv.refl _)) ?_
  refine rc [(71,(Z23 b types v6))] [Aw (Z23 b types v6).2.1,Blk.cells (Vo b AN v9 v7 v6 types) 42=Blk.cells (Nh [6,7,8,9,10,11,12,13,14] 0 (Vo b AN v9 v7 v6 types) (LA b)) 42,Bu (.cells (AC.c (Z20 b types v6)) 146)] ⟨(CE types l [(6,tP 22 0),(7,Z25 b types v6),(Gu b l),(9,tI v9)]),[(22,Z26 b types v6),(66,Z21 AN v9 v7 v6 b types),(1000,Z22 b AN v9 v7 v6 types)]⟩ (.cons (HF (B0:=fun vs=>(A9 b [.val (vs 6),.val (vs 7),.val (vs 8),.val (vs 9),.val (vs 10),.val (vs 11),.val (vs 12),.val (vs 13),.val (vs 14)])) (fun _ _=>kr) kr rfl rfl kr (fun vs=>by kernel_rfl) (fun vs=>by kernel_rfl) (fun vs=>Pn (AG.mk b.Layers b.Outline b.Parts b.Nets [] [] [] [] [] [] [] [] []) (Z20 b types v6) vs au4 oM)) .nil) (.cons rfl (.cons rfl (.cons rfl .nil)))<|Bd<|AH ?_
  refine rg ⟨(CE types l [(6,tP 22 0),(7,Z25 b types v6),(Gu b l),(9,tI (W64 (v9+1)))]),[(22,Z26 b types v6),(66,Z21 AN v9 v7 v6 b types),(1000,Z22 b AN v9 v7 v6 types)]⟩ ?_
  (try rw [(show W64 (v9+1)=v9+1 from Ao oM au6)])
  refine AH ?_
  refine ⟨(n0,AN++[Aj.mk (W64 (11+v9)) v7 (W64 (1+(AA v6 2).1)) (Ah.mk 1 (CO (Z1V b types v6) (Z1Y b types v6) (Z1X b types v6)).1 (W64 (3+(AA (AA v6 2).2 4).1)))],Z24 b types v6,(CX (AG.mk b.Layers b.Outline b.Parts b.Nets [] [] [] [] [] [] [] [] []) (Z20 b types v6)).1,v9+1),⟨?_,?_,(by rw [<- hF0];simp only [B3,h1,cond_true,cond_false])⟩,Nat.lt_succ_self _,Cv.trans (vr 66 100000 (K:=[1000]) hX) (Cv.trans (vk [0,1,2,6,7,8,9] [22,1000,100000]) (A6 kr))⟩
  ·show ((AA (Z1l b l) 6).1-(v9+1)).toNat<n0;omega
  exact ⟨(by show Bf (Z24 b types v6);repeat (first | with_reducible assumption | exact Ca (DD hll _) | with_reducible refine BR ?_ | with_reducible refine D6 ?_ | with_reducible refine DQ ?_ | with_reducible refine C6 ?_  | with_reducible refine Ci ?_ ?_)),ax0,ax0,ax0⟩
 have g1:=oF h1
 refine BJ<|A4 ?_
 refine A4<|BK ?_
 refine AH<|AB ?_
 refine rs 73 (D0 l 5) ⟨(CE types l [(6,tP 75 0)]),[(75,.cells [lst 1 eIn (AR l 5),.i 0] 146),(1000,Z1P b AN),(100000,Z1Q AN)]⟩ (FD l 5 au9)<|AH<|AB ?_
 refine rb 77 (Z1p l) (.cells [lst 1 eIn (AR l 5),.i 0] 146) ⟨(CE types l [(6,tP 75 0),(8,Z1q l)]),[(75,Z1r l),(1000,Z1P b AN),(100000,Z1Q AN)]⟩ (cWr (BS (AC.mk (AR l 5) 0) 3 au4 au7))<|AH ?_
 refine AB<|AB ?_
 refine rn ⟨(PQ types l),[(75,Z1r l),(1000,Z1P b AN),(100000,Z1Q AN)]⟩<|AX ?_
 refine BN (Cv.trans (wg (⟨(PQ types l),[(100001,.row 8 0 (fun _ _=>default) 87),(75,Z1r l),(1000,.cells (A9 b [.own 100000 6 AN.length,.own 100001 8 0,vN,vN,vN,vN,vN,vN,vN]) 42),(100000,Z1Q AN)]⟩) 100001 8 (fun _ _=>default) 87 [] [(1000,[7])] (K:=[1000]) hX) (Cv.trans (BF (⟨(PQ types l),[(100001,Z1L),(75,Z1r l),(1000,Z2G b AN),(100000,Z1Q AN)]⟩) lr (.cons ⟨rfl,Ai 87 (B8 8 (fun _ _=>default) Br.c)⟩ (.cons ⟨rfl,.refl _⟩ (.cons ⟨rfl,.cells _ (rr5 (rr2 (.cons (.own _ _ au0) (rr (rr (rr (rr (rr (rr (rr .nil))))))))))⟩ lr)))) (Cv.trans (ck (⟨(PQ types l),[(75,Z1r l),(1000,Z2G b AN),(100000,Z1Q AN),(100001,Z1L)]⟩)) (Cv.refl _)))) ?_
 refine BH (ι:=Nat×List Br×AC×Int) (fun x=>⟨(CE types l [(6,tP 75 0),(8,Z1q l),(11,tI x.2.2.2)]),[(75,.cells (AC.c x.2.2.1) 146),(1000,.cells (A9 b [.own 100000 6 AN.length,.own 100001 8 x.2.1.length,vN,vN,vN,vN,vN,vN,vN]) 42),(100000,Z1Q AN),(100001,.row 8 x.2.1.length (AU Br.c x.2.1) 87)]⟩) (fun x=>((AA (AC.mk (AR l 5) 0) 3).1-x.2.2.2).toNat<x.1/\(Bf x.2.2.1/\0<=x.2.2.2/\(x.2.2.2<=(AA (AC.mk (AR l 5) 0) 3).1\/x.2.2.2=0)/\(x.2.1.length:Int)<=0+1*(x.2.2.2-0))/\CI b types l AN v6 v7 v9 (B3 b types l n0) x.1 x.2.1 x.2.2.1 x.2.2.2=BG b types l) (fun x=>x.1) ?_ (((AA (AC.mk (AR l 5) 0) 3).1-0).toNat+1,([]:List Br),(AA (AC.mk (AR l 5) 0) 3).2,0) ⟨Nat.lt_succ_self _,⟨(by show Bf ((AA (AC.mk (AR l 5) 0) 3).2);repeat (first | with_reducible assumption | exact Ca (DD hll _) | with_reducible refine BR ?_ | with_reducible refine D6 ?_ | with_reducible refine DQ ?_ | with_reducible refine C6 ?_  | with_reducible refine Ci ?_ ?_)),ax0,ax0,ax0⟩,(by rw [<- hF0];simp only [B3,h1,cond_true,cond_false])⟩
 rintro ⟨n1,AW,v6',v11⟩ ⟨hm1,hinv1,hF1⟩
 try dsimp only at hm1 hinv1 hF1
 cases n1 with | zero=>exact nz hm1 | succ n1 => ?_
 have hi1_0:=hinv1.1
 refine AB<|AB ?_
 refine rn ⟨(CE types l [(6,tP 75 0),(8,Z1q l),(11,tI v11),(80,tB (decide ((v11:Int)<(AA (AC.mk (AR l 5) 0) 3).1)))]),[(75,.cells (AC.c v6') 146),(1000,Z2H b AN AW),(100000,Z1Q AN),(100001,Z1M AW)]⟩ ?_
 refine Aa _ rfl (fun h2 => ?_) (fun h2 => ?_)
 ·have g2:=oT h2
  have k2:=QA g2 (by decide) (by decide)
  refine Ac<|AH ?_
  refine AB<|AX ?_
  refine dw [] [(92,(Z27 b v6')),(98,ceI [.agg (Qm b AN AW),.one (GD types),.one (.ptr 75 0)] (Z29 b types v6')),(100,(Z2c b types v6')),(103,(Z2d b types v6'))] [Aw (Z27 b v6').2.1,Blk.cells (Qm b AN AW) 42=Blk.cells (Nh [6,7,8,9,10,11,12,13,14] 0 (Qm b AN AW) (LA b)) 42,Bu (.cells (AC.c v6') 146),Aw (ceI [.agg (Qm b AN AW),.one (lst 3 AQ.c types),.one (.ptr 75 0)] (Z29 b types v6')).2.1,Bu (.cells (AC.c (Z28 b v6')) 146),Aw (Z2c b types v6').2.1,Bu (.cells (AC.c (Z2a b types v6')) 146),Aw (Z2d b types v6').2.1,Bu (.cells (AC.c (AA (Z2a b types v6') 5).2) 146),AW.length=AW.length,AW.length+1<=maxLen,(AW.length+1)*72<=140737488355328] ⟨(CE types l [(6,tP 75 0),(8,Z1q l),(11,tI v11)]),[(75,Z2f b types v6'),(108,.row 8 (AW.length+1) (fun i_ j_=>if i_<AW.length then (AU Br.c AW) i_ j_ else (As 8 1 [.i (W64 (21+v11)),.s (CX (HP b) v6').1,.i (Z2b b types v6').X,.i (Z2b b types v6').Y,.i (W64 (6+(AA (Z2a b types v6') 5).1)),.i (W64 (4+(W64 (2*(AA (AA (Z2a b types v6') 5).2 3).1)))),.i 1,.i 2]) (i_-AW.length) j_) 87),(1000,.cells (A9 b [.own 100000 6 AN.length,.own 108 8 (AW.length+1),vN,vN,vN,vN,vN,vN,vN]) 42),(100000,Z1Q AN)]⟩ (.cons (HF (B0:=fun vs=>(A9 b [.val (vs 6),.val (vs 7),.val (vs 8),.val (vs 9),.val (vs 10),.val (vs 11),.val (vs 12),.val (vs 13),.val (vs 14)])) (fun _ _=>kr) kr rfl rfl kr (fun vs=>by kernel_rfl) (fun vs=>by kernel_rfl) (fun vs=>Pn (AG.mk b.Layers b.Outline b.Parts b.Nets [] [] [] [] [] [] [] [] []) v6' vs au4 oM)) (.cons (Cd (cWr (Jg (AG.mk b.Layers b.Outline b.Parts [] [] [] [] [] [] [] [] [] []) types (Z28 b v6') au4 oM oM (by assumption))) (.cons (.agg (rr5 (.cons (.any _) (.cons (.any _) (.cons (.any _) (.cons (.any _) (.cons (.any _) (.cons (.any _) (.cons (.any _) (.cons (.any _) (.cons (.any _) (.cons (.any _) .nil)))))))))))) (.cons (AvE.refl _) (.cons (AvE.refl _) .nil)))) (.cons (cWr (BS (Z2a b types v6') 5 au4 au7)) (.cons (cWr (BS (AA (Z2a b types v6') 5).2 3 au4 au7)) .nil)))) (.cons rfl (.cons rfl (.cons rfl (.cons rfl (.cons rfl (.cons rfl (.cons rfl (.cons rfl (.cons rfl (.cons rfl (.cons au3 (.cons au3 .nil))))))))))))<|Bd<|AH ?_
  refine BN (Cv.trans (BF (⟨(CE types l [(6,tP 75 0),(8,Z1q l),(11,tI v11)]),[(75,Z2f b types v6'),(108,Z2g AW v11 b v6' types),(1000,Z2h b AN AW v11 v6' types),(100000,Z1Q AN)]⟩) lr (.cons ⟨rfl,.refl _⟩ (.cons ⟨rfl,Ai 87 (BO (BA 8 Br.c AW) (Ar (c:=Br.c) (xs:=([Br.mk (W64 (21+v11)) (CX (AG.mk b.Layers b.Outline b.Parts b.Nets [] [] [] [] [] [] [] [] []) v6').1 (Z2b b types v6') (W64 (6+(AA (Z2a b types v6') 5).1)) (W64 (4+(W64 (2*(AA (AA (Z2a b types v6') 5).2 3).1)))) 1 2]:List Br)) rfl kr))⟩ (.cons ⟨rfl,.cells _ (rr5 (rr2 (.cons (.own _ _ au0) (rr (rr (rr (rr (rr (rr (rr .nil))))))))))⟩ lr)))) (Cv.refl _)) ?_
  refine rg ⟨(CE types l [(6,tP 75 0),(8,Z1q l),(11,tI (W64 (v11+1)))]),[(75,Z2f b types v6'),(108,Z2g AW v11 b v6' types),(1000,Z2h b AN AW v11 v6' types),(100000,Z1Q AN)]⟩ ?_
  (try rw [(show W64 (v11+1)=v11+1 from Ao oM au6)])
  refine AH ?_
  refine ⟨(n1,AW++[Br.mk (W64 (21+v11)) (CX (AG.mk b.Layers b.Outline b.Parts b.Nets [] [] [] [] [] [] [] [] []) v6').1 (Z2b b types v6') (W64 (6+(AA (Z2a b types v6') 5).1)) (W64 (4+(W64 (2*(AA (AA (Z2a b types v6') 5).2 3).1)))) 1 2],Z2e b types v6',v11+1),⟨?_,?_,(by rw [<- hF1];simp only [CI,h2,cond_true,cond_false])⟩,Nat.lt_succ_self _,Cv.trans (vr 108 100001 (K:=[1000]) hX) (Cv.trans (vk [0,1,2,6,8,11] [75,1000,100000,100001]) (A6 kr))⟩
  ·show ((AA (AC.mk (AR l 5) 0) 3).1-(v11+1)).toNat<n1;omega
  exact ⟨(by show Bf (Z2e b types v6');repeat (first | with_reducible assumption | exact Ca (DD hll _) | with_reducible refine BR ?_ | with_reducible refine D6 ?_ | with_reducible refine DQ ?_ | with_reducible refine C6 ?_  | with_reducible refine Ci ?_ ?_)),ax0,ax0,ax0⟩
 have g2:=oF h2
 refine BJ<|A4 ?_
 refine A4<|BK ?_
 refine AH<|AB ?_
 refine rb 112 (Z2i v6') (.cells (AC.c v6') 146) ⟨(CE types l [(6,tP 75 0),(Gv v6')]),[(MG v6'),(1000,Z2H b AN AW),(100000,Z1Q AN),(100001,Z1M AW)]⟩ (cWr (BS v6' 3 au4 au7))<|AH ?_
 refine AB<|AB ?_
 refine rn ⟨(O1 types l v6'),[(MG v6'),(1000,Z2H b AN AW),(100000,Z1Q AN),(100001,Z1M AW)]⟩<|AX ?_
 refine BN (Cv.trans (wg (⟨(O1 types l v6'),[(100002,.row 8 0 (fun _ _=>default) 90),(MG v6'),(1000,.cells (A9 b (EY AN AW [.own 100002 8 0,vN,vN,vN,vN,vN,vN])) 42),(100000,Z1Q AN),(100001,Z1M AW)]⟩) 100002 8 (fun _ _=>default) 90 [] [(1000,[8])] (K:=[1000]) hX) (Cv.trans (BF (⟨(O1 types l v6'),[(100002,Z1J),(MG v6'),(1000,Z2K b AN AW),(100000,Z1Q AN),(100001,Z1M AW)]⟩) lr (.cons ⟨rfl,Ai 90 (B8 8 (fun _ _=>default) BB.c)⟩ (.cons ⟨rfl,.refl _⟩ (.cons ⟨rfl,.cells _ (rr5 (rr3 (.cons (.own _ _ au0) (rr (rr (rr (rr (rr (rr .nil)))))))))⟩ lr)))) (Cv.trans (ck (⟨(O1 types l v6'),[(MG v6'),(1000,Z2K b AN AW),(100000,Z1Q AN),(100001,Z1M AW),(100002,Z1J)]⟩)) (Cv.refl _)))) ?_
 refine BH (ι:=Nat×List BB×AC×Int) (fun x=>⟨(CE types l [(6,tP 75 0),(Gv v6'),(12,tI x.2.2.2)]),[(75,.cells (AC.c x.2.2.1) 146),(1000,.cells (A9 b (EY AN AW [.own 100002 8 x.2.1.length,vN,vN,vN,vN,vN,vN])) 42),(100000,Z1Q AN),(100001,Z1M AW),(100002,.row 8 x.2.1.length (AU BB.c x.2.1) 90)]⟩) (fun x=>((AA v6' 3).1-x.2.2.2).toNat<x.1/\(Bf x.2.2.1/\0<=x.2.2.2/\(x.2.2.2<=(AA v6' 3).1\/x.2.2.2=0)/\(x.2.1.length:Int)<=0+1*(x.2.2.2-0))/\B9 b types l AN v6 v7 v9 AW v6' v11 (B3 b types l n0) (CI b types l AN v6 v7 v9 (B3 b types l n0) n1) x.1 x.2.1 x.2.2.1 x.2.2.2=BG b types l) (fun x=>x.1) ?_ (((AA v6' 3).1-0).toNat+1,([]:List BB),(AA v6' 3).2,0) ⟨Nat.lt_succ_self _,⟨(by show Bf ((AA v6' 3).2);repeat (first | with_reducible assumption | exact Ca (DD hll _) | with_reducible refine BR ?_ | with_reducible refine D6 ?_ | with_reducible refine DQ ?_ | with_reducible refine C6 ?_  | with_reducible refine Ci ?_ ?_)),ax0,ax0,ax0⟩,(by rw [<- hF1];simp only [CI,h2,cond_true,cond_false])⟩
 rintro ⟨n2,Ag,v6'',v12⟩ ⟨hm2,hinv2,hF2⟩
 try dsimp only at hm2 hinv2 hF2
 cases n2 with | zero=>exact nz hm2 | succ n2 => ?_
 have hi2_0:=hinv2.1
 refine AB<|AB ?_
 refine rn ⟨(CE types l [(6,tP 75 0),(Gv v6'),(12,tI v12),(115,tB (decide ((v12:Int)<(AA v6' 3).1)))]),[(75,.cells (AC.c v6'') 146),(1000,Z2L b AN AW Ag),(100000,Z1Q AN),(100001,Z1M AW),(100002,Z1K Ag)]⟩ ?_
 refine Aa _ rfl (fun h3 => ?_) (fun h3 => ?_)
 ·have g3:=oT h3
  have k3:=QA g3 (by decide) (by decide)
  refine Ac<|AH ?_
  refine AB<|AX<|AB ?_
  refine rc [(119,(Z2j v6'')),(121,(Z2k v6''))] [Aw (Z2j v6'').2.1,Bu (.cells (AC.c v6'') 146),Aw (Z2k v6'').2.1,Bu (.cells (AC.c (AA v6'' 12).2) 146)] ⟨(CE types l (Lz v6' v12 v6'' [])),[(75,.cells (AC.c (GC v6'').2) 146),(1000,Z2L b AN AW Ag),(100000,Z1Q AN),(100001,Z1M AW),(100002,Z1K Ag)]⟩ (.cons (cWr (BS v6'' 12 au4 au7)) (.cons (cWr (BS (AA v6'' 12).2 12 au4 au7)) .nil)) (.cons rfl (.cons rfl (.cons rfl (.cons rfl .nil))))<|AH<|AB ?_
  refine rc [(127,(Z2l v6'')),(132,(Z2n v6''))] [Aw (Z2l v6'').2.1,Bu (.cells (AC.c (AA (AA v6'' 12).2 12).2) 146),Aw (Z2n v6'').2.1,Bu (.cells (AC.c (Z2m v6'')) 146)] ⟨(CE types l (Lz v6' v12 v6'' [(15,tP 15 0)])),[(15,.cells (WD v6'') 76),(75,.cells (AC.c (Lr v6'').2) 146),(1000,Z2L b AN AW Ag),(100000,Z1Q AN),(100001,Z1M AW),(100002,Z1K Ag)]⟩ (.cons (cWr (BS (AA (AA v6'' 12).2 12).2 6 au4 au7)) (.cons (cWr (BS (Z2m v6'') 5 au4 au7)) .nil)) (.cons rfl (.cons rfl (.cons rfl (.cons rfl .nil))))<|AH<|AB ?_
  refine dw [158] [(139,(Z2o b v6'')),(141,(Z2q b v6'')),(144,(Z2r b v6'')),(148,(Z2t b v6'')),(151,(Z2u b v6'')),(155,(Z2w b v6''))] [Aw (Z2o b v6'').2.1,Blk.cells (Qn b AN AW Ag) 42=Blk.cells (Nh [6,7,8,9,10,11,12,13,14] 0 (Qn b AN AW Ag) (LA b)) 42,Bu (.cells (AC.c (AA (Z2m v6'') 5).2) 146),Aw (Z2q b v6'').2.1,Bu (.cells (AC.c (Z2p b v6'')) 146),Aw (Z2r b v6'').2.1,Bu (.cells (AC.c (AA (Z2p b v6'') 2).2) 146),Aw (Z2t b v6'').2.1,Bu (.cells (AC.c (Z2s b v6'')) 146),Aw (Z2u b v6'').2.1,Bu (.cells (AC.c (AA (Z2s b v6'') 2).2) 146),0<=((AA (AA (Z2s b v6'') 2).2 4).1:Int)/\((AA (AA (Z2s b v6'') 2).2 4).1:Int)<((4:Nat):Int),Aw (Z2w b v6'').2.1,Bu (.cells (AC.c (Z2v b v6'')) 146)] ⟨(CE types l (Lz v6' v12 v6'' [(16,tP 16 0)])),[(16,.cells (KJ v12 b v6'' [.i (W64 (4+(Er b v6'').1)),.own 158 4 1]) 90),(75,.cells (AC.c (Er b v6'').2) 146),(158,.row 4 1 (As 4 1 (WD v6'')) 76),(1000,Z2L b AN AW Ag),(100000,Z1Q AN),(100001,Z1M AW),(100002,Z1K Ag)]⟩ (.cons (HF (B0:=fun vs=>(A9 b [.val (vs 6),.val (vs 7),.val (vs 8),.val (vs 9),.val (vs 10),.val (vs 11),.val (vs 12),.val (vs 13),.val (vs 14)])) (fun _ _=>kr) kr rfl rfl kr (fun vs=>by kernel_rfl) (fun vs=>by kernel_rfl) (fun vs=>Pn (AG.mk b.Layers b.Outline b.Parts b.Nets [] [] [] [] [] [] [] [] []) (AA (Z2m v6'') 5).2 vs au4 oM)) (.cons (cWr (BS (Z2p b v6'') 2 au4 au7)) (.cons (cWr (BS (AA (Z2p b v6'') 2).2 3 au4 au7)) (.cons (cWr (BS (Z2s b v6'') 2 au4 au7)) (.cons (cWr (BS (AA (Z2s b v6'') 2).2 4 au4 au7)) (.cons (cWr (BS (Z2v b v6'') 6 au4 au7)) .nil)))))) (.cons rfl (.cons rfl (.cons rfl (.cons rfl (.cons rfl (.cons rfl (.cons rfl (.cons rfl (.cons rfl (.cons rfl (.cons rfl (.cons (by first | exact H8 _ _ _ (by decide) (by decide) (by decide) | decide | omega) (.cons rfl (.cons rfl .nil))))))))))))))<|AH ?_
  refine BN (Cv.trans (BF (⟨(CE types l (Lz v6' v12 v6'' [(16,tP 16 0)])),[(16,Z2x v12 b v6''),(75,.cells (AC.c (Er b v6'').2) 146),(158,Z2y v6''),(1000,Z2L b AN AW Ag),(100000,Z1Q AN),(100001,Z1M AW),(100002,Z1K Ag)]⟩) lr (.cons ⟨rfl,.cells _ (rr5 (rr2 (.cons (.own _ _ au0) .nil)))⟩ (.cons ⟨rfl,.refl _⟩ (.cons ⟨rfl,Ai 76 (Ar (c:=Al.c) (xs:=([Al.mk (AA v6'' 12).1 (AA (AA v6'' 12).2 12).1 (W64 ((W64 ((AA v6'' 12).1+1))+(AA (AA (AA v6'' 12).2 12).2 6).1)) (W64 ((W64 ((AA (AA v6'' 12).2 12).1+1))+(AA (Z2m v6'') 5).1))]:List Al)) rfl kr)⟩ lr)))) (Cv.refl _))<|AB<|AB ?_
  refine rb 161 (Z2z b v6'') (.cells (AC.c (AA (Z2v b v6'') 6).2) 146) ⟨(CE types l (Lz v6' v12 v6'' [(16,tP 16 0),(162,tB (decide (((AA (Er b v6'').2 3).1:Int)=0)))])),[(16,Z2x v12 b v6''),(75,Z2B b v6''),(158,Z2y v6''),(1000,Z2L b AN AW Ag),(100000,Z1Q AN),(100001,Z1M AW),(100002,Z1K Ag)]⟩ (cWr (BS (AA (Z2v b v6'') 6).2 3 au4 au7))<|AH ?_
  refine Bz (⟨[(0,tP 1000 0),(Eb types),(2,.av (oL l)),(6,tP 75 0),(Gv v6'),(12,tI v12),(16,tP 16 0)],[(16,.cells (KJ v12 b v6'' [.i (W64 (4+(Er b v6'').1)),.own 100003 4 (Z2D b v6'').length]) 90),(75,.cells (AC.c (Z2A b v6'')) 146),(1000,.cells (Qn b AN AW Ag) 42),(100000,.row 6 AN.length (AU Aj.c AN) 85),(100001,.row 8 AW.length (AU Br.c AW) 87),(100002,.row 8 Ag.length (AU BB.c Ag) 90),(100003,.row 4 (Z2D b v6'').length (AU Al.c (Z2D b v6'')) 76)]⟩) ?_ ?_
  ·refine Aa _ rfl (fun h4 => ?_) (fun h4 => ?_)
   ·have g4:=oT h4
    refine rc [] [[Al.mk (AA v6'' 12).1 (AA (AA v6'' 12).2 12).1 (W64 ((W64 ((AA v6'' 12).1+1))+(AA (AA (AA v6'' 12).2 12).2 6).1)) (W64 ((W64 ((AA (AA v6'' 12).2 12).1+1))+(AA (Z2m v6'') 5).1))].length=[Al.mk (AA v6'' 12).1 (AA (AA v6'' 12).2 12).1 (W64 ((W64 ((AA v6'' 12).1+1))+(AA (AA (AA v6'' 12).2 12).2 6).1)) (W64 ((W64 ((AA (AA v6'' 12).2 12).1+1))+(AA (Z2m v6'') 5).1))].length,([Al.mk (AA v6'' 12).1 (AA (AA v6'' 12).2 12).1 (W64 ((W64 ((AA v6'' 12).1+1))+(AA (AA (AA v6'' 12).2 12).2 6).1)) (W64 ((W64 ((AA (AA v6'' 12).2 12).1+1))+(AA (Z2m v6'') 5).1))].length)+1<=maxLen,(([Al.mk (AA v6'' 12).1 (AA (AA v6'' 12).2 12).1 (W64 ((W64 ((AA v6'' 12).1+1))+(AA (AA (AA v6'' 12).2 12).2 6).1)) (W64 ((W64 ((AA (AA v6'' 12).2 12).1+1))+(AA (Z2m v6'') 5).1))].length)+1)*32<=140737488355328] ⟨(MO types l v6' v12),[(16,.cells (Vs v12 b v6'' [.own 174 4 (((KG v6'').length)+1)]) 90),(75,Z2B b v6''),(174,.row 4 (((KG v6'').length)+1) (fun i_ j_=>if i_<((KG v6'').length) then (AU Al.c (KG v6'')) i_ j_ else (As 4 1 [.i (W64 ((AA v6'' 12).1-2)),.i (GC v6'').1,.i (W64 ((AA v6'' 12).1+1)),.i (W64 ((GC v6'').1+2))]) (i_-((KG v6'').length)) j_) 76),(1000,Z2L b AN AW Ag),(100000,Z1Q AN),(100001,Z1M AW),(100002,Z1K Ag)]⟩ .nil (.cons rfl (.cons au3 (.cons au3 .nil)))<|AH ?_
    refine Cv.trans (BF (⟨(MO types l v6' v12),[(16,.cells (Vs v12 b v6'' [.own 174 4 ((KG v6'')++(PY v6'')).length]) 90),(75,Z2B b v6''),(174,Z2C v6''),(1000,Z2L b AN AW Ag),(100000,Z1Q AN),(100001,Z1M AW),(100002,Z1K Ag)]⟩) lr (.cons ⟨rfl,.cells _ (rr5 (rr2 (.cons (.own _ _ au0) .nil)))⟩ (.cons ⟨rfl,.refl _⟩ (.cons ⟨rfl,Ai 76 (BO (BA 4 Al.c [Al.mk (AA v6'' 12).1 (AA (AA v6'' 12).2 12).1 (W64 ((W64 ((AA v6'' 12).1+1))+(AA (AA (AA v6'' 12).2 12).2 6).1)) (W64 ((W64 ((AA (AA v6'' 12).2 12).1+1))+(AA (Z2m v6'') 5).1))]) (Ar (c:=Al.c) (xs:=([Al.mk (W64 ((AA v6'' 12).1-2)) (AA (AA v6'' 12).2 12).1 (W64 ((AA v6'' 12).1+1)) (W64 ((AA (AA v6'' 12).2 12).1+2))]:List Al)) rfl kr))⟩ lr)))) (Cv.trans (vr 174 100003 (K:=[1000]) hX) (Cv.trans (ck (⟨(MO types l v6' v12),[(16,Z2N v12 b v6''),(75,Z2B b v6''),(1000,Z2L b AN AW Ag),(100000,Z1Q AN),(100001,Z1M AW),(100002,Z1K Ag),(100003,Z2C v6'')]⟩)) (A6 ?_)))
    first | rfl | (simp only [h4,Z2D,cond_true,cond_false] <;> rfl)
   refine Ac<|AH ?_
   refine Cv.trans (vk [0,1,2,6,8,12,16] [16,75,158,1000,100000,100001,100002]) (Cv.trans (vr 158 100003 (K:=[1000]) hX) (Cv.trans (ck (⟨(MO types l v6' v12),[(16,Z2O v12 b v6''),(75,Z2B b v6''),(1000,Z2L b AN AW Ag),(100000,Z1Q AN),(100001,Z1M AW),(100002,Z1K Ag),(100003,Z2y v6'')]⟩)) (A6 ?_)))
   first | rfl | (simp only [h4,Z2D,cond_true,cond_false] <;> rfl)
  refine BN (Cv.trans (wf (⟨(MO types l v6' v12),[(16,.cells (WO v12 b v6'') 90),(75,Z2B b v6''),(1000,Z2L b AN AW Ag),(100000,Z1Q AN),(100001,Z1M AW),(100002,Z1K Ag)]⟩) 100003 4 (Z2D b v6'').length (AU Al.c (Z2D b v6'')) 76 (K:=[1000]) hX (.cons ⟨rfl,rfl⟩ .nil)) (Cv.refl _)) ?_
  refine dw [] [] [Ag.length=Ag.length,Ag.length+1<=maxLen,(Ag.length+1)*88<=140737488355328] ⟨(CE types l [(6,tP 75 0),(Gv v6'),(12,tI v12)]),[(75,Z2B b v6''),(183,.row 8 (Ag.length+1) (fun i_ j_=>if i_<Ag.length then (AU BB.c Ag) i_ j_ else (As 8 1 (WO v12 b v6'')) (i_-Ag.length) j_) 90),(1000,.cells (A9 b (EY AN AW [.own 183 8 (Ag.length+1),vN,vN,vN,vN,vN,vN])) 42),(100000,Z1Q AN),(100001,Z1M AW)]⟩ .nil (.cons rfl (.cons au3 (.cons au3 .nil)))<|Bd<|AH ?_
  refine BN (Cv.trans (BF (⟨(CE types l [(6,tP 75 0),(Gv v6'),(12,tI v12)]),[(75,Z2B b v6''),(183,Z2E Ag v12 b v6''),(1000,Z2I b AN AW Ag v12 v6''),(100000,Z1Q AN),(100001,Z1M AW)]⟩) lr (.cons ⟨rfl,.refl _⟩ (.cons ⟨rfl,Ai 90 (BO (BA 8 BB.c Ag) (Ar (c:=BB.c) (xs:=([BB.mk (W64 (31+v12)) (CX (AG.mk b.Layers b.Outline b.Parts b.Nets [] [] [] [] [] [] [] [] []) (AA (Z2m v6'') 5).2).1 (W64 (1+(AA (Z2p b v6'') 2).1)) (W64 (20+(W64 (5*(AA (AA (Z2p b v6'') 2).2 3).1)))) (AA (Z2s b v6'') 2).1 (([0,0,5,9]:List Int).getD (AA (AA (Z2s b v6'') 2).2 4).1.toNat 0) (W64 (4+(AA (Z2v b v6'') 6).1)) (Z2D b v6'')]:List BB)) rfl kr))⟩ (.cons ⟨rfl,.cells _ (rr5 (rr3 (.cons (.own _ _ au0) (rr (rr (rr (rr (rr (rr .nil)))))))))⟩ lr)))) (Cv.refl _)) ?_
  refine rg ⟨(CE types l [(6,tP 75 0),(Gv v6'),(12,tI (W64 (v12+1)))]),[(75,Z2B b v6''),(183,Z2E Ag v12 b v6''),(1000,Z2I b AN AW Ag v12 v6''),(100000,Z1Q AN),(100001,Z1M AW)]⟩ ?_
  (try rw [(show W64 (v12+1)=v12+1 from Ao oM au6)])
  refine AH ?_
  refine ⟨(n2,Ag++[BB.mk (W64 (31+v12)) (CX (AG.mk b.Layers b.Outline b.Parts b.Nets [] [] [] [] [] [] [] [] []) (AA (Z2m v6'') 5).2).1 (W64 (1+(AA (Z2p b v6'') 2).1)) (W64 (20+(W64 (5*(AA (AA (Z2p b v6'') 2).2 3).1)))) (AA (Z2s b v6'') 2).1 (([0,0,5,9]:List Int).getD (AA (AA (Z2s b v6'') 2).2 4).1.toNat 0) (W64 (4+(AA (Z2v b v6'') 6).1)) (Z2D b v6'')],Z2A b v6'',v12+1),⟨?_,?_,(by rw [<- hF2];simp only [B9,h3,cond_true,cond_false])⟩,Nat.lt_succ_self _,Cv.trans (vr 183 100002 (K:=[1000]) hX) (Cv.trans (vk [0,1,2,6,8,12] [75,1000,100000,100001,100002]) (A6 kr))⟩
  ·show ((AA v6' 3).1-(v12+1)).toNat<n2;omega
  exact ⟨(by show Bf (Z2A b v6'');repeat (first | with_reducible assumption | exact Ca (DD hll _) | with_reducible refine BR ?_ | with_reducible refine D6 ?_ | with_reducible refine DQ ?_ | with_reducible refine C6 ?_  | with_reducible refine Ci ?_ ?_)),ax0,ax0,ax0⟩
 have g3:=oF h3
 refine BJ<|A4 ?_
 refine A4<|BK ?_
 refine AH<|AB ?_
 refine rs 187 (D0 l 6) ⟨(KX types),[(189,.cells [lst 1 eIn (AR l 6),.i 0] 146),(1000,Z2L b AN AW Ag),(100000,Z1Q AN),(100001,Z1M AW),(100002,Z1K Ag)]⟩ (FD l 6 au9)<|AH ?_
 refine AB<|AB ?_
 refine rb 191 (Z1s l) (.cells [lst 1 eIn (AR l 6),.i 0] 146) ⟨[(0,tP 1000 0),(Eb types),(6,tP 189 0),(192,tB (decide (((Io l).1:Int)=0)))],[(189,Z1t l),(1000,Z2L b AN AW Ag),(100000,Z1Q AN),(100001,Z1M AW),(100002,Z1K Ag)]⟩ (cWr (BS (AC.mk (AR l 6) 0) 3 au4 au7))<|AH ?_
 refine Bz (⟨(KX types),[(189,.cells (AC.c (Z1z l b types)) 146),(1000,.cells (A9 b (EY AN AW [.own 100002 8 Ag.length,lst 5 BQ.c (Z1A l b types),vN,vN,vN,vN,vN])) 42),(100000,.row 6 AN.length (AU Aj.c AN) 85),(100001,.row 8 AW.length (AU Br.c AW) 87),(100002,.row 8 Ag.length (AU BB.c Ag) 90)]⟩) ?_ ?_
 ·refine Aa _ rfl (fun h4 => ?_) (fun h4 => ?_)
  ·have g4:=oT h4
   refine AB<|rb 198 (ceI [.agg (Qn b AN AW Ag),.one (lst 3 AQ.c types),.one (.ptr 189 0)] (Z1u b types l)) (.cells (AC.c (AA (AC.mk (AR l 6) 0) 3).2) 146) ⟨[(0,tP 1000 0),(Eb types),(6,tP 189 0),(17,tP 17 0)],[(17,.cells (AD.c (Z1w b types l)) 52),(189,.cells (AC.c (Z1v b types l)) 146),(1000,Z2L b AN AW Ag),(100000,Z1Q AN),(100001,Z1M AW),(100002,Z1K Ag)]⟩ (Cd (cWr (Jg (AG.mk b.Layers b.Outline b.Parts [] [] [] [] [] [] [] [] [] []) types (AA (AC.mk (AR l 6) 0) 3).2 au4 oM oM (by assumption))) (.cons (.agg (rr5 (.cons (.any _) (.cons (.any _) (.cons (.any _) (.cons (.any _) (.cons (.any _) (.cons (.any _) (.cons (.any _) (.cons (.any _) (.cons (.any _) (.cons (.any _) .nil)))))))))))) (.cons (AvE.refl _) (.cons (AvE.refl _) .nil))))<|AH ?_
   refine dw [] [(201,(Z1x b types l)),(213,HG (Al.mk (Z1w b types l).X (Z1w b types l).Y (W64 ((Z1w b types l).X+30)) (W64 ((Z1w b types l).Y+20))))] [Aw (Z1x b types l).2.1,Bu (.cells (AC.c (Z1v b types l)) 146),Aw (HG (Al.mk (Z1w b types l).X (Z1w b types l).Y (W64 ((Z1w b types l).X+30)) (W64 ((Z1w b types l).Y+20)))).2.1] ⟨(KX types),[(189,.cells (AC.c (AA (Z1v b types l) 3).2) 146),(1000,.cells (A9 b (EY AN AW [.own 100002 8 Ag.length,.list true 5 1 (As 5 1 [.i 41,.i (AA (Z1v b types l) 3).1,.i (Z1y b types l).Kind,lst 7 AO.c (Z1y b types l).Edges,.i (Z1y b types l).R]),vN,vN,vN,vN,vN])) 42),(100000,Z1Q AN),(100001,Z1M AW),(100002,Z1K Ag)]⟩ (.cons (cWr (BS (Z1v b types l) 3 au4 au7)) (.cons (Lj (Al.mk (Z1w b types l).X (Z1w b types l).Y (W64 ((Z1w b types l).X+30)) (W64 ((Z1w b types l).Y+20)))) .nil)) (.cons rfl (.cons rfl (.cons rfl .nil)))<|AH ?_
   refine Cv.trans (BF (⟨(KX types),[(189,.cells (AC.c (AA (Z1v b types l) 3).2) 146),(1000,.cells (A9 b (EY AN AW [.own 100002 8 Ag.length,lst 5 BQ.c [BQ.mk 41 (AA (Z1v b types l) 3).1 (Z1y b types l)],vN,vN,vN,vN,vN])) 42),(100000,Z1Q AN),(100001,Z1M AW),(100002,Z1K Ag)]⟩) lr (.cons ⟨rfl,.refl _⟩ (.cons ⟨rfl,.cells _ (rr9 (.cons (Bk true (Ar (c:=BQ.c) (xs:=([BQ.mk 41 (AA (Z1v b types l) 3).1 (Z1y b types l)]:List BQ)) rfl kr)) (rr (rr (rr (rr (rr .nil)))))))⟩ lr))) (A6 ?_)
   first | rfl | (simp only [h4,Z1z,Z1A,cond_true,cond_false] <;> rfl)
  refine Ac<|AH ?_
  refine Cv.trans (ck (⟨(KX types),[(189,Z1t l),(1000,Z2L b AN AW Ag),(100000,Z1Q AN),(100001,Z1M AW),(100002,Z1K Ag)]⟩)) (Cv.trans (BF (⟨(KX types),[(189,Z1t l),(1000,.cells (A9 b (EY AN AW [.own 100002 8 Ag.length,lst 5 BQ.c [],vN,vN,vN,vN,vN])) 42),(100000,Z1Q AN),(100001,Z1M AW),(100002,Z1K Ag)]⟩) lr (.cons ⟨rfl,.refl _⟩ (.cons ⟨rfl,.cells _ (rr9 (.cons (CZ 5 BQ.c) (rr (rr (rr (rr (rr .nil)))))))⟩ lr))) (A6 ?_))
  first | rfl | (simp only [h4,Z1z,Z1A,cond_true,cond_false] <;> rfl)
 refine AB<|rb 219 (Z1B l b types) (.cells (AC.c (Z1z l b types)) 146) ⟨[(0,tP 1000 0),(Eb types),(6,tP 189 0),(220,Z1C l b types)],[(189,Z1D l b types),(1000,Z2M b AN AW Ag l types),(100000,Z1Q AN),(100001,Z1M AW),(100002,Z1K Ag)]⟩ (cWr (BS (Z1z l b types) 3 au4 au7))<|AH ?_
 refine Aa _ rfl (fun h4 => ?_) (fun h4 => ?_)
 ·have g4:=oT h4
  refine AB<|rb 226 (ceI [.agg (V7 b AN AW Ag l types),.one (lst 3 AQ.c types),.one (.ptr 189 0)] (Z1E b types l)) (.cells (AC.c (AA (Z1z l b types) 3).2) 146) ⟨[(0,tP 1000 0),(6,tP 189 0),(18,tP 18 0)],[(18,.cells (AD.c (Z1G b types l)) 52),(189,.cells (AC.c (Z1F b types l)) 146),(1000,Z2M b AN AW Ag l types),(100000,Z1Q AN),(100001,Z1M AW),(100002,Z1K Ag)]⟩ (Cd (cWr (Jg (AG.mk b.Layers b.Outline b.Parts [] [] [] [] [] [] [] [] [] []) types (AA (Z1z l b types) 3).2 au4 oM oM (by assumption))) (.cons (.agg (rr5 (.cons (.any _) (.cons (.any _) (.cons (.any _) (.cons (.any _) (.cons (.any _) (.cons (.any _) (.cons (.any _) (.cons (.any _) (.cons (.any _) (.cons (.any _) .nil)))))))))))) (.cons (AvE.refl _) (.cons (AvE.refl _) .nil))))<|AH ?_
  refine dw [] [(229,(Z1H b types l)),(239,C5 (Z1G b types l) (AD.mk (W64 ((Z1G b types l).X+25)) (W64 ((Z1G b types l).Y+10))))] [Aw (Z1H b types l).2.1,Bu (.cells (AC.c (Z1F b types l)) 146),Aw (C5 (Z1G b types l) (AD.mk (W64 ((Z1G b types l).X+25)) (W64 ((Z1G b types l).Y+10)))).2.1] ⟨[],[(1000,.cells (A9 b (EY AN AW [.own 100002 8 Ag.length,lst 5 BQ.c (Z1A l b types),.list true 4 1 (As 4 1 (SM b types l)),vN,vN,vN,vN])) 42),(100000,Z1Q AN),(100001,Z1M AW),(100002,Z1K Ag)]⟩ (.cons (cWr (BS (Z1F b types l) 4 au4 au7)) (.cons (FC (Z1G b types l) (AD.mk (W64 ((Z1G b types l).X+25)) (W64 ((Z1G b types l).Y+10)))) .nil)) (.cons rfl (.cons rfl (.cons rfl .nil))) ?_
  exact yn (Cv.trans (vf 100000 6 AN.length (AU Aj.c AN) 85 (K:=[1000]) hX (.cons ⟨rfl,rfl⟩ .nil)) (Cv.trans (vf 100001 8 AW.length (AU Br.c AW) 87 (K:=[1000]) hX (.cons ⟨rfl,rfl⟩ .nil)) (Cv.trans (vf 100002 8 Ag.length (AU BB.c Ag) 90 (K:=[1000]) hX (.cons ⟨rfl,rfl⟩ .nil)) (Cv.refl _)))) (.tup []) ⟨An rfl,.cells (A9 b [lst 6 Aj.c AN,lst 8 Br.c AW,lst 8 BB.c Ag,lst 5 BQ.c (Z1A l b types),.list true 4 1 (As 4 1 (SM b types l)),vN,vN,vN,vN]) 42,by kernel_rfl,QW (y:=.cells (A9 b [lst 6 Aj.c AN,lst 8 Br.c AW,lst 8 BB.c Ag,lst 5 BQ.c (Z1A l b types),lst 4 BX.c [BX.mk 51 (Ah.mk 1 [Z1I b types l] (W64 (3+(AA (Z1F b types l) 4).1)))],vN,vN,vN,vN]) 42) (.cells _ (rr9 (rr (.cons (Bk true (ES (c:=BX.c) (xs:=([BX.mk 51 (Ah.mk 1 [Z1I b types l] (W64 (3+(AA (Z1F b types l) 4).1)))]:List BX)) (y:=[(SM b types l)]) (z:=[[.i 51,.i 1,lst 7 AO.c [Z1I b types l],.i (W64 (3+(AA (Z1F b types l) 4).1))]]) rfl kr kr (.cons (rr (rr (.cons (Bk true (Ar (c:=AO.c) (xs:=([Z1I b types l]:List AO)) rfl kr)) (rr .nil)))) .nil))) (rr (rr (rr (rr .nil)))))))) (by rw [<- hF2];first | (simp only [B9,h3,h4,cond_true,cond_false];done) | (simp only [B9,h3,h4,cond_true,cond_false];kernel_rfl))⟩
 refine Ac ?_
 exact yn (Cv.trans (vf 100000 6 AN.length (AU Aj.c AN) 85 (K:=[1000]) hX (.cons ⟨rfl,rfl⟩ .nil)) (Cv.trans (vf 100001 8 AW.length (AU Br.c AW) 87 (K:=[1000]) hX (.cons ⟨rfl,rfl⟩ .nil)) (Cv.trans (vf 100002 8 Ag.length (AU BB.c Ag) 90 (K:=[1000]) hX (.cons ⟨rfl,rfl⟩ .nil)) (Cv.refl _)))) (.tup []) ⟨An rfl,.cells (A9 b [lst 6 Aj.c AN,lst 8 Br.c AW,lst 8 BB.c Ag,lst 5 BQ.c (Z1A l b types),vN,vN,vN,vN,vN]) 42,by kernel_rfl,QW (y:=.cells (A9 b [lst 6 Aj.c AN,lst 8 Br.c AW,lst 8 BB.c Ag,lst 5 BQ.c (Z1A l b types),lst 4 BX.c [],vN,vN,vN,vN]) 42) (.cells _ (rr9 (rr (.cons (CZ 4 BX.c) (rr (rr (rr (rr .nil)))))))) (by rw [<- hF2];first | (simp only [B9,h3,h4,cond_true,cond_false];done) | (simp only [B9,h3,h4,cond_true,cond_false];kernel_rfl))⟩
end
structure J8 (b:AG) (B:AG):Prop where
 lay:B.Layers=b.Layers
 out:B.Outline=b.Outline
 par:B.Parts=b.Parts
 net:B.Nets=b.Nets
 trk:(B.Tracks.length:Int)<=6
 edg:∀ t∈B.Tracks,(t.Shape.Edges.length:Int)<=2
 via:(B.Vias.length:Int)<=3
 pou:(B.Pours.length:Int)<=3
 kee:(B.Keeps.length:Int)<=1
 slo:(B.Slots.length:Int)<=1
theorem ZS {b B C:AG} {c:Bool} (h:J8 b B) (k:J8 b C):J8 b (bif c then B else C):=by cases c <;> assumption
theorem Pz {α:Type} {c:Bool} {x:α}:((bif c then [x] else []:List α).length:Int)<=1:=by cases c <;> simp
theorem Oj (a c:AD) (d:AC):((CO a c d).1.length:Int)<=2:=by
 unfold CO
 generalize (bif _ then _ else false:Bool)=q
 cases q with
 | true=>simp
 | false =>
  simp only [cond_false]
  cases decide (((AA d 4).1:Int)=3) <;> simp
theorem T5 (b:AG) (types:List AQ) (l:List (List Int)) (v1:List Aj) (v6:AC) (v7:ByteArray) (v9:Int) (v2:List Br) (v6':AC) (v11:Int) (K0:List Aj->AC->ByteArray->Int->AG) (K1:List Br->AC->Int->AG) (h1:(v1.length:Int)<=6) (he:∀ t∈v1,(t.Shape.Edges.length:Int)<=2) (h2:(v2.length:Int)<=3):∀ (n:Nat) (v:List BB) (d:AC) (k:Int),0<=k->(v.length:Int)<=k->k<=3->((AA v6' 3).1-k).toNat<n->J8 b (B9 b types l v1 v6 v7 v9 v2 v6' v11 K0 K1 n v d k)
 | 0,v,d,k,_,_,_,h=>absurd h (Nat.not_lt_zero _)
 | n+1,v,d,k,k0,kv,k3,h=>by
  unfold B9
  have hb:=Cy v6' 3 (by decide) (by decide)
  by_cases hc:k<(AA v6' 3).1
  ·simp only [hc,decide_true,cond_true]
   exact T5 b types l v1 v6 v7 v9 v2 v6' v11 K0 K1 h1 he h2 n _ _ _ (by omega) (by simp only [List.length_append,List.length_cons,List.length_nil];omega) (by omega) (by omega)
  simp only [hc,decide_false,cond_false]
  have hv:(v.length:Int)<=3:=by omega
  repeat (first | exact ⟨rfl,rfl,rfl,rfl,h1,he,h2,hv,Pz,Pz⟩ | exact ⟨rfl,rfl,rfl,rfl,h1,he,h2,hv,Pz,(by simp:((([_]:List BX).length:Nat):Int)<=1)⟩ | exact ⟨rfl,rfl,rfl,rfl,h1,he,h2,hv,Pz,(by simp:((([]:List BX).length:Nat):Int)<=1)⟩ | refine ZS ?_ ?_)
theorem T6 (b:AG) (types:List AQ) (l:List (List Int)) (v1:List Aj) (v6:AC) (v7:ByteArray) (v9:Int) (K0:List Aj->AC->ByteArray->Int->AG) (h1:(v1.length:Int)<=6) (he:∀ t∈v1,(t.Shape.Edges.length:Int)<=2):∀ (n:Nat) (v:List Br) (d:AC) (k:Int),0<=k->(v.length:Int)<=k->k<=3->((AA (AC.mk (AR l 5) 0) 3).1-k).toNat<n->J8 b (CI b types l v1 v6 v7 v9 K0 n v d k)
 | 0,v,d,k,_,_,_,h=>absurd h (Nat.not_lt_zero _)
 | n+1,v,d,k,k0,kv,k3,h=>by
  unfold CI
  have hb:=Cy (AC.mk (AR l 5) 0) 3 (by decide) (by decide)
  by_cases hc:k<(AA (AC.mk (AR l 5) 0) 3).1
  ·simp only [hc,decide_true,cond_true]
   exact T6 b types l v1 v6 v7 v9 K0 h1 he n _ _ _ (by omega) (by simp only [List.length_append,List.length_cons,List.length_nil];omega) (by omega) (by omega)
  simp only [hc,decide_false,cond_false]
  exact T5 b types l v1 v6 v7 v9 v d k K0 _ h1 he (by omega) _ _ _ 0 (by omega) (by simp) (by omega) (by omega)
theorem T7 (b:AG) (types:List AQ) (l:List (List Int)):∀ (n:Nat) (v:List Aj) (d:AC) (s:ByteArray) (k:Int),0<=k->(v.length:Int)<=k->k<=6->(∀ t∈v,(t.Shape.Edges.length:Int)<=2)->((AA (Z1l b l) 6).1-k).toNat<n->J8 b (B3 b types l n v d s k)
 | 0,v,d,s,k,_,_,_,_,h=>absurd h (Nat.not_lt_zero _)
 | n+1,v,d,s,k,k0,kv,k3,he,h=>by
  unfold B3
  have hb:=Cy (Z1l b l) 6 (by decide) (by decide)
  by_cases hc:k<(AA (Z1l b l) 6).1
  ·simp only [hc,decide_true,cond_true]
   refine T7 b types l n _ _ _ _ (by omega) (by simp only [List.length_append,List.length_cons,List.length_nil];omega) (by omega) (fun t ht => ?_) (by omega)
   rcases List.mem_append.1 ht with ht | ht
   ·exact he t ht
   rw [List.mem_singleton.1 ht];exact Oj _ _ _
  simp only [hc,decide_false,cond_false]
  exact T6 b types l v d s k _ (by omega) he _ _ _ 0 (by omega) (by simp) (by omega) (by omega)
theorem FZ (b:AG) (types:List AQ) (l:List (List Int)):J8 b (BG b types l):=by
 have hb:=Cy (Z1l b l) 6 (by decide) (by decide)
 unfold BG
 exact T7 b types l _ _ _ _ 0 (by omega) (by simp) (by omega) (fun t ht=>by cases ht) (by omega)
section
open Go.RowKit
def AJ:BL:=BL.mk 1 (⟨#[]⟩) 0 (Al.mk 0 0 0 0) (OpL.mk 0 (fun _ _=>default))
def CG:CT:=(84,[],.val [] (.av (.agg (BL.c AJ))))
abbrev PS:List Cl:=[.i 1,.s (⟨#[]⟩),.i 0,.i 0,.i 0,.i 0,.i 0,vN]
abbrev SL:List Cl:=[.i 0,.s (⟨#[]⟩),.i 0,.i 0,.i 0,.i 0,.i 0,vN]
theorem U2  : FG Try.prog 84 (CG ).2.1 (.av (.agg (BL.c AJ))):=by
 refine pwf Try.func84 fun W0 M0 => ?_
 refine AB<|rn ⟨[(0,tP 0 0)],[(0,.cells SL 105)]⟩<|AB ?_
 refine rn ⟨[(0,tP 0 0)],[(0,.cells PS 105)]⟩<|Ae ?_
 exact xl (.av (.agg PS)) (DI (y:=.av (.agg [.i 1,.s (⟨#[]⟩),.i 0,.i 0,.i 0,.i 0,.i 0,opL (OpL.mk 0 (fun _ _=>default))])) (.av (.agg (rr5 (rr2 (.cons (.nil _ _) .nil))))) (by rfl))
theorem Dr  : OKc (CG ):=cPu<|U2
def Z2Q:Blk:=.cells SL 105
variable (b:AG) (d:AC) (v4 v5 v6 v7 v8 v9:Int)
abbrev HK:Blk:=.cells (AC.c (AA d 9).2) 146
def Z2R:CT:=(54,([.one (.ptr 1000 0),.one (.i 9)]:List Av).map (Bq 1000 1000),wrI 1000 (GL d) (tI (AA d 9).1) (HK d))
abbrev GI:=AA (AA d 9).2 2
def Z2S:CT:=(54,(GT:List Av).map (Bq 1000 1000),wrI 1000 (HK d) (tI (GI d).1) (.cells (AC.c (GI d).2) 146))
def Z2T:Blk:=.cells (AC.c (GI d).2) 146
def Z2U:CT:=(54,(Iy:List Av).map (Bq 1000 1000),wrI 1000 (HK d) (tI (AA (AA d 9).2 5).1) (.cells (AC.c (AA (AA d 9).2 5).2) 146))
def Z2V:CT:=(54,(ER:List Av).map (Bq 1000 1000),wrI 1000 (HK d) (tI (AA (AA d 9).2 3).1) (.cells (AC.c (AA (AA d 9).2 3).2) 146))
def Z2W:CT:=(54,(MK:List Av).map (Bq 1000 1000),wrI 1000 (HK d) (tI (AA (AA d 9).2 6).1) (.cells (AC.c (AA (AA d 9).2 6).2) 146))
def Z2X:CT:=(54,(IX:List Av).map (Bq 1000 1000),wrI 1000 (.cells (AC.c (GI d).2) 146) (tI (AA (GI d).2 4).1) (.cells (AC.c (AA (GI d).2 4).2) 146))
abbrev Z2Y:AC:=(AA (AA (AA d 9).2 2).2 4).2
def BE (d:AC):(BL×AC):=bif decide (((AA d 9).1:Int)=0) then (BL.mk 2 (([({ data := #[78,49] }:ByteArray),({ data := #[71,78,68] }:ByteArray)]:List ByteArray).getD (AA (AA d 9).2 2).1.toNat ⟨#[]⟩) 0 (Al.mk 0 0 0 0) (OpL.mk 0 (fun _ _=>default)),(AA (AA d 9).2 2).2) else (bif decide (((AA d 9).1:Int)=1) then (BL.mk 3 ({ data := #[112,111,119,101,114] }:ByteArray) 0 (Al.mk 0 0 0 0) (OpL.mk 0 (fun _ _=>default)),(AA d 9).2) else (bif decide (((AA d 9).1:Int)=2) then (BL.mk 4 (⟨#[]⟩) (W64 (1+(AA (AA d 9).2 5).1)) (Al.mk 0 0 0 0) (OpL.mk 0 (fun _ _=>default)),(AA (AA d 9).2 5).2) else (bif decide (((AA d 9).1:Int)=3) then (BL.mk 5 (⟨#[]⟩) (W64 (1+(AA (AA d 9).2 2).1)) (Al.mk 0 0 0 0) (OpL.mk 0 (fun _ _=>default)),(AA (AA d 9).2 2).2) else (bif decide (((AA d 9).1:Int)=4) then (BL.mk 6 (⟨#[]⟩) (W64 (1+(AA (AA d 9).2 3).1)) (Al.mk 0 0 0 0) (OpL.mk 0 (fun _ _=>default)),(AA (AA d 9).2 3).2) else (bif decide (((AA d 9).1:Int)=5) then (BL.mk 7 (⟨#[]⟩) 0 (Al.mk 0 0 (W64 (100+(W64 (50*(AA (AA d 9).2 6).1)))) 400) (OpL.mk 0 (fun _ _=>default)),(AA (AA d 9).2 6).2) else (bif decide (((AA d 9).1:Int)=6) then (BL.mk 8 (⟨#[]⟩) 0 (Al.mk 0 0 0 0) (OpL.mk 1 (As 8 1 [.i 5,.s (⟨#[]⟩),.i (W64 (1+(AA (AA d 9).2 2).1)),.i 0,.i 0,.i 0,.i 0,vN])),(AA (AA d 9).2 2).2) else (bif decide (((AA d 9).1:Int)=7) then (BL.mk (W64 (9+(AA (AA d 9).2 2).1)) (⟨#[]⟩) 0 (Al.mk 0 0 0 0) (OpL.mk 2 (As 8 2 [.i 4,.s (⟨#[]⟩),.i (W64 (1+(AA (AA (AA d 9).2 2).2 4).1)),.i 0,.i 0,.i 0,.i 0,vN,.i 2,.s ({ data := #[71,78,68] }:ByteArray),.i 0,.i 0,.i 0,.i 0,.i 0,vN])),Z2Y d) else (BL.mk 1 (⟨#[]⟩) 0 (Al.mk 0 0 0 0) (OpL.mk 0 (fun _ _=>default)),(AA d 9).2))))))))
abbrev Tg:List Cl:=[.i 5,.s (⟨#[]⟩),.i (W64 (1+(GI d).1)),.i 0,.i 0,.i 0,.i 0,vN]
abbrev HT:Nat×Blk:=(1000,.cells (AC.c (AA d 9).2) 146)
abbrev V9:List Cl:=[.i 7,.s (⟨#[]⟩),.i 0,.i 0,.i 0,.i (W64 (100+(W64 (50*(AA (AA d 9).2 6).1)))),.i 400,vN]
abbrev aQ:Nat×Tv:=(4,tI (AA d 9).1)
abbrev Vz:List Cl:=[.i 4,.s (⟨#[]⟩),.i (W64 (1+(AA (AA d 9).2 5).1)),.i 0,.i 0,.i 0,.i 0,vN]
abbrev Vy:List Cl:=[.i 6,.s (⟨#[]⟩),.i (W64 (1+(AA (AA d 9).2 3).1)),.i 0,.i 0,.i 0,.i 0,vN]
abbrev Vw:List Cl:=[.i 8,.s (⟨#[]⟩),.i 0,.i 0,.i 0,.i 0,.i 0,.list true 8 1 (As 8 1 (Tg d))]
abbrev HY (t_:List (Nat×Tv)):List (Nat×Tv):=(0,tP 1000 0)::(2,tP 2 0)::(aQ d)::t_
theorem Tw  (d:AC) (hd:Bf d):Wr Try.prog 85 1000 [.one (.ptr 1000 0)] (.cells (AC.c d) 146) (.av (.agg (BL.c (BE d).1))) (.cells (AC.c (BE d).2) 146):=by
 refine GX Try.func85 rfl kr kr kr kr fun W0 M0 X hX => ?_
 refine AB<|rn ⟨[(0,tP 1000 0),(2,tP 2 0)],[(2,Z2Q),(Hg d)]⟩ ?_
 refine AB<|AB ?_
 refine rb 4 (Z2R d) (GL d) ⟨(HY d []),[(2,Z2Q),(HT d)]⟩ (cWr (BS d 9 au4 au7))<|AH ?_
 refine AX<|AB ?_
 refine rn ⟨(HY d [(5,tB (decide (((AA d 9).1:Int)=0)))]),[(2,Z2Q),(HT d)]⟩ ?_
 refine Aa _ rfl (fun h1 => ?_) (fun h1 => ?_)
 ·have g1:=oT h1
  refine AB<|rc [(9,(Z2S d))] [Aw (Z2S d).2.1,Bu (HK d),0<=((AA (AA d 9).2 2).1:Int)/\((AA (AA d 9).2 2).1:Int)<((2:Nat):Int)] ⟨[(2,tP 2 0)],[(2,.cells [.i 2,.s (([({ data := #[78,49] }:ByteArray),({ data := #[71,78,68] }:ByteArray)]:List ByteArray).getD (GI d).1.toNat ⟨#[]⟩),.i 0,.i 0,.i 0,.i 0,.i 0,vN] 105),(1000,Z2T d)]⟩ (.cons (cWr (BS (AA d 9).2 2 au4 au7)) .nil) (.cons rfl (.cons rfl (.cons (by first | exact H8 _ _ _ (by decide) (by decide) (by decide) | decide | omega) .nil)))<|AH ?_
  refine Ae<|Cq<|Bb ?_
  exact xl (.av (.agg [.i 2,.s (([({ data := #[78,49] }:ByteArray),({ data := #[71,78,68] }:ByteArray)]:List ByteArray).getD (AA (AA d 9).2 2).1.toNat ⟨#[]⟩),.i 0,.i 0,.i 0,.i 0,.i 0,vN])) ⟨DI (y:=.av (.agg [.i 2,.s (([({ data := #[78,49] }:ByteArray),({ data := #[71,78,68] }:ByteArray)]:List ByteArray).getD (AA (AA d 9).2 2).1.toNat ⟨#[]⟩),.i 0,.i 0,.i 0,.i 0,.i 0,opL (OpL.mk 0 (fun _ _=>default))])) (.av (.agg (rr5 (rr2 (.cons (.nil _ _) .nil))))) (by unfold BE;rw [h1];rfl),.cells (AC.c (AA (AA d 9).2 2).2) 146,by kernel_rfl,DV (by unfold BE;rw [h1];kernel_rfl)⟩
 have g1:=oF h1
 refine AB<|rn ⟨(HY d [(13,tB (decide (((AA d 9).1:Int)=1)))]),[(2,Z2Q),(HT d)]⟩ ?_
 refine Aa _ rfl (fun h2 => ?_) (fun h2 => ?_)
 ·refine AB<|rn ⟨[(2,tP 2 0)],[(2,.cells [.i 3,.s ({ data := #[112,111,119,101,114] }:ByteArray),.i 0,.i 0,.i 0,.i 0,.i 0,vN] 105),(HT d)]⟩ ?_
  refine Ae<|Cq<|Bb ?_
  exact xl (.av (.agg [.i 3,.s ({ data := #[112,111,119,101,114] }:ByteArray),.i 0,.i 0,.i 0,.i 0,.i 0,vN])) ⟨DI (y:=.av (.agg [.i 3,.s ({ data := #[112,111,119,101,114] }:ByteArray),.i 0,.i 0,.i 0,.i 0,.i 0,opL (OpL.mk 0 (fun _ _=>default))])) (.av (.agg (rr5 (rr2 (.cons (.nil _ _) .nil))))) (by unfold BE;rw [h1,h2];rfl),.cells (AC.c (AA d 9).2) 146,by kernel_rfl,DV (by unfold BE;rw [h1,h2];kernel_rfl)⟩
 have g2:=oF h2
 refine AB<|rn ⟨(HY d [(16,tB (decide (((AA d 9).1:Int)=2)))]),[(2,Z2Q),(HT d)]⟩ ?_
 refine Aa _ rfl (fun h3 => ?_) (fun h3 => ?_)
 ·have g3:=oT h3
  refine AB<|rb 19 (Z2U d) (HK d) ⟨[(2,tP 2 0)],[(2,.cells (Vz d) 105),(1000,.cells (AC.c (AA (AA d 9).2 5).2) 146)]⟩ (cWr (BS (AA d 9).2 5 au4 au7))<|AH ?_
  refine Ae<|Cq<|Bb ?_
  exact xl (.av (.agg (Vz d))) ⟨DI (y:=.av (.agg [.i 4,.s (⟨#[]⟩),.i (W64 (1+(AA (AA d 9).2 5).1)),.i 0,.i 0,.i 0,.i 0,opL (OpL.mk 0 (fun _ _=>default))])) (.av (.agg (rr5 (rr2 (.cons (.nil _ _) .nil))))) (by unfold BE;rw [h1,h2,h3];rfl),.cells (AC.c (AA (AA d 9).2 5).2) 146,by kernel_rfl,DV (by unfold BE;rw [h1,h2,h3];kernel_rfl)⟩
 have g3:=oF h3
 refine AB<|rn ⟨(HY d [(22,tB (decide (((AA d 9).1:Int)=3)))]),[(2,Z2Q),(HT d)]⟩ ?_
 refine Aa _ rfl (fun h4 => ?_) (fun h4 => ?_)
 ·have g4:=oT h4
  refine AB<|rb 25 (Z2S d) (HK d) ⟨[(2,tP 2 0)],[(2,.cells (Tg d) 105),(1000,Z2T d)]⟩ (cWr (BS (AA d 9).2 2 au4 au7))<|AH ?_
  refine Ae<|Cq<|Bb ?_
  exact xl (.av (.agg (Tg d))) ⟨DI (y:=.av (.agg [.i 5,.s (⟨#[]⟩),.i (W64 (1+(AA (AA d 9).2 2).1)),.i 0,.i 0,.i 0,.i 0,opL (OpL.mk 0 (fun _ _=>default))])) (.av (.agg (rr5 (rr2 (.cons (.nil _ _) .nil))))) (by unfold BE;rw [h1,h2,h3,h4];rfl),.cells (AC.c (AA (AA d 9).2 2).2) 146,by kernel_rfl,DV (by unfold BE;rw [h1,h2,h3,h4];kernel_rfl)⟩
 have g4:=oF h4
 refine AB<|rn ⟨(HY d [(28,tB (decide (((AA d 9).1:Int)=4)))]),[(2,Z2Q),(HT d)]⟩ ?_
 refine Aa _ rfl (fun h5 => ?_) (fun h5 => ?_)
 ·have g5:=oT h5
  refine AB<|rb 31 (Z2V d) (HK d) ⟨[(2,tP 2 0)],[(2,.cells (Vy d) 105),(1000,.cells (AC.c (AA (AA d 9).2 3).2) 146)]⟩ (cWr (BS (AA d 9).2 3 au4 au7))<|AH ?_
  refine Ae<|Cq<|Bb ?_
  exact xl (.av (.agg (Vy d))) ⟨DI (y:=.av (.agg [.i 6,.s (⟨#[]⟩),.i (W64 (1+(AA (AA d 9).2 3).1)),.i 0,.i 0,.i 0,.i 0,opL (OpL.mk 0 (fun _ _=>default))])) (.av (.agg (rr5 (rr2 (.cons (.nil _ _) .nil))))) (by unfold BE;rw [h1,h2,h3,h4,h5];rfl),.cells (AC.c (AA (AA d 9).2 3).2) 146,by kernel_rfl,DV (by unfold BE;rw [h1,h2,h3,h4,h5];kernel_rfl)⟩
 have g5:=oF h5
 refine AB<|rn ⟨(HY d [(34,tB (decide (((AA d 9).1:Int)=5)))]),[(2,Z2Q),(HT d)]⟩ ?_
 refine Aa _ rfl (fun h6 => ?_) (fun h6 => ?_)
 ·have g6:=oT h6
  refine AB<|rb 37 (Z2W d) (HK d) ⟨[(2,tP 2 0)],[(2,.cells (V9 d) 105),(1000,.cells (AC.c (AA (AA d 9).2 6).2) 146)]⟩ (cWr (BS (AA d 9).2 6 au4 au7))<|AH ?_
  refine Ae<|Cq<|Bb ?_
  exact xl (.av (.agg (V9 d))) ⟨DI (y:=.av (.agg [.i 7,.s (⟨#[]⟩),.i 0,.i 0,.i 0,.i (W64 (100+(W64 (50*(AA (AA d 9).2 6).1)))),.i 400,opL (OpL.mk 0 (fun _ _=>default))])) (.av (.agg (rr5 (rr2 (.cons (.nil _ _) .nil))))) (by unfold BE;rw [h1,h2,h3,h4,h5,h6];rfl),.cells (AC.c (AA (AA d 9).2 6).2) 146,by kernel_rfl,DV (by unfold BE;rw [h1,h2,h3,h4,h5,h6];kernel_rfl)⟩
 have g6:=oF h6
 refine AB<|rn ⟨(HY d [(42,tB (decide (((AA d 9).1:Int)=6)))]),[(2,Z2Q),(HT d)]⟩ ?_
 refine Aa _ rfl (fun h7 => ?_) (fun h7 => ?_)
 ·have g7:=oT h7
  refine AB<|rb 45 (Z2S d) (HK d) ⟨[(2,tP 2 0)],[(2,.cells (Vw d) 105),(1000,Z2T d)]⟩ (cWr (BS (AA d 9).2 2 au4 au7))<|AH ?_
  refine Ae<|Cq<|Bb ?_
  exact xl (.av (.agg (Vw d))) ⟨DI (y:=.av (.agg [.i 8,.s (⟨#[]⟩),.i 0,.i 0,.i 0,.i 0,.i 0,opL (OpL.mk 1 (As 8 1 (Tg d)))])) (.av (.agg (rr5 (rr2 (.cons (.list true false _ _ _ _ (fun _ _ _ _=>.refl _) (fun h=>by cases h)) .nil))))) (by unfold BE;rw [h1,h2,h3,h4,h5,h6,h7];rfl),.cells (AC.c (AA (AA d 9).2 2).2) 146,by kernel_rfl,DV (by unfold BE;rw [h1,h2,h3,h4,h5,h6,h7];kernel_rfl)⟩
 have g7:=oF h7
 refine AB<|rn ⟨[(0,tP 1000 0),(2,tP 2 0),(50,tB (decide (((AA d 9).1:Int)=7)))],[(2,Z2Q),(HT d)]⟩ ?_
 refine Aa _ rfl (fun h8 => ?_) (fun h8 => ?_)
 ·have g8:=oT h8
  refine AB<|rc [(53,(Z2S d)),(56,(Z2X d))] [Aw (Z2S d).2.1,Bu (HK d),Aw (Z2X d).2.1,Bu (.cells (AC.c (AA (AA d 9).2 2).2) 146)] ⟨[(2,tP 2 0)],[(2,.cells [.i (W64 (9+(GI d).1)),.s (⟨#[]⟩),.i 0,.i 0,.i 0,.i 0,.i 0,.list true 8 2 (As 8 2 [.i 4,.s (⟨#[]⟩),.i (W64 (1+(AA (GI d).2 4).1)),.i 0,.i 0,.i 0,.i 0,vN,.i 2,.s ({ data := #[71,78,68] }:ByteArray),.i 0,.i 0,.i 0,.i 0,.i 0,vN])] 105),(1000,.cells (AC.c (Z2Y d)) 146)]⟩ (.cons (cWr (BS (AA d 9).2 2 au4 au7)) (.cons (cWr (BS (AA (AA d 9).2 2).2 4 au4 au7)) .nil)) (.cons rfl (.cons rfl (.cons rfl (.cons rfl .nil))))<|AH ?_
  refine Ae<|Cq<|Bb ?_
  exact xl (.av (.agg [.i (W64 (9+(AA (AA d 9).2 2).1)),.s (⟨#[]⟩),.i 0,.i 0,.i 0,.i 0,.i 0,.list true 8 2 (As 8 2 [.i 4,.s (⟨#[]⟩),.i (W64 (1+(AA (AA (AA d 9).2 2).2 4).1)),.i 0,.i 0,.i 0,.i 0,vN,.i 2,.s ({ data := #[71,78,68] }:ByteArray),.i 0,.i 0,.i 0,.i 0,.i 0,vN])])) ⟨DI (y:=.av (.agg [.i (W64 (9+(AA (AA d 9).2 2).1)),.s (⟨#[]⟩),.i 0,.i 0,.i 0,.i 0,.i 0,opL (OpL.mk 2 (As 8 2 [.i 4,.s (⟨#[]⟩),.i (W64 (1+(AA (AA (AA d 9).2 2).2 4).1)),.i 0,.i 0,.i 0,.i 0,vN,.i 2,.s ({ data := #[71,78,68] }:ByteArray),.i 0,.i 0,.i 0,.i 0,.i 0,vN]))])) (.av (.agg (rr5 (rr2 (.cons (.list true false _ _ _ _ (fun _ _ _ _=>.refl _) (fun h=>by cases h)) .nil))))) (by unfold BE;rw [h1,h2,h3,h4,h5,h6,h7,h8];rfl),.cells (AC.c (Z2Y d)) 146,by kernel_rfl,DV (by unfold BE;rw [h1,h2,h3,h4,h5,h6,h7,h8];kernel_rfl)⟩
 refine Ac<|Bd ?_
 refine AH<|AB ?_
 refine rn ⟨[(2,tP 2 0)],[(2,.cells PS 105),(HT d)]⟩<|Ae ?_
 exact xl (.av (.agg PS)) ⟨DI (y:=.av (.agg [.i 1,.s (⟨#[]⟩),.i 0,.i 0,.i 0,.i 0,.i 0,opL (OpL.mk 0 (fun _ _=>default))])) (.av (.agg (rr5 (rr2 (.cons (.nil _ _) .nil))))) (by unfold BE;rw [h1,h2,h3,h4,h5,h6,h7,h8];rfl),.cells (AC.c (AA d 9).2) 146,by kernel_rfl,DV (by unfold BE;rw [h1,h2,h3,h4,h5,h6,h7,h8];kernel_rfl)⟩
theorem VY {d:AC} (h:Bf d):Bf (BE d).2:=by
 unfold BE
 exact DU (BR (BR h)) (DU (BR h) (DU (BR (BR h)) (DU (BR (BR h)) (DU (BR (BR h)) (DU (BR (BR h)) (DU (BR (BR h)) (DU (BR (BR (BR h))) (BR h))))))))
abbrev WJ:List Cl:=[.i b.Layers,.any,.any,.any,lst 7 AF.c b.Parts,.any,lst 6 Aj.c b.Tracks,lst 8 Br.c b.Vias,lst 8 BB.c b.Pours,lst 5 BQ.c b.Keeps,lst 4 BX.c b.Slots,.any,.any,.any,.any]
def Z2Z:Blk:=.cells (WJ b) 42
def Z30:Blk:=.row 1 ([]:List Int).length (AU eIn ([]:List Int)) 3
def Z31:Tv:=.av (.one (.own 100000 1 ([]:List Int).length))
abbrev MA:=b.Parts.getD v4.toNat default
def Z32 (v3:List Int) (b:AG) (v4:Int):Blk:=.row 1 (v3++[(MA b v4).Id]).length (AU eIn (v3++[(MA b v4).Id])) 3
abbrev HN:=b.Tracks.getD v5.toNat default
def Z33 (v3':List Int) (b:AG) (v5:Int):Blk:=.row 1 (v3'++[(HN b v5).Id]).length (AU eIn (v3'++[(HN b v5).Id])) 3
abbrev L7:=b.Vias.getD v6.toNat default
def Z34 (v3'':List Int) (b:AG) (v6:Int):Blk:=.row 1 (v3''++[(L7 b v6).Id]).length (AU eIn (v3''++[(L7 b v6).Id])) 3
abbrev Hh:=b.Pours.getD v7.toNat default
def Z35 (v3''':List Int) (b:AG) (v7:Int):Blk:=.row 1 (v3'''++[(Hh b v7).Id]).length (AU eIn (v3'''++[(Hh b v7).Id])) 3
abbrev MB:=b.Keeps.getD v8.toNat default
def Z36 (v3'''':List Int) (b:AG) (v8:Int):Blk:=.row 1 (v3''''++[(MB b v8).Id]).length (AU eIn (v3''''++[(MB b v8).Id])) 3
abbrev L9:=b.Slots.getD v9.toNat default
def Z37 (v3''''':List Int) (b:AG) (v9:Int):Blk:=.row 1 (v3'''''++[(L9 b v9).Id]).length (AU eIn (v3'''''++[(L9 b v9).Id])) 3
def E1 (b:AG) (v3:List Int) (v4:Int) (v3':List Int) (v5:Int) (v3'':List Int) (v6:Int) (v3''':List Int) (v7:Int) (v3'''':List Int) (v8:Int) (K0:List Int->Int->(List Int)) (K1:List Int->Int->(List Int)) (K2:List Int->Int->(List Int)) (K3:List Int->Int->(List Int)) (K4:List Int->Int->(List Int)):Nat->List Int->Int->(List Int)
 | 0,_,_=>default
 | n5+1,v3''''',v9=>bif decide ((v9:Int)<(b.Slots.length:Int)) then ((E1 b v3 v4 v3' v5 v3'' v6 v3''' v7 v3'''' v8 K0 K1 K2 K3 K4 n5) (v3'''''++[(b.Slots.getD v9.toNat default).Id]) (v9+1)) else v3'''''
def D2 (b:AG) (v3:List Int) (v4:Int) (v3':List Int) (v5:Int) (v3'':List Int) (v6:Int) (v3''':List Int) (v7:Int) (K0:List Int->Int->(List Int)) (K1:List Int->Int->(List Int)) (K2:List Int->Int->(List Int)) (K3:List Int->Int->(List Int)):Nat->List Int->Int->(List Int)
 | 0,_,_=>default
 | n4+1,v3'''',v8=>bif decide ((v8:Int)<(b.Keeps.length:Int)) then ((D2 b v3 v4 v3' v5 v3'' v6 v3''' v7 K0 K1 K2 K3 n4) (v3''''++[(b.Keeps.getD v8.toNat default).Id]) (v8+1)) else (E1 b v3 v4 v3' v5 v3'' v6 v3''' v7 v3'''' v8 K0 K1 K2 K3 (D2 b v3 v4 v3' v5 v3'' v6 v3''' v7 K0 K1 K2 K3 n4) (((b.Slots.length:Int)-0).toNat+1) v3'''' 0)
def DY (b:AG) (v3:List Int) (v4:Int) (v3':List Int) (v5:Int) (v3'':List Int) (v6:Int) (K0:List Int->Int->(List Int)) (K1:List Int->Int->(List Int)) (K2:List Int->Int->(List Int)):Nat->List Int->Int->(List Int)
 | 0,_,_=>default
 | n3+1,v3''',v7=>bif decide ((v7:Int)<(b.Pours.length:Int)) then ((DY b v3 v4 v3' v5 v3'' v6 K0 K1 K2 n3) (v3'''++[(b.Pours.getD v7.toNat default).Id]) (v7+1)) else (D2 b v3 v4 v3' v5 v3'' v6 v3''' v7 K0 K1 K2 (DY b v3 v4 v3' v5 v3'' v6 K0 K1 K2 n3) (((b.Keeps.length:Int)-0).toNat+1) v3''' 0)
def Cf (b:AG) (v3:List Int) (v4:Int) (v3':List Int) (v5:Int) (K0:List Int->Int->(List Int)) (K1:List Int->Int->(List Int)):Nat->List Int->Int->(List Int)
 | 0,_,_=>default
 | n2+1,v3'',v6=>bif decide ((v6:Int)<(b.Vias.length:Int)) then ((Cf b v3 v4 v3' v5 K0 K1 n2) (v3''++[(b.Vias.getD v6.toNat default).Id]) (v6+1)) else (DY b v3 v4 v3' v5 v3'' v6 K0 K1 (Cf b v3 v4 v3' v5 K0 K1 n2) (((b.Pours.length:Int)-0).toNat+1) v3'' 0)
def Bp (b:AG) (v3:List Int) (v4:Int) (K0:List Int->Int->(List Int)):Nat->List Int->Int->(List Int)
 | 0,_,_=>default
 | n1+1,v3',v5=>bif decide ((v5:Int)<(b.Tracks.length:Int)) then ((Bp b v3 v4 K0 n1) (v3'++[(b.Tracks.getD v5.toNat default).Id]) (v5+1)) else (Cf b v3 v4 v3' v5 K0 (Bp b v3 v4 K0 n1) (((b.Vias.length:Int)-0).toNat+1) v3' 0)
def A7 (b:AG):Nat->List Int->Int->(List Int)
 | 0,_,_=>default
 | n0+1,v3,v4=>bif decide ((v4:Int)<(b.Parts.length:Int)) then ((A7 b n0) (v3++[(b.Parts.getD v4.toNat default).Id]) (v4+1)) else (Bp b v3 v4 (A7 b n0) (((b.Tracks.length:Int)-0).toNat+1) v3 0)
def EA (b:AG):(List Int):=A7 b (((b.Parts.length:Int)-0).toNat+1) ([]:List Int) 0
def TT:CT:=(86,[.agg (WJ b)],.val [] (.av (.one (lst 1 eIn (EA b)))))
abbrev KR:Nat×Tv:=(3,.av (.one vN))
theorem bH (b:AG) (h0:(b.Parts.length:Int)<=1000000) (h1:(b.Tracks.length:Int)<=1000000) (h2:(b.Vias.length:Int)<=1000000) (h3:(b.Pours.length:Int)<=1000000) (h4:(b.Keeps.length:Int)<=1000000) (h5:(b.Slots.length:Int)<=1000000):PuP 86 (TT b).2.1 (tO (lst 1 eIn (EA b))):=by
 refine pwf Try.func86 fun W0 M0 => ?_
 refine AB<|rn ⟨[(1,tP 1 0)],[(1,Z2Z b)]⟩<|AB ?_
 refine rn ⟨[(1,tP 1 0),KR],[(1,Z2Z b)]⟩ ?_
 refine AB<|AB ?_
 refine rn ⟨[(1,tP 1 0),KR,(4,tI 0)],[(1,Z2Z b)]⟩<|AX ?_
 refine BN (Cv.trans (wg (⟨[(1,tP 1 0),(3,tO (.own 100000 1 0)),(4,tI 0)],[(100000,.row 1 0 (fun _ _=>default) 3),(1,Z2Z b)]⟩) 100000 1 (fun _ _=>default) 3 [(3,[0])] [] hk0) (Cv.trans (BF (⟨[(1,tP 1 0),(3,Z31),(4,tI 0)],[(100000,Z30),(1,Z2Z b)]⟩) (.cons ⟨rfl,.refl _⟩ (.cons ⟨rfl,.av (.one (.own _ _ au0))⟩ lr)) (.cons ⟨rfl,Ai 3 (B8 1 (fun _ _=>default) eIn)⟩ lr)) (Cv.trans (ck (⟨[(1,tP 1 0),(3,Z31),(4,tI 0)],[(1,Z2Z b),(100000,Z30)]⟩)) (Cv.refl _)))) ?_
 refine BH (ι:=Nat×List Int×Int) (fun x=>⟨[(1,tP 1 0),(3,tO (.own 100000 1 x.2.1.length)),(4,tI x.2.2)],[(1,Z2Z b),(100000,.row 1 x.2.1.length (AU eIn x.2.1) 3)]⟩) (fun x=>((b.Parts.length:Int)-x.2.2).toNat<x.1/\(0<=x.2.2/\(x.2.2<=(b.Parts.length:Int)\/x.2.2=0)/\(x.2.1.length:Int)<=0+1*(x.2.2-0))/\A7 b x.1 x.2.1 x.2.2=EA b) (fun x=>x.1) ?_ (((b.Parts.length:Int)-0).toNat+1,([]:List Int),0) ⟨Nat.lt_succ_self _,⟨ax0,ax0,ax0⟩,(by simp only [EA,cond_true,cond_false])⟩
 rintro ⟨n0,v3,v4⟩ ⟨hm0,hinv0,hF0⟩
 try dsimp only at hm0 hinv0 hF0
 cases n0 with | zero=>exact nz hm0 | succ n0 => ?_
 refine AB<|AB ?_
 refine rn ⟨[(1,tP 1 0),(3,tO (.own 100000 1 v3.length)),(4,tI v4),(14,tB (decide ((v4:Int)<(b.Parts.length:Int))))],[(1,Z2Z b),(100000,.row 1 v3.length (AU eIn v3) 3)]⟩ ?_
 refine Aa _ rfl (fun h1 => ?_) (fun h1 => ?_)
 ·have g1:=oT h1
  refine Ac<|AH ?_
  refine AB<|AX ?_
  refine rc [] [0<=(v4:Int)/\(v4:Int)<((b.Parts.length:Nat):Int),v3.length=v3.length,v3.length+1<=maxLen,(v3.length+1)*8<=140737488355328] ⟨[(1,tP 1 0),(3,tO (.own 25 1 (v3.length+1))),(4,tI v4)],[(1,Z2Z b),(25,.row 1 (v3.length+1) (fun i_ j_=>if i_<v3.length then (AU eIn v3) i_ j_ else (As 1 1 [.i (MA b v4).Id]) (i_-v3.length) j_) 3)]⟩ .nil (.cons au1 (.cons rfl (.cons au3 (.cons au3 .nil))))<|Bd<|AH ?_
  refine BN (Cv.trans (BF (⟨[(1,tP 1 0),(3,tO (.own 25 1 (v3++[(MA b v4).Id]).length)),(4,tI v4)],[(1,Z2Z b),(25,Z32 v3 b v4)]⟩) (.cons ⟨rfl,.refl _⟩ (.cons ⟨rfl,.av (.one (.own _ _ au0))⟩ lr)) (.cons ⟨rfl,.refl _⟩ (.cons ⟨rfl,Ai 3 (BO (BA 1 eIn v3) (Ar (c:=eIn) (xs:=([(b.Parts.getD v4.toNat default).Id]:List Int)) rfl kr))⟩ .nil))) (Cv.refl _)) ?_
  refine rg ⟨[(1,tP 1 0),(3,tO (.own 25 1 (v3++[(MA b v4).Id]).length)),(4,tI (W64 (v4+1)))],[(1,Z2Z b),(25,Z32 v3 b v4)]⟩ ?_
  (try rw [(show W64 (v4+1)=v4+1 from Ao oM au6)])
  refine AH ?_
  refine ⟨(n0,v3++[(b.Parts.getD v4.toNat default).Id],v4+1),⟨?_,?_,(by rw [<- hF0];simp only [A7,h1,cond_true,cond_false])⟩,Nat.lt_succ_self _,Cv.trans (vr 25 100000 hk0) (A6 kr)⟩
  ·show ((b.Parts.length:Int)-(v4+1)).toNat<n0;omega
  exact ⟨ax0,ax0,ax0⟩
 have g1:=oF h1
 refine BJ<|A4 ?_
 refine A4<|BK ?_
 refine AH<|AB<|AB ?_
 refine rn ⟨[(1,tP 1 0),(3,tO (.own 100000 1 v3.length)),(5,tI 0)],[(1,Z2Z b),(100000,.row 1 v3.length (AU eIn v3) 3)]⟩<|AX ?_
 refine BH (ι:=Nat×List Int×Int) (fun x=>⟨[(1,tP 1 0),(3,tO (.own 100000 1 x.2.1.length)),(5,tI x.2.2)],[(1,Z2Z b),(100000,.row 1 x.2.1.length (AU eIn x.2.1) 3)]⟩) (fun x=>((b.Tracks.length:Int)-x.2.2).toNat<x.1/\(0<=x.2.2/\(x.2.2<=(b.Tracks.length:Int)\/x.2.2=0)/\(x.2.1.length:Int)<=(v3.length:Int)+1*(x.2.2-0))/\Bp b v3 v4 (A7 b n0) x.1 x.2.1 x.2.2=EA b) (fun x=>x.1) ?_ (((b.Tracks.length:Int)-0).toNat+1,v3,0) ⟨Nat.lt_succ_self _,⟨ax0,ax0,ax0⟩,(by rw [<- hF0];simp only [A7,h1,cond_true,cond_false])⟩
 rintro ⟨n1,v3',v5⟩ ⟨hm1,hinv1,hF1⟩
 try dsimp only at hm1 hinv1 hF1
 cases n1 with | zero=>exact nz hm1 | succ n1 => ?_
 refine AB<|AB ?_
 refine rn ⟨[(1,tP 1 0),(3,tO (.own 100000 1 v3'.length)),(5,tI v5),(30,tB (decide ((v5:Int)<(b.Tracks.length:Int))))],[(1,Z2Z b),(100000,.row 1 v3'.length (AU eIn v3') 3)]⟩ ?_
 refine Aa _ rfl (fun h2 => ?_) (fun h2 => ?_)
 ·have g2:=oT h2
  refine Ac<|AH ?_
  refine AB<|AX ?_
  refine rc [] [0<=(v5:Int)/\(v5:Int)<((b.Tracks.length:Nat):Int),v3'.length=v3'.length,v3'.length+1<=maxLen,(v3'.length+1)*8<=140737488355328] ⟨[(1,tP 1 0),(3,tO (.own 41 1 (v3'.length+1))),(5,tI v5)],[(1,Z2Z b),(41,.row 1 (v3'.length+1) (fun i_ j_=>if i_<v3'.length then (AU eIn v3') i_ j_ else (As 1 1 [.i (HN b v5).Id]) (i_-v3'.length) j_) 3)]⟩ .nil (.cons au1 (.cons rfl (.cons au3 (.cons au3 .nil))))<|Bd<|AH ?_
  refine BN (Cv.trans (BF (⟨[(1,tP 1 0),(3,tO (.own 41 1 (v3'++[(HN b v5).Id]).length)),(5,tI v5)],[(1,Z2Z b),(41,Z33 v3' b v5)]⟩) (.cons ⟨rfl,.refl _⟩ (.cons ⟨rfl,.av (.one (.own _ _ au0))⟩ lr)) (.cons ⟨rfl,.refl _⟩ (.cons ⟨rfl,Ai 3 (BO (BA 1 eIn v3') (Ar (c:=eIn) (xs:=([(b.Tracks.getD v5.toNat default).Id]:List Int)) rfl kr))⟩ .nil))) (Cv.refl _)) ?_
  refine rg ⟨[(1,tP 1 0),(3,tO (.own 41 1 (v3'++[(HN b v5).Id]).length)),(5,tI (W64 (v5+1)))],[(1,Z2Z b),(41,Z33 v3' b v5)]⟩ ?_
  (try rw [(show W64 (v5+1)=v5+1 from Ao oM au6)])
  refine AH ?_
  refine ⟨(n1,v3'++[(b.Tracks.getD v5.toNat default).Id],v5+1),⟨?_,?_,(by rw [<- hF1];simp only [Bp,h2,cond_true,cond_false])⟩,Nat.lt_succ_self _,Cv.trans (vr 41 100000 hk0) (A6 kr)⟩
  ·show ((b.Tracks.length:Int)-(v5+1)).toNat<n1;omega
  exact ⟨ax0,ax0,ax0⟩
 have g2:=oF h2
 refine BJ<|A4 ?_
 refine A4<|BK ?_
 refine AH<|AB<|AB ?_
 refine rn ⟨[(1,tP 1 0),(3,tO (.own 100000 1 v3'.length)),(6,tI 0)],[(1,Z2Z b),(100000,.row 1 v3'.length (AU eIn v3') 3)]⟩<|AX ?_
 refine BH (ι:=Nat×List Int×Int) (fun x=>⟨[(1,tP 1 0),(3,tO (.own 100000 1 x.2.1.length)),(6,tI x.2.2)],[(1,Z2Z b),(100000,.row 1 x.2.1.length (AU eIn x.2.1) 3)]⟩) (fun x=>((b.Vias.length:Int)-x.2.2).toNat<x.1/\(0<=x.2.2/\(x.2.2<=(b.Vias.length:Int)\/x.2.2=0)/\(x.2.1.length:Int)<=(v3'.length:Int)+1*(x.2.2-0))/\Cf b v3 v4 v3' v5 (A7 b n0) (Bp b v3 v4 (A7 b n0) n1) x.1 x.2.1 x.2.2=EA b) (fun x=>x.1) ?_ (((b.Vias.length:Int)-0).toNat+1,v3',0) ⟨Nat.lt_succ_self _,⟨ax0,ax0,ax0⟩,(by rw [<- hF1];simp only [Bp,h2,cond_true,cond_false])⟩
 rintro ⟨n2,v3'',v6⟩ ⟨hm2,hinv2,hF2⟩
 try dsimp only at hm2 hinv2 hF2
 cases n2 with | zero=>exact nz hm2 | succ n2 => ?_
 refine AB<|AB ?_
 refine rn ⟨[(1,tP 1 0),(3,tO (.own 100000 1 v3''.length)),(6,tI v6),(46,tB (decide ((v6:Int)<(b.Vias.length:Int))))],[(1,Z2Z b),(100000,.row 1 v3''.length (AU eIn v3'') 3)]⟩ ?_
 refine Aa _ rfl (fun h3 => ?_) (fun h3 => ?_)
 ·have g3:=oT h3
  refine Ac<|AH ?_
  refine AB<|AX ?_
  refine rc [] [0<=(v6:Int)/\(v6:Int)<((b.Vias.length:Nat):Int),v3''.length=v3''.length,v3''.length+1<=maxLen,(v3''.length+1)*8<=140737488355328] ⟨[(1,tP 1 0),(3,tO (.own 57 1 (v3''.length+1))),(6,tI v6)],[(1,Z2Z b),(57,.row 1 (v3''.length+1) (fun i_ j_=>if i_<v3''.length then (AU eIn v3'') i_ j_ else (As 1 1 [.i (L7 b v6).Id]) (i_-v3''.length) j_) 3)]⟩ .nil (.cons au1 (.cons rfl (.cons au3 (.cons au3 .nil))))<|Bd<|AH ?_
  refine BN (Cv.trans (BF (⟨[(1,tP 1 0),(3,tO (.own 57 1 (v3''++[(L7 b v6).Id]).length)),(6,tI v6)],[(1,Z2Z b),(57,Z34 v3'' b v6)]⟩) (.cons ⟨rfl,.refl _⟩ (.cons ⟨rfl,.av (.one (.own _ _ au0))⟩ lr)) (.cons ⟨rfl,.refl _⟩ (.cons ⟨rfl,Ai 3 (BO (BA 1 eIn v3'') (Ar (c:=eIn) (xs:=([(b.Vias.getD v6.toNat default).Id]:List Int)) rfl kr))⟩ .nil))) (Cv.refl _)) ?_
  refine rg ⟨[(1,tP 1 0),(3,tO (.own 57 1 (v3''++[(L7 b v6).Id]).length)),(6,tI (W64 (v6+1)))],[(1,Z2Z b),(57,Z34 v3'' b v6)]⟩ ?_
  (try rw [(show W64 (v6+1)=v6+1 from Ao oM au6)])
  refine AH ?_
  refine ⟨(n2,v3''++[(b.Vias.getD v6.toNat default).Id],v6+1),⟨?_,?_,(by rw [<- hF2];simp only [Cf,h3,cond_true,cond_false])⟩,Nat.lt_succ_self _,Cv.trans (vr 57 100000 hk0) (A6 kr)⟩
  ·show ((b.Vias.length:Int)-(v6+1)).toNat<n2;omega
  exact ⟨ax0,ax0,ax0⟩
 have g3:=oF h3
 refine BJ<|A4 ?_
 refine A4<|BK ?_
 refine AH<|AB<|AB ?_
 refine rn ⟨[(1,tP 1 0),(3,tO (.own 100000 1 v3''.length)),(7,tI 0)],[(1,Z2Z b),(100000,.row 1 v3''.length (AU eIn v3'') 3)]⟩<|AX ?_
 refine BH (ι:=Nat×List Int×Int) (fun x=>⟨[(1,tP 1 0),(3,tO (.own 100000 1 x.2.1.length)),(7,tI x.2.2)],[(1,Z2Z b),(100000,.row 1 x.2.1.length (AU eIn x.2.1) 3)]⟩) (fun x=>((b.Pours.length:Int)-x.2.2).toNat<x.1/\(0<=x.2.2/\(x.2.2<=(b.Pours.length:Int)\/x.2.2=0)/\(x.2.1.length:Int)<=(v3''.length:Int)+1*(x.2.2-0))/\DY b v3 v4 v3' v5 v3'' v6 (A7 b n0) (Bp b v3 v4 (A7 b n0) n1) (Cf b v3 v4 v3' v5 (A7 b n0) (Bp b v3 v4 (A7 b n0) n1) n2) x.1 x.2.1 x.2.2=EA b) (fun x=>x.1) ?_ (((b.Pours.length:Int)-0).toNat+1,v3'',0) ⟨Nat.lt_succ_self _,⟨ax0,ax0,ax0⟩,(by rw [<- hF2];simp only [Cf,h3,cond_true,cond_false])⟩
 rintro ⟨n3,v3''',v7⟩ ⟨hm3,hinv3,hF3⟩
 try dsimp only at hm3 hinv3 hF3
 cases n3 with | zero=>exact nz hm3 | succ n3 => ?_
 refine AB<|AB ?_
 refine rn ⟨[(1,tP 1 0),(3,tO (.own 100000 1 v3'''.length)),(7,tI v7),(62,tB (decide ((v7:Int)<(b.Pours.length:Int))))],[(1,Z2Z b),(100000,.row 1 v3'''.length (AU eIn v3''') 3)]⟩ ?_
 refine Aa _ rfl (fun h4 => ?_) (fun h4 => ?_)
 ·have g4:=oT h4
  refine Ac<|AH ?_
  refine AB<|AX ?_
  refine rc [] [0<=(v7:Int)/\(v7:Int)<((b.Pours.length:Nat):Int),v3'''.length=v3'''.length,v3'''.length+1<=maxLen,(v3'''.length+1)*8<=140737488355328] ⟨[(1,tP 1 0),(3,tO (.own 73 1 (v3'''.length+1))),(7,tI v7)],[(1,Z2Z b),(73,.row 1 (v3'''.length+1) (fun i_ j_=>if i_<v3'''.length then (AU eIn v3''') i_ j_ else (As 1 1 [.i (Hh b v7).Id]) (i_-v3'''.length) j_) 3)]⟩ .nil (.cons au1 (.cons rfl (.cons au3 (.cons au3 .nil))))<|Bd<|AH ?_
  refine BN (Cv.trans (BF (⟨[(1,tP 1 0),(3,tO (.own 73 1 (v3'''++[(Hh b v7).Id]).length)),(7,tI v7)],[(1,Z2Z b),(73,Z35 v3''' b v7)]⟩) (.cons ⟨rfl,.refl _⟩ (.cons ⟨rfl,.av (.one (.own _ _ au0))⟩ lr)) (.cons ⟨rfl,.refl _⟩ (.cons ⟨rfl,Ai 3 (BO (BA 1 eIn v3''') (Ar (c:=eIn) (xs:=([(b.Pours.getD v7.toNat default).Id]:List Int)) rfl kr))⟩ .nil))) (Cv.refl _)) ?_
  refine rg ⟨[(1,tP 1 0),(3,tO (.own 73 1 (v3'''++[(Hh b v7).Id]).length)),(7,tI (W64 (v7+1)))],[(1,Z2Z b),(73,Z35 v3''' b v7)]⟩ ?_
  (try rw [(show W64 (v7+1)=v7+1 from Ao oM au6)])
  refine AH ?_
  refine ⟨(n3,v3'''++[(b.Pours.getD v7.toNat default).Id],v7+1),⟨?_,?_,(by rw [<- hF3];simp only [DY,h4,cond_true,cond_false])⟩,Nat.lt_succ_self _,Cv.trans (vr 73 100000 hk0) (A6 kr)⟩
  ·show ((b.Pours.length:Int)-(v7+1)).toNat<n3;omega
  exact ⟨ax0,ax0,ax0⟩
 have g4:=oF h4
 refine BJ<|A4 ?_
 refine A4<|BK ?_
 refine AH<|AB<|AB ?_
 refine rn ⟨[(1,tP 1 0),(3,tO (.own 100000 1 v3'''.length)),(8,tI 0)],[(1,Z2Z b),(100000,.row 1 v3'''.length (AU eIn v3''') 3)]⟩<|AX ?_
 refine BH (ι:=Nat×List Int×Int) (fun x=>⟨[(1,tP 1 0),(3,tO (.own 100000 1 x.2.1.length)),(8,tI x.2.2)],[(1,Z2Z b),(100000,.row 1 x.2.1.length (AU eIn x.2.1) 3)]⟩) (fun x=>((b.Keeps.length:Int)-x.2.2).toNat<x.1/\(0<=x.2.2/\(x.2.2<=(b.Keeps.length:Int)\/x.2.2=0)/\(x.2.1.length:Int)<=(v3'''.length:Int)+1*(x.2.2-0))/\D2 b v3 v4 v3' v5 v3'' v6 v3''' v7 (A7 b n0) (Bp b v3 v4 (A7 b n0) n1) (Cf b v3 v4 v3' v5 (A7 b n0) (Bp b v3 v4 (A7 b n0) n1) n2) (DY b v3 v4 v3' v5 v3'' v6 (A7 b n0) (Bp b v3 v4 (A7 b n0) n1) (Cf b v3 v4 v3' v5 (A7 b n0) (Bp b v3 v4 (A7 b n0) n1) n2) n3) x.1 x.2.1 x.2.2=EA b) (fun x=>x.1) ?_ (((b.Keeps.length:Int)-0).toNat+1,v3''',0) ⟨Nat.lt_succ_self _,⟨ax0,ax0,ax0⟩,(by rw [<- hF3];simp only [DY,h4,cond_true,cond_false])⟩
 rintro ⟨n4,v3'''',v8⟩ ⟨hm4,hinv4,hF4⟩
 try dsimp only at hm4 hinv4 hF4
 cases n4 with | zero=>exact nz hm4 | succ n4 => ?_
 refine AB<|AB ?_
 refine rn ⟨[(1,tP 1 0),(3,tO (.own 100000 1 v3''''.length)),(8,tI v8),(78,tB (decide ((v8:Int)<(b.Keeps.length:Int))))],[(1,Z2Z b),(100000,.row 1 v3''''.length (AU eIn v3'''') 3)]⟩ ?_
 refine Aa _ rfl (fun h5 => ?_) (fun h5 => ?_)
 ·have g5:=oT h5
  refine Ac<|AH ?_
  refine AB<|AX ?_
  refine rc [] [0<=(v8:Int)/\(v8:Int)<((b.Keeps.length:Nat):Int),v3''''.length=v3''''.length,v3''''.length+1<=maxLen,(v3''''.length+1)*8<=140737488355328] ⟨[(1,tP 1 0),(3,tO (.own 89 1 (v3''''.length+1))),(8,tI v8)],[(1,Z2Z b),(89,.row 1 (v3''''.length+1) (fun i_ j_=>if i_<v3''''.length then (AU eIn v3'''') i_ j_ else (As 1 1 [.i (MB b v8).Id]) (i_-v3''''.length) j_) 3)]⟩ .nil (.cons au1 (.cons rfl (.cons au3 (.cons au3 .nil))))<|Bd<|AH ?_
  refine BN (Cv.trans (BF (⟨[(1,tP 1 0),(3,tO (.own 89 1 (v3''''++[(MB b v8).Id]).length)),(8,tI v8)],[(1,Z2Z b),(89,Z36 v3'''' b v8)]⟩) (.cons ⟨rfl,.refl _⟩ (.cons ⟨rfl,.av (.one (.own _ _ au0))⟩ lr)) (.cons ⟨rfl,.refl _⟩ (.cons ⟨rfl,Ai 3 (BO (BA 1 eIn v3'''') (Ar (c:=eIn) (xs:=([(b.Keeps.getD v8.toNat default).Id]:List Int)) rfl kr))⟩ .nil))) (Cv.refl _)) ?_
  refine rg ⟨[(1,tP 1 0),(3,tO (.own 89 1 (v3''''++[(MB b v8).Id]).length)),(8,tI (W64 (v8+1)))],[(1,Z2Z b),(89,Z36 v3'''' b v8)]⟩ ?_
  (try rw [(show W64 (v8+1)=v8+1 from Ao oM au6)])
  refine AH ?_
  refine ⟨(n4,v3''''++[(b.Keeps.getD v8.toNat default).Id],v8+1),⟨?_,?_,(by rw [<- hF4];simp only [D2,h5,cond_true,cond_false])⟩,Nat.lt_succ_self _,Cv.trans (vr 89 100000 hk0) (A6 kr)⟩
  ·show ((b.Keeps.length:Int)-(v8+1)).toNat<n4;omega
  exact ⟨ax0,ax0,ax0⟩
 have g5:=oF h5
 refine BJ<|A4 ?_
 refine A4<|BK ?_
 refine AH<|AB<|AB ?_
 refine rn ⟨[(1,tP 1 0),(3,tO (.own 100000 1 v3''''.length)),(9,tI 0)],[(1,Z2Z b),(100000,.row 1 v3''''.length (AU eIn v3'''') 3)]⟩<|AX ?_
 refine BH (ι:=Nat×List Int×Int) (fun x=>⟨[(1,tP 1 0),(3,tO (.own 100000 1 x.2.1.length)),(9,tI x.2.2)],[(1,Z2Z b),(100000,.row 1 x.2.1.length (AU eIn x.2.1) 3)]⟩) (fun x=>((b.Slots.length:Int)-x.2.2).toNat<x.1/\(0<=x.2.2/\(x.2.2<=(b.Slots.length:Int)\/x.2.2=0)/\(x.2.1.length:Int)<=(v3''''.length:Int)+1*(x.2.2-0))/\E1 b v3 v4 v3' v5 v3'' v6 v3''' v7 v3'''' v8 (A7 b n0) (Bp b v3 v4 (A7 b n0) n1) (Cf b v3 v4 v3' v5 (A7 b n0) (Bp b v3 v4 (A7 b n0) n1) n2) (DY b v3 v4 v3' v5 v3'' v6 (A7 b n0) (Bp b v3 v4 (A7 b n0) n1) (Cf b v3 v4 v3' v5 (A7 b n0) (Bp b v3 v4 (A7 b n0) n1) n2) n3) (D2 b v3 v4 v3' v5 v3'' v6 v3''' v7 (A7 b n0) (Bp b v3 v4 (A7 b n0) n1) (Cf b v3 v4 v3' v5 (A7 b n0) (Bp b v3 v4 (A7 b n0) n1) n2) (DY b v3 v4 v3' v5 v3'' v6 (A7 b n0) (Bp b v3 v4 (A7 b n0) n1) (Cf b v3 v4 v3' v5 (A7 b n0) (Bp b v3 v4 (A7 b n0) n1) n2) n3) n4) x.1 x.2.1 x.2.2=EA b) (fun x=>x.1) ?_ (((b.Slots.length:Int)-0).toNat+1,v3'''',0) ⟨Nat.lt_succ_self _,⟨ax0,ax0,ax0⟩,(by rw [<- hF4];simp only [D2,h5,cond_true,cond_false])⟩
 rintro ⟨n5,v3''''',v9⟩ ⟨hm5,hinv5,hF5⟩
 try dsimp only at hm5 hinv5 hF5
 cases n5 with | zero=>exact nz hm5 | succ n5 => ?_
 refine AB<|AB ?_
 refine rn ⟨[(1,tP 1 0),(3,tO (.own 100000 1 v3'''''.length)),(9,tI v9),(94,tB (decide ((v9:Int)<(b.Slots.length:Int))))],[(1,Z2Z b),(100000,.row 1 v3'''''.length (AU eIn v3''''') 3)]⟩ ?_
 refine Aa _ rfl (fun h6 => ?_) (fun h6 => ?_)
 ·have g6:=oT h6
  refine Ac<|AH ?_
  refine AB<|AX ?_
  refine rc [] [0<=(v9:Int)/\(v9:Int)<((b.Slots.length:Nat):Int),v3'''''.length=v3'''''.length,v3'''''.length+1<=maxLen,(v3'''''.length+1)*8<=140737488355328] ⟨[(1,tP 1 0),(3,tO (.own 105 1 (v3'''''.length+1))),(9,tI v9)],[(1,Z2Z b),(105,.row 1 (v3'''''.length+1) (fun i_ j_=>if i_<v3'''''.length then (AU eIn v3''''') i_ j_ else (As 1 1 [.i (L9 b v9).Id]) (i_-v3'''''.length) j_) 3)]⟩ .nil (.cons au1 (.cons rfl (.cons au3 (.cons au3 .nil))))<|Bd<|AH ?_
  refine BN (Cv.trans (BF (⟨[(1,tP 1 0),(3,tO (.own 105 1 (v3'''''++[(L9 b v9).Id]).length)),(9,tI v9)],[(1,Z2Z b),(105,Z37 v3''''' b v9)]⟩) (.cons ⟨rfl,.refl _⟩ (.cons ⟨rfl,.av (.one (.own _ _ au0))⟩ lr)) (.cons ⟨rfl,.refl _⟩ (.cons ⟨rfl,Ai 3 (BO (BA 1 eIn v3''''') (Ar (c:=eIn) (xs:=([(b.Slots.getD v9.toNat default).Id]:List Int)) rfl kr))⟩ .nil))) (Cv.refl _)) ?_
  refine rg ⟨[(1,tP 1 0),(3,tO (.own 105 1 (v3'''''++[(L9 b v9).Id]).length)),(9,tI (W64 (v9+1)))],[(1,Z2Z b),(105,Z37 v3''''' b v9)]⟩ ?_
  (try rw [(show W64 (v9+1)=v9+1 from Ao oM au6)])
  refine AH ?_
  refine ⟨(n5,v3'''''++[(b.Slots.getD v9.toNat default).Id],v9+1),⟨?_,?_,(by rw [<- hF5];simp only [E1,h6,cond_true,cond_false])⟩,Nat.lt_succ_self _,Cv.trans (vr 105 100000 hk0) (A6 kr)⟩
  ·show ((b.Slots.length:Int)-(v9+1)).toNat<n5;omega
  exact ⟨ax0,ax0,ax0⟩
 refine BJ<|A4 ?_
 refine A4<|BK ?_
 refine AH<|AB ?_
 refine rn ⟨[(2,tO (.own 100000 1 v3'''''.length))],[(100000,.row 1 v3'''''.length (AU eIn v3''''') 3)]⟩<|Ae ?_
 exact yl (Cv.trans (vf 100000 1 v3'''''.length (AU eIn v3''''') 3 hk0 (.cons ⟨rfl,rfl⟩ .nil)) (Cv.refl _)) (tO (lst 1 eIn v3''''')) (An (by rw [<- hF5];first | (simp only [E1,h6,cond_true,cond_false] <;> rfl)))
theorem ZQ (b:AG) (h0:(b.Parts.length:Int)<=1000000) (h1:(b.Tracks.length:Int)<=1000000) (h2:(b.Vias.length:Int)<=1000000) (h3:(b.Pours.length:Int)<=1000000) (h4:(b.Keeps.length:Int)<=1000000) (h5:(b.Slots.length:Int)<=1000000):OKc (TT b):=cPu<|bH b h0 h1 h2 h3 h4 h5
theorem Xj (b:AG) (v3:List Int) (v4:Int) (v3':List Int) (v5:Int) (v3'':List Int) (v6:Int) (v3''':List Int) (v7:Int) (v3'''':List Int) (v8:Int) (K0:List Int->Int->List Int) (K1:List Int->Int->List Int) (K2:List Int->Int->List Int) (K3:List Int->Int->List Int) (K4:List Int->Int->List Int):∀ (n:Nat) (v:List Int) (i:Int),0<=i->i<=b.Slots.length->((b.Slots.length:Int)-i).toNat<n->((E1 b v3 v4 v3' v5 v3'' v6 v3''' v7 v3'''' v8 K0 K1 K2 K3 K4 n v i).length:Int)=v.length+((b.Slots.length:Int)-i)
 | 0,v,i,h0,h1,h2=>absurd h2 (Nat.not_lt_zero _)
 | n+1,v,i,h0,h1,h2=>by
  unfold E1
  by_cases h:i<(b.Slots.length:Int)
  ·simp only [h,decide_true,cond_true]
   have:=Xj b v3 v4 v3' v5 v3'' v6 v3''' v7 v3'''' v8 K0 K1 K2 K3 K4 n (v++[(b.Slots.getD i.toNat default).Id]) (i+1) (by omega) (by omega) (by omega)
   rw [this]
   simp only [List.length_append,List.length_cons,List.length_nil]
   omega
  simp only [h,decide_false,cond_false]
  omega
theorem Xk (b:AG) (v3:List Int) (v4:Int) (v3':List Int) (v5:Int) (v3'':List Int) (v6:Int) (v3''':List Int) (v7:Int) (K0:List Int->Int->List Int) (K1:List Int->Int->List Int) (K2:List Int->Int->List Int) (K3:List Int->Int->List Int):∀ (n:Nat) (v:List Int) (i:Int),0<=i->i<=b.Keeps.length->((b.Keeps.length:Int)-i).toNat<n->((D2 b v3 v4 v3' v5 v3'' v6 v3''' v7 K0 K1 K2 K3 n v i).length:Int)=v.length+((b.Keeps.length:Int)-i)+(b.Slots.length:Int)
 | 0,v,i,h0,h1,h2=>absurd h2 (Nat.not_lt_zero _)
 | n+1,v,i,h0,h1,h2=>by
  unfold D2
  by_cases h:i<(b.Keeps.length:Int)
  ·simp only [h,decide_true,cond_true]
   have:=Xk b v3 v4 v3' v5 v3'' v6 v3''' v7 K0 K1 K2 K3 n (v++[(b.Keeps.getD i.toNat default).Id]) (i+1) (by omega) (by omega) (by omega)
   rw [this]
   simp only [List.length_append,List.length_cons,List.length_nil]
   omega
  simp only [h,decide_false,cond_false]
  rw [Xj _ _ _ _ _ _ _ _ _ _ _ _ _ _ _ _ _ v 0 (by omega) (by omega) (by omega)]
  omega
theorem Xl (b:AG) (v3:List Int) (v4:Int) (v3':List Int) (v5:Int) (v3'':List Int) (v6:Int) (K0:List Int->Int->List Int) (K1:List Int->Int->List Int) (K2:List Int->Int->List Int):∀ (n:Nat) (v:List Int) (i:Int),0<=i->i<=b.Pours.length->((b.Pours.length:Int)-i).toNat<n->((DY b v3 v4 v3' v5 v3'' v6 K0 K1 K2 n v i).length:Int)=v.length+((b.Pours.length:Int)-i)+(b.Keeps.length:Int)+(b.Slots.length:Int)
 | 0,v,i,h0,h1,h2=>absurd h2 (Nat.not_lt_zero _)
 | n+1,v,i,h0,h1,h2=>by
  unfold DY
  by_cases h:i<(b.Pours.length:Int)
  ·simp only [h,decide_true,cond_true]
   have:=Xl b v3 v4 v3' v5 v3'' v6 K0 K1 K2 n (v++[(b.Pours.getD i.toNat default).Id]) (i+1) (by omega) (by omega) (by omega)
   rw [this]
   simp only [List.length_append,List.length_cons,List.length_nil]
   omega
  simp only [h,decide_false,cond_false]
  rw [Xk _ _ _ _ _ _ _ _ _ _ _ _ _ _ v 0 (by omega) (by omega) (by omega)]
  omega
theorem Xm (b:AG) (v3:List Int) (v4:Int) (v3':List Int) (v5:Int) (K0:List Int->Int->List Int) (K1:List Int->Int->List Int):∀ (n:Nat) (v:List Int) (i:Int),0<=i->i<=b.Vias.length->((b.Vias.length:Int)-i).toNat<n->((Cf b v3 v4 v3' v5 K0 K1 n v i).length:Int)=v.length+((b.Vias.length:Int)-i)+(b.Pours.length:Int)+(b.Keeps.length:Int)+(b.Slots.length:Int)
 | 0,v,i,h0,h1,h2=>absurd h2 (Nat.not_lt_zero _)
 | n+1,v,i,h0,h1,h2=>by
  unfold Cf
  by_cases h:i<(b.Vias.length:Int)
  ·simp only [h,decide_true,cond_true]
   have:=Xm b v3 v4 v3' v5 K0 K1 n (v++[(b.Vias.getD i.toNat default).Id]) (i+1) (by omega) (by omega) (by omega)
   rw [this]
   simp only [List.length_append,List.length_cons,List.length_nil]
   omega
  simp only [h,decide_false,cond_false]
  rw [Xl _ _ _ _ _ _ _ _ _ _ _ v 0 (by omega) (by omega) (by omega)]
  omega
theorem Xn (b:AG) (v3:List Int) (v4:Int) (K0:List Int->Int->List Int):∀ (n:Nat) (v:List Int) (i:Int),0<=i->i<=b.Tracks.length->((b.Tracks.length:Int)-i).toNat<n->((Bp b v3 v4 K0 n v i).length:Int)=v.length+((b.Tracks.length:Int)-i)+(b.Vias.length:Int)+(b.Pours.length:Int)+(b.Keeps.length:Int)+(b.Slots.length:Int)
 | 0,v,i,h0,h1,h2=>absurd h2 (Nat.not_lt_zero _)
 | n+1,v,i,h0,h1,h2=>by
  unfold Bp
  by_cases h:i<(b.Tracks.length:Int)
  ·simp only [h,decide_true,cond_true]
   have:=Xn b v3 v4 K0 n (v++[(b.Tracks.getD i.toNat default).Id]) (i+1) (by omega) (by omega) (by omega)
   rw [this]
   simp only [List.length_append,List.length_cons,List.length_nil]
   omega
  simp only [h,decide_false,cond_false]
  rw [Xm _ _ _ _ _ _ _ _ v 0 (by omega) (by omega) (by omega)]
  omega
theorem Xo (b:AG)   : ∀ (n:Nat) (v:List Int) (i:Int),0<=i->i<=b.Parts.length->((b.Parts.length:Int)-i).toNat<n->((A7 b n v i).length:Int)=v.length+((b.Parts.length:Int)-i)+(b.Tracks.length:Int)+(b.Vias.length:Int)+(b.Pours.length:Int)+(b.Keeps.length:Int)+(b.Slots.length:Int)
 | 0,v,i,h0,h1,h2=>absurd h2 (Nat.not_lt_zero _)
 | n+1,v,i,h0,h1,h2=>by
  unfold A7
  by_cases h:i<(b.Parts.length:Int)
  ·simp only [h,decide_true,cond_true]
   have:=Xo b n (v++[(b.Parts.getD i.toNat default).Id]) (i+1) (by omega) (by omega) (by omega)
   rw [this]
   simp only [List.length_append,List.length_cons,List.length_nil]
   omega
  simp only [h,decide_false,cond_false]
  rw [Xn _ _ _ _ _ v 0 (by omega) (by omega) (by omega)]
  omega
theorem UN (b:AG):((EA b).length:Int)=(b.Parts.length:Int)+(b.Tracks.length:Int)+(b.Vias.length:Int)+(b.Pours.length:Int)+(b.Keeps.length:Int)+(b.Slots.length:Int):=by
 unfold EA
 rw [Xo b _ _ 0 (by omega) (by omega) (by omega)]
 simp only [List.length_nil]
 omega
end
end Go.Proofs.Ytdbampcfmjbgmaa
