/-
  No statement is proved in this text. It holds a part of what the proof of ItemsOn needs.
-/
import Derived.Test.YtheobjkgllmnmaaGreatItemsOnQd
namespace Go.Proofs.YtheobjkgllmnmaaGreat
set_option maxRecDepth 100000
set_option linter.unusedVariables false
set_option linter.unusedSimpArgs false
open Go.RowKit
section
open Go.RowKit
def lyP (l:List AN) (layer:Int) (k:Nat):Bool:=bif decide ((l.getD k default).From<=layer) then decide (layer<=(l.getD k default).To) else false
def lyC (l:List AN) (layer:Int) (k:Nat):Nat:=((List.range k).filter (lyP l layer)).length
def lyL (l:List AN) (layer:Int):List Int:=((List.range l.length).filter (lyP l layer)).map Int.ofNat
theorem Xh (l:List AN) (layer:Int):(lyL l layer).length<=l.length:=by
 unfold lyL
 rw [List.length_map]
 exact Nat.le_trans (List.length_filter_le _ _) (by rw [List.length_range];exact Nat.le_refl _)
theorem jO (l:List AN) (layer:Int):lyC l layer l.length=(lyL l layer).length:=by unfold lyC lyL;rw [List.length_map]
theorem cN (p:Nat->Bool) (k n:Nat) (h:k<n) (hp:p k=true):∃ r,(List.range n).filter p=(List.range k).filter p++k::r:=by
 obtain ⟨m,rfl⟩:∃ m,n=k+(m+1):=⟨n-k-1,by omega⟩
 rw [List.range_add,List.filter_append,List.range_succ_eq_map,List.map_cons,Nat.add_zero,List.filter_cons_of_pos hp]
 exact ⟨_,rfl⟩
theorem jN {l:List AN} {layer:Int} {k:Nat} (hp:lyP l layer k=true):lyC l layer (k+1)=lyC l layer k+1:=by
 unfold lyC
 rw [List.range_succ,List.filter_append,List.filter_cons_of_pos hp]
 simp
theorem nX {l:List AN} {layer:Int} {k:Nat} (hp:lyP l layer k=false):lyC l layer (k+1)=lyC l layer k:=by
 unfold lyC
 rw [List.range_succ,List.filter_append,List.filter_cons_of_neg (by rw [hp];decide)]
 simp
theorem ly_at {l:List AN} {layer:Int} {k:Nat} (h:k<l.length) (hp:lyP l layer k=true):lyC l layer k<(lyL l layer).length/\(lyL l layer).getD (lyC l layer k) 0=k:=by
 obtain ⟨r,hr⟩:=cN (lyP l layer) k l.length h hp
 unfold lyL lyC
 rw [hr]
 constructor
 ·simp
 rw [List.getD_eq_getElem?_getD,List.map_append,List.getElem?_append_right (by simp)]
 simp
abbrev Et (l:List AN):Cl:=.eptr 1 1 (fun _ j=>([lst 9 AN.c l]:List Cl).getD j default) 0 0
abbrev Es (n:Int):Cl:=.eptr 1 1 (fun _ j=>([.i n]:List Cl).getD j default) 0 0
abbrev X4 (x:AN):Cl:=.eptr 9 1 (fun _ j=>(AN.c x:List Cl).getD j default) 0 0
abbrev ylY (ly:Nat):Tv:=.av (.one (.val (.func (.yield ly) #[] #[])))
abbrev tOY (c:Cl):Tv:=.av (.one c)
theorem jC (l:List AN):NM (Et l):=Ez fun y hy=>by rw [List.mem_singleton.1 hy];exact CR JO
theorem jB (n:Int):NM (Es n):=Ez fun y hy=>by rw [List.mem_singleton.1 hy];exact .val _
section
variable (l:List AN) (layer:Int)
theorem cM (hl:(l.length:Int)<=1000000):I2 Tryz.prog 126 2 (BK [Et l,Es layer]) (lyL l layer).length (fun x=>[.one (.i ((lyL l layer).getD x.val 0))]):=by
 refine Qg Tryz.func126 rfl rfl (fun x=>rfl) (fun x e he c hc => ?_) kr (fun i hi => ?_) ?_
 ·rw [List.mem_singleton.1 he] at hc
  rw [List.mem_singleton.1 hc]
  rfl
 ·match i,hi with
  | 0,_=>rfl
  | 1,_=>rfl
 intro Ow n0 ly JJ Jx hO hJg hY
 refine DB ?_
 refine DK hO (CA (p:=fun u=>Tv.dv u=true) (by simp [EN,Co,Tv.dv,Av.dv,Cl.dv,List.range,List.range.loop,BK])) rfl fun W0 X1 M1 => ?_
 refine rg ⟨[(0,ylY ly),(1,tOY (Et l)),(2,tOY (Es layer)),(6,tOY (lst 9 AN.c l)),(7,tI (l.length:Int)),(8,tI 0)],[]⟩ ?_
 refine C9 ?_
 refine F6 ?_
 refine Nu (ι:=Nat) (fun k=>⟨[(0,ylY ly),(1,tOY (Et l)),(2,tOY (Es layer)),(6,tOY (lst 9 AN.c l)),(7,tI (l.length:Int)),(8,tI (k:Int))],[]⟩) (fun k=>JJ (lyC l layer k)) (fun k=>k<=l.length) (fun k=>l.length-k) (fun k hk => ?_) 0 (Nat.zero_le _)
 have hd:∀ (x:List (Nat×Tv)),(∀ p∈x,p.2.dv=true)->∀ i u,get x i=some u->u.dv=true:=fun x h=>CA (p:=fun u=>Tv.dv u=true) h
 refine DB ?_
 refine DK hO (hd _ (by simp only [List.forall_mem_cons];exact ⟨rfl,rfl,rfl,rfl,rfl,rfl,fun x hx=>by cases hx⟩)) rfl fun W0 X1 M1 => ?_
 refine rg ⟨[(0,ylY ly),(1,tOY (Et l)),(2,tOY (Es layer)),(6,tOY (lst 9 AN.c l)),(7,tI (l.length:Int)),(8,tI (k:Int)),(9,tB (decide ((k:Int)<(l.length:Int))))],[]⟩ ?_
 refine C9 ?_
 refine DB ?_
 refine Fs (decide ((k:Int)<(l.length:Int))) kr (fun hc => ?_) (fun hc => ?_)
 ·have hlt:k<l.length:=by have:=oT hc;omega
  refine HP ?_
  refine C9 ?_
  refine DB ?_
  refine F6 ?_
  refine DB ?_
  refine DK hO (hd _ (by simp only [List.forall_mem_cons];exact ⟨rfl,rfl,rfl,rfl,rfl,rfl,rfl,fun x hx=>by cases hx⟩)) rfl fun W0 X1 M1 => ?_
  refine rc [] [0<=(k:Int)/\(k:Int)<((l.length:Nat):Int)] ⟨[(0,ylY ly),(1,tOY (Et l)),(2,tOY (Es layer)),(4,tI (k:Int)),(5,tP 5 0),(6,tOY (lst 9 AN.c l)),(7,tI (l.length:Int)),(8,tI (k:Int))],[(5,.cells (AN.c (l.getD (k:Int).toNat default)) 61)]⟩ .nil (.cons ⟨by omega,by omega⟩ .nil) ?_
  refine C9 ?_
  rw [Int.toNat_natCast]
  generalize hx:l.getD k default=x
  refine Xj (S:=⟨[(0,ylY ly),(1,tOY (Et l)),(2,tOY (Es layer)),(4,tI (k:Int)),(5,tOY (X4 x)),(6,tOY (lst 9 AN.c l)),(7,tI (l.length:Int)),(8,tI (k:Int))],[]⟩) hO (fun W0 M1=>Hb _ 5 (AN.c x) 61 (K:=[]) (fun k x h=>by cases h) kr kr kr kr) ?_
  refine DB ?_
  cases hp:lyP l layer k with
  | true =>
   have hG:((bif decide (x.From<=layer) then decide (layer<=x.To) else false)=true):=by unfold lyP at hp;rw [hx] at hp;exact hp
   obtain ⟨hc1,hc2⟩:=ly_at hlt hp
   refine Kr ?_
   refine HO hO DN 11 [0,1,2,4,5,6,7,8,23] [(decide (x.From<=layer)=true)->(decide (x.From<=layer)=true),(decide (x.From<=layer)=true)->(decide (x.From<=layer)=true),(decide (x.From<=layer)=true)->(decide (x.From<=layer)=true),(decide (x.From<=layer)=true)->(decide (x.From<=layer)=true)] [(0,ylY ly),(1,tOY (Et l)),(2,tOY (Es layer)),(4,tI (k:Int)),(5,tOY (X4 x)),(6,tOY (lst 9 AN.c l)),(7,tI (l.length:Int)),(8,tI (k:Int)),(23,tB (bif decide (x.From<=layer) then decide (layer<=x.To) else false))] kr (.cons id (.cons id (.cons id (.cons id .nil)))) (hd _ (by simp only [List.forall_mem_cons];exact ⟨rfl,rfl,rfl,rfl,rfl,rfl,rfl,rfl,fun x hx=>by cases hx⟩)) rfl ?_
   refine LZ hO DN 10 true ((bif decide (x.From<=layer) then decide (layer<=x.To) else false)=true) [] ([(0,ylY ly),(1,tOY (Et l)),(2,tOY (Es layer)),(4,tI (k:Int)),(5,tOY (X4 x)),(6,tOY (lst 9 AN.c l)),(7,tI (l.length:Int)),(8,tI (k:Int)),(23,tB (bif decide (x.From<=layer) then decide (layer<=x.To) else false))]++[(24,ylY ly)]) rfl rfl hG kr .nil (hd _ (by simp only [List.forall_mem_cons];exact ⟨rfl,rfl,rfl,rfl,rfl,rfl,rfl,rfl,rfl,fun x hx=>by cases hx⟩)) rfl ?_
   refine LZ hO DN 10 true ((bif decide (x.From<=layer) then decide (layer<=x.To) else false)=true) [] ([(0,ylY ly),(1,tOY (Et l)),(2,tOY (Es layer)),(4,tI (k:Int)),(5,tOY (X4 x)),(6,tOY (lst 9 AN.c l)),(7,tI (l.length:Int)),(8,tI (k:Int)),(23,tB (bif decide (x.From<=layer) then decide (layer<=x.To) else false))]++[(24,ylY ly),(25,tI (k:Int))]) rfl rfl hG kr .nil (hd _ (by simp only [List.cons_append,List.nil_append,List.forall_mem_cons];exact ⟨rfl,rfl,rfl,rfl,rfl,rfl,rfl,rfl,rfl,rfl,fun x hx=>by cases hx⟩)) rfl ?_
   refine Ym (ly:=ly) (d:=26) hO 10 true ((bif decide (x.From<=layer) then decide (layer<=x.To) else false)=true) rfl rfl hG [.one (.i (k:Int))] rfl rfl kr kr rfl rfl kr ?hT1 (fun A B=>hJg _ A B) (JJ (lyC l layer k+1)) (Jx (lyC l layer k+1)) ?hY [23] ?htf rfl ?ht ?hf
   case hT1=>exact CA (p:=fun u=>Tv.dv u=true/\TvM u) (by
    simp only [List.cons_append,List.nil_append,List.forall_mem_cons]
    exact ⟨⟨rfl,BU (.val _)⟩,⟨rfl,BU (jC l)⟩,⟨rfl,BU (jB layer)⟩,⟨rfl,BU (.val _)⟩,⟨rfl,BU (Ez (JO x))⟩,⟨rfl,BU (CR JO)⟩,⟨rfl,BU (.val _)⟩,⟨rfl,BU (.val _)⟩,⟨rfl,BU (.val _)⟩,⟨rfl,BU (.val _)⟩,⟨rfl,BU (.val _)⟩,fun x hx=>by cases hx⟩)
   case hY =>
    intro W hW
    have:=hY (lyC l layer k) hc1 W hW
    simp only [hc2] at this
    exact this
   case htf =>
    show ∀ i v,get [(23,tB (bif decide (x.From<=layer) then decide (layer<=x.To) else false))] i=some v->_
    exact CA (p:=fun v=>∃ u,v=Tv.av (.one (.val u))) (by simp only [List.forall_mem_cons];exact ⟨⟨_,rfl⟩,fun x hx=>by cases hx⟩)
   case ht =>
    refine JR [0,1,2,6,7,8,23,26] ⟨[(0,ylY ly),(1,tOY (Et l)),(2,tOY (Es layer)),(6,tOY (lst 9 AN.c l)),(7,tI (l.length:Int)),(8,tI (k:Int)),(23,tB (bif decide (x.From<=layer) then decide (layer<=x.To) else false)),(26,tB true)],[]⟩ kr ?_
    refine LZ hO DN 10 true ((bif decide (x.From<=layer) then decide (layer<=x.To) else false)=true) [] [(0,ylY ly),(1,tOY (Et l)),(2,tOY (Es layer)),(6,tOY (lst 9 AN.c l)),(7,tI (l.length:Int)),(8,tI (k:Int)),(23,tB (bif decide (x.From<=layer) then decide (layer<=x.To) else false)),(26,tB true),(27,tB false)] rfl rfl hG kr .nil (hd _ (by simp only [List.forall_mem_cons];exact ⟨rfl,rfl,rfl,rfl,rfl,rfl,rfl,rfl,fun x hx=>by cases hx⟩)) rfl ?_
    refine HO hO DN 1 [0,1,2,6,7,8,28] [] [(0,ylY ly),(1,tOY (Et l)),(2,tOY (Es layer)),(6,tOY (lst 9 AN.c l)),(7,tI (l.length:Int)),(8,tI (k:Int)),(28,tB (bif (bif decide (x.From<=layer) then decide (layer<=x.To) else false) then false else false))] kr .nil (hd _ (by simp only [List.forall_mem_cons];exact ⟨rfl,rfl,rfl,rfl,rfl,rfl,rfl,rfl,rfl,fun x hx=>by cases hx⟩)) rfl ?_
    refine La ?_
    refine C9 ?_
    refine Fs (bif (bif decide (x.From<=layer) then decide (layer<=x.To) else false) then false else false) kr (fun h=>by rw [hG] at h;cases h) (fun _ => ?_)
    refine HP ?_
    refine UK ?_
    refine C9 ?_
    refine DK hO (hd _ (by simp only [List.forall_mem_cons];exact ⟨rfl,rfl,rfl,rfl,rfl,rfl,rfl,fun x hx=>by cases hx⟩)) rfl fun W0 X1 M1 => ?_
    refine rg ⟨[(0,ylY ly),(1,tOY (Et l)),(2,tOY (Es layer)),(6,tOY (lst 9 AN.c l)),(7,tI (l.length:Int)),(8,tI (W64 ((k:Int)+1)))],[]⟩ ?_
    refine C9 ?_
    refine ⟨k+1,by omega,by omega,?_,by rw [jN hp],rfl⟩
    rw [Ah (by omega) (by omega)]
    rfl
   case hf =>
    refine JR [23,26] ⟨[(23,tB (bif decide (x.From<=layer) then decide (layer<=x.To) else false)),(26,tB false)],[]⟩ kr ?_
    refine LZ hO DN 10 true ((bif decide (x.From<=layer) then decide (layer<=x.To) else false)=true) [] [(23,tB (bif decide (x.From<=layer) then decide (layer<=x.To) else false)),(26,tB false),(27,tB true)] rfl rfl hG kr .nil (hd _ (by simp only [List.forall_mem_cons];exact ⟨rfl,rfl,fun x hx=>by cases hx⟩)) rfl ?_
    refine HO hO DN 1 [28] [] [(28,tB (bif (bif decide (x.From<=layer) then decide (layer<=x.To) else false) then true else false))] kr .nil (hd _ (by simp only [List.forall_mem_cons];exact ⟨rfl,rfl,rfl,fun x hx=>by cases hx⟩)) rfl ?_
    refine La ?_
    refine C9 ?_
    refine Fs (bif (bif decide (x.From<=layer) then decide (layer<=x.To) else false) then true else false) kr (fun _ => ?_) (fun h=>by rw [hG] at h;cases h)
    refine cV ?_
    exact ⟨.inl rfl,.inr ⟨_,hc1,rfl⟩⟩
  | false =>
   have hG:(bif decide (x.From<=layer) then decide (layer<=x.To) else false)=false:=by unfold lyP at hp;rw [hx] at hp;exact hp
   refine DK hO (hd _ (by simp only [List.forall_mem_cons];exact ⟨rfl,rfl,rfl,rfl,rfl,rfl,rfl,rfl,fun x hx=>by cases hx⟩)) rfl fun W0 X1 M1 => ?_
   refine EP ?_
   refine HS DN 11 [] [] [] [0,1,2,6,7,8,23] [] [(decide (x.From<=layer)=true)->(decide (x.From<=layer)=true),(decide (x.From<=layer)=true)->(decide (x.From<=layer)=true),(decide (x.From<=layer)=true)->(decide (x.From<=layer)=true),(decide (x.From<=layer)=true)->(decide (x.From<=layer)=true)] ⟨[(0,ylY ly),(1,tOY (Et l)),(2,tOY (Es layer)),(6,tOY (lst 9 AN.c l)),(7,tI (l.length:Int)),(8,tI (k:Int)),(23,tB (bif decide (x.From<=layer) then decide (layer<=x.To) else false))],[]⟩ .nil kr (.cons id (.cons id (.cons id (.cons id .nil)))) ?_
   refine G5 10 true ((bif decide (x.From<=layer) then decide (layer<=x.To) else false)=true) ⟨[(0,ylY ly),(1,tOY (Et l)),(2,tOY (Es layer)),(6,tOY (lst 9 AN.c l)),(7,tI (l.length:Int)),(8,tI (k:Int)),(23,tB (bif decide (x.From<=layer) then decide (layer<=x.To) else false)),(24,.grd ((bif decide (x.From<=layer) then decide (layer<=x.To) else false)=true) (.one (.val (.bool false))))],[]⟩ rfl rfl (fun e=>by rw [hG] at e;cases e) kr kr ?_
   refine G5 10 true ((bif decide (x.From<=layer) then decide (layer<=x.To) else false)=true) ⟨[(0,ylY ly),(1,tOY (Et l)),(2,tOY (Es layer)),(6,tOY (lst 9 AN.c l)),(7,tI (l.length:Int)),(8,tI (k:Int)),(23,tB (bif decide (x.From<=layer) then decide (layer<=x.To) else false)),(24,.grd ((bif decide (x.From<=layer) then decide (layer<=x.To) else false)=true) (.one (.val (.bool false)))),(25,.grd ((bif decide (x.From<=layer) then decide (layer<=x.To) else false)=true) (.one (.val (.bool false))))],[]⟩ rfl rfl (fun e=>by rw [hG] at e;cases e) kr kr ?_
   refine G5 10 true ((bif decide (x.From<=layer) then decide (layer<=x.To) else false)=true) ⟨[(0,ylY ly),(1,tOY (Et l)),(2,tOY (Es layer)),(6,tOY (lst 9 AN.c l)),(7,tI (l.length:Int)),(8,tI (k:Int)),(23,tB (bif decide (x.From<=layer) then decide (layer<=x.To) else false)),(24,.grd ((bif decide (x.From<=layer) then decide (layer<=x.To) else false)=true) (.one (.val (.bool false)))),(25,.grd ((bif decide (x.From<=layer) then decide (layer<=x.To) else false)=true) (.one (.val (.bool false)))),(26,.grd ((bif decide (x.From<=layer) then decide (layer<=x.To) else false)=true) (.one (.val (.bool false))))],[]⟩ rfl rfl (fun e=>by rw [hG] at e;cases e) kr kr ?_
   refine G5 10 true ((bif decide (x.From<=layer) then decide (layer<=x.To) else false)=true) ⟨[(0,ylY ly),(1,tOY (Et l)),(2,tOY (Es layer)),(6,tOY (lst 9 AN.c l)),(7,tI (l.length:Int)),(8,tI (k:Int)),(23,tB (bif decide (x.From<=layer) then decide (layer<=x.To) else false)),(24,.grd ((bif decide (x.From<=layer) then decide (layer<=x.To) else false)=true) (.one (.val (.bool false)))),(25,.grd ((bif decide (x.From<=layer) then decide (layer<=x.To) else false)=true) (.one (.val (.bool false)))),(26,.grd ((bif decide (x.From<=layer) then decide (layer<=x.To) else false)=true) (.one (.val (.bool false)))),(27,.grd ((bif decide (x.From<=layer) then decide (layer<=x.To) else false)=true) (.one (.val (.bool false))))],[]⟩ rfl rfl (fun e=>by rw [hG] at e;cases e) kr kr ?_
   refine F8 DN [] [] [] [0,1,2,6,7,8,28] [] [((bif decide (x.From<=layer) then decide (layer<=x.To) else false)=true)->((bif decide (x.From<=layer) then decide (layer<=x.To) else false)=true)] ⟨[(0,ylY ly),(1,tOY (Et l)),(2,tOY (Es layer)),(6,tOY (lst 9 AN.c l)),(7,tI (l.length:Int)),(8,tI (k:Int)),(28,tB (bif (bif decide (x.From<=layer) then decide (layer<=x.To) else false) then false else false))],[]⟩ .nil kr (.cons id .nil) ?_
   refine C9 ?_
   refine Fs (bif (bif decide (x.From<=layer) then decide (layer<=x.To) else false) then false else false) kr (fun h=>by rw [hG] at h;cases h) (fun _ => ?_)
   refine HP ?_
   refine UK ?_
   refine C9 ?_
   refine DK hO (hd _ (by simp only [List.forall_mem_cons];exact ⟨rfl,rfl,rfl,rfl,rfl,rfl,rfl,fun x hx=>by cases hx⟩)) rfl fun W0 X1 M1 => ?_
   refine rg ⟨[(0,ylY ly),(1,tOY (Et l)),(2,tOY (Es layer)),(6,tOY (lst 9 AN.c l)),(7,tI (l.length:Int)),(8,tI (W64 ((k:Int)+1)))],[]⟩ ?_
   refine C9 ?_
   refine ⟨k+1,by omega,by omega,?_,by rw [nX hp],rfl⟩
   rw [Ah (by omega) (by omega)]
   rfl
 have hge:¬ k<l.length:=by have:=oF hc;omega
 have hkl:k=l.length:=by omega
 refine Nv ?_
 refine NK ?_
 refine NK ?_
 refine Nw ?_
 exact ⟨.inr rfl,.inl (by rw [hkl,jO])⟩
end
end
def Z0F (l:(List AN)) (layer:Int):CT:=(69,[.one (lst 9 AN.c l),.one (.i layer)],.val [] (.av (.one (.clo 126 2 (BK [.eptr 1 1 (fun _ j_=>([lst 9 AN.c l]:List Cl).getD j_ default) 0 0,.eptr 1 1 (fun _ j_=>([.i layer]:List Cl).getD j_ default) 0 0])))))
def Fh (l:(List AN)) (layer:Int):Nat->Nat->List Int->(List Int)
 | 0,_,AK=>AK
 | m+1,x,AK=>(Fh l layer m (x+1)) (AK++[((lyL l layer).getD x 0)])
def FOn (l:(List AN)) (layer:Int):(List Int):=Fh l layer (lyL l layer).length 0 ([]:List Int)
def cOn (l:(List AN)) (layer:Int):CT:=(20,[.one (lst 9 AN.c l),.one (.i layer)],.val [] (.av (.one (lst 1 eIn (FOn l layer)))))
abbrev N8 (l:List AN) (layer:Int):Nat×Tv:=(9,.av (.one (.clo 126 2 (BK [.eptr 1 1 (gD [lst 9 AN.c l]) 0 0,.eptr 1 1 (gD [.i layer]) 0 0]))))
abbrev El (l:List AN):Nat×Tv:=(0,tO (lst 9 AN.c l))
theorem pOn (l:(List AN)) (layer:Int) (hl:(l.length:Int)<=1000000):PuP 20 (cOn l layer).2.1 (tO (lst 1 eIn (FOn l layer))):=by
 refine pwf Tryz.func20 fun W0 M0 => ?_
 refine AB<|rn ⟨[(El l),(1,tI layer)],[]⟩<|AB ?_
 refine rn ⟨[(El l),(1,tI layer),(5,tP 5 0)],[(5,.cells [vN] 57)]⟩ ?_
 refine AB<|AB ?_
 refine rs 9 (Z0F l layer) ⟨[(5,tP 5 0),(N8 l layer)],[(5,.cells [vN] 57)]⟩ (cPu<|mJ l layer)<|AF<|AO ?_
 refine BI (Cv.trans (vr 5 200005 hk0) (Cv.trans (wg (⟨[(5,tP 200005 0),(N8 l layer)],[(100000,.row 1 0 (fun _ _=>default) 3),(200005,.cells [.own 100000 1 0] 57)]⟩) 100000 1 (fun _ _=>default) 3 [] [(200005,[0])] hk0) (Cv.trans (A7 (⟨[(5,tP 200005 0),(N8 l layer)],[(100000,.row 1 ([]:List Int).length (AL eIn ([]:List Int)) 3),(200005,.cells [.own 100000 1 ([]:List Int).length] 57)]⟩) lr (.cons ⟨rfl,Ad 3 (B3 1 (fun _ _=>default) eIn)⟩ (.cons ⟨rfl,.cells _ (.cons (.own _ _ au2) .nil)⟩ .nil))) (Cv.refl _)))) ?_
 refine LB (ι:=List Int) [200005] 299999 200005 0 100000 (fun x=>[(100000,.row 1 x.length (AL eIn x) 3),(200005,.cells [.own 100000 1 x.length] 57)]) (fun x0=>[(5,tP 200005 0),(6,tI ((lyL l layer).getD x0.val 0)),(9,.av (.one (.clo 126 2 (BK [.eptr 1 1 (gD [lst 9 AN.c l]) 0 0,.eptr 1 1 (gD [.i layer]) 0 0]))))]) (fun j x=>x.length<=j) (fun y x=>Fh l layer ((lyL l layer).length-y) y x=FOn l layer) ([]:List Int) (fun _=>rfl) kr kr (fun _ _=>kr) (cM l layer oM) kr (fun _=>by kernel_rfl) (fun _=>rfl) (fun _=>rfl) (fun x=>(CA (p:=BkN) (by simp only [List.forall_mem_cons];exact ⟨lR (fun x y hy=>by rw [List.mem_singleton.1 hy];exact (.val _)),Q5 (by simp only [List.forall_mem_cons];exact ⟨(.own _ _ _),fun x hx=>by cases hx⟩),fun x hx=>by cases hx⟩))) (fun x0=>(CA (p:=TvM) (by simp only [List.forall_mem_cons];exact ⟨BU (.ptr _ _),BU (.val _),BU (WB (by simp only [List.forall_mem_cons];exact ⟨(Ez (by simp only [List.forall_mem_cons];exact ⟨(CR JO),fun x hx=>by cases hx⟩)),(Ez (by simp only [List.forall_mem_cons];exact ⟨(.val _),fun x hx=>by cases hx⟩)),fun x hx=>by cases hx⟩)),fun x hx=>by cases hx⟩))) (fun _=>by kernel_rfl) ax0 (by simp only [FOn,Nat.sub_zero,cond_true,cond_false]) (fun l1 W1 M1 X1 x0 j AK hinv hPX => ?_) (fun l2 W2 M2 X2 x0 j AK hPX hj hinv => ?_) (fun AK hinv hF0 => ?_)
 ·have hinv0:AK.length<=j:=hinv;clear hinv
  refine Dl ?_
  refine rg ⟨[(5,tP 200005 0),(6,tI ((lyL l layer).getD x0.val 0)),(N8 l layer)],[(100000,.row 1 AK.length (AL eIn AK) 3),(200005,.cells [.own 100000 1 AK.length] 57)]⟩ ?_
  exact ⟨_,Cv.refl _,rfl,rfl⟩
 ·have hinv0:AK.length<=j:=hinv;clear hinv
  obtain ⟨Xb0,hXb0⟩:∃ Xb,Fh l layer ((lyL l layer).length-x0.val) x0.val AK=Xb:=⟨_,rfl⟩
  have hF0:=hXb0
  rw [show (lyL l layer).length-x0.val=((lyL l layer).length-(x0.val+1))+1 by have:=x0.isLt;omega] at hF0
  have hly:=Xh l layer
  refine Dl<|AO ?_
  refine rc [] [AK.length=AK.length,AK.length+1<=maxLen,(AK.length+1)*8<=140737488355328] ⟨[(5,tP 200005 0),(N8 l layer)],[(14,.row 1 (AK.length+1) (fun i_ j_=>if i_<AK.length then (AL eIn AK) i_ j_ else (Ap 1 1 [.i ((lyL l layer).getD x0.val 0)]) (i_-AK.length) j_) 3),(200005,.cells [.own 14 1 (AK.length+1)] 57)]⟩ .nil (.cons rfl (.cons au3 (.cons au3 .nil)))<|BA ?_
  refine ⟨_,Cv.trans (A7 (⟨[(5,tP 200005 0),(N8 l layer)],[(14,.row 1 (AK++[((lyL l layer).getD x0.val 0)]).length (AL eIn (AK++[((lyL l layer).getD x0.val 0)])) 3),(200005,.cells [.own 14 1 (AK++[((lyL l layer).getD x0.val 0)]).length] 57)]⟩) lr (.cons ⟨rfl,Ad 3 (A8 (Ay 1 eIn AK) (Al (c:=eIn) (xs:=([((lyL l layer).getD x0.val 0)]:List Int)) rfl kr))⟩ (.cons ⟨rfl,.cells _ (.cons (.own _ _ au2) .nil)⟩ .nil))) (Cv.trans (wr (⟨[(5,tP 200005 0),(N8 l layer)],[(100000,.row 1 (AK++[((lyL l layer).getD x0.val 0)]).length (AL eIn (AK++[((lyL l layer).getD x0.val 0)])) 3),(200005,.cells [.own 100000 1 (AK++[((lyL l layer).getD x0.val 0)]).length] 57)]⟩) 14 100000 (K:=[299999,200005]) (fun k x h=>.inl (hPX k x h))) (Cv.refl _)),rfl,(AK++[((lyL l layer).getD x0.val 0)]),ax0,fun hk hF => ?_,fun _ _ h=>h⟩
  have e0:Fh l layer ((lyL l layer).length-(x0.val+1)) (x0.val+1) (AK++[((lyL l layer).getD x0.val 0)])=Xb0:=by
   rw [<- hF0]
   first | (simp only [Fh,cond_true,cond_false] <;> rfl)
  subst hk
  change Fh l layer ((lyL l layer).length-x0.val) x0.val AK=FOn l layer at hF
  show Fh l layer ((lyL l layer).length-(x0.val+1)) (x0.val+1) (AK++[((lyL l layer).getD x0.val 0)])=FOn l layer
  exact e0.trans (hXb0.symm.trans hF)
 have hinv0:AK.length<=(lyL l layer).length:=hinv;clear hinv
 change Fh l layer ((lyL l layer).length-(lyL l layer).length) (lyL l layer).length AK=FOn l layer at hF0
 rw [Nat.sub_self] at hF0
 refine BA<|AF<|AB ?_
 refine rn ⟨[(4,tO (.own 100000 1 AK.length))],[(100000,.row 1 AK.length (AL eIn AK) 3)]⟩<|Ab ?_
 exact yl (Cv.trans (vf 100000 1 AK.length (AL eIn AK) 3 hk0 (.cons ⟨rfl,rfl⟩ .nil)) (Cv.refl _)) (tO (lst 1 eIn AK)) (Ae (by rw [<- hF0];first | (simp only [Fh,cond_true,cond_false] <;> rfl)))
theorem MZ (l:(List AN)) (layer:Int) (hl:(l.length:Int)<=1000000):OKc (cOn l layer):=cPu<|pOn l layer hl
section
open Go.RowKit
def Bd (a:AN) (b:AN):(Int×Int×Bool):=bif decide (((min a.To b.To):Int)<(max a.From b.From)) then (0,0,false) else (max a.From b.From,min a.To b.To,true)
variable (a:AN) (p:Bc) (l:List As) (b:AN) (v10:Int)
def Ju:CT:=(22,[.agg (AN.c a),.agg (AN.c b)],.val [] (.tup [.one (.i (Bd a b).1),.one (.i (Bd a b).2.1),.one (.b (Bd a b).2.2)]))
abbrev Om:List (Nat×Blk):=[(2,.cells (AN.c a) 61),(3,.cells (AN.c b) 61)]
abbrev Zf:List (Nat×Tv):=[(7,tI (max a.From b.From)),(8,tI (min a.To b.To)),(21,tB (decide (((min a.To b.To):Int)<(max a.From b.From))))]
theorem iG (a:AN) (b:AN):PuP 22 (Ju a b).2.1 (.tup [.one (.i (Bd a b).1),.one (.i (Bd a b).2.1),.one (.b (Bd a b).2.2)]):=by
 refine pwf Tryz.func22 fun W0 M0 => ?_
 refine AB<|rn ⟨Gr,(Om a b)⟩<|AB ?_
 refine dw [] [] [] ⟨[(7,tI (max a.From b.From)),(8,tI (min a.To b.To))],[]⟩ .nil .nil<|AF ?_
 refine AB<|AB ?_
 refine rn ⟨(Zf a b),[]⟩ ?_
 refine AW _ rfl (fun h1 => ?_) (fun h1 => ?_)
 ·refine AB<|rn ⟨[(4,tI 0),(5,tI 0),(6,tB false)],[]⟩ ?_
  refine Ab<|An ?_
  exact xl (.tup [.one (.i 0),.one (.i 0),.one (.b false)]) (Ae (by simp only [Bd,h1,cond_true,cond_false] <;> rfl))
 refine AV<|AF<|AB ?_
 refine rn ⟨[(4,tI (max a.From b.From)),(5,tI (min a.To b.To)),(6,tB true)],[]⟩<|Ab ?_
 exact xl (.tup [.one (.i (max a.From b.From)),.one (.i (min a.To b.To)),.one (.b true)]) (Ae (by simp only [Bd,h1,cond_true,cond_false] <;> rfl))
theorem PJ (a:AN) (b:AN):OKc (Ju a b):=cPu<|iG a b
def Ws (a:AN) (b:AN):Bool:=bif bif bif bif bif bif decide ((a.Id:Int)=b.Id) then (a.Pad.toList==b.Pad.toList) else false then decide ((a.Kind:Int)=b.Kind) else false then (a.Net.toList==b.Net.toList) else false then decide ((a.From:Int)=b.From) else false then decide ((a.To:Int)=b.To) else false then M7 a.Shape b.Shape else false
def Sv:CT:=(26,[.agg (AN.c a),.agg (AN.c b)],.val [] (.av (.one (.b (Ws a b)))))
abbrev Oj:=a.Pad.toList==b.Pad.toList
abbrev ZH:=(bif bif bif bif bif decide ((a.Id:Int)=b.Id) then (Oj a b) else false then decide ((a.Kind:Int)=b.Kind) else false then (a.Net.toList==b.Net.toList) else false then decide ((a.From:Int)=b.From) else false then decide ((a.To:Int)=b.To) else false)
abbrev Zp:=(bif bif bif decide ((a.Id:Int)=b.Id) then (Oj a b) else false then decide ((a.Kind:Int)=b.Kind) else false then (a.Net.toList==b.Net.toList) else false)
theorem mO (a:AN) (b:AN) (h0:(a.Shape.Edges.length:Int)<=1000000) (h1:(b.Shape.Edges.length:Int)<=1000000):PuP 26 (Sv a b).2.1 (tO (.b (Ws a b))):=by
 refine pwf Tryz.func26 fun W0 M0 => ?_
 refine AB<|rn ⟨Gr,(Om a b)⟩<|AB ?_
 refine rc [] (t5 (decide ((a.Id:Int)=b.Id)) (t5 (bif decide ((a.Id:Int)=b.Id) then (Oj a b) else false) (t5 (bif bif decide ((a.Id:Int)=b.Id) then (Oj a b) else false then decide ((a.Kind:Int)=b.Kind) else false) []))) ⟨[(2,tP 2 0),(3,tP 3 0),(5,tB (Zp a b))],(Om a b)⟩ .nil (c5 (c5 (c5 .nil)))<|AF<|AB ?_
 refine rc [(52,Ms a.Shape b.Shape)] (t5 (Zp a b) (t5 (bif bif bif bif decide ((a.Id:Int)=b.Id) then (Oj a b) else false then decide ((a.Kind:Int)=b.Kind) else false then (a.Net.toList==b.Net.toList) else false then decide ((a.From:Int)=b.From) else false) (t4 (ZH a b) [gk (ZH a b) (Aq (Ms a.Shape b.Shape).2.1),gt (ZH a b)]))) ⟨[(4,tB (bif bif bif bif bif bif decide ((a.Id:Int)=b.Id) then (Oj a b) else false then decide ((a.Kind:Int)=b.Kind) else false then (a.Net.toList==b.Net.toList) else false then decide ((a.From:Int)=b.From) else false then decide ((a.To:Int)=b.To) else false then M7 a.Shape b.Shape else false))],[]⟩ (.cons (XN a.Shape b.Shape au15 au15) .nil) (c5 (c5 (c4 (.cons (fun _=>rfl) (ci .nil)))))<|AF<|Ab ?_
 exact xl (tO (.b (bif bif bif bif bif bif decide ((a.Id:Int)=b.Id) then (a.Pad.toList==b.Pad.toList) else false then decide ((a.Kind:Int)=b.Kind) else false then (a.Net.toList==b.Net.toList) else false then decide ((a.From:Int)=b.From) else false then decide ((a.To:Int)=b.To) else false then M7 a.Shape b.Shape else false))) (Ae (by rfl))
theorem iU (a:AN) (b:AN) (h0:(a.Shape.Edges.length:Int)<=1000000) (h1:(b.Shape.Edges.length:Int)<=1000000):OKc (Sv a b):=cPu<|mO a b h0 h1
def Z0G:AQ:=DJ (As.mk (W64 (p.Pitch*(l.getD v10.toNat default).X0)) (W64 (p.Pitch*(l.getD v10.toNat default).Y0)) (W64 (p.Pitch*(l.getD v10.toNat default).X1)) (W64 (p.Pitch*(l.getD v10.toNat default).Y1)))
def H8 (p:Bc) (l:(List As)):Nat->List AQ->Int->(List AQ)
 | 0,_,_=>default
 | n0+1,out,v10=>bif decide ((v10:Int)<(l.length:Int)) then ((H8 p l n0) (out++[Z0G p l v10]) (v10+1)) else out
def P3 (p:Bc) (l:(List As)):(List AQ):=H8 p l (((l.length:Int)-0).toNat+1) ([]:List AQ) 0
def Wc:CT:=(30,[.agg (Bc.c p),.one (lst 4 As.c l)],.val [] (.av (.one (lst 3 AQ.c (P3 p l)))))
abbrev GK:Nat×Blk:=(2,.cells (Bc.c p) 97)
abbrev IH:Nat×Tv:=(9,tI (l.length:Int))
abbrev IF:Nat×Tv:=(8,tO (lst 4 As.c l))
abbrev KR:Nat×Tv:=(5,.av (.one vN))
abbrev ZT:Nat×Blk:=(100000,.row 3 ([]:List AQ).length (AL AQ.c ([]:List AQ)) 28)
abbrev ZN:List (Nat×Tv):=[(2,tP 2 0),(5,tO (.own 100000 3 ([]:List AQ).length)),(IF l),(IH l),(10,tI 0)]
theorem nA (p:Bc) (l:(List As)) (h0:(l.length:Int)<=1000000):PuP 30 (Wc p l).2.1 (tO (lst 3 AQ.c (P3 p l))):=by
 refine pwf Tryz.func30 fun W0 M0 => ?_
 refine AB<|rn ⟨[(1,tO (lst 4 As.c l)),(2,tP 2 0)],[(GK p)]⟩<|AB ?_
 refine rn ⟨[(1,tO (lst 4 As.c l)),(2,tP 2 0),KR],[(GK p)]⟩ ?_
 refine AB<|AB ?_
 refine rn ⟨[(2,tP 2 0),KR,(IF l),(IH l),(10,tI 0)],[(GK p)]⟩<|AO ?_
 refine BI (Cv.trans (wg (⟨[(2,tP 2 0),(5,tO (.own 100000 3 0)),(IF l),(IH l),(10,tI 0)],[(100000,.row 3 0 (fun _ _=>default) 28),(GK p)]⟩) 100000 3 (fun _ _=>default) 28 [(5,[0])] [] hk0) (Cv.trans (A7 (⟨(ZN l),[ZT,(GK p)]⟩) (.cons ⟨rfl,.refl _⟩ (.cons ⟨rfl,.av (.one (.own _ _ au2))⟩ lr)) (.cons ⟨rfl,Ad 28 (B3 3 (fun _ _=>default) AQ.c)⟩ lr)) (Cv.trans (ck (⟨(ZN l),[(GK p),ZT]⟩)) (Cv.refl _)))) ?_
 refine A0 (ι:=Nat×List AQ×Int) (fun x=>⟨[(2,tP 2 0),(5,tO (.own 100000 3 x.2.1.length)),(IF l),(IH l),(10,tI x.2.2)],[(GK p),(100000,.row 3 x.2.1.length (AL AQ.c x.2.1) 28)]⟩) (fun x=>((l.length:Int)-x.2.2).toNat<x.1/\(0<=x.2.2/\(x.2.2<=(l.length:Int)\/x.2.2=0)/\(x.2.1.length:Int)<=0+1*(x.2.2-0))/\H8 p l x.1 x.2.1 x.2.2=P3 p l) (fun x=>x.1) ?_ (((l.length:Int)-0).toNat+1,([]:List AQ),0) ⟨Nat.lt_succ_self _,⟨ax0,ax0,ax0⟩,(by simp only [P3,cond_true,cond_false])⟩
 rintro ⟨n0,out,v10⟩ ⟨hm0,hinv0,hF0⟩
 try dsimp only at hm0 hinv0 hF0
 cases n0 with | zero=>exact nz hm0 | succ n0 => ?_
 refine AB<|rn ⟨[(2,tP 2 0),(5,tO (.own 100000 3 out.length)),(IF l),(IH l),(10,tI v10),(11,tB (decide ((v10:Int)<(l.length:Int))))],[(GK p),(100000,.row 3 out.length (AL AQ.c out) 28)]⟩<|AB ?_
 refine AW _ rfl (fun h1 => ?_) (fun h1 => ?_)
 ·have g1:=oT h1
  refine AV<|AF ?_
  refine AB<|AO<|AB ?_
  refine rc [] [0<=(v10:Int)/\(v10:Int)<((l.length:Nat):Int)] ⟨[(2,tP 2 0),(5,tO (.own 100000 3 out.length)),(7,tP 7 0),(IF l),(IH l),(10,tI v10)],[(GK p),(7,.cells (As.c (l.getD v10.toNat default)) 90),(100000,.row 3 out.length (AL AQ.c out) 28)]⟩ .nil (.cons au0 .nil)<|AF ?_
  refine rc [(36,In (As.mk (W64 (p.Pitch*(l.getD v10.toNat default).X0)) (W64 (p.Pitch*(l.getD v10.toNat default).Y0)) (W64 (p.Pitch*(l.getD v10.toNat default).X1)) (W64 (p.Pitch*(l.getD v10.toNat default).Y1))))] [Aq (In (As.mk (W64 (p.Pitch*(l.getD v10.toNat default).X0)) (W64 (p.Pitch*(l.getD v10.toNat default).Y0)) (W64 (p.Pitch*(l.getD v10.toNat default).X1)) (W64 (p.Pitch*(l.getD v10.toNat default).Y1)))).2.1,out.length=out.length,out.length+1<=maxLen,(out.length+1)*40<=140737488355328] ⟨[(2,tP 2 0),(5,tO (.own 38 3 (out.length+1))),(IF l),(IH l),(10,tI v10)],[(GK p),(38,.row 3 (out.length+1) (fun i_ j_=>if i_<out.length then (AL AQ.c out) i_ j_ else (Ap 3 1 (AQ.c (Z0G p l v10))) (i_-out.length) j_) 28)]⟩ (.cons (Ns (As.mk (W64 (p.Pitch*(l.getD v10.toNat default).X0)) (W64 (p.Pitch*(l.getD v10.toNat default).Y0)) (W64 (p.Pitch*(l.getD v10.toNat default).X1)) (W64 (p.Pitch*(l.getD v10.toNat default).Y1)))) .nil) (.cons rfl (.cons rfl (.cons au3 (.cons au3 .nil))))<|BA<|AF ?_
  refine BI (Cv.trans (A7 (⟨[(2,tP 2 0),(5,tO (.own 38 3 (out++[Z0G p l v10]).length)),(IF l),(IH l),(10,tI v10)],[(GK p),(38,.row 3 (out++[Z0G p l v10]).length (AL AQ.c (out++[Z0G p l v10])) 28)]⟩) (.cons ⟨rfl,.refl _⟩ (.cons ⟨rfl,.av (.one (.own _ _ au2))⟩ lr)) (.cons ⟨rfl,.refl _⟩ (.cons ⟨rfl,Ad 28 (A8 (Ay 3 AQ.c out) (Al (c:=AQ.c) (xs:=([Z0G p l v10]:List AQ)) rfl kr))⟩ .nil))) (Cv.refl _)) ?_
  refine rg ⟨[(2,tP 2 0),(5,tO (.own 38 3 (out++[Z0G p l v10]).length)),(IF l),(IH l),(10,tI (W64 (v10+1)))],[(GK p),(38,.row 3 (out++[Z0G p l v10]).length (AL AQ.c (out++[Z0G p l v10])) 28)]⟩ ?_
  (try rw [(show W64 (v10+1)=v10+1 from Ah oM au5)])
  refine AF ?_
  refine ⟨(n0,out++[Z0G p l v10],v10+1),⟨?_,?_,(by rw [<- hF0];simp only [H8,h1,cond_true,cond_false])⟩,Nat.lt_succ_self _,Cv.trans (vr 38 100000 hk0) (Aw kr)⟩
  ·show ((l.length:Int)-(v10+1)).toNat<n0;omega
  exact ⟨ax0,ax0,ax0⟩
 refine A3<|Ar ?_
 refine Ar<|A4 ?_
 refine AF<|AB ?_
 refine rn ⟨[(4,tO (.own 100000 3 out.length))],[(100000,.row 3 out.length (AL AQ.c out) 28)]⟩<|Ab ?_
 exact yl (Cv.trans (vf 100000 3 out.length (AL AQ.c out) 28 hk0 (.cons ⟨rfl,rfl⟩ .nil)) (Cv.refl _)) (tO (lst 3 AQ.c out)) (Ae (by rw [<- hF0];first | (simp only [H8,h1,cond_true,cond_false] <;> rfl)))
theorem iX (p:Bc) (l:(List As)) (h0:(l.length:Int)<=1000000):OKc (Wc p l):=cPu<|nA p l h0
def D6 (a:(List Ao)) (b:(List Ao)):Nat->Int->Bool
 | 0,_=>default
 | n0+1,v5=>bif decide ((v5:Int)<(a.length:Int)) then (bif bif bif bif !decide (((a.getD v5.toNat default).From:Int)=(b.getD v5.toNat default).From) then true else !decide (((a.getD v5.toNat default).To:Int)=(b.getD v5.toNat default).To) then true else !((a.getD v5.toNat default).Plated==(b.getD v5.toNat default).Plated) then true else !(LF (a.getD v5.toNat default).Shape (b.getD v5.toNat default).Shape) then false else ((D6 a b n0) (v5+1))) else true
def Fg (a:(List Ao)) (b:(List Ao)):Bool:=bif !decide (((a.length:Int):Int)=(b.length:Int)) then false else (D6 a b (((a.length:Int)-0).toNat+1) 0)
def Im (a:(List Ao)) (b:(List Ao)):CT:=(16,[.one (lst 6 Ao.c a),.one (lst 6 Ao.c b)],.val [] (.av (.one (.b (Fg a b)))))
abbrev kU (a:List Ao) (v5:Int):=a.getD v5.toNat default
abbrev kT (b:List Ao) (v5:Int):=b.getD v5.toNat default
abbrev Oo (a:List Ao) (v5:Int) (b:List Ao):=(bif bif !decide (((kU a v5).From:Int)=(kT b v5).From) then true else !decide (((kU a v5).To:Int)=(kT b v5).To) then true else !((kU a v5).Plated==(kT b v5).Plated))
abbrev TD (a:List Ao) (v5:Int) (b:List Ao):=(bif !decide (((kU a v5).From:Int)=(kT b v5).From) then true else !decide (((kU a v5).To:Int)=(kT b v5).To))
abbrev Oi (a:List Ao) (v5:Int) (b:List Ao):Bool:=(!decide (((kU a v5).From:Int)=(kT b v5).From))
abbrev KM (a:List Ao):Nat×Tv:=(0,tO (lst 6 Ao.c a))
abbrev KL (b:List Ao):Nat×Tv:=(1,tO (lst 6 Ao.c b))
theorem V2 (a:(List Ao)) (b:(List Ao)) (h0:(a.length:Int)<=1000000000) (ha:∀ k,(((a.getD k default).Shape.Edges.length:Int)<=1000000)) (hbb:∀ k,(((b.getD k default).Shape.Edges.length:Int)<=1000000)):PuP 16 (Im a b).2.1 (tO (.b (Fg a b))):=by
 refine pwf Tryz.func16 fun W0 M0 => ?_
 refine AB<|rn ⟨[(KM a),(KL b)],[]⟩ ?_
 refine AB<|AB ?_
 refine rn ⟨[(KM a),(KL b),(10,tB (!decide (((a.length:Int):Int)=(b.length:Int))))],[]⟩ ?_
 refine AW _ rfl (fun h1 => ?_) (fun h1 => ?_)
 ·have g1:=B8 h1
  refine AB<|rn ⟨[(4,tB false)],[]⟩ ?_
  refine Ab<|An ?_
  exact xl (tO (.b false)) (Ae (by simp only [Fg,h1,cond_true,cond_false] <;> rfl))
 have g1:=B1 h1
 refine AV<|AF ?_
 refine AB<|AB ?_
 refine rn ⟨[(KM a),(KL b),(5,tI 0)],[]⟩<|AO ?_
 refine A0 (ι:=Nat×Int) (fun x=>⟨[(KM a),(KL b),(5,tI x.2)],[]⟩) (fun x=>((a.length:Int)-x.2).toNat<x.1/\(0<=x.2/\(x.2<=(a.length:Int)\/x.2=0))/\D6 a b x.1 x.2=Fg a b) (fun x=>x.1) ?_ (((a.length:Int)-0).toNat+1,0) ⟨Nat.lt_succ_self _,⟨ax0,ax0⟩,(by simp only [Fg,h1,cond_true,cond_false])⟩
 rintro ⟨n0,v5⟩ ⟨hm0,hinv0,hF0⟩
 try dsimp only at hm0 hinv0 hF0
 cases n0 with | zero=>exact nz hm0 | succ n0 => ?_
 refine AB<|AB ?_
 refine rn ⟨[(KM a),(KL b),(5,tI v5),(14,tB (decide ((v5:Int)<(a.length:Int))))],[]⟩ ?_
 refine AW _ rfl (fun h2 => ?_) (fun h2 => ?_)
 ·have g2:=oT h2
  refine AV<|AF ?_
  refine AB<|AO<|AB ?_
  refine dw [] [(65,Su (kU a v5).Shape (kT b v5).Shape)] ((0<=(v5:Int)/\(v5:Int)<((a.length:Nat):Int))::(0<=(v5:Int)/\(v5:Int)<((b.length:Nat):Int))::(i2 (Oi a v5 b) ((gj (Oi a v5 b) (0<=(v5:Int)/\(v5:Int)<((a.length:Nat):Int)))::(i4 (Oi a v5 b) ((gj (Oi a v5 b) (0<=(v5:Int)/\(v5:Int)<((b.length:Nat):Int)))::(i5 (Oi a v5 b) (i2 (TD a v5 b) ((gj (TD a v5 b) (0<=(v5:Int)/\(v5:Int)<((a.length:Nat):Int)))::(i4 (TD a v5 b) ((gj (TD a v5 b) (0<=(v5:Int)/\(v5:Int)<((b.length:Nat):Int)))::(i5 (TD a v5 b) (i2 (Oo a v5 b) ((gj (Oo a v5 b) (0<=(v5:Int)/\(v5:Int)<((a.length:Nat):Int)))::(i4 (Oo a v5 b) ((gj (Oo a v5 b) (0<=(v5:Int)/\(v5:Int)<((b.length:Nat):Int)))::(i4 (Oo a v5 b) ((gj (Oo a v5 b) (Aq (Su (a.getD v5.toNat default).Shape (b.getD v5.toNat default).Shape).2.1))::(i2 (Oo a v5 b) [])))))))))))))))))) ⟨[(KM a),(KL b),(5,tI v5),(67,tB (bif bif bif !decide (((a.getD v5.toNat default).From:Int)=(b.getD v5.toNat default).From) then true else !decide (((a.getD v5.toNat default).To:Int)=(b.getD v5.toNat default).To) then true else !((a.getD v5.toNat default).Plated==(b.getD v5.toNat default).Plated) then true else !(LF (a.getD v5.toNat default).Shape (b.getD v5.toNat default).Shape)))],[]⟩ (.cons (iT (a.getD v5.toNat default).Shape (b.getD v5.toNat default).Shape (by first | (exact Vc hb _) | (exact Vk hb _) | (exact hb.parts) | (exact hb.tracks) | (exact hb.vias) | (exact hb.slots) | (exact hb.nets) | (exact hb.pins) | (exact Hp hb.parts ht) | (exact ha _) | (exact hbb _) | with_reducible assumption | omega | decide | (simp only [List.length_cons,List.length_nil,List.length_append];omega) | assumption) (by first | (exact Vc hb _) | (exact Vk hb _) | (exact hb.parts) | (exact hb.tracks) | (exact hb.vias) | (exact hb.slots) | (exact hb.nets) | (exact hb.pins) | (exact Hp hb.parts ht) | (exact ha _) | (exact hbb _) | with_reducible assumption | omega | decide | (simp only [List.length_cons,List.length_nil,List.length_append];omega) | assumption)) .nil) (.cons au0 (.cons au0 (c2 (.cons (fun hG=>by first | exact au0 | (simp only [decide_eq_true_eq,decide_eq_false_iff_not,Bool.not_eq_true,Bool.and_eq_true] at hG <;> omega) | (simp at hG <;> omega) | (simp only [decide_eq_true_eq,decide_eq_false_iff_not] at hG;simp only [Bk];omega)) (c4 (.cons (fun hG=>by first | exact au0 | (simp only [decide_eq_true_eq,decide_eq_false_iff_not,Bool.not_eq_true,Bool.and_eq_true] at hG <;> omega) | (simp at hG <;> omega) | (simp only [decide_eq_true_eq,decide_eq_false_iff_not] at hG;simp only [Bk];omega)) (c5 (c2 (.cons (fun hG=>by first | exact au0 | (simp only [decide_eq_true_eq,decide_eq_false_iff_not,Bool.not_eq_true,Bool.and_eq_true] at hG <;> omega) | (simp at hG <;> omega) | (simp only [decide_eq_true_eq,decide_eq_false_iff_not] at hG;simp only [Bk];omega)) (c4 (.cons (fun hG=>by first | exact au0 | (simp only [decide_eq_true_eq,decide_eq_false_iff_not,Bool.not_eq_true,Bool.and_eq_true] at hG <;> omega) | (simp at hG <;> omega) | (simp only [decide_eq_true_eq,decide_eq_false_iff_not] at hG;simp only [Bk];omega)) (c5 (c2 (.cons (fun hG=>by first | exact au0 | (simp only [decide_eq_true_eq,decide_eq_false_iff_not,Bool.not_eq_true,Bool.and_eq_true] at hG <;> omega) | (simp at hG <;> omega) | (simp only [decide_eq_true_eq,decide_eq_false_iff_not] at hG;simp only [Bk];omega)) (c4 (.cons (fun hG=>by first | exact au0 | (simp only [decide_eq_true_eq,decide_eq_false_iff_not,Bool.not_eq_true,Bool.and_eq_true] at hG <;> omega) | (simp at hG <;> omega) | (simp only [decide_eq_true_eq,decide_eq_false_iff_not] at hG;simp only [Bk];omega)) (c4 (.cons (fun _=>rfl) (c2 .nil)))))))))))))))))))<|AF ?_
  refine AW _ rfl (fun h3 => ?_) (fun h3 => ?_)
  ·refine AB<|rn ⟨[(4,tB false)],[]⟩ ?_
   refine Ab<|BL ?_
   refine An<|An ?_
   refine BL<|An ?_
   exact xl (tO (.b false)) (Ae (by rw [<- hF0];first | (simp only [D6,h2,h3,cond_true,cond_false] <;> rfl)))
  refine AV<|BA<|AF ?_
  refine rg ⟨[(KM a),(KL b),(5,tI (W64 (v5+1)))],[]⟩ ?_
  (try rw [(show W64 (v5+1)=v5+1 from Ah oM au5)])
  refine AF ?_
  refine ⟨(n0,v5+1),⟨?_,?_,(by rw [<- hF0];simp only [D6,h2,h3,cond_true,cond_false])⟩,Nat.lt_succ_self _,Aw kr⟩
  ·show ((a.length:Int)-(v5+1)).toNat<n0;omega
  exact ⟨ax0,ax0⟩
 refine A3<|Ar ?_
 refine Ar<|A4 ?_
 refine AF<|AB ?_
 refine rn ⟨[(4,tB true)],[]⟩<|Ab ?_
 exact xl (tO (.b true)) (Ae (by rw [<- hF0];first | (simp only [D6,h2,cond_true,cond_false] <;> rfl)))
theorem Tq (a:(List Ao)) (b:(List Ao)) (h0:(a.length:Int)<=1000000000) (ha:∀ k,(((a.getD k default).Shape.Edges.length:Int)<=1000000)) (hbb:∀ k,(((b.getD k default).Shape.Edges.length:Int)<=1000000)):OKc (Im a b):=cPu<|V2 a b h0 ha hbb
def ES (l:(List Int)) (want:(List Int)):Nat->Int->Bool
 | 0,_=>default
 | n0+1,v13=>bif decide ((v13:Int)<(l.length:Int)) then (bif !decide (((l.getD v13.toNat default):Int)=(want.getD v13.toNat default)) then false else ((ES l want n0) (v13+1))) else true
def Ch (l:(List Int)) (want:(List Int)):Bool:=bif !decide (((l.length:Int):Int)=(want.length:Int)) then false else (ES l want (((l.length:Int)-0).toNat+1) 0)
def B7 (l:(List Int)) (want:(List Int)):CT:=(19,[.one (lst 1 eIn l),.one (lst 1 eIn want)],.val [] (.av (.one (.b (Ch l want)))))
abbrev MH (l:List Int):Nat×Tv:=(12,tI (l.length:Int))
theorem gY (l:(List Int)) (want:(List Int)) (h0:(l.length:Int)<=1000000000):PuP 19 (B7 l want).2.1 (tO (.b (Ch l want))):=by
 refine pwf Tryz.func19 fun W0 M0 => ?_
 refine AB<|rn ⟨[(0,tO (lst 1 eIn l)),(1,tO (lst 1 eIn want))],[]⟩ ?_
 refine AB<|AB ?_
 refine rn ⟨[(0,tO (lst 1 eIn l)),(1,tO (lst 1 eIn want)),(10,tB (!decide (((l.length:Int):Int)=(want.length:Int))))],[]⟩ ?_
 refine AW _ rfl (fun h1 => ?_) (fun h1 => ?_)
 ·have g1:=B8 h1
  refine AB<|rn ⟨[(4,tB false)],[]⟩ ?_
  refine Ab<|An ?_
  exact xl (tO (.b false)) (Ae (by simp only [Ch,h1,cond_true,cond_false] <;> rfl))
 have g1:=B1 h1
 refine AV<|AF ?_
 refine AB<|AB ?_
 refine rn ⟨[(0,tO (lst 1 eIn l)),(1,tO (lst 1 eIn want)),(MH l),(13,tI 0)],[]⟩<|AO ?_
 refine A0 (ι:=Nat×Int) (fun x=>⟨[(0,tO (lst 1 eIn l)),(1,tO (lst 1 eIn want)),(MH l),(13,tI x.2)],[]⟩) (fun x=>((l.length:Int)-x.2).toNat<x.1/\(0<=x.2/\(x.2<=(l.length:Int)\/x.2=0))/\ES l want x.1 x.2=Ch l want) (fun x=>x.1) ?_ (((l.length:Int)-0).toNat+1,0) ⟨Nat.lt_succ_self _,⟨ax0,ax0⟩,(by simp only [Ch,h1,cond_true,cond_false])⟩
 rintro ⟨n0,v13⟩ ⟨hm0,hinv0,hF0⟩
 try dsimp only at hm0 hinv0 hF0
 cases n0 with | zero=>exact nz hm0 | succ n0 => ?_
 refine AB<|rn ⟨[(0,tO (lst 1 eIn l)),(1,tO (lst 1 eIn want)),(MH l),(13,tI v13),(14,tB (decide ((v13:Int)<(l.length:Int))))],[]⟩<|AB ?_
 refine AW _ rfl (fun h2 => ?_) (fun h2 => ?_)
 ·have g2:=oT h2
  refine AV<|AF ?_
  refine AB<|AO<|AB ?_
  refine rn ⟨[(0,tO (lst 1 eIn l)),(1,tO (lst 1 eIn want)),(5,tI v13),(MH l),(13,tI v13)],[]⟩<|AB ?_
  refine dw [] [] [0<=(v13:Int)/\(v13:Int)<((l.length:Nat):Int),0<=(v13:Int)/\(v13:Int)<((want.length:Nat):Int)] ⟨[(0,tO (lst 1 eIn l)),(1,tO (lst 1 eIn want)),(MH l),(13,tI v13),(24,tB (!decide (((l.getD v13.toNat default):Int)=(want.getD v13.toNat default))))],[]⟩ .nil (.cons au0 (.cons au0 .nil))<|AF ?_
  refine AW _ rfl (fun h3 => ?_) (fun h3 => ?_)
  ·have g3:=B8 h3
   refine AB<|rn ⟨[(4,tB false)],[]⟩ ?_
   refine Ab<|BL ?_
   refine An<|An ?_
   refine BL<|An ?_
   exact xl (tO (.b false)) (Ae (by rw [<- hF0];first | (simp only [ES,h2,h3,cond_true,cond_false] <;> rfl)))
  have g3:=B1 h3
  refine AV<|BA<|AF ?_
  refine rg ⟨[(0,tO (lst 1 eIn l)),(1,tO (lst 1 eIn want)),(MH l),(13,tI (W64 (v13+1)))],[]⟩ ?_
  (try rw [(show W64 (v13+1)=v13+1 from Ah oM au5)])
  refine AF ?_
  refine ⟨(n0,v13+1),⟨?_,?_,(by rw [<- hF0];simp only [ES,h2,h3,cond_true,cond_false])⟩,Nat.lt_succ_self _,Aw kr⟩
  ·show ((l.length:Int)-(v13+1)).toNat<n0;omega
  exact ⟨ax0,ax0⟩
 refine A3<|Ar ?_
 refine Ar<|A4 ?_
 refine AF<|AB ?_
 refine rn ⟨[(4,tB true)],[]⟩<|Ab ?_
 exact xl (tO (.b true)) (Ae (by rw [<- hF0];first | (simp only [ES,h2,cond_true,cond_false] <;> rfl)))
theorem Dg (l:(List Int)) (want:(List Int)) (h0:(l.length:Int)<=1000000000):OKc (B7 l want):=cPu<|gY l want h0
def AU:(AG×(List AR)):=(AG.mk 2 (AQ.mk 0 [] 0) [AE.mk 7 ({ data := #[85,49] }:ByteArray) ({ data := #[111,110,101] }:ByteArray) (AC.mk 100 50) 0 false] [] [AM.mk 3 (⟨#[]⟩) 2 (B5 (AC.mk 1 0) 2)] [Ag.mk 2 (⟨#[]⟩) (AC.mk 20 20) 6 4 1 2] [] [] [Au.mk 9 (B5 (AC.mk 0 5) 3)] [] [] [] [],[AR.mk ({ data := #[111,110,101] }:ByteArray) [BJ.mk ({ data := #[80,49] }:ByteArray) (DJ (As.mk (-4) (-4) 4 4)) (AC.mk 0 0) 4] []])
def K7:CT:=(36,[],.val [] (.tup [.agg (AG.c AU.1),.one (lst 3 AR.c AU.2)]))
abbrev W3:List Cl:=[.i 0,.i 0,vN,.i 0,vN,vN,vN,vN,vN,vN,vN,vN,vN,vN,vN]
abbrev TB:List Cl:=[.i 3,.s (⟨#[]⟩),.i 2,.i (B5 (AC.mk 1 0) 2).Kind,lst 7 AH.c (B5 (AC.mk 1 0) 2).Edges,.i (B5 (AC.mk 1 0) 2).R]
abbrev FR:=DJ (As.mk (-4) (-4) 4 4)
abbrev VL:List Cl:=[.i 9,.i (B5 (AC.mk 0 5) 3).Kind,lst 7 AH.c (B5 (AC.mk 0 5) 3).Edges,.i (B5 (AC.mk 0 5) 3).R]
abbrev R1:List Cl:=[.i 2,.s (⟨#[]⟩),.i 20,.i 20,.i 6,.i 4,.i 1,.i 2]
abbrev Rh:List (Nat×Tv):=[(0,tP 0 0),(2,tP 2 0),(3,tP 3 0)]
abbrev MF:Nat×Blk:=(0,.cells W3 41)
theorem Vy  : G8 Tryz.prog 36 (K7 ).2.1 (.tup [.agg (AG.c AU.1),.one (lst 3 AR.c AU.2)]):=by
 refine pwf Tryz.func36 fun W0 M0 => ?_
 refine AB<|rn ⟨[(0,tP 0 0)],[MF]⟩<|AB ?_
 refine rs 5 (In (As.mk (-4) (-4) 4 4)) ⟨[(0,tP 0 0),(2,tP 2 0)],[MF,(2,.cells [.s ({ data := #[111,110,101] }:ByteArray),.list true 7 1 (Ap 7 1 [.s ({ data := #[80,49] }:ByteArray),.i FR.Kind,lst 7 AH.c FR.Edges,.i FR.R,.i 0,.i 0,.i 4]),vN] 82)]⟩ (Ns (As.mk (-4) (-4) 4 4))<|AF<|AB ?_
 refine rn ⟨Rh,[MF,(2,.cells [.s ({ data := #[111,110,101] }:ByteArray),.list true 7 1 (Ap 7 1 [.s ({ data := #[80,49] }:ByteArray),.i FR.Kind,lst 7 AH.c FR.Edges,.i FR.R,.i 0,.i 0,.i 4]),vN] 82),(3,.cells [.i 2,.i 0,vN,.i 0,.list true 7 1 (Ap 7 1 [.i 7,.s ({ data := #[85,49] }:ByteArray),.s ({ data := #[111,110,101] }:ByteArray),.i 100,.i 50,.i 0,.b false]),vN,vN,vN,vN,vN,vN,vN,vN,vN,vN] 41)]⟩<|AB ?_
 refine rs 14 (GR (AC.mk 1 0) 2) ⟨Rh,[MF,(2,.cells [.s ({ data := #[111,110,101] }:ByteArray),.list true 7 1 (Ap 7 1 [.s ({ data := #[80,49] }:ByteArray),.i FR.Kind,lst 7 AH.c FR.Edges,.i FR.R,.i 0,.i 0,.i 4]),vN] 82),(3,.cells [.i 2,.i 0,vN,.i 0,.list true 7 1 (Ap 7 1 [.i 7,.s ({ data := #[85,49] }:ByteArray),.s ({ data := #[111,110,101] }:ByteArray),.i 100,.i 50,.i 0,.b false]),vN,.list true 6 1 (Ap 6 1 TB),vN,vN,vN,vN,vN,vN,vN,vN] 41)]⟩ (Ji (AC.mk 1 0) 2)<|AF<|AB ?_
 refine rn ⟨Rh,[MF,(2,.cells [.s ({ data := #[111,110,101] }:ByteArray),.list true 7 1 (Ap 7 1 [.s ({ data := #[80,49] }:ByteArray),.i FR.Kind,lst 7 AH.c FR.Edges,.i FR.R,.i 0,.i 0,.i 4]),vN] 82),(3,.cells [.i 2,.i 0,vN,.i 0,.list true 7 1 (Ap 7 1 [.i 7,.s ({ data := #[85,49] }:ByteArray),.s ({ data := #[111,110,101] }:ByteArray),.i 100,.i 50,.i 0,.b false]),vN,.list true 6 1 (Ap 6 1 TB),.list true 8 1 (Ap 8 1 R1),vN,vN,vN,vN,vN,vN,vN] 41)]⟩<|AB ?_
 refine rs 23 (GR (AC.mk 0 5) 3) ⟨Rh,[MF,(2,.cells [.s ({ data := #[111,110,101] }:ByteArray),.list true 7 1 (Ap 7 1 [.s ({ data := #[80,49] }:ByteArray),.i FR.Kind,lst 7 AH.c FR.Edges,.i FR.R,.i 0,.i 0,.i 4]),vN] 82),(3,.cells [.i 2,.i 0,vN,.i 0,.list true 7 1 (Ap 7 1 [.i 7,.s ({ data := #[85,49] }:ByteArray),.s ({ data := #[111,110,101] }:ByteArray),.i 100,.i 50,.i 0,.b false]),vN,.list true 6 1 (Ap 6 1 TB),.list true 8 1 (Ap 8 1 R1),vN,vN,.list true 4 1 (Ap 4 1 VL),vN,vN,vN,vN] 41)]⟩ (Ji (AC.mk 0 5) 3)<|AF<|AB ?_
 refine dw [] [] [] ⟨[(0,tP 0 0),(1,.av (.one (.list true 3 1 (Ap 3 1 [.s ({ data := #[111,110,101] }:ByteArray),.list true 7 1 (Ap 7 1 [.s ({ data := #[80,49] }:ByteArray),.i FR.Kind,lst 7 AH.c FR.Edges,.i FR.R,.i 0,.i 0,.i 4]),vN]))))],[(0,.cells [.i 2,.i 0,vN,.i 0,.list true 7 1 (Ap 7 1 [.i 7,.s ({ data := #[85,49] }:ByteArray),.s ({ data := #[111,110,101] }:ByteArray),.i 100,.i 50,.i 0,.b false]),vN,.list true 6 1 (Ap 6 1 TB),.list true 8 1 (Ap 8 1 R1),vN,vN,.list true 4 1 (Ap 4 1 VL),vN,vN,vN,vN] 41)]⟩ .nil .nil<|AF<|Ab ?_
 exact xl (.tup [.agg [.i 2,.i 0,vN,.i 0,.list true 7 1 (Ap 7 1 [.i 7,.s ({ data := #[85,49] }:ByteArray),.s ({ data := #[111,110,101] }:ByteArray),.i 100,.i 50,.i 0,.b false]),vN,.list true 6 1 (Ap 6 1 TB),.list true 8 1 (Ap 8 1 R1),vN,vN,.list true 4 1 (Ap 4 1 VL),vN,vN,vN,vN],.one (.list true 3 1 (Ap 3 1 [.s ({ data := #[111,110,101] }:ByteArray),.list true 7 1 (Ap 7 1 [.s ({ data := #[80,49] }:ByteArray),.i (DJ (As.mk (-4) (-4) 4 4)).Kind,lst 7 AH.c (DJ (As.mk (-4) (-4) 4 4)).Edges,.i (DJ (As.mk (-4) (-4) 4 4)).R,.i 0,.i 0,.i 4]),vN]))]) (Du (y:=.tup [.agg [.i 2,.i 0,lst 7 AH.c [],.i 0,lst 7 AE.c [AE.mk 7 ({ data := #[85,49] }:ByteArray) ({ data := #[111,110,101] }:ByteArray) (AC.mk 100 50) 0 false],lst 2 Bi.c [],lst 6 AM.c [AM.mk 3 (⟨#[]⟩) 2 (B5 (AC.mk 1 0) 2)],lst 8 Ag.c [Ag.mk 2 (⟨#[]⟩) (AC.mk 20 20) 6 4 1 2],lst 8 Bc.c [],lst 5 C4.c [],lst 4 Au.c [Au.mk 9 (B5 (AC.mk 0 5) 3)],lst 2 Cr.c [],lst 20 BF.c [],lst 3 CY.c [],lst 3 Dw.c []],.one (lst 3 AR.c [AR.mk ({ data := #[111,110,101] }:ByteArray) [BJ.mk ({ data := #[80,49] }:ByteArray) (DJ (As.mk (-4) (-4) 4 4)) (AC.mk 0 0) 4] []])]) (.tup (.cons (.agg (rr2 (.cons (Cd 7 AH.c) (rr (.cons (BZ true (Al (c:=AE.c) (xs:=([AE.mk 7 ({ data := #[85,49] }:ByteArray) ({ data := #[111,110,101] }:ByteArray) (AC.mk 100 50) 0 false]:List AE)) rfl kr)) (.cons (Cd 2 Bi.c) (.cons (BZ true (Al (c:=AM.c) (xs:=([AM.mk 3 (⟨#[]⟩) 2 (B5 (AC.mk 1 0) 2)]:List AM)) rfl kr)) (.cons (BZ true (Al (c:=Ag.c) (xs:=([Ag.mk 2 (⟨#[]⟩) (AC.mk 20 20) 6 4 1 2]:List Ag)) rfl kr)) (.cons (Cd 8 Bc.c) (.cons (Cd 5 C4.c) (.cons (BZ true (Al (c:=Au.c) (xs:=([Au.mk 9 (B5 (AC.mk 0 5) 3)]:List Au)) rfl kr)) (.cons (Cd 2 Cr.c) (.cons (Cd 20 BF.c) (.cons (Cd 3 CY.c) (.cons (Cd 3 Dw.c) .nil))))))))))))))) (.cons (.one (BZ true (E7 (c:=AR.c) (xs:=([AR.mk ({ data := #[111,110,101] }:ByteArray) [BJ.mk ({ data := #[80,49] }:ByteArray) (DJ (As.mk (-4) (-4) 4 4)) (AC.mk 0 0) 4] []]:List AR)) (y:=[[.s ({ data := #[111,110,101] }:ByteArray),.list true 7 1 (Ap 7 1 [.s ({ data := #[80,49] }:ByteArray),.i (DJ (As.mk (-4) (-4) 4 4)).Kind,lst 7 AH.c (DJ (As.mk (-4) (-4) 4 4)).Edges,.i (DJ (As.mk (-4) (-4) 4 4)).R,.i 0,.i 0,.i 4]),vN]]) (z:=[[.s ({ data := #[111,110,101] }:ByteArray),lst 7 BJ.c [BJ.mk ({ data := #[80,49] }:ByteArray) (DJ (As.mk (-4) (-4) 4 4)) (AC.mk 0 0) 4],lst 2 A5.c []]]) rfl kr kr (.cons (rr (.cons (BZ true (Al (c:=BJ.c) (xs:=([BJ.mk ({ data := #[80,49] }:ByteArray) (DJ (As.mk (-4) (-4) 4 4)) (AC.mk 0 0) 4]:List BJ)) rfl kr)) (.cons (Cd 2 A5.c) .nil))) .nil)))) .nil))) (by rfl))
theorem Tn  : OKc (K7 ):=cPu<|Vy
def lQ (b:AG) (types:(List AR)):CT:=(14,[.agg (AG.c b),.one (Fz types)],.val [] (.av (.one (lst 9 AN.c (D4 b types)))))
theorem nL (b:AG) (types:(List AR)) (hb:Nc b) (ht:B4 types):OKc (lQ b types):=cPu<|IP (qAll b types hb ht)
def Sy (b:AG) (types:(List AR)):CT:=(17,[.agg (AG.c b),.one (Fz types)],.val [] (.av (.one (lst 6 Ao.c (FN b types)))))
theorem bS (b:AG) (types:(List AR)) (hb:Nc b) (ht:B4 types):OKc (Sy b types):=cPu<|IP (mH b types hb ht)
end
theorem oE:Nc AU.1:=by
 constructor <;> decide
theorem dR:B4 AU.2:=by
 refine ⟨by decide,fun t ht => ?_⟩
 rw [show AU.2=[AU.2.getD 0 default] from rfl,List.mem_singleton] at ht
 subst ht
 refine ⟨by decide,by decide,fun p hp => ?_,fun g hg=>by cases hg⟩
 rw [show (AU.2.getD 0 default).Pads=[(AU.2.getD 0 default).Pads.getD 0 default] from rfl,List.mem_singleton] at hp
 subst hp
 unfold Uj
 decide
theorem dH {α:Type} [Inhabited α] {p:α->Bool} {l:List α} (hd:p default=true) (h:l.all p=true) (k:Nat):p (l.getD k default)=true:=Ft (p:=fun x=>p x=true) hd (List.all_eq_true.1 h) k
theorem dF {l:List Ao} (h:(l.all fun x=>decide ((x.Shape.Edges.length:Int)<=1000000))=true):∀ k,(((l.getD k default).Shape.Edges.length:Int)<=1000000):=fun k=>oT (dH (p:=fun x:Ao=>decide ((x.Shape.Edges.length:Int)<=1000000)) (by decide) h k)
def Z0H:Bool := !decide ((((D4 AU.1 AU.2).length:Int):Int)=3)
def Z0I:AN:=(D4 AU.1 AU.2).getD 0 default
def Z0J:Bool:=Ws Z0I (AN.mk 7 ({ data := #[80,49] }:ByteArray) 1 (⟨#[]⟩) 1 2 (DJ (As.mk 96 46 104 54)))
def Z0K:Bool:=bif Z0J then decide ((((D4 AU.1 AU.2).getD 1 default).Id:Int)=3) else false
def Z0L:Bool:=bif Z0K then decide ((((D4 AU.1 AU.2).getD 1 default).From:Int)=2) else false
def Z0M:Bool:=bif Z0L then decide ((((D4 AU.1 AU.2).getD 2 default).Id:Int)=2) else false
def Z0N:Bool:=bif Z0M then decide ((((D4 AU.1 AU.2).getD 2 default).Kind:Int)=3) else false
def Z0O:(List Int):=FOn (D4 AU.1 AU.2) 1
def Z0P:Bool:=bif Ch Z0O [0,2] then Ch (FOn (D4 AU.1 AU.2) 2) [0,1,2] else false
def Z0Q:Bool:=bif Z0P then Ch (FOn (D4 AU.1 AU.2) 3) [] else false
def Z0R:AQ:=(AU.1.Slots.getD 0 default).Shape
def Z0S:(Nat->Nat->Cl):=Ap 6 3 [.i (B5 (AC.mk 100 50) 2).Kind,lst 7 AH.c (B5 (AC.mk 100 50) 2).Edges,.i (B5 (AC.mk 100 50) 2).R,.i 1,.i 2,.b true,.i (B5 (AC.mk 20 20) 2).Kind,lst 7 AH.c (B5 (AC.mk 20 20) 2).Edges,.i (B5 (AC.mk 20 20) 2).R,.i 1,.i 2,.b true,.i Z0R.Kind,lst 7 AH.c Z0R.Edges,.i Z0R.R,.i 1,.i 2,.b false]
def Z0T:AN:=(D4 AU.1 AU.2).getD 1 default
def Z0U:AN:=(D4 AU.1 AU.2).getD 2 default
def Z0V:(List AQ):=P3 (Bc.mk 0 (⟨#[]⟩) 0 10 0 0 0 []) [As.mk 1 2 3 4]
def Z0W:Bool:=bif Z0N then Z0Q else false
def Z0X:Bool:=bif Z0W then Fg (FN AU.1 AU.2) [Ao.mk (B5 (AC.mk 100 50) 2) 1 2 true,Ao.mk (B5 (AC.mk 20 20) 2) 1 2 true,Ao.mk Z0R 1 2 false] else false
def Z0Y:Bool:=bif Z0X then (Bd Z0T Z0U).2.2 else false
def Z0Z:Bool:=bif Z0Y then decide (((Bd Z0T Z0U).1:Int)=2) else false
def Z10:Bool:=bif Z0Z then decide (((Bd Z0T Z0U).2.1:Int)=2) else false
def Z11:Bool:=bif Z10 then decide (((Z0V.length:Int):Int)=1) else false
def Z12:Bool:=bif Z11 then M7 (Z0V.getD 0 default) (DJ (As.mk 10 20 30 40)) else false
def CQ:Bool:=bif Z0H then false else Z12
def Mp:CT:=(9,[],.val [] (.av (.one (.b CQ))))
abbrev JL:List (Nat×Blk):=[(1,.cells (AG.c AU.1) 41)]
abbrev JI:Nat×Tv:=(2,tO (lst 3 AR.c AU.2))
abbrev JH:=D4 AU.1 AU.2
abbrev OZ:Nat×Tv:=(3,tO (lst 9 AN.c JH))
abbrev U1:Nat×Tv:=(6,.av (.one (.list true 6 3 Z0S)))
abbrev ON:=Ch Z0O [0,2]
abbrev ZO:List Av:=[.one (lst 6 Ao.c (FN AU.1 AU.2)),.one (.list true 6 3 Z0S)]
theorem au16 {p:Prop} (h:p:=by first | (exact oE) | (exact dR) | (decide +kernel) | (exact dF (by decide +kernel)) | with_reducible assumption | omega | decide | (simp only [List.length_cons,List.length_nil,List.length_append];omega) | assumption):p:=h
theorem YO  : G8 Tryz.prog 9 (Mp ).2.1 (tO (.b CQ)):=by
 refine pwf Tryz.func9 fun W0 M0 => ?_
 refine AB<|rn ⟨[],[]⟩<|AB ?_
 refine rs 12 K7 ⟨[(1,tP 1 0),JI],JL⟩ Tn<|AF<|AB ?_
 refine rs 17 (lQ AU.1 AU.2) ⟨[(1,tP 1 0),JI,OZ],JL⟩ (nL AU.1 AU.2 au16 au16)<|AF ?_
 refine AB<|AB ?_
 refine rn ⟨[(1,tP 1 0),JI,OZ,(20,tB Z0H)],JL⟩ ?_
 refine AW _ rfl (fun h1 => ?_) (fun h1 => ?_)
 ·refine AB<|rn ⟨[(0,tB false)],[]⟩ ?_
  refine Ab<|An ?_
  exact xl (tO (.b false)) (Ae (by simp only [CQ,h1,cond_true,cond_false] <;> rfl))
 refine AV<|AF<|AB ?_
 refine dw [] [(25,In (As.mk 96 46 104 54)),(27,Sv Z0I (AN.mk 7 ({ data := #[80,49] }:ByteArray) 1 (⟨#[]⟩) 1 2 (DJ (As.mk 96 46 104 54))))] [0<=(0:Int)/\(0:Int)<(((D4 AU.1 AU.2).length:Nat):Int),Aq (In (As.mk 96 46 104 54)).2.1,Aq (Sv Z0I (AN.mk 7 ({ data := #[80,49] }:ByteArray) 1 (⟨#[]⟩) 1 2 (DJ (As.mk 96 46 104 54)))).2.1,(Z0J=true)->(Z0J=true),(Z0J=true)->(0<=(1:Int)/\(1:Int)<(((D4 AU.1 AU.2).length:Nat):Int)),(Z0J=true)->(Z0J=true),(Z0J=true)->(Z0J=true),(Z0J=true)->(Z0J=true),Z0J=true->(Z0J=true),(Z0K=true)->(Z0K=true),(Z0K=true)->(0<=(1:Int)/\(1:Int)<(((D4 AU.1 AU.2).length:Nat):Int)),(Z0K=true)->(Z0K=true),(Z0K=true)->(Z0K=true),(Z0K=true)->(Z0K=true),Z0K=true->(Z0K=true),(Z0L=true)->(Z0L=true),(Z0L=true)->(0<=(2:Int)/\(2:Int)<(((D4 AU.1 AU.2).length:Nat):Int)),(Z0L=true)->(Z0L=true),(Z0L=true)->(Z0L=true),(Z0L=true)->(Z0L=true),Z0L=true->(Z0L=true),(Z0M=true)->(Z0M=true),(Z0M=true)->(0<=(2:Int)/\(2:Int)<(((D4 AU.1 AU.2).length:Nat):Int)),(Z0M=true)->(Z0M=true),(Z0M=true)->(Z0M=true),(Z0M=true)->(Z0M=true),Z0M=true->(Z0M=true)] ⟨[(1,tP 1 0),JI,OZ,(4,tB Z0N)],JL⟩ (.cons (Ns (As.mk 96 46 104 54)) (.cons (iU Z0I (AN.mk 7 ({ data := #[80,49] }:ByteArray) 1 (⟨#[]⟩) 1 2 (DJ (As.mk 96 46 104 54))) au16 au16) .nil)) (.cons (by decide +kernel) (.cons rfl (.cons rfl (ci (.cons (fun hG=>by first | exact (by decide +kernel) | (simp only [decide_eq_true_eq,decide_eq_false_iff_not,Bool.not_eq_true,Bool.and_eq_true] at hG <;> omega) | (simp at hG <;> omega) | (simp only [decide_eq_true_eq,decide_eq_false_iff_not] at hG;simp only [Bk];omega)) (ci (ci (ci (ci (ci (.cons (fun hG=>by first | exact (by decide +kernel) | (simp only [decide_eq_true_eq,decide_eq_false_iff_not,Bool.not_eq_true,Bool.and_eq_true] at hG <;> omega) | (simp at hG <;> omega) | (simp only [decide_eq_true_eq,decide_eq_false_iff_not] at hG;simp only [Bk];omega)) (ci (ci (ci (ci (ci (.cons (fun hG=>by first | exact (by decide +kernel) | (simp only [decide_eq_true_eq,decide_eq_false_iff_not,Bool.not_eq_true,Bool.and_eq_true] at hG <;> omega) | (simp at hG <;> omega) | (simp only [decide_eq_true_eq,decide_eq_false_iff_not] at hG;simp only [Bk];omega)) (ci (ci (ci (ci (ci (.cons (fun hG=>by first | exact (by decide +kernel) | (simp only [decide_eq_true_eq,decide_eq_false_iff_not,Bool.not_eq_true,Bool.and_eq_true] at hG <;> omega) | (simp at hG <;> omega) | (simp only [decide_eq_true_eq,decide_eq_false_iff_not] at hG;simp only [Bk];omega)) (ci (ci (ci (ci .nil)))))))))))))))))))))))))))<|AF<|AB ?_
 refine rc [(57,cOn JH 1),(59,ceI [.one (lst 1 eIn Z0O),.one (.list true 1 2 (Ap 1 2 [.i 0,.i 2]))] (B7 Z0O [0,2])),(62,cOn JH 2),(64,ceI [.one (lst 1 eIn (FOn JH 2)),.one (.list true 1 3 (Ap 1 3 [.i 0,.i 1,.i 2]))] (B7 (FOn JH 2) [0,1,2])),(68,cOn JH 3),(69,ceI [.one (lst 1 eIn (FOn JH 3)),.one vN] (B7 (FOn JH 3) []))] ((Aq (cOn (D4 AU.1 AU.2) 1).2.1)::(Aq (ceI [.one (lst 1 eIn Z0O),.one (.list true 1 2 (Ap 1 2 [.i 0,.i 2]))] (B7 Z0O [0,2])).2.1)::(gt ON)::(gk ON (Aq (cOn (D4 AU.1 AU.2) 2).2.1))::(t2 ON [gk ON (Aq (ceI [.one (lst 1 eIn (FOn (D4 AU.1 AU.2) 2)),.one (.list true 1 3 (Ap 1 3 [.i 0,.i 1,.i 2]))] (B7 (FOn (D4 AU.1 AU.2) 2) [0,1,2])).2.1),gt ON,(Z0P=true)->(Z0P=true),(Z0P=true)->(Aq (cOn (D4 AU.1 AU.2) 3).2.1),(Z0P=true)->(Z0P=true),(Z0P=true)->(Aq (ceI [.one (lst 1 eIn (FOn (D4 AU.1 AU.2) 3)),.one vN] (B7 (FOn (D4 AU.1 AU.2) 3) [])).2.1),Z0P=true->(Z0P=true)])) ⟨[(1,tP 1 0),JI,OZ,(4,tB Z0N),(5,tB Z0Q)],JL⟩ (.cons (MZ (D4 AU.1 AU.2) 1 au16) (.cons (Cy (Dg Z0O [0,2] au16) (.cons (AvE.refl _) (.cons (.one (BZ true (Al (c:=eIn) (xs:=([0,2]:List Int)) rfl kr))) .nil))) (.cons (MZ (D4 AU.1 AU.2) 2 au16) (.cons (Cy (Dg (FOn (D4 AU.1 AU.2) 2) [0,1,2] au16) (.cons (AvE.refl _) (.cons (.one (BZ true (Al (c:=eIn) (xs:=([0,1,2]:List Int)) rfl kr))) .nil))) (.cons (MZ (D4 AU.1 AU.2) 3 au16) (.cons (Cy (Dg (FOn (D4 AU.1 AU.2) 3) [] au16) (.cons (AvE.refl _) (.cons (.one (Cd 1 eIn)) .nil))) .nil)))))) (.cons rfl (.cons rfl (ci (.cons (fun _=>rfl) (c2 (.cons (fun _=>rfl) (ci (ci (.cons (fun _=>rfl) (ci (.cons (fun _=>rfl) (ci .nil))))))))))))<|AF<|AB ?_
 refine dw [] [(72,GR (AC.mk 100 50) 2),(75,GR (AC.mk 20 20) 2)] [Aq (GR (AC.mk 100 50) 2).2.1,Aq (GR (AC.mk 20 20) 2).2.1,0<=(0:Int)/\(0:Int)<((AU.1.Slots.length:Nat):Int)] ⟨[(1,tP 1 0),JI,OZ,(4,tB Z0N),(5,tB Z0Q),U1],JL⟩ (.cons (Ji (AC.mk 100 50) 2) (.cons (Ji (AC.mk 20 20) 2) .nil)) (.cons rfl (.cons rfl (.cons (by decide +kernel) .nil)))<|AF<|AB ?_
 refine dw [] [(91,Ju Z0T Z0U)] [0<=(1:Int)/\(1:Int)<(((D4 AU.1 AU.2).length:Nat):Int),0<=(2:Int)/\(2:Int)<(((D4 AU.1 AU.2).length:Nat):Int),Aq (Ju Z0T Z0U).2.1] ⟨[(1,tP 1 0),JI,(4,tB Z0N),(5,tB Z0Q),U1,(7,tI (Bd Z0T Z0U).1),(8,tI (Bd Z0T Z0U).2.1),(9,tB (Bd Z0T Z0U).2.2)],JL⟩ (.cons (PJ Z0T Z0U) .nil) (.cons (by decide +kernel) (.cons (by decide +kernel) (.cons rfl .nil)))<|AF<|AB ?_
 refine rs 98 (ceI [.agg [.i 0,.s (⟨#[]⟩),.i 0,.i 10,.i 0,.i 0,.i 0,vN],.one (.list true 4 1 (Ap 4 1 [.i 1,.i 2,.i 3,.i 4]))] (Wc (Bc.mk 0 (⟨#[]⟩) 0 10 0 0 0 []) [As.mk 1 2 3 4])) ⟨[(1,tP 1 0),JI,(4,tB Z0N),(5,tB Z0Q),U1,(7,tI (Bd Z0T Z0U).1),(8,tI (Bd Z0T Z0U).2.1),(9,tB (Bd Z0T Z0U).2.2),(10,tO (lst 3 AQ.c Z0V))],JL⟩ (Cy (iX (Bc.mk 0 (⟨#[]⟩) 0 10 0 0 0 []) [As.mk 1 2 3 4] au16) (.cons (.agg (rr5 (rr2 (.cons (Cd 4 As.c) .nil)))) (.cons (.one (BZ true (Al (c:=As.c) (xs:=([As.mk 1 2 3 4]:List As)) rfl kr))) .nil)))<|AF<|AB ?_
 refine dw [] [(106,Sy AU.1 AU.2),(108,ceI ZO (Im (FN AU.1 AU.2) [Ao.mk (B5 (AC.mk 100 50) 2) 1 2 true,Ao.mk (B5 (AC.mk 20 20) 2) 1 2 true,Ao.mk Z0R 1 2 false])),(131,In (As.mk 10 20 30 40)),(132,Ms (Z0V.getD 0 default) (DJ (As.mk 10 20 30 40)))] [Z0N=true->(Z0N=true),(Z0W=true)->(Z0W=true),(Z0W=true)->(Z0W=true),(Z0W=true)->(Aq (Sy AU.1 AU.2).2.1),(Z0W=true)->(Z0W=true),(Z0W=true)->(Z0W=true),(Z0W=true)->(Aq (ceI ZO (Im (FN AU.1 AU.2) [Ao.mk (B5 (AC.mk 100 50) 2) 1 2 true,Ao.mk (B5 (AC.mk 20 20) 2) 1 2 true,Ao.mk Z0R 1 2 false])).2.1),Z0W=true->(Z0W=true),Z0X=true->(Z0X=true),(Z0Y=true)->(Z0Y=true),Z0Y=true->(Z0Y=true),(Z0Z=true)->(Z0Z=true),Z0Z=true->(Z0Z=true),(Z10=true)->(Z10=true),(Z10=true)->(Z10=true),Z10=true->(Z10=true),(Z11=true)->(Z11=true),(Z11=true)->(0<=(0:Int)/\(0:Int)<((Z0V.length:Nat):Int)),(Z11=true)->(Z11=true),(Z11=true)->(Z11=true),(Z11=true)->(Aq (In (As.mk 10 20 30 40)).2.1),(Z11=true)->(Z11=true),(Z11=true)->(Z11=true),(Z11=true)->(Aq (Ms (Z0V.getD 0 default) (DJ (As.mk 10 20 30 40))).2.1),Z11=true->(Z11=true)] ⟨[(0,tB Z12)],[]⟩ (.cons (bS AU.1 AU.2 au16 au16) (.cons (Cy (Tq (FN AU.1 AU.2) [Ao.mk (B5 (AC.mk 100 50) 2) 1 2 true,Ao.mk (B5 (AC.mk 20 20) 2) 1 2 true,Ao.mk Z0R 1 2 false] au16 au16 au16) (.cons (AvE.refl _) (.cons (.one (BZ true (Al (c:=Ao.c) (xs:=([Ao.mk (B5 (AC.mk 100 50) 2) 1 2 true,Ao.mk (B5 (AC.mk 20 20) 2) 1 2 true,Ao.mk Z0R 1 2 false]:List Ao)) rfl kr))) .nil))) (.cons (Ns (As.mk 10 20 30 40)) (.cons (XN (Z0V.getD 0 default) (DJ (As.mk 10 20 30 40)) au16 au16) .nil)))) (ci (ci (ci (.cons (fun _=>rfl) (ci (ci (.cons (fun _=>rfl) (ci (ci (ci (ci (ci (ci (ci (ci (ci (ci (.cons (fun hG=>by first | exact (by decide +kernel) | (simp only [decide_eq_true_eq,decide_eq_false_iff_not,Bool.not_eq_true,Bool.and_eq_true] at hG <;> omega) | (simp at hG <;> omega) | (simp only [decide_eq_true_eq,decide_eq_false_iff_not] at hG;simp only [Bk];omega)) (ci (ci (.cons (fun _=>rfl) (ci (ci (.cons (fun _=>rfl) (ci .nil)))))))))))))))))))))))))<|AF<|Ab ?_
 exact xl (tO (.b Z12)) (Ae (by simp only [CQ,h1,cond_true,cond_false] <;> rfl))
theorem V6  : OKc (Mp ):=cPu<|YO
theorem mD:CQ=true:=by decide +kernel
section
open Go.RowKit
def Z13:Blk:=.cells OW 82
variable (s_1:List AH) (l:List AC) (types:List AR) (k:Int) (x0:AC) (name:ByteArray) (r:As) (x1:Int)
def Z14:Bool:=((types.getD k.toNat default).Name.toList==name.toList)
def Do (types:(List AR)) (name:ByteArray):Nat->Int->(AR×Bool)
 | 0,_=>default
 | n0+1,k=>bif decide ((k:Int)<(types.length:Int)) then (bif Z14 types k name then (types.getD k.toNat default,true) else ((Do types name n0) (k+1))) else (AR.mk (⟨#[]⟩) [] [],false)
def BX (types:(List AR)) (name:ByteArray):(AR×Bool):=Do types name (((types.length:Int)-0).toNat+1) 0
def LA:CT:=(33,[.one (Fz types),.one (.s name)],.val [] (.tup [.agg (AR.c (BX types name).1),.one (.b (BX types name).2)]))
theorem mX (types:(List AR)) (name:ByteArray) (h0:(types.length:Int)<=1000000):PuP 33 (LA types name).2.1 (.tup [.agg (AR.c (BX types name).1),.one (.b (BX types name).2)]):=by
 refine pwf Tryz.func33 fun W0 M0 => ?_
 refine AB<|rn ⟨[(Gm types),(1,tO (.s name)),(4,tP 4 0)],[(4,Z13)]⟩ ?_
 refine AB<|AB ?_
 refine rn ⟨[(Gm types),(1,tO (.s name)),(4,tP 4 0),(6,tI 0)],[(4,Z13)]⟩<|AO ?_
 refine A0 (ι:=Nat×Int) (fun x=>⟨[(Gm types),(1,tO (.s name)),(4,tP 4 0),(6,tI x.2)],[(4,Z13)]⟩) (fun x=>((types.length:Int)-x.2).toNat<x.1/\(0<=x.2/\0<=x.2/\(x.2<=(types.length:Int)\/x.2=0))/\Do types name x.1 x.2=BX types name) (fun x=>x.1) ?_ (((types.length:Int)-0).toNat+1,0) ⟨Nat.lt_succ_self _,⟨ax0,ax0,ax0⟩,(by simp only [BX,cond_true,cond_false])⟩
 rintro ⟨n0,k⟩ ⟨hm0,hinv0,hF0⟩
 try dsimp only at hm0 hinv0 hF0
 cases n0 with | zero=>exact nz hm0 | succ n0 => ?_
 refine AB<|AB ?_
 refine rn ⟨[(Gm types),(1,tO (.s name)),(4,tP 4 0),(6,tI k),(10,tB (decide ((k:Int)<(types.length:Int))))],[(4,Z13)]⟩ ?_
 refine AW _ rfl (fun h1 => ?_) (fun h1 => ?_)
 ·have g1:=oT h1
  refine AV<|AF ?_
  refine AB<|AO<|AB ?_
  refine rc [] [0<=(k:Int)/\(k:Int)<((types.length:Nat):Int)] ⟨[(Gm types),(1,tO (.s name)),(4,tP 4 0),(6,tI k),(19,tB (Z14 types k name))],[(4,Z13)]⟩ .nil (.cons au0 .nil)<|AF ?_
  refine AW _ rfl (fun h2 => ?_) (fun h2 => ?_)
  ·refine AB<|rc [] [0<=(k:Int)/\(k:Int)<((types.length:Nat):Int)] ⟨[(4,tP 4 0),(5,tB true)],[(4,.cells (AR.c (types.getD k.toNat default)) 82)]⟩ .nil (.cons au0 .nil)<|AF ?_
   refine Ab<|BL ?_
   refine An<|An ?_
   refine BL<|An ?_
   exact xl (.tup [.agg (AR.c (types.getD k.toNat default)),.one (.b true)]) (Ae (by rw [<- hF0];first | (simp only [Do,h1,h2,cond_true,cond_false] <;> rfl)))
  refine AV<|BA<|AF ?_
  refine rg ⟨[(Gm types),(1,tO (.s name)),(4,tP 4 0),(6,tI (W64 (k+1)))],[(4,Z13)]⟩ ?_
  (try rw [(show W64 (k+1)=k+1 from Ah oM oM)])
  refine AF ?_
  refine ⟨(n0,k+1),⟨?_,?_,(by rw [<- hF0];simp only [Do,h1,h2,cond_true,cond_false])⟩,Nat.lt_succ_self _,Aw kr⟩
  ·show ((types.length:Int)-(k+1)).toNat<n0;omega
  exact ⟨ax0,ax0,ax0⟩
 refine A3<|Ar ?_
 refine Ar<|A4 ?_
 refine AF<|AB ?_
 refine rn ⟨[(4,tP 4 0),(5,tB false)],[(4,Z13)]⟩<|Ab ?_
 exact xl (.tup [.agg OW,.one (.b false)]) (Du (y:=.tup ZY) (.tup (.cons (.agg (rr (.cons (Cd 7 BJ.c) (.cons (Cd 2 A5.c) .nil)))) (.cons (AvE.refl _) .nil))) (by rw [<- hF0];first | (simp only [Do,h1,cond_true,cond_false] <;> rfl)))
theorem SR (types:(List AR)) (name:ByteArray) (h0:(types.length:Int)<=1000000):OKc (LA types name):=cPu<|mX types name h0
theorem Sj {α β:Type} [Inhabited α] (f:α->Bool) (K:α->β) (D:β) (xs:List α) (g:Nat->Int->β) (hg:∀ m (v:Nat),g (m+1) v=bif decide ((v:Int)<(xs.length:Int)) then (bif f (xs.getD v default) then K (xs.getD v default) else g m ((v:Int)+1)) else D) :
  ∀ (k v m:Nat),xs.length-v=k->v<=xs.length->k<m->g m v=match (xs.drop v).find? f with | some x=>K x | none=>D:=by
 intro k
 induction k with
 | zero =>
  intro v m hk hv hm
  obtain ⟨m,rfl⟩:∃ k,m=k+1:=⟨m-1,by omega⟩
  rw [hg,decide_eq_false (by omega),cond_false,List.drop_eq_nil_of_le (by omega)]
  rfl
 | succ k ih =>
  intro v m hk hv hm
  obtain ⟨m,rfl⟩:∃ k,m=k+1:=⟨m-1,by omega⟩
  have hlt:v<xs.length:=by omega
  have e:xs.getD v default=xs[v]:=by rw [List.getD_eq_getElem?_getD,List.getElem?_eq_getElem hlt];rfl
  rw [hg,decide_eq_true (by omega),cond_true,e,List.drop_eq_getElem_cons hlt,List.find?_cons]
  cases f xs[v] with
  | true=>rfl
  | false=>exact ih (v+1) m (by omega) (by omega) (by omega)
theorem eW {a c:ByteArray} (h:(a.toList==c.toList)=true):a=c:=by have:=(WV a c).1 h;cases this;rfl
theorem H7 (types:List AR) (name:ByteArray):BX types name=Be types name:=by
 rw [Iw]
 unfold BX UV
 have h:=Sj (fun t=>GU t name) (fun t=>((t,true):AR×Bool)) (⟨⟨#[]⟩,[],[]⟩,false) types (Do types name) (fun m v=>by rw [Do];unfold Z14;rw [Int.toNat_natCast];rfl) types.length 0 (((types.length:Int)-0).toNat+1) rfl (Nat.zero_le _) (by omega)
 rw [List.drop_zero] at h
 refine h.trans ?_
 cases hf:types.find? (fun t=>GU t name) with
 | none=>rfl
 | some t =>
  have e:t.Name=name:=eW (List.find?_some (p:=fun t=>GU t name) hf)
  subst e
  rfl
theorem Ql {types:List AR} (h:B4 types) (name:ByteArray):((BX types name).1.Pads.length:Int)<=1000000:=by rw [H7];exact KG h name
def Z15:Blk:=.cells [.i 0,vN,.i 0] 28
def Z16:Blk:=.row 7 ([]:List AH).length (AL AH.c ([]:List AH)) 68
def Z17:Blk:=.cells [.i 2,.own 100000 7 ([]:List AH).length,.i 0] 28
def Z18:AC:=l.getD (Int.tmod (W64 (k+1)) (l.length:Int)).toNat default
abbrev U5:=[AH.mk 1 (l.getD k.toNat default) (Z18 l k) (AC.mk 0 0)]
def Z19:Blk:=.cells [.i 2,.own 28 7 (s_1++(U5 l k)).length,.i 0] 28
def Z1a:Blk:=.row 7 (s_1++(U5 l k)).length (AL AH.c (s_1++(U5 l k))) 68
def Jc (l:(List AC)):Nat->List AH->Int->AQ
 | 0,_,_=>default
 | n0+1,s_1,k=>bif decide ((k:Int)<(l.length:Int)) then ((Jc l n0) (s_1++[AH.mk 1 (l.getD k.toNat default) (Z18 l k) (AC.mk 0 0)]) (k+1)) else (AQ.mk 2 s_1 0)
def Ut (l:(List AC)):AQ:=Jc l (((l.length:Int)-0).toNat+1) ([]:List AH) 0
def eK:CT:=(92,[.one (lst 2 AC.c l)],.val [] (.av (.agg (AQ.c (Ut l)))))
abbrev KW:Nat×Tv:=(0,tO (lst 2 AC.c l))
abbrev Ru:List (Nat×Tv):=[(KW l),(2,tP 2 0),(3,tP 3 0),(4,tI 0)]
theorem pLoop (l:(List AC)) (h0:(l.length:Int)<=1000000):PuP 92 (eK l).2.1 (.av (.agg (AQ.c (Ut l)))):=by
 refine pwf Tryz.func92 fun W0 M0 => ?_
 refine AB<|rn ⟨[(KW l),(2,tP 2 0)],[(2,Z15)]⟩<|AB ?_
 refine rn ⟨[(KW l),(2,tP 2 0),(3,tP 3 0)],[(2,Z15),(3,.cells [.i 2,vN,.i 0] 28)]⟩ ?_
 refine AB<|AB ?_
 refine rn ⟨(Ru l),[(2,Z15),(3,.cells [.i 2,vN,.i 0] 28)]⟩<|AO ?_
 refine BI (Cv.trans (wg (⟨(Ru l),[(100000,.row 7 0 (fun _ _=>default) 68),(2,Z15),(3,.cells [.i 2,.own 100000 7 0,.i 0] 28)]⟩) 100000 7 (fun _ _=>default) 68 [] [(3,[1])] hk0) (Cv.trans (A7 (⟨(Ru l),[(100000,Z16),(2,Z15),(3,Z17)]⟩) lr (.cons ⟨rfl,Ad 68 (B3 7 (fun _ _=>default) AH.c)⟩ (.cons ⟨rfl,.refl _⟩ (.cons ⟨rfl,.cells _ (rr (.cons (.own _ _ au2) (rr .nil)))⟩ .nil)))) (Cv.trans (ck (⟨(Ru l),[(2,Z15),(3,Z17),(100000,Z16)]⟩)) (Cv.refl _)))) ?_
 refine A0 (ι:=Nat×List AH×Int) (fun x=>⟨[(KW l),(2,tP 2 0),(3,tP 3 0),(4,tI x.2.2)],[(2,Z15),(3,.cells [.i 2,.own 100000 7 x.2.1.length,.i 0] 28),(100000,.row 7 x.2.1.length (AL AH.c x.2.1) 68)]⟩) (fun x=>((l.length:Int)-x.2.2).toNat<x.1/\(0<=x.2.2/\(x.2.2<=(l.length:Int)\/x.2.2=0)/\(x.2.1.length:Int)<=0+1*(x.2.2-0))/\Jc l x.1 x.2.1 x.2.2=Ut l) (fun x=>x.1) ?_ (((l.length:Int)-0).toNat+1,([]:List AH),0) ⟨Nat.lt_succ_self _,⟨ax0,ax0,ax0⟩,(by simp only [Ut,cond_true,cond_false])⟩
 rintro ⟨n0,s_1,k⟩ ⟨hm0,hinv0,hF0⟩
 try dsimp only at hm0 hinv0 hF0
 cases n0 with | zero=>exact nz hm0 | succ n0 => ?_
 refine AB<|AB ?_
 refine rn ⟨[(KW l),(2,tP 2 0),(3,tP 3 0),(4,tI k),(9,tB (decide ((k:Int)<(l.length:Int))))],[(2,Z15),(3,.cells [.i 2,.own 100000 7 s_1.length,.i 0] 28),(100000,.row 7 s_1.length (AL AH.c s_1) 68)]⟩ ?_
 refine AW _ rfl (fun h1 => ?_) (fun h1 => ?_)
 ·have g1:=oT h1
  refine AV<|AF ?_
  refine AB<|AO ?_
  refine dw [] [] [0<=(k:Int)/\(k:Int)<((l.length:Nat):Int),((l.length:Int):Int)≠0,0<=(Int.tmod (W64 (k+1)) (l.length:Int):Int)/\(Int.tmod (W64 (k+1)) (l.length:Int):Int)<((l.length:Nat):Int),s_1.length=s_1.length,s_1.length+1<=maxLen,(s_1.length+1)*56<=140737488355328] ⟨[(KW l),(2,tP 2 0),(3,tP 3 0),(4,tI k)],[(2,Z15),(3,.cells [.i 2,.own 28 7 (s_1.length+1),.i 0] 28),(28,.row 7 (s_1.length+1) (fun i_ j_=>if i_<s_1.length then (AL AH.c s_1) i_ j_ else (Ap 7 1 [.i 1,.i (l.getD k.toNat default).X,.i (l.getD k.toNat default).Y,.i (Z18 l k).X,.i (Z18 l k).Y,.i 0,.i 0]) (i_-s_1.length) j_) 68)]⟩ .nil (.cons au0 (.cons au17 (.cons au0 (.cons rfl (.cons au3 (.cons au3 .nil))))))<|BA<|AF ?_
  refine BI (Cv.trans (A7 (⟨[(KW l),(2,tP 2 0),(3,tP 3 0),(4,tI k)],[(2,Z15),(3,Z19 s_1 l k),(28,Z1a s_1 l k)]⟩) lr (.cons ⟨rfl,.refl _⟩ (.cons ⟨rfl,.cells _ (rr (.cons (.own _ _ au2) (rr .nil)))⟩ (.cons ⟨rfl,Ad 68 (A8 (Ay 7 AH.c s_1) (Al (c:=AH.c) (xs:=([AH.mk 1 (l.getD k.toNat default) (Z18 l k) (AC.mk 0 0)]:List AH)) rfl kr))⟩ .nil)))) (Cv.refl _)) ?_
  refine rg ⟨[(KW l),(2,tP 2 0),(3,tP 3 0),(4,tI (W64 (k+1)))],[(2,Z15),(3,Z19 s_1 l k),(28,Z1a s_1 l k)]⟩ ?_
  (try rw [(show W64 (k+1)=k+1 from Ah oM au5)])
  refine AF ?_
  refine ⟨(n0,s_1++[AH.mk 1 (l.getD k.toNat default) (Z18 l k) (AC.mk 0 0)],k+1),⟨?_,?_,(by rw [<- hF0];simp only [Jc,h1,cond_true,cond_false])⟩,Nat.lt_succ_self _,Cv.trans (vr 28 100000 hk0) (Aw kr)⟩
  ·show ((l.length:Int)-(k+1)).toNat<n0;omega
  exact ⟨ax0,ax0,ax0⟩
 refine A3<|Ar ?_
 refine Ar<|A4 ?_
 refine AF<|AB ?_
 refine rn ⟨[(2,tP 2 0)],[(2,.cells [.i 2,.own 100000 7 s_1.length,.i 0] 28),(100000,.row 7 s_1.length (AL AH.c s_1) 68)]⟩<|Ab ?_
 exact yl (Cv.trans (vf 100000 7 s_1.length (AL AH.c s_1) 68 hk0 (.cons ⟨rfl,rfl⟩ .nil)) (Cv.refl _)) (.av (.agg [.i 2,lst 7 AH.c s_1,.i 0])) (Ae (by rw [<- hF0];first | (simp only [Jc,h1,cond_true,cond_false] <;> rfl)))
theorem nK (l:(List AC)) (h0:(l.length:Int)<=1000000):OKc (eK l):=cPu<|pLoop l h0
def Z1b:AQ:=Ut [AC.mk r.X0 r.Y0,AC.mk r.X1 r.Y0,AC.mk r.X1 r.Y1,AC.mk r.X0 r.Y1]
def Hd (r:As):AQ:=Z1b r
def K9:CT:=(41,[.agg (As.c r)],.val [] (.av (.agg (AQ.c (Hd r)))))
theorem mQ (r:As):PuP 41 (K9 r).2.1 (.av (.agg (AQ.c (Hd r)))):=by
 refine pwf Tryz.func41 fun W0 M0 => ?_
 refine AB<|rn ⟨Gj,[(1,.cells (As.c r) 90),C7]⟩<|AB ?_
 refine rs 24 (ceI [.one (.list true 2 4 (Ap 2 4 [.i r.X0,.i r.Y0,.i r.X1,.i r.Y0,.i r.X1,.i r.Y1,.i r.X0,.i r.Y1]))] (eK [AC.mk r.X0 r.Y0,AC.mk r.X1 r.Y0,AC.mk r.X1 r.Y1,AC.mk r.X0 r.Y1])) ⟨[(2,tP 2 0)],[(2,.cells (AQ.c (Z1b r)) 28)]⟩ (Cy (nK [AC.mk r.X0 r.Y0,AC.mk r.X1 r.Y0,AC.mk r.X1 r.Y1,AC.mk r.X0 r.Y1] au11) (.cons (.one (BZ true (Al (c:=AC.c) (xs:=([AC.mk r.X0 r.Y0,AC.mk r.X1 r.Y0,AC.mk r.X1 r.Y1,AC.mk r.X0 r.Y1]:List AC)) rfl kr))) .nil))<|AF<|Ab ?_
 exact xl (.av (.agg (AQ.c (Z1b r)))) (Ae (by rfl))
theorem SP (r:As):OKc (K9 r):=cPu<|mQ r
def LG (x0:AC) (x1:Int):AQ:=AQ.mk 1 [AH.mk 1 x0 x0 (AC.mk 0 0)] x1
def Mu:CT:=(49,[.agg (AC.c x0),.one (.i x1)],.val [] (.av (.agg (AQ.c (LG x0 x1)))))
theorem mZ (x0:AC) (x1:Int):PuP 49 (Mu x0 x1).2.1 (.av (.agg (AQ.c (LG x0 x1)))):=by
 refine pwf Tryz.func49 fun W0 M0 => ?_
 refine AB<|rn ⟨[(1,tI x1),(2,tP 2 0),(4,tP 4 0)],[(2,.cells (AC.c x0) 66),LI]⟩<|AB ?_
 refine rn ⟨[(4,tP 4 0)],[(4,.cells [.i 1,.list true 7 1 (Ap 7 1 [.i 1,.i x0.X,.i x0.Y,.i x0.X,.i x0.Y,.i 0,.i 0]),.i x1] 28)]⟩<|Ab ?_
 exact xl (.av (.agg [.i 1,.list true 7 1 (Ap 7 1 [.i 1,.i x0.X,.i x0.Y,.i x0.X,.i x0.Y,.i 0,.i 0]),.i x1])) (Du (y:=.av (.agg [.i 1,lst 7 AH.c [AH.mk 1 x0 x0 (AC.mk 0 0)],.i x1])) (.av (.agg (rr (.cons (BZ true (Al (c:=AH.c) (xs:=([AH.mk 1 x0 x0 (AC.mk 0 0)]:List AH)) rfl kr)) (rr .nil))))) (by rfl))
theorem XO (x0:AC) (x1:Int):OKc (Mu x0 x1):=cPu<|mZ x0 x1
end
section
open Go.RowKit
theorem fA {p:Prop} [Decidable p] {q:Bool} (h:(bif q then decide p else false)=true):p:=by
 cases q with
 | true=>exact oT h
 | false=>cases h
theorem UQ {types:List AR} (h:B4 types) (name:ByteArray):∀ k,(((Be types name).1.Pads.getD k default).Shape.Edges.length:Int)<=1000000:=by
 rw [Iw]
 unfold UV
 cases hf:types.find? (fun t=>GU t name) with
 | none=>exact fun k=>(by decide:((0:Nat):Int)<=1000000)
 | some t=>exact fun k=>PE (h.2 t (List.mem_of_find?_eq_some hf)) k
theorem dI {types:List AR} (h:B4 types) (name:ByteArray):∀ k,(((BX types name).1.Pads.getD k default).Shape.Edges.length:Int)<=1000000:=by rw [H7];exact UQ h name
theorem iA {b:AG} (h:∀ n∈b.Nets,(n.Pins.length:Int)<=1000000) (k:Nat):((b.Nets.getD k default).Pins.length:Int)<=1000000:=Ft (p:=fun n:Bi=>(n.Pins.length:Int)<=1000000) (by decide) h k
def Ee (p:AE):AX:=AX.mk p.At p.Turn p.Under
variable (out:List AE) (b:AG) (p:AE) (s:AQ) (types:List AR) (k at_ i:Int) (m:AX) (pad:BJ)
def Jv:CT:=(67,[.agg (AE.c p)],.val [] (.av (.agg (AX.c (Ee p)))))
theorem YY (p:AE):PuP 67 (Jv p).2.1 (.av (.agg (AX.c (Ee p)))):=by
 refine pwf Tryz.func67 fun W0 M0 => ?_
 refine AB<|rn ⟨Gj,[(1,.cells (AE.c p) 78),VA]⟩<|AB ?_
 refine rn ⟨[(2,tP 2 0)],[(2,.cells [.i p.At.X,.i p.At.Y,.i p.Turn,.b p.Under] 74)]⟩<|Ab ?_
 exact xl (.av (.agg [.i p.At.X,.i p.At.Y,.i p.Turn,.b p.Under])) (Ae (by rfl))
theorem V9 (p:AE):OKc (Jv p):=cPu<|YY p
def Z1c:Ak:=(b.Nets.getD k.toNat default).Pins.getD i.toNat default
def Z1d (p:Ak):Bool:=(((Z1c b k i).Ref.toList==p.Ref.toList)&&(((Z1c b k i).Pad.toList==p.Pad.toList)&&true))
def Ec (b:AG) (p:Ak) (k:Int) (K0:Int->ByteArray):Nat->Int->ByteArray
 | 0,_=>default
 | n1+1,i=>bif decide ((i:Int)<((b.Nets.getD k.toNat default).Pins.length:Int)) then (bif Z1d b k i p then (b.Nets.getD k.toNat default).Name else ((Ec b p k K0 n1) (i+1))) else (K0 (k+1))
def Ed (b:AG) (p:Ak):Nat->Int->ByteArray
 | 0,_=>default
 | n0+1,k=>bif decide ((k:Int)<(b.Nets.length:Int)) then (Ec b p k (Ed b p n0) ((((b.Nets.getD k.toNat default).Pins.length:Int)-0).toNat+1) 0) else ({ data := #[] }:ByteArray)
def Ir (b:AG) (p:Ak):ByteArray:=Ed b p (((b.Nets.length:Int)-0).toNat+1) 0
def Sq (p:Ak):CT:=(157,[.agg (CB b),.agg (Ak.c p)],.val [] (.av (.one (.s (Ir b p)))))
abbrev HX (p:Ak):Nat×Blk:=(3,.cells (Ak.c p) 106)
theorem mI (b:AG) (p:Ak) (hn:(b.Nets.length:Int)<=1000000) (hq:∀ n∈b.Nets,(n.Pins.length:Int)<=1000000):PuP 157 (Sq b p).2.1 (tO (.s (Ir b p))):=by
 refine pwf Tryz.func157 fun W0 M0 => ?_
 refine AB<|rn ⟨Gr,[(CD b),(HX p)]⟩ ?_
 refine AB<|AB ?_
 refine rn ⟨[(2,tP 2 0),(3,tP 3 0),(5,tI 0)],[(CD b),(HX p)]⟩<|AO ?_
 refine A0 (ι:=Nat×Int) (fun x=>⟨[(2,tP 2 0),(3,tP 3 0),(5,tI x.2)],[(CD b),(HX p)]⟩) (fun x=>((b.Nets.length:Int)-x.2).toNat<x.1/\(0<=x.2/\(x.2<=(b.Nets.length:Int)\/x.2=0))/\Ed b p x.1 x.2=Ir b p) (fun x=>x.1) ?_ (((b.Nets.length:Int)-0).toNat+1,0) ⟨Nat.lt_succ_self _,⟨ax0,ax0⟩,(by simp only [Ir,cond_true,cond_false])⟩
 rintro ⟨n0,k⟩ ⟨hm0,hinv0,hF0⟩
 try dsimp only at hm0 hinv0 hF0
 cases n0 with | zero=>exact nz hm0 | succ n0 => ?_
 refine AB<|AB ?_
 refine rn ⟨(I9 k [(11,tB (decide ((k:Int)<(b.Nets.length:Int))))]),[(CD b),(HX p)]⟩ ?_
 refine AW _ rfl (fun h1 => ?_) (fun h1 => ?_)
 ·have g1:=oT h1
  refine AV<|AF ?_
  refine AB<|AO<|AB ?_
  refine rn ⟨(I9 k [(6,tI 0)]),[(CD b),(HX p)]⟩<|AO ?_
  refine A0 (ι:=Nat×Int) (fun x=>⟨(I9 k [(6,tI x.2)]),[(CD b),(HX p)]⟩) (fun x=>(((b.Nets.getD k.toNat default).Pins.length:Int)-x.2).toNat<x.1/\(0<=x.2/\(x.2<=((b.Nets.getD k.toNat default).Pins.length:Int)\/x.2=0))/\Ec b p k (Ed b p n0) x.1 x.2=Ir b p) (fun x=>x.1) ?_ ((((b.Nets.getD k.toNat default).Pins.length:Int)-0).toNat+1,0) ⟨Nat.lt_succ_self _,⟨ax0,ax0⟩,(by rw [<- hF0];simp only [Ed,h1,cond_true,cond_false])⟩
  rintro ⟨n1,i⟩ ⟨hm1,hinv1,hF1⟩
  try dsimp only at hm1 hinv1 hF1
  cases n1 with | zero=>exact nz hm1 | succ n1 => ?_
  have hb1:=iA hq k.toNat
  refine AB<|AB ?_
  refine rc [] [0<=(k:Int)/\(k:Int)<((b.Nets.length:Nat):Int)] ⟨(I9 k [(6,tI i),(22,tB (decide ((i:Int)<((b.Nets.getD k.toNat default).Pins.length:Int))))]),[(CD b),(HX p)]⟩ .nil (.cons au0 .nil)<|AF ?_
  refine AW _ rfl (fun h2 => ?_) (fun h2 => ?_)
  ·have g2:=oT h2
   refine AV<|AF ?_
   refine AB<|AO<|AB ?_
   refine dw [] [] [0<=(k:Int)/\(k:Int)<((b.Nets.length:Nat):Int),0<=(i:Int)/\(i:Int)<(((b.Nets.getD k.toNat default).Pins.length:Nat):Int)] ⟨(I9 k [(6,tI i),(35,tB (Z1d b k i p))]),[(CD b),(HX p)]⟩ .nil (.cons au0 (.cons au0 .nil))<|AF ?_
   refine AW _ rfl (fun h3 => ?_) (fun h3 => ?_)
   ·refine AB<|rc [] [0<=(k:Int)/\(k:Int)<((b.Nets.length:Nat):Int)] ⟨[(4,tO (.s (b.Nets.getD k.toNat default).Name))],[]⟩ .nil (.cons au0 .nil)<|AF ?_
    refine Ab<|BL ?_
    refine An<|An ?_
    refine BL<|BL ?_
    refine An<|An ?_
    refine BL<|An ?_
    exact xl (tO (.s (b.Nets.getD k.toNat default).Name)) (Ae (by rw [<- hF1];first | (simp only [Ec,h2,h3,cond_true,cond_false] <;> rfl)))
   refine AV<|BA<|AF ?_
   refine rg ⟨(I9 k [(6,tI (W64 (i+1)))]),[(CD b),(HX p)]⟩ ?_
   (try rw [(show W64 (i+1)=i+1 from Ah oM au5)])
   refine AF ?_
   refine ⟨(n1,i+1),⟨?_,?_,(by rw [<- hF1];simp only [Ec,h2,h3,cond_true,cond_false])⟩,Nat.lt_succ_self _,Aw kr⟩
   ·show (((b.Nets.getD k.toNat default).Pins.length:Int)-(i+1)).toNat<n1;omega
   exact ⟨ax0,ax0⟩
  have g2:=oF h2
  refine A3<|Ar ?_
  refine Ar<|A4 ?_
  refine BA<|AF ?_
  refine rg ⟨[(2,tP 2 0),(3,tP 3 0),(5,tI (W64 (k+1)))],[(CD b),(HX p)]⟩ ?_
  (try rw [(show W64 (k+1)=k+1 from Ah oM au5)])
  refine AF ?_
  refine ⟨(n0,k+1),⟨?_,?_,(by rw [<- hF1];simp only [Ec,h2,cond_true,cond_false])⟩,Nat.lt_succ_self _,Aw kr⟩
  ·show ((b.Nets.length:Int)-(k+1)).toNat<n0;omega
  exact ⟨ax0,ax0⟩
 refine A3<|Ar ?_
 refine Ar<|A4 ?_
 refine AF<|AB ?_
 refine rn ⟨[(4,tO (.s ({ data := #[] }:ByteArray)))],[]⟩<|Ab ?_
 exact xl (tO (.s ({ data := #[] }:ByteArray))) (Ae (by rw [<- hF0];first | (simp only [Ed,h1,cond_true,cond_false] <;> rfl)))
theorem iS (b:AG) (p:Ak) (hn:(b.Nets.length:Int)<=1000000) (hq:∀ n∈b.Nets,(n.Pins.length:Int)<=1000000):OKc (Sq b p):=cPu<|mI b p hn hq
def Eb (b:AG) (p:AE):Int:=bif p.Under then b.Layers else 1
def Sp:CT:=(158,[.agg (CB b),.agg (AE.c p)],.val [] (.av (.one (.i (Eb b p)))))
theorem gW (b:AG) (p:AE):PuP 158 (Sp b p).2.1 (tO (.i (Eb b p))):=by
 refine pwf Tryz.func158 fun W0 M0 => ?_
 refine AB<|rn ⟨Gr,[(CD b),(3,.cells (AE.c p) 78)]⟩ ?_
 refine AB<|AB ?_
 refine rn ⟨[(2,tP 2 0),(6,tB p.Under)],[(CD b)]⟩ ?_
 refine AW p.Under kr (fun h1 => ?_) (fun h1 => ?_)
 ·refine AB<|rn ⟨[(4,tI b.Layers)],[]⟩ ?_
  refine Ab<|An ?_
  exact xl (tO (.i b.Layers)) (Ae (by simp only [Eb,h1,cond_true,cond_false] <;> rfl))
 refine AV<|AF<|AB ?_
 refine rn ⟨[(4,tI 1)],[]⟩<|Ab ?_
 exact xl (tO (.i 1)) (Ae (by simp only [Eb,h1,cond_true,cond_false] <;> rfl))
theorem bJ (b:AG) (p:AE):OKc (Sp b p):=cPu<|gW b p
def Z1e:Blk:=.cells [.i 0,vN,.i 0] 28
def Z1f:Blk:=.row 7 ([]:List AH).length (AL AH.c ([]:List AH)) 68
def Z1g:Blk:=.cells [.i s.Kind,.own 100000 7 ([]:List AH).length,.i s.R] 28
def Z1h:AH:=G9 (s.Edges.getD k.toNat default) m
def Z1i (out_1:List AH) (s:AQ) (k:Int) (m:AX):Blk:=.row 7 (out_1++[Z1h s k m]).length (AL AH.c (out_1++[Z1h s k m])) 68
def E4 (s:AQ) (m:AX):Nat->List AH->Int->AQ
 | 0,_,_=>default
 | n0+1,out_1,k=>bif decide ((k:Int)<(s.Edges.length:Int)) then ((E4 s m n0) (out_1++[Z1h s k m]) (k+1)) else (AQ.mk s.Kind out_1 s.R)
def Fx (s:AQ) (m:AX):AQ:=E4 s m (((s.Edges.length:Int)-0).toNat+1) ([]:List AH) 0
def N4:CT:=(25,[.agg (AQ.c s),.agg (AX.c m)],.val [] (.av (.agg (AQ.c (Fx s m)))))
abbrev R2:List (Nat×Tv):=(Ca [(5,tP 5 0),(6,tI 0)])
theorem iH (s:AQ) (m:AX) (h0:(s.Edges.length:Int)<=1000000):PuP 25 (N4 s m).2.1 (.av (.agg (AQ.c (Fx s m)))):=by
 refine pwf Tryz.func25 fun W0 M0 => ?_
 refine AB<|rn ⟨Kf,[(GJ s),(FQ m),(4,Z1e)]⟩<|AB ?_
 refine rn ⟨(Ca [(5,tP 5 0)]),[(GJ s),(FQ m),(4,Z1e),(5,.cells [.i s.Kind,vN,.i s.R] 28)]⟩ ?_
 refine AB<|AB ?_
 refine rn ⟨R2,[(GJ s),(FQ m),(4,Z1e),(5,.cells [.i s.Kind,vN,.i s.R] 28)]⟩<|AO ?_
 refine BI (Cv.trans (wg (⟨R2,[(100000,.row 7 0 (fun _ _=>default) 68),(GJ s),(FQ m),(4,Z1e),(5,.cells [.i s.Kind,.own 100000 7 0,.i s.R] 28)]⟩) 100000 7 (fun _ _=>default) 68 [] [(5,[1])] hk0) (Cv.trans (A7 (⟨R2,[(100000,Z1f),(GJ s),(FQ m),(4,Z1e),(5,Z1g s)]⟩) lr (.cons ⟨rfl,Ad 68 (B3 7 (fun _ _=>default) AH.c)⟩ (.cons ⟨rfl,.refl _⟩ (.cons ⟨rfl,.refl _⟩ (.cons ⟨rfl,.refl _⟩ (.cons ⟨rfl,.cells _ (rr (.cons (.own _ _ au2) (rr .nil)))⟩ .nil)))))) (Cv.trans (ck (⟨R2,[(GJ s),(FQ m),(4,Z1e),(5,Z1g s),(100000,Z1f)]⟩)) (Cv.refl _)))) ?_
 refine A0 (ι:=Nat×List AH×Int) (fun x=>⟨(Ca [(5,tP 5 0),(6,tI x.2.2)]),[(GJ s),(FQ m),(4,Z1e),(5,.cells [.i s.Kind,.own 100000 7 x.2.1.length,.i s.R] 28),(100000,.row 7 x.2.1.length (AL AH.c x.2.1) 68)]⟩) (fun x=>((s.Edges.length:Int)-x.2.2).toNat<x.1/\(0<=x.2.2/\(x.2.2<=(s.Edges.length:Int)\/x.2.2=0)/\(x.2.1.length:Int)<=0+1*(x.2.2-0))/\E4 s m x.1 x.2.1 x.2.2=Fx s m) (fun x=>x.1) ?_ (((s.Edges.length:Int)-0).toNat+1,([]:List AH),0) ⟨Nat.lt_succ_self _,⟨ax0,ax0,ax0⟩,(by simp only [Fx,cond_true,cond_false])⟩
 rintro ⟨n0,out_1,k⟩ ⟨hm0,hinv0,hF0⟩
 try dsimp only at hm0 hinv0 hF0
 cases n0 with | zero=>exact nz hm0 | succ n0 => ?_
 refine AB<|AB ?_
 refine rn ⟨(Ca [(5,tP 5 0),(6,tI k),(16,tB (decide ((k:Int)<(s.Edges.length:Int))))]),[(GJ s),(FQ m),(4,Z1e),(5,.cells [.i s.Kind,.own 100000 7 out_1.length,.i s.R] 28),(100000,.row 7 out_1.length (AL AH.c out_1) 68)]⟩ ?_
 refine AW _ rfl (fun h1 => ?_) (fun h1 => ?_)
 ·have g1:=oT h1
  refine AV<|AF ?_
  refine AB<|AO ?_
  refine dw [] [(27,Ij (s.Edges.getD k.toNat default) m)] [0<=(k:Int)/\(k:Int)<((s.Edges.length:Nat):Int),Aq (Ij (s.Edges.getD k.toNat default) m).2.1,out_1.length=out_1.length,out_1.length+1<=maxLen,(out_1.length+1)*56<=140737488355328] ⟨(Ca [(5,tP 5 0),(6,tI k)]),[(GJ s),(FQ m),(4,Z1e),(5,.cells [.i s.Kind,.own 29 7 (out_1.length+1),.i s.R] 28),(29,.row 7 (out_1.length+1) (fun i_ j_=>if i_<out_1.length then (AL AH.c out_1) i_ j_ else (Ap 7 1 (AH.c (Z1h s k m))) (i_-out_1.length) j_) 68)]⟩ (.cons (Ti (s.Edges.getD k.toNat default) m) .nil) (.cons au0 (.cons rfl (.cons rfl (.cons au3 (.cons au3 .nil)))))<|BA<|AF ?_
  refine BI (Cv.trans (A7 (⟨(Ca [(5,tP 5 0),(6,tI k)]),[(GJ s),(FQ m),(4,Z1e),(5,.cells [.i s.Kind,.own 29 7 (out_1++[Z1h s k m]).length,.i s.R] 28),(29,Z1i out_1 s k m)]⟩) lr (.cons ⟨rfl,.refl _⟩ (.cons ⟨rfl,.refl _⟩ (.cons ⟨rfl,.refl _⟩ (.cons ⟨rfl,.cells _ (rr (.cons (.own _ _ au2) (rr .nil)))⟩ (.cons ⟨rfl,Ad 68 (A8 (Ay 7 AH.c out_1) (Al (c:=AH.c) (xs:=([Z1h s k m]:List AH)) rfl kr))⟩ .nil)))))) (Cv.refl _)) ?_
  refine rg ⟨(Ca [(5,tP 5 0),(6,tI (W64 (k+1)))]),[(GJ s),(FQ m),(4,Z1e),(5,.cells [.i s.Kind,.own 29 7 (out_1++[Z1h s k m]).length,.i s.R] 28),(29,Z1i out_1 s k m)]⟩ ?_
  (try rw [(show W64 (k+1)=k+1 from Ah oM au5)])
  refine AF ?_
  refine ⟨(n0,out_1++[Z1h s k m],k+1),⟨?_,?_,(by rw [<- hF0];simp only [E4,h1,cond_true,cond_false])⟩,Nat.lt_succ_self _,Cv.trans (vr 29 100000 hk0) (Aw kr)⟩
  ·show ((s.Edges.length:Int)-(k+1)).toNat<n0;omega
  exact ⟨ax0,ax0,ax0⟩
 refine A3<|Ar ?_
 refine Ar<|A4 ?_
 refine AF<|AB ?_
 refine rn ⟨[(4,tP 4 0)],[(4,.cells [.i s.Kind,.own 100000 7 out_1.length,.i s.R] 28),(100000,.row 7 out_1.length (AL AH.c out_1) 68)]⟩<|Ab ?_
 exact yl (Cv.trans (vf 100000 7 out_1.length (AL AH.c out_1) 68 hk0 (.cons ⟨rfl,rfl⟩ .nil)) (Cv.refl _)) (.av (.agg [.i s.Kind,lst 7 AH.c out_1,.i s.R])) (Ae (by rw [<- hF0];first | (simp only [E4,h1,cond_true,cond_false] <;> rfl)))
theorem bQ (s:AQ) (m:AX) (h0:(s.Edges.length:Int)<=1000000):OKc (N4 s m):=cPu<|iH s m h0
abbrev ZR:List Cl:=[.i 0,.s (⟨#[]⟩),.i 0,.s (⟨#[]⟩),.i 0,.i 0,.i 0,vN,.i 0]
def Z1j:Blk:=.cells ZR 61
abbrev OE (p:AE) (pad:BJ) (b:AG) (t_:List Cl):List Cl:=(.i p.Id)::(.s pad.Name)::(.i 1)::(.s (Ir b (Ak.mk p.Ref pad.Name)))::t_
def Z1k (p:AE) (pad:BJ) (b:AG):Blk:=.cells (OE p pad b [.i 1,.i b.Layers,.i 0,vN,.i 0]) 61
def Lq (b:AG) (p:AE) (pad:BJ):AN:=AN.mk p.Id pad.Name 1 (Ir b (Ak.mk p.Ref pad.Name)) (bif decide ((pad.Drill:Int)=0) then (Eb b p) else 1) (bif decide ((pad.Drill:Int)=0) then (Eb b p) else b.Layers) (Fx pad.Shape (Ee p))
def Nz:CT:=(114,[.agg (CB b),.agg (AE.c p),.agg (BJ.c pad)],.val [] (.av (.agg (AN.c (Lq b p pad)))))
abbrev ZF (p:AE) (pad:BJ) (b:AG):List Cl:=(OE p pad b [.i (bif decide ((pad.Drill:Int)=0) then (Eb b p) else 1),.i (bif decide ((pad.Drill:Int)=0) then (Eb b p) else b.Layers),.i (Fx pad.Shape (Ee p)).Kind,lst 7 AH.c (Fx pad.Shape (Ee p)).Edges,.i (Fx pad.Shape (Ee p)).R])
abbrev Rw:List (Nat×Tv):=[(4,tP 4 0),(5,tP 5 0),(6,tP 6 0),(7,tP 7 0)]
abbrev KO:Nat×Blk:=(5,.cells (BJ.c pad) 102)
abbrev KN:Nat×Blk:=(4,.cells (AE.c p) 78)
theorem hZ (b:AG) (p:AE) (pad:BJ) (hn:(b.Nets.length:Int)<=1000000) (hq:∀ n∈b.Nets,(n.Pins.length:Int)<=1000000) (he:(pad.Shape.Edges.length:Int)<=1000000):PuP 114 (Nz b p pad).2.1 (.av (.agg (AN.c (Lq b p pad)))):=by
 refine pwf Tryz.func114 fun W0 M0 => ?_
 refine AB<|rn ⟨[(3,tP 3 0),(4,tP 4 0),(5,tP 5 0),(6,tP 6 0)],[(3,.cells (CB b) 41),(KN p),(KO pad),(6,Z1j)]⟩<|AB ?_
 refine dw [] [(18,Sq b (Ak.mk p.Ref pad.Name))] [Aq (Sq b (Ak.mk p.Ref pad.Name)).2.1] ⟨[(3,tP 3 0),(4,tP 4 0),(5,tP 5 0),(6,tP 6 0),(7,tP 7 0)],[(3,.cells (CB b) 41),(KN p),(KO pad),(6,Z1j),(7,Z1k p pad b)]⟩ (.cons (iS b (Ak.mk p.Ref pad.Name) au11 au11) .nil) (.cons rfl .nil)<|AF ?_
 refine AB<|AB ?_
 refine rn ⟨[(3,tP 3 0),(4,tP 4 0),(5,tP 5 0),(6,tP 6 0),(7,tP 7 0),(24,tB (decide ((pad.Drill:Int)=0)))],[(3,.cells (CB b) 41),(KN p),(KO pad),(6,Z1j),(7,Z1k p pad b)]⟩ ?_
 refine Bb (⟨Rw,[(KN p),(KO pad),(6,.cells ZR 61),(7,.cells (OE p pad b [.i (bif decide ((pad.Drill:Int)=0) then (Eb b p) else 1),.i (bif decide ((pad.Drill:Int)=0) then (Eb b p) else b.Layers),.i 0,vN,.i 0]) 61)]⟩) ?_ ?_
 ·refine AW _ rfl (fun h1 => ?_) (fun h1 => ?_)
  ·refine AB<|rs 27 (Sp b p) ⟨Rw,[(KN p),(KO pad),(6,Z1j),(7,.cells (OE p pad b [.i (Eb b p),.i b.Layers,.i 0,vN,.i 0]) 61)]⟩ (bJ b p)<|AF ?_
   refine rn ⟨Rw,[(KN p),(KO pad),(6,Z1j),(7,.cells (OE p pad b [.i (Eb b p),.i (Eb b p),.i 0,vN,.i 0]) 61)]⟩ ?_
   refine Aw ?_
   first | rfl | (simp only [h1,cond_true,cond_false] <;> rfl)
  refine AV<|AF ?_
  refine Cv.trans (ck (⟨Rw,[(KN p),(KO pad),(6,Z1j),(7,Z1k p pad b)]⟩)) (Aw ?_)
  first | rfl | (simp only [h1,cond_true,cond_false] <;> rfl)
 refine AB<|dw [] [(35,Jv p),(36,N4 pad.Shape (Ee p))] [Aq (Jv p).2.1,Aq (N4 pad.Shape (Ee p)).2.1] ⟨[(6,tP 6 0),(7,tP 7 0)],[(6,Z1j),(7,.cells (ZF p pad b) 61)]⟩ (.cons (V9 p) (.cons (bQ pad.Shape (Ee p) au11) .nil)) (.cons rfl (.cons rfl .nil))<|AF<|AB ?_
 refine rn ⟨[(6,tP 6 0)],[(6,.cells (ZF p pad b) 61)]⟩<|Ab ?_
 exact xl (.av (.agg (ZF p pad b))) (Ae (by rfl))
theorem bL (b:AG) (p:AE) (pad:BJ) (hn:(b.Nets.length:Int)<=1000000) (hq:∀ n∈b.Nets,(n.Pins.length:Int)<=1000000) (he:(pad.Shape.Edges.length:Int)<=1000000):OKc (Nz b p pad):=cPu<|hZ b p pad hn hq he
def Z1l (out:List AE) (at_:Int) (b:AG) (k:Int):Tv:=.av (.one (.own 49 7 (((out.take (at_:Int).toNat)++[b.Parts.getD k.toNat default])++(out.drop (at_:Int).toNat)).length))
def Z1m (out:List AE) (at_:Int) (b:AG) (k:Int):Blk:=.row 7 (((out.take (at_:Int).toNat)++[b.Parts.getD k.toNat default])++(out.drop (at_:Int).toNat)).length (AL AE.c (((out.take (at_:Int).toNat)++[b.Parts.getD k.toNat default])++(out.drop (at_:Int).toNat))) 78
def Dp (b:AG) (out:List AE) (k:Int) (K0:List AE->Int->(List AE)):Nat->Int->(List AE)
 | 0,_=>default
 | n1+1,at_=>bif bif decide ((0:Int)<at_) then decide (((b.Parts.getD k.toNat default).Id:Int)<(out.getD (at_-1).toNat default).Id) else false then ((Dp b out k K0 n1) (at_-1)) else (K0 (((out.take (at_:Int).toNat)++[b.Parts.getD k.toNat default])++(out.drop (at_:Int).toNat)) (k+1))
def DT (b:AG):Nat->List AE->Int->(List AE)
 | 0,_,_=>default
 | n0+1,out,k=>bif decide ((k:Int)<(b.Parts.length:Int)) then (Dp b out k (DT b n0) ((out.length:Int).toNat+1) (out.length:Int)) else out
def BR (b:AG):(List AE):=DT b (((b.Parts.length:Int)-0).toNat+1) [] 0
def Pl:CT:=(113,[.agg (CB b)],.val [] (.av (.one (lst 7 AE.c (BR b)))))
abbrev Bu:Nat×Blk:=(1,.cells (CB b) 41)
abbrev Dt:Bool:=(decide ((0:Int)<at_))
abbrev Rn:List (Nat×Tv):=[(1,tP 1 0),(3,.av (.one vN)),(4,tI 0)]
abbrev Rf:List (Nat×Tv):=[(1,tP 1 0),(3,.av (.one vN))]
abbrev OA (t_:List (Nat×Tv)):List (Nat×Tv):=(1,tP 1 0)::(3,tO (lst 7 AE.c out))::(4,tI k)::t_
theorem au18 {p:Prop} (h:p:=by first | omega | (unfold maxLen;omega) | (simp only [bY,bX,bW,Tu];omega)):p:=h
theorem aZ (b:AG) (hp:(b.Parts.length:Int)<=1000000):PuP 113 (Pl b).2.1 (tO (lst 7 AE.c (BR b))):=by
 refine pwf Tryz.func113 fun W0 M0 => ?_
 refine AB<|rn ⟨[(1,tP 1 0)],[(Bu b)]⟩<|AB ?_
 refine rn ⟨Rf,[(Bu b)]⟩ ?_
 refine AB<|AB ?_
 refine rn ⟨Rn,[(Bu b)]⟩<|AO ?_
 refine BI (Cv.trans (A7 (⟨[(1,tP 1 0),(3,tO (lst 7 AE.c [])),(4,tI 0)],[(Bu b)]⟩) (.cons ⟨rfl,.refl _⟩ (.cons ⟨rfl,.av (.one (Cd 7 AE.c))⟩ lr)) lr) (Cv.refl _)) ?_
 refine A0 (ι:=Nat×List AE×Int) (fun x=>⟨[(1,tP 1 0),(3,tO (lst 7 AE.c x.2.1)),(4,tI x.2.2)],[(Bu b)]⟩) (fun x=>((b.Parts.length:Int)-x.2.2).toNat<x.1/\((x.2.1.length:Int)=x.2.2/\0<=x.2.2/\(x.2.2<=(b.Parts.length:Int)\/x.2.2=0))/\DT b x.1 x.2.1 x.2.2=BR b) (fun x=>x.1) ?_ (((b.Parts.length:Int)-0).toNat+1,[],0) ⟨Nat.lt_succ_self _,⟨ax0,ax0,ax0⟩,(by simp only [BR,cond_true,cond_false])⟩
 rintro ⟨n0,out,k⟩ ⟨hm0,hinv0,hF0⟩
 try dsimp only at hm0 hinv0 hF0
 cases n0 with | zero=>exact nz hm0 | succ n0 => ?_
 refine AB<|AB ?_
 refine rn ⟨(OA out k [(10,tB (decide ((k:Int)<(b.Parts.length:Int))))]),[(Bu b)]⟩ ?_
 refine AW _ rfl (fun h1 => ?_) (fun h1 => ?_)
 ·have g1:=oT h1
  refine AV<|AF ?_
  refine AB<|AO<|AB ?_
  refine rn ⟨(OA out k [(5,tI (out.length:Int))]),[(Bu b)]⟩ ?_
  refine AB<|AO ?_
  refine A0 (ι:=Nat×Int) (fun x=>⟨(OA out k [(5,tI x.2)]),[(Bu b)]⟩) (fun x=>x.2.toNat<x.1/\(0<=x.2/\x.2<=(out.length:Int))/\Dp b out k (DT b n0) x.1 x.2=BR b) (fun x=>x.1) ?_ ((out.length:Int).toNat+1,(out.length:Int)) ⟨Nat.lt_succ_self _,⟨ax0,ax0⟩,(by rw [<- hF0];simp only [DT,h1,cond_true,cond_false])⟩
  rintro ⟨n1,at_⟩ ⟨hm1,hinv1,hF1⟩
  try dsimp only at hm1 hinv1 hF1
  cases n1 with | zero=>exact nz hm1 | succ n1 => ?_
  refine AB<|AB ?_
  refine dw [] [] (t3 (Dt at_) ((gk (Dt at_) (0<=(W64 (at_-1):Int)/\(W64 (at_-1):Int)<((out.length:Nat):Int)))::(t5 (Dt at_) ((gk (Dt at_) (0<=(k:Int)/\(k:Int)<((b.Parts.length:Nat):Int)))::(t5 (Dt at_) []))))) ⟨(OA out k [(5,tI at_),(31,tB (bif decide ((0:Int)<at_) then decide (((b.Parts.getD k.toNat default).Id:Int)<(out.getD (W64 (at_-1)).toNat default).Id) else false))]),[(Bu b)]⟩ .nil (c3 (.cons (fun hG=>by first | exact oM | (simp only [decide_eq_true_eq,decide_eq_false_iff_not,Bool.not_eq_true,Bool.and_eq_true] at hG <;> omega) | (simp at hG <;> omega) | (simp only [decide_eq_true_eq,decide_eq_false_iff_not] at hG;simp only [Bk];omega)) (c5 (.cons (fun hG=>by first | exact oM | (simp only [decide_eq_true_eq,decide_eq_false_iff_not,Bool.not_eq_true,Bool.and_eq_true] at hG <;> omega) | (simp at hG <;> omega) | (simp only [decide_eq_true_eq,decide_eq_false_iff_not] at hG;simp only [Bk];omega)) (c5 .nil))))) ?_
  (try rw [(show W64 (at_-1)=at_-1 from Ah oM oM)])
  refine AF ?_
  refine AW _ rfl (fun h2 => ?_) (fun h2 => ?_)
  ·have g2:=HT h2
   refine AV<|AF<|AO ?_
   refine rg ⟨(OA out k [(5,tI (W64 (at_-1)))]),[(Bu b)]⟩ ?_
   (try rw [(show W64 (at_-1)=at_-1 from Ah oM oM)])
   refine BA<|AF ?_
   refine ⟨(n1,at_-1),⟨?_,?_,(by rw [<- hF1];simp only [Dp,h2,cond_true,cond_false])⟩,Nat.lt_succ_self _,Aw kr⟩
   ·show (at_-1).toNat<n1;omega
   exact ⟨ax0,ax0⟩
  refine A3<|Ar ?_
  refine Ar<|A4<|AF ?_
  refine dw [34] [] [0<=(0:Int)/\(0:Int)<=(at_:Int)/\(at_:Int)<=((out.length:Nat):Int),0=0,0+((at_:Int).toNat-(0:Int).toNat)<=maxLen,(0+((at_:Int).toNat-(0:Int).toNat))*72<=140737488355328,0<=(k:Int)/\(k:Int)<((b.Parts.length:Nat):Int),0+((at_:Int).toNat-(0:Int).toNat)=0+((at_:Int).toNat-(0:Int).toNat),(0+((at_:Int).toNat-(0:Int).toNat))+1<=maxLen,((0+((at_:Int).toNat-(0:Int).toNat))+1)*72<=140737488355328,0<=(at_:Int)/\(at_:Int)<=(((out.length:Nat):Int):Int)/\(((out.length:Nat):Int):Int)<=((out.length:Nat):Int),(0+((at_:Int).toNat-(0:Int).toNat))+1=(0+((at_:Int).toNat-(0:Int).toNat))+1,((0+((at_:Int).toNat-(0:Int).toNat))+1)+((((out.length:Nat):Int):Int).toNat-(at_:Int).toNat)<=maxLen,(((0+((at_:Int).toNat-(0:Int).toNat))+1)+((((out.length:Nat):Int):Int).toNat-(at_:Int).toNat))*72<=140737488355328] ⟨[(1,tP 1 0),(3,tO (.own 49 7 (((0+((at_:Int).toNat-(0:Int).toNat))+1)+((((out.length:Nat):Int):Int).toNat-(at_:Int).toNat)))),(4,tI k)],[(Bu b),(49,.row 7 (((0+((at_:Int).toNat-(0:Int).toNat))+1)+((((out.length:Nat):Int):Int).toNat-(at_:Int).toNat)) (fun i_ j_=>if i_<((0+((at_:Int).toNat-(0:Int).toNat))+1) then (fun i_ j_=>if i_<(0+((at_:Int).toNat-(0:Int).toNat)) then (fun i_ j_=>if i_<0 then (Ap 7 0 []) i_ j_ else (fun i_ j_=>(AL AE.c out) (i_+(0:Int).toNat) j_) (i_-0) j_) i_ j_ else (Ap 7 1 (AE.c (b.Parts.getD k.toNat default))) (i_-(0+((at_:Int).toNat-(0:Int).toNat))) j_) i_ j_ else (fun i_ j_=>(AL AE.c out) (i_+(at_:Int).toNat) j_) (i_-((0+((at_:Int).toNat-(0:Int).toNat))+1)) j_) 78)]⟩ .nil (.cons oM (.cons rfl (.cons au18 (.cons au18 (.cons oM (.cons rfl (.cons au18 (.cons au18 (.cons oM (.cons rfl (.cons au18 (.cons au18 .nil))))))))))))<|BA<|AF ?_
  refine BI (Cv.trans (A7 (⟨[(1,tP 1 0),(3,Z1l out at_ b k),(4,tI k)],[(Bu b),(49,Z1m out at_ b k)]⟩) (.cons ⟨rfl,.refl _⟩ (.cons ⟨rfl,.av (.one (.own _ _ au2))⟩ lr)) (.cons ⟨rfl,.refl _⟩ (.cons ⟨rfl,Ad 78 (A8 (A8 (A8 (Al (c:=AE.c) (xs:=(([]:List AE):List AE)) rfl kr) (QO (b:=at_) (Ay 7 AE.c out) (by have hc:=(show 0<=(0:Int)/\(0:Int)<=(at_:Int)/\(at_:Int)<=((out.length:Nat):Int) from oM);exact hc.2.1) (by have hc:=(show 0<=(0:Int)/\(0:Int)<=(at_:Int)/\(at_:Int)<=((out.length:Nat):Int) from oM);exact hc.2.2))) (Al (c:=AE.c) (xs:=([b.Parts.getD k.toNat default]:List AE)) rfl kr)) (YG (a:=at_) (Ay 7 AE.c out) (by have hc:=(show 0<=(at_:Int)/\(at_:Int)<=(((out.length:Nat):Int):Int)/\(((out.length:Nat):Int):Int)<=((out.length:Nat):Int) from oM);exact hc.1) (by have hc:=(show 0<=(at_:Int)/\(at_:Int)<=(((out.length:Nat):Int):Int)/\(((out.length:Nat):Int):Int)<=((out.length:Nat):Int) from oM);exact hc.2.1)))⟩ .nil))) (Cv.refl _)) ?_
  refine rg ⟨[(1,tP 1 0),(3,Z1l out at_ b k),(4,tI (W64 (k+1)))],[(Bu b),(49,Z1m out at_ b k)]⟩ ?_
  (try rw [(show W64 (k+1)=k+1 from Ah oM au5)])
  refine AF ?_
  refine ⟨(n0,((out.take (at_:Int).toNat)++[b.Parts.getD k.toNat default])++(out.drop (at_:Int).toNat),k+1),⟨?_,?_,(by rw [<- hF1];simp only [Dp,h2,cond_true,cond_false])⟩,Nat.lt_succ_self _,Cv.trans (vf 49 7 (((out.take (at_:Int).toNat)++[b.Parts.getD k.toNat default])++(out.drop (at_:Int).toNat)).length (AL AE.c (((out.take (at_:Int).toNat)++[b.Parts.getD k.toNat default])++(out.drop (at_:Int).toNat))) 78 hk0 (.cons ⟨rfl,rfl⟩ .nil)) (Aw kr)⟩
  ·show ((b.Parts.length:Int)-(k+1)).toNat<n0;omega
  exact (by show ((((out.take (at_:Int).toNat)++[b.Parts.getD k.toNat default])++(out.drop (at_:Int).toNat)).length:Int)=(k+1)/\0<=(k+1)/\((k+1)<=(b.Parts.length:Int)\/(k+1)=0);(simp only [List.length_append,List.length_take,List.length_drop,List.length_cons,List.length_nil];omega))
 refine A3<|Ar ?_
 refine Ar<|A4 ?_
 refine AF<|AB ?_
 refine rn ⟨[(2,tO (lst 7 AE.c out))],[]⟩<|Ab ?_
 exact xl (tO (lst 7 AE.c out)) (Ae (by rw [<- hF0];first | (simp only [DT,h1,cond_true,cond_false] <;> rfl)))
theorem Yd (b:AG) (hp:(b.Parts.length:Int)<=1000000):OKc (Pl b):=cPu<|aZ b hp
theorem Vz (b:AG) (out:List AE) (k:Nat) (K0:List AE->Int->List AE):∀ (j m:Nat),j<m->Dp b out k K0 m j=K0 (out.take (E0 (fun y=>decide ((b.Parts.getD k default).Id<y.Id)) out j)++[b.Parts.getD k default]++out.drop (E0 (fun y=>decide ((b.Parts.getD k default).Id<y.Id)) out j)) ((k:Int)+1):=by
 intro j
 induction j with
 | zero =>
  intro m hm
  obtain ⟨m,rfl⟩:∃ k,m=k+1:=⟨m-1,by omega⟩
  rw [Dp]
  simp only [Int.toNat_natCast]
  rfl
 | succ j ih =>
  intro m hm
  obtain ⟨m,rfl⟩:∃ k,m=k+1:=⟨m-1,by omega⟩
  rw [Dp,E0,decide_eq_true (show (0:Int)<((j+1:Nat):Int) by omega),cond_true]
  have e:(((j+1:Nat):Int)-1)=(j:Int):=by omega
  rw [e]
  simp only [Int.toNat_natCast]
  cases decide ((b.Parts.getD k default).Id<(out.getD j default).Id) with
  | true=>exact ih m oM
  | false=>rfl
theorem NX (b:AG):BR b=B9 (fun x y=>decide (x.Id<y.Id)) b.Parts:=by
 have h:=Mi b.Parts (QB fun x y:AE=>decide (x.Id<y.Id)) (DT b) (fun acc _=>acc) (fun m acc v=>by
  rw [DT,Vz b acc v (DT b m) acc.length _ (by omega)]
  unfold QB
  rw [List.append_assoc]
  rfl) b.Parts.length 0 (((((b.Parts.length:Int)))-0).toNat+1) [] rfl (Nat.zero_le _) (by omega)
 rw [List.drop_zero] at h
 exact h
theorem PD (b:AG):BR b=CJ b.Parts:=by
 rw [NX,Ur]
 congr 1
 funext x y
 unfold NV CX FL
 by_cases h:x.Id<y.Id <;> by_cases k:y.Id<x.Id <;> simp [h,k]
theorem TZ (b:AG):(BR b).length=b.Parts.length:=by rw [NX];exact Cc _ _
def Z1n:Tv:=.av (.one (lst 7 AE.c (BR b)))
def Z1o:Blk:=.row 9 ([]:List AN).length (AL AN.c ([]:List AN)) 61
def Z1p:Tv:=.av (.one (.own 100000 9 ([]:List AN).length))
def Z1q (types:(List AR)) (b:AG) (k:Int):AR:=(BX types ((BR b).getD k.toNat default).Type').1
def Z1r (types:(List AR)) (b:AG) (k:Int):Tv:=tB (BX types ((BR b).getD k.toNat default).Type').2
def Z1s (types:(List AR)) (b:AG) (k:Int):Blk:=.cells (AR.c (Z1q types b k)) 82
def Z1t (types:(List AR)) (b:AG) (k:Int) (i:Int):BJ:=(Z1q types b k).Pads.getD i.toNat default
def Z1u (b:AG) (k:Int) (types:(List AR)) (i:Int):AN:=Lq b ((BR b).getD k.toNat default) (Z1t types b k i)
def Z1v (out':List AN) (b:AG) (k:Int) (types:(List AR)) (i:Int):Blk:=.row 9 (out'++[Z1u b k types i]).length (AL AN.c (out'++[Z1u b k types i])) 61
def ET (b:AG) (types:(List AR)) (out:List AN) (k:Int) (K0:List AN->Int->(List AN)):Nat->List AN->Int->(List AN)
 | 0,_,_=>default
 | n1+1,out',i=>bif bif (BX types ((BR b).getD k.toNat default).Type').2 then decide ((i:Int)<((Z1q types b k).Pads.length:Int)) else false then ((ET b types out k K0 n1) (out'++[Z1u b k types i]) (i+1)) else (K0 out' (k+1))
def C1 (b:AG) (types:(List AR)):Nat->List AN->Int->(List AN)
 | 0,_,_=>default
 | n0+1,out,k=>bif decide ((k:Int)<((BR b).length:Int)) then (ET b types out k (C1 b types n0) ((((Z1q types b k).Pads.length:Int)-0).toNat+1) out 0) else out
def C0 (b:AG) (types:(List AR)):(List AN):=C1 b types ((((BR b).length:Int)-0).toNat+1) ([]:List AN) 0
abbrev Re (out:List AN):Nat×Blk:=(100000,.row 9 out.length (AL AN.c out) 61)
theorem au22 {p:Prop} (h:p:=by first | (exact Ql ht _) | (exact dI ht _ _) | with_reducible assumption | omega | decide | (simp only [List.length_cons,List.length_nil,List.length_append];omega) | assumption):p:=h
theorem gR (b:AG) (types:(List AR)) (hp:b.Parts.length<20) (ht:B4 types) (hn:(b.Nets.length:Int)<=1000000) (hq:∀ n∈b.Nets,(n.Pins.length:Int)<=1000000):Fr Tryz.prog 55 [.agg (CB b),.one (lst 3 AR.c types)] (.row 9 (C0 b types).length (AL AN.c (C0 b types)) 61) (fun d=>tO (.own d 9 (C0 b types).length)):=by
 refine Cu Tryz.func55 rfl kr (DQ _ _) fun W0 M0 => ?_
 have ht1:=ht.1
 have hl:=TZ b
 refine AB<|rn ⟨[(Cn types),(2,tP 2 0)],[(CD b)]⟩<|AB ?_
 refine rn ⟨[(Cn types),(2,tP 2 0),KR],[(CD b)]⟩<|AB ?_
 refine rs 12 (Pl b) ⟨[(Cn types),(2,tP 2 0),KR,(6,Z1n b)],[(CD b)]⟩ (Yd b au22)<|AF ?_
 refine AB<|AB ?_
 refine rn ⟨[(Cn types),(2,tP 2 0),KR,(6,Z1n b),(7,tI 0)],[(CD b)]⟩<|AO ?_
 refine BI (Cv.trans (wg (⟨[(Cn types),(2,tP 2 0),(5,tO (.own 100000 9 0)),(6,Z1n b),(7,tI 0)],[(100000,.row 9 0 (fun _ _=>default) 61),(CD b)]⟩) 100000 9 (fun _ _=>default) 61 [(5,[0])] [] hk0) (Cv.trans (A7 (⟨[(Cn types),(2,tP 2 0),(5,Z1p),(6,Z1n b),(7,tI 0)],[(100000,Z1o),(CD b)]⟩) (.cons ⟨rfl,.refl _⟩ (.cons ⟨rfl,.refl _⟩ (.cons ⟨rfl,.av (.one (.own _ _ au2))⟩ lr))) (.cons ⟨rfl,Ad 61 (B3 9 (fun _ _=>default) AN.c)⟩ lr)) (Cv.trans (ck (⟨[(Cn types),(2,tP 2 0),(5,Z1p),(6,Z1n b),(7,tI 0)],[(CD b),(100000,Z1o)]⟩)) (Cv.refl _)))) ?_
 refine A0 (ι:=Nat×List AN×Int) (fun x=>⟨[(Cn types),(2,tP 2 0),(5,tO (.own 100000 9 x.2.1.length)),(6,Z1n b),(7,tI x.2.2)],[(CD b),(100000,.row 9 x.2.1.length (AL AN.c x.2.1) 61)]⟩) (fun x=>(((BR b).length:Int)-x.2.2).toNat<x.1/\((x.2.1.length:Int)<=1000000*x.2.2/\0<=x.2.2/\(x.2.2<=((BR b).length:Int)\/x.2.2=0))/\C1 b types x.1 x.2.1 x.2.2=C0 b types) (fun x=>x.1) ?_ ((((BR b).length:Int)-0).toNat+1,([]:List AN),0) ⟨Nat.lt_succ_self _,⟨ax0,ax0,ax0⟩,(by simp only [C0,cond_true,cond_false])⟩
 rintro ⟨n0,out,k⟩ ⟨hm0,hinv0,hF0⟩
 try dsimp only at hm0 hinv0 hF0
 cases n0 with | zero=>exact nz hm0 | succ n0 => ?_
 refine AB<|AB ?_
 refine rn ⟨[(Cn types),(2,tP 2 0),(5,tO (.own 100000 9 out.length)),(6,Z1n b),(7,tI k),(16,tB (decide ((k:Int)<((BR b).length:Int))))],[(CD b),(Re out)]⟩ ?_
 refine AW _ rfl (fun h1 => ?_) (fun h1 => ?_)
 ·have g1:=oT h1
  refine AV<|AF ?_
  refine AB<|AO<|AB ?_
  refine rc [(26,LA types ((BR b).getD k.toNat default).Type')] [0<=(k:Int)/\(k:Int)<(((BR b).length:Nat):Int),Aq (LA types ((BR b).getD k.toNat default).Type').2.1] ⟨[(Cn types),(2,tP 2 0),(5,tO (.own 100000 9 out.length)),(6,Z1n b),(7,tI k),(8,tP 8 0),(9,Z1r types b k)],[(CD b),(8,Z1s types b k),(Re out)]⟩ (.cons (SR types ((BR b).getD k.toNat default).Type' au22) .nil) (.cons au0 (.cons rfl .nil))<|AF<|AB ?_
  refine rn ⟨[(Cn types),(2,tP 2 0),(5,tO (.own 100000 9 out.length)),(6,Z1n b),(7,tI k),(8,tP 8 0),(9,Z1r types b k),(10,tI 0)],[(CD b),(8,Z1s types b k),(Re out)]⟩<|AO ?_
  refine A0 (ι:=Nat×List AN×Int) (fun x=>⟨[(Cn types),(2,tP 2 0),(5,tO (.own 100000 9 x.2.1.length)),(6,Z1n b),(7,tI k),(8,tP 8 0),(9,Z1r types b k),(10,tI x.2.2)],[(CD b),(8,Z1s types b k),(100000,.row 9 x.2.1.length (AL AN.c x.2.1) 61)]⟩) (fun x=>(((Z1q types b k).Pads.length:Int)-x.2.2).toNat<x.1/\(0<=x.2.2/\x.2.2<=((Z1q types b k).Pads.length:Int)/\(x.2.1.length:Int)<=1000000*k+x.2.2/\0<=x.2.2)/\ET b types out k (C1 b types n0) x.1 x.2.1 x.2.2=C0 b types) (fun x=>x.1) ?_ ((((Z1q types b k).Pads.length:Int)-0).toNat+1,out,0) ⟨Nat.lt_succ_self _,⟨ax0,ax0,ax0,ax0⟩,(by rw [<- hF0];simp only [C1,h1,cond_true,cond_false])⟩
  rintro ⟨n1,out',i⟩ ⟨hm1,hinv1,hF1⟩
  try dsimp only at hm1 hinv1 hF1
  cases n1 with | zero=>exact nz hm1 | succ n1 => ?_
  have hb1:((Z1q types b k).Pads.length:Int)<=1000000:=Ql ht ((BR b).getD k.toNat default).Type'
  refine AB<|AB ?_
  refine rc [] (t5 ((BX types ((BR b).getD k.toNat default).Type').2) []) ⟨[(Cn types),(2,tP 2 0),(5,tO (.own 100000 9 out'.length)),(6,Z1n b),(7,tI k),(8,tP 8 0),(9,Z1r types b k),(10,tI i),(36,tB (bif (BX types ((BR b).getD k.toNat default).Type').2 then decide ((i:Int)<((Z1q types b k).Pads.length:Int)) else false))],[(CD b),(8,Z1s types b k),(100000,.row 9 out'.length (AL AN.c out') 61)]⟩ .nil (c5 .nil)<|AF ?_
  refine AW _ rfl (fun h2 => ?_) (fun h2 => ?_)
  ·have g2:=fA h2
   refine AV<|AF ?_
   refine AB<|AO ?_
   refine dw [] [(50,Nz b ((BR b).getD k.toNat default) (Z1t types b k i))] [0<=(k:Int)/\(k:Int)<(((BR b).length:Nat):Int),0<=(i:Int)/\(i:Int)<(((Z1q types b k).Pads.length:Nat):Int),Aq (Nz b ((BR b).getD k.toNat default) (Z1t types b k i)).2.1,out'.length=out'.length,out'.length+1<=maxLen,(out'.length+1)*104<=140737488355328] ⟨[(Cn types),(2,tP 2 0),(5,tO (.own 52 9 (out'.length+1))),(6,Z1n b),(7,tI k),(8,tP 8 0),(9,Z1r types b k),(10,tI i)],[(CD b),(8,Z1s types b k),(52,.row 9 (out'.length+1) (fun i_ j_=>if i_<out'.length then (AL AN.c out') i_ j_ else (Ap 9 1 (AN.c (Z1u b k types i))) (i_-out'.length) j_) 61)]⟩ (.cons (bL b ((BR b).getD k.toNat default) (Z1t types b k i) au22 au22 au22) .nil) (.cons au0 (.cons au0 (.cons rfl (.cons rfl (.cons au18 (.cons au18 .nil))))))<|BA<|AF ?_
   refine BI (Cv.trans (A7 (⟨[(Cn types),(2,tP 2 0),(5,tO (.own 52 9 (out'++[Z1u b k types i]).length)),(6,Z1n b),(7,tI k),(8,tP 8 0),(9,Z1r types b k),(10,tI i)],[(CD b),(8,Z1s types b k),(52,Z1v out' b k types i)]⟩) (.cons ⟨rfl,.refl _⟩ (.cons ⟨rfl,.refl _⟩ (.cons ⟨rfl,.av (.one (.own _ _ au2))⟩ lr))) (.cons ⟨rfl,.refl _⟩ (.cons ⟨rfl,.refl _⟩ (.cons ⟨rfl,Ad 61 (A8 (Ay 9 AN.c out') (Al (c:=AN.c) (xs:=([Z1u b k types i]:List AN)) rfl kr))⟩ .nil)))) (Cv.refl _)) ?_
   refine rg ⟨[(Cn types),(2,tP 2 0),(5,tO (.own 52 9 (out'++[Z1u b k types i]).length)),(6,Z1n b),(7,tI k),(8,tP 8 0),(9,Z1r types b k),(10,tI (W64 (i+1)))],[(CD b),(8,Z1s types b k),(52,Z1v out' b k types i)]⟩ ?_
   (try rw [(show W64 (i+1)=i+1 from Ah oM oM)])
   refine AF ?_
   refine ⟨(n1,out'++[Z1u b k types i],i+1),⟨?_,?_,(by rw [<- hF1];simp only [ET,h2,cond_true,cond_false])⟩,Nat.lt_succ_self _,Cv.trans (vr 52 100000 hk0) (Aw kr)⟩
   ·show (((Z1q types b k).Pads.length:Int)-(i+1)).toNat<n1;omega
   exact ⟨ax0,ax0,ax0,ax0⟩
  refine A3<|Ar ?_
  refine Ar<|A4 ?_
  refine BA<|AF ?_
  refine rg ⟨[(Cn types),(2,tP 2 0),(5,tO (.own 100000 9 out'.length)),(6,Z1n b),(7,tI (W64 (k+1)))],[(CD b),(100000,.row 9 out'.length (AL AN.c out') 61)]⟩ ?_
  (try rw [(show W64 (k+1)=k+1 from Ah oM au5)])
  refine AF ?_
  refine ⟨(n0,out',k+1),⟨?_,?_,(by rw [<- hF1];simp only [ET,h2,cond_true,cond_false])⟩,Nat.lt_succ_self _,Aw kr⟩
  ·show (((BR b).length:Int)-(k+1)).toNat<n0;omega
  exact ⟨ax0,ax0,ax0⟩
 refine A3<|Ar ?_
 refine Ar<|A4 ?_
 refine AF<|AB ?_
 refine rn ⟨[(4,tO (.own 100000 9 out.length))],[(Re out)]⟩<|Ab ?_
 exact xl (tO (.own 100000 9 out.length)) (frE (c:=AN.c) (xs:=out) (by rw [<- hF0];first | (simp only [C1,h1,cond_true,cond_false] <;> rfl)) kr)
def Xz:CT:=(55,[.agg (CB b),.one (Fz types)],.new [] (.row 9 (C0 b types).length (AL AN.c (C0 b types)) 61) (fun d=>.av (.one (.own d 9 (C0 b types).length))))
theorem bP (b:AG) (types:(List AR)) (hp:b.Parts.length<20) (ht:B4 types) (hn:(b.Nets.length:Int)<=1000000) (hq:∀ n∈b.Nets,(n.Pins.length:Int)<=1000000):OKc (Xz b types):=Cx (fun _ _=>kr) (gR b types hp ht hn hq)
end
section
open Go.RowKit
def Z1w:Tv:=.av (.one (.own 100000 6 ([]:List AM).length))
def Z1x:Blk:=.row 6 ([]:List AM).length (AL AM.c ([]:List AM)) 131
variable (out:List AM) (at_:Int) (b:AG) (k:Int) (s:AQ)
def Z1y:Blk:=.row 6 out.length (AL AM.c out) 131
abbrev Rj:=[AM.mk 0 (⟨#[]⟩) 0 (AQ.mk 0 [] 0)]
abbrev M9:=out++Rj
def Z1z:Tv:=.av (.one (.own 37 6 (M9 out).length))
abbrev TA:=(GX (M9 out) (W64 (at_+1):Int).toNat (at_:Int).toNat (Nat.min (((((M9 out).length:Nat):Int):Int).toNat-(at_:Int).toNat) (((((M9 out).length:Nat):Int):Int).toNat-(W64 (at_+1):Int).toNat)))
def Z1A:Tv:=.av (.one (.own 37 6 (TA out at_).length))
abbrev Oa:=b.Tracks.getD k.toNat default
def Z1B:Tv:=.av (.one (.own 37 6 ((TA out at_).set at_.toNat (Oa b k)).length))
def Z1C:Blk:=.row 6 ((TA out at_).set at_.toNat (Oa b k)).length (AL AM.c ((TA out at_).set at_.toNat (Oa b k))) 131
def FA (b:AG) (out:List AM) (k:Int) (K0:List AM->Int->(List AM)):Nat->Int->(List AM)
 | 0,_=>default
 | n1+1,at_=>bif bif decide ((0:Int)<at_) then decide (((b.Tracks.getD k.toNat default).Id:Int)<(out.getD (at_-1).toNat default).Id) else false then ((FA b out k K0 n1) (at_-1)) else (K0 ((GX (out++[AM.mk 0 (⟨#[]⟩) 0 (AQ.mk 0 [] 0)]) (W64 (at_+1):Int).toNat (at_:Int).toNat (Nat.min (((((out++[AM.mk 0 (⟨#[]⟩) 0 (AQ.mk 0 [] 0)]).length:Nat):Int):Int).toNat-(at_:Int).toNat) (((((out++[AM.mk 0 (⟨#[]⟩) 0 (AQ.mk 0 [] 0)]).length:Nat):Int):Int).toNat-(W64 (at_+1):Int).toNat))).set at_.toNat (b.Tracks.getD k.toNat default)) (k+1))
def ER (b:AG):Nat->List AM->Int->(List AM)
 | 0,_,_=>default
 | n0+1,out,k=>bif decide ((k:Int)<(b.Tracks.length:Int)) then (FA b out k (ER b n0) (((out.length:Nat):Int).toNat+1) ((out.length:Nat):Int)) else out
def Az (b:AG):(List AM):=ER b (((b.Tracks.length:Int)-0).toNat+1) ([]:List AM) 0
abbrev KQ:Cl:=.own 100000 6 out.length
theorem au12 {p:Prop} (h:p:=by first | omega | (simp only [List.length_append,List.length_cons,List.length_nil];omega) | (simp only [PF,SV,hw9,List.length_append,List.length_cons,List.length_nil];omega)):p:=h
theorem aH (b:AG) (hp:(b.Tracks.length:Int)<=1000000):Fr Tryz.prog 56 [.agg (CB b)] (.row 6 (Az b).length (AL AM.c (Az b)) 131) (fun d=>tO (.own d 6 (Az b).length)):=by
 refine Cu Tryz.func56 rfl kr (DQ _ _) fun W0 M0 => ?_
 refine AB<|rn ⟨[(1,tP 1 0)],[(Bu b)]⟩<|AB ?_
 refine rn ⟨Rf,[(Bu b)]⟩ ?_
 refine AB<|AB ?_
 refine rn ⟨Rn,[(Bu b)]⟩<|AO ?_
 refine BI (Cv.trans (wg (⟨[(1,tP 1 0),(3,tO (.own 100000 6 0)),(4,tI 0)],[(100000,.row 6 0 (fun _ _=>default) 131),(Bu b)]⟩) 100000 6 (fun _ _=>default) 131 [(3,[0])] [] hk0) (Cv.trans (A7 (⟨[(1,tP 1 0),(3,Z1w),(4,tI 0)],[(100000,Z1x),(Bu b)]⟩) (.cons ⟨rfl,.refl _⟩ (.cons ⟨rfl,.av (.one (.own _ _ au2))⟩ lr)) (.cons ⟨rfl,Ad 131 (B3 6 (fun _ _=>default) AM.c)⟩ lr)) (Cv.trans (ck (⟨[(1,tP 1 0),(3,Z1w),(4,tI 0)],[(Bu b),(100000,Z1x)]⟩)) (Cv.refl _)))) ?_
 refine A0 (ι:=Nat×List AM×Int) (fun x=>⟨[(1,tP 1 0),(3,tO (.own 100000 6 x.2.1.length)),(4,tI x.2.2)],[(Bu b),(100000,.row 6 x.2.1.length (AL AM.c x.2.1) 131)]⟩) (fun x=>((b.Tracks.length:Int)-x.2.2).toNat<x.1/\((x.2.1.length:Int)=x.2.2/\0<=x.2.2/\(x.2.2<=(b.Tracks.length:Int)\/x.2.2=0))/\ER b x.1 x.2.1 x.2.2=Az b) (fun x=>x.1) ?_ (((b.Tracks.length:Int)-0).toNat+1,([]:List AM),0) ⟨Nat.lt_succ_self _,⟨ax0,ax0,ax0⟩,(by simp only [Az,cond_true,cond_false])⟩
 rintro ⟨n0,out,k⟩ ⟨hm0,hinv0,hF0⟩
 try dsimp only at hm0 hinv0 hF0
 cases n0 with | zero=>exact nz hm0 | succ n0 => ?_
 refine AB<|AB ?_
 refine rn ⟨[(1,tP 1 0),(3,tO (KQ out)),(4,tI k),(10,tB (decide ((k:Int)<(b.Tracks.length:Int))))],[(Bu b),(100000,Z1y out)]⟩ ?_
 refine AW _ rfl (fun h1 => ?_) (fun h1 => ?_)
 ·have g1:=oT h1
  refine AV<|AF ?_
  refine AB<|AO<|AB ?_
  refine rn ⟨[(1,tP 1 0),(3,tO (KQ out)),(4,tI k),(5,tI ((out.length:Nat):Int))],[(Bu b),(100000,Z1y out)]⟩ ?_
  refine AB<|AO ?_
  refine A0 (ι:=Nat×Int) (fun x=>⟨[(1,tP 1 0),(3,tO (KQ out)),(4,tI k),(5,tI x.2)],[(Bu b),(100000,Z1y out)]⟩) (fun x=>x.2.toNat<x.1/\(0<=x.2/\x.2<=(out.length:Int))/\FA b out k (ER b n0) x.1 x.2=Az b) (fun x=>x.1) ?_ (((out.length:Nat):Int).toNat+1,((out.length:Nat):Int)) ⟨Nat.lt_succ_self _,⟨ax0,ax0⟩,(by rw [<- hF0];simp only [ER,h1,cond_true,cond_false])⟩
  rintro ⟨n1,at_⟩ ⟨hm1,hinv1,hF1⟩
  try dsimp only at hm1 hinv1 hF1
  cases n1 with | zero=>exact nz hm1 | succ n1 => ?_
  have hw9:W64 (at_+1)=at_+1:=Ah oM oM
  refine AB<|AB ?_
  refine dw [] [] (t3 (Dt at_) ((gk (Dt at_) (0<=(k:Int)/\(k:Int)<((b.Tracks.length:Nat):Int)))::(t5 (Dt at_) ((gk (Dt at_) (0<=(W64 (at_-1):Int)/\(W64 (at_-1):Int)<((out.length:Nat):Int)))::(t2 (Dt at_) ((gk (Dt at_) ((W64 (at_-1)).toNat<out.length))::(t3 (Dt at_) []))))))) ⟨[(1,tP 1 0),(3,tO (KQ out)),(4,tI k),(5,tI at_),(31,tB (bif decide ((0:Int)<at_) then decide (((Oa b k).Id:Int)<(out.getD (W64 (at_-1)).toNat default).Id) else false))],[(Bu b),(100000,Z1y out)]⟩ .nil (c3 (.cons (fun hG=>by first | exact au12 | (simp only [decide_eq_true_eq,decide_eq_false_iff_not,Bool.not_eq_true,Bool.and_eq_true] at hG <;> omega) | (simp at hG <;> omega) | (simp only [decide_eq_true_eq,decide_eq_false_iff_not] at hG;simp only [Bk];omega)) (c5 (.cons (fun hG=>by first | exact au12 | (simp only [decide_eq_true_eq,decide_eq_false_iff_not,Bool.not_eq_true,Bool.and_eq_true] at hG <;> omega) | (simp at hG <;> omega) | (simp only [decide_eq_true_eq,decide_eq_false_iff_not] at hG;simp only [Bk];omega)) (c2 (.cons (fun hG=>by first | exact au12 | (simp only [decide_eq_true_eq,decide_eq_false_iff_not,Bool.not_eq_true,Bool.and_eq_true] at hG <;> omega) | (simp at hG <;> omega) | (simp only [decide_eq_true_eq,decide_eq_false_iff_not] at hG;simp only [Bk];omega)) (c3 .nil))))))) ?_
  (try rw [(show W64 (at_-1)=at_-1 from Ah oM oM)])
  refine AF ?_
  refine AW _ rfl (fun h2 => ?_) (fun h2 => ?_)
  ·have g2:=HT h2
   refine AV<|AF<|AO ?_
   refine rg ⟨[(1,tP 1 0),(3,tO (KQ out)),(4,tI k),(5,tI (W64 (at_-1)))],[(Bu b),(100000,Z1y out)]⟩ ?_
   (try rw [(show W64 (at_-1)=at_-1 from Ah oM oM)])
   refine BA<|AF ?_
   refine ⟨(n1,at_-1),⟨?_,?_,(by rw [<- hF1];simp only [FA,h2,cond_true,cond_false])⟩,Nat.lt_succ_self _,Aw kr⟩
   ·show (at_-1).toNat<n1;omega
   exact ⟨ax0,ax0⟩
  refine A3<|Ar ?_
  refine Ar<|A4 ?_
  refine AF<|AB ?_
  refine rc [] [out.length=out.length,out.length+1<=maxLen,(out.length+1)*72<=140737488355328] ⟨[(1,tP 1 0),(3,tO (.own 37 6 (out.length+1))),(4,tI k),(5,tI at_)],[(Bu b),(37,.row 6 (out.length+1) (fun i_ j_=>if i_<out.length then (AL AM.c out) i_ j_ else (Ap 6 1 U6) (i_-out.length) j_) 131)]⟩ .nil (.cons rfl (.cons au18 (.cons au18 .nil)))<|AF ?_
  refine BI (Cv.trans (A7 (⟨[(1,tP 1 0),(3,Z1z out),(4,tI k),(5,tI at_)],[(Bu b),(37,.row 6 (M9 out).length (AL AM.c (M9 out)) 131)]⟩) (.cons ⟨rfl,.refl _⟩ (.cons ⟨rfl,.av (.one (.own _ _ au2))⟩ lr)) (.cons ⟨rfl,.refl _⟩ (.cons ⟨rfl,Ad 131 (A8 (Ay 6 AM.c out) (E7 (c:=AM.c) (xs:=([AM.mk 0 (⟨#[]⟩) 0 (AQ.mk 0 [] 0)]:List AM)) (y:=[U6]) (z:=[[.i 0,.s (⟨#[]⟩),.i 0,.i 0,lst 7 AH.c [],.i 0]]) rfl kr kr (.cons (rr4 (.cons (Cd 7 AH.c) (rr .nil))) .nil)))⟩ .nil))) (Cv.refl _))<|AB ?_
  refine dw [] [] [(out++[AM.mk 0 (⟨#[]⟩) 0 (AQ.mk 0 [] 0)]).length=(out++[AM.mk 0 (⟨#[]⟩) 0 (AQ.mk 0 [] 0)]).length,0<=(W64 (at_+1):Int)/\(W64 (at_+1):Int)<=((((out++[AM.mk 0 (⟨#[]⟩) 0 (AQ.mk 0 [] 0)]).length:Nat):Int):Int)/\((((out++[AM.mk 0 (⟨#[]⟩) 0 (AQ.mk 0 [] 0)]).length:Nat):Int):Int)<=(((out++[AM.mk 0 (⟨#[]⟩) 0 (AQ.mk 0 [] 0)]).length:Nat):Int),(out++[AM.mk 0 (⟨#[]⟩) 0 (AQ.mk 0 [] 0)]).length=(out++[AM.mk 0 (⟨#[]⟩) 0 (AQ.mk 0 [] 0)]).length,0<=(at_:Int)/\(at_:Int)<=((((out++[AM.mk 0 (⟨#[]⟩) 0 (AQ.mk 0 [] 0)]).length:Nat):Int):Int)/\((((out++[AM.mk 0 (⟨#[]⟩) 0 (AQ.mk 0 [] 0)]).length:Nat):Int):Int)<=(((out++[AM.mk 0 (⟨#[]⟩) 0 (AQ.mk 0 [] 0)]).length:Nat):Int),(W64 (at_+1):Int).toNat+(((((out++[AM.mk 0 (⟨#[]⟩) 0 (AQ.mk 0 [] 0)]).length:Nat):Int):Int).toNat-(W64 (at_+1):Int).toNat)<=(out++[AM.mk 0 (⟨#[]⟩) 0 (AQ.mk 0 [] 0)]).length,(at_:Int).toNat+(((((out++[AM.mk 0 (⟨#[]⟩) 0 (AQ.mk 0 [] 0)]).length:Nat):Int):Int).toNat-(at_:Int).toNat)<=(out++[AM.mk 0 (⟨#[]⟩) 0 (AQ.mk 0 [] 0)]).length] ⟨[(1,tP 1 0),(3,Z1z out),(4,tI k),(5,tI at_)],[(Bu b),(37,.row 6 (M9 out).length (fun i_ j_=>if (W64 (at_+1):Int).toNat<=i_/\i_<(W64 (at_+1):Int).toNat+Nat.min (((((M9 out).length:Nat):Int):Int).toNat-(at_:Int).toNat) (((((M9 out).length:Nat):Int):Int).toNat-(W64 (at_+1):Int).toNat) then (AL AM.c (M9 out)) (i_-(W64 (at_+1):Int).toNat+(at_:Int).toNat) j_ else (AL AM.c (M9 out)) i_ j_) 131)]⟩ .nil (.cons rfl (.cons au12 (.cons rfl (.cons au12 (.cons au12 (.cons au12 .nil))))))<|AF ?_
  refine BI (Cv.trans (A7 (⟨[(1,tP 1 0),(3,Z1A out at_),(4,tI k),(5,tI at_)],[(Bu b),(37,.row 6 (TA out at_).length (AL AM.c (TA out at_)) 131)]⟩) (.cons ⟨rfl,.refl _⟩ (.cons ⟨rfl,.av (.one (.own _ _ (Jg (lo1:=(W64 (at_+1):Int).toNat) (m1:=((((out++[AM.mk 0 (⟨#[]⟩) 0 (AQ.mk 0 [] 0)]).length:Nat):Int):Int).toNat-(W64 (at_+1):Int).toNat) (lo2:=(at_:Int).toNat) (m2:=((((out++[AM.mk 0 (⟨#[]⟩) 0 (AQ.mk 0 [] 0)]).length:Nat):Int):Int).toNat-(at_:Int).toNat) (Ay 6 AM.c (out++[AM.mk 0 (⟨#[]⟩) 0 (AQ.mk 0 [] 0)])) au12 au12).1))⟩ lr)) (.cons ⟨rfl,.refl _⟩ (.cons ⟨rfl,Ad 131 (Jg (lo1:=(W64 (at_+1):Int).toNat) (m1:=((((out++[AM.mk 0 (⟨#[]⟩) 0 (AQ.mk 0 [] 0)]).length:Nat):Int):Int).toNat-(W64 (at_+1):Int).toNat) (lo2:=(at_:Int).toNat) (m2:=((((out++[AM.mk 0 (⟨#[]⟩) 0 (AQ.mk 0 [] 0)]).length:Nat):Int):Int).toNat-(at_:Int).toNat) (Ay 6 AM.c (out++[AM.mk 0 (⟨#[]⟩) 0 (AQ.mk 0 [] 0)])) au12 au12)⟩ .nil))) (Cv.refl _)) ?_
  refine rc [] [0<=(k:Int)/\(k:Int)<((b.Tracks.length:Nat):Int),0<=(at_:Int)/\(at_:Int)<(((GX (out++[AM.mk 0 (⟨#[]⟩) 0 (AQ.mk 0 [] 0)]) (W64 (at_+1):Int).toNat (at_:Int).toNat (Nat.min (((((out++[AM.mk 0 (⟨#[]⟩) 0 (AQ.mk 0 [] 0)]).length:Nat):Int):Int).toNat-(at_:Int).toNat) (((((out++[AM.mk 0 (⟨#[]⟩) 0 (AQ.mk 0 [] 0)]).length:Nat):Int):Int).toNat-(W64 (at_+1):Int).toNat))).length:Nat):Int),at_.toNat<(GX (out++[AM.mk 0 (⟨#[]⟩) 0 (AQ.mk 0 [] 0)]) (W64 (at_+1):Int).toNat (at_:Int).toNat (Nat.min (((((out++[AM.mk 0 (⟨#[]⟩) 0 (AQ.mk 0 [] 0)]).length:Nat):Int):Int).toNat-(at_:Int).toNat) (((((out++[AM.mk 0 (⟨#[]⟩) 0 (AQ.mk 0 [] 0)]).length:Nat):Int):Int).toNat-(W64 (at_+1):Int).toNat))).length] ⟨[(1,tP 1 0),(3,Z1A out at_),(4,tI k)],[(Bu b),(37,.row 6 (TA out at_).length (fun i_ j_=>if i_=at_.toNat/\0<=j_/\j_<0+6 then ((AM.c (Oa b k)):List Cl).getD (j_-0) default else (AL AM.c (TA out at_)) i_ j_) 131)]⟩ .nil (.cons au12 (.cons au12 (.cons au12 .nil)))<|BA<|AF ?_
  refine BI (Cv.trans (A7 (⟨[(1,tP 1 0),(3,Z1B out at_ b k),(4,tI k)],[(Bu b),(37,Z1C out at_ b k)]⟩) (.cons ⟨rfl,.refl _⟩ (.cons ⟨rfl,.av (.one (.own _ _ au2))⟩ lr)) (.cons ⟨rfl,.refl _⟩ (.cons ⟨rfl,Ad 131 (Gt (l:=(AM.c (b.Tracks.getD k.toNat default))) (off:=0) (q:=6) (k:=at_.toNat) (Ay 6 AM.c (GX (out++[AM.mk 0 (⟨#[]⟩) 0 (AQ.mk 0 [] 0)]) (W64 (at_+1):Int).toNat (at_:Int).toNat (Nat.min (((((out++[AM.mk 0 (⟨#[]⟩) 0 (AQ.mk 0 [] 0)]).length:Nat):Int):Int).toNat-(at_:Int).toNat) (((((out++[AM.mk 0 (⟨#[]⟩) 0 (AQ.mk 0 [] 0)]).length:Nat):Int):Int).toNat-(W64 (at_+1):Int).toNat)))) au12 (b.Tracks.getD k.toNat default) (GW kr))⟩ .nil))) (Cv.refl _)) ?_
  refine rg ⟨[(1,tP 1 0),(3,Z1B out at_ b k),(4,tI (W64 (k+1)))],[(Bu b),(37,Z1C out at_ b k)]⟩ ?_
  (try rw [(show W64 (k+1)=k+1 from Ah oM au5)])
  refine AF ?_
  refine ⟨(n0,(GX (out++[AM.mk 0 (⟨#[]⟩) 0 (AQ.mk 0 [] 0)]) (W64 (at_+1):Int).toNat (at_:Int).toNat (Nat.min (((((out++[AM.mk 0 (⟨#[]⟩) 0 (AQ.mk 0 [] 0)]).length:Nat):Int):Int).toNat-(at_:Int).toNat) (((((out++[AM.mk 0 (⟨#[]⟩) 0 (AQ.mk 0 [] 0)]).length:Nat):Int):Int).toNat-(W64 (at_+1):Int).toNat))).set at_.toNat (b.Tracks.getD k.toNat default),k+1),⟨?_,?_,(by rw [<- hF1];simp only [FA,h2,cond_true,cond_false])⟩,Nat.lt_succ_self _,Cv.trans (vr 37 100000 hk0) (Aw kr)⟩
  ·show ((b.Tracks.length:Int)-(k+1)).toNat<n0;omega
  exact (by show (((GX (out++[AM.mk 0 (⟨#[]⟩) 0 (AQ.mk 0 [] 0)]) (W64 (at_+1):Int).toNat (at_:Int).toNat (Nat.min (((((out++[AM.mk 0 (⟨#[]⟩) 0 (AQ.mk 0 [] 0)]).length:Nat):Int):Int).toNat-(at_:Int).toNat) (((((out++[AM.mk 0 (⟨#[]⟩) 0 (AQ.mk 0 [] 0)]).length:Nat):Int):Int).toNat-(W64 (at_+1):Int).toNat))).set at_.toNat (b.Tracks.getD k.toNat default)).length:Int)=(k+1)/\0<=(k+1)/\((k+1)<=(b.Tracks.length:Int)\/(k+1)=0);(simp only [PF,SV,hw9,List.length_set,List.length_append,List.length_cons,List.length_nil];omega))
 refine A3<|Ar ?_
 refine Ar<|A4 ?_
 refine AF<|AB ?_
 refine rn ⟨[(2,tO (KQ out))],[(100000,Z1y out)]⟩<|Ab ?_
 exact xl (tO (KQ out)) (frE (c:=AM.c) (xs:=out) (by rw [<- hF0];first | (simp only [ER,h1,cond_true,cond_false] <;> rfl)) kr)
def Ub:CT:=(56,[.agg (CB b)],.new [] (.row 6 (Az b).length (AL AM.c (Az b)) 131) (fun d=>.av (.one (.own d 6 (Az b).length))))
theorem Yb (b:AG) (hp:(b.Tracks.length:Int)<=1000000):OKc (Ub b):=Cx (fun _ _=>kr) (aH b hp)
def Z1D:Tv:=.av (.one (.own 100000 8 ([]:List Ag).length))
def Z1E:Blk:=.row 8 ([]:List Ag).length (AL Ag.c ([]:List Ag)) 133
abbrev Rm:=[Ag.mk 0 (⟨#[]⟩) (AC.mk 0 0) 0 0 0 0]
abbrev NB (out:List Ag):=out++Rm
def Z1F (out:List Ag):Tv:=.av (.one (.own 37 8 (NB out).length))
abbrev TG (out:List Ag) (at_:Int):=(GX (NB out) (W64 (at_+1):Int).toNat (at_:Int).toNat (Nat.min (((((NB out).length:Nat):Int):Int).toNat-(at_:Int).toNat) (((((NB out).length:Nat):Int):Int).toNat-(W64 (at_+1):Int).toNat)))
def Z1G (out:List Ag) (at_:Int):Tv:=.av (.one (.own 37 8 (TG out at_).length))
abbrev OQ:=b.Vias.getD k.toNat default
def Z1H (out:List Ag) (at_:Int) (b:AG) (k:Int):Tv:=.av (.one (.own 37 8 ((TG out at_).set at_.toNat (OQ b k)).length))
def Z1I (out:List Ag) (at_:Int) (b:AG) (k:Int):Blk:=.row 8 ((TG out at_).set at_.toNat (OQ b k)).length (AL Ag.c ((TG out at_).set at_.toNat (OQ b k))) 133
def Gf (b:AG) (out:List Ag) (k:Int) (K0:List Ag->Int->(List Ag)):Nat->Int->(List Ag)
 | 0,_=>default
 | n1+1,at_=>bif bif decide ((0:Int)<at_) then decide (((b.Vias.getD k.toNat default).Id:Int)<(out.getD (at_-1).toNat default).Id) else false then ((Gf b out k K0 n1) (at_-1)) else (K0 ((GX (out++[Ag.mk 0 (⟨#[]⟩) (AC.mk 0 0) 0 0 0 0]) (W64 (at_+1):Int).toNat (at_:Int).toNat (Nat.min (((((out++[Ag.mk 0 (⟨#[]⟩) (AC.mk 0 0) 0 0 0 0]).length:Nat):Int):Int).toNat-(at_:Int).toNat) (((((out++[Ag.mk 0 (⟨#[]⟩) (AC.mk 0 0) 0 0 0 0]).length:Nat):Int):Int).toNat-(W64 (at_+1):Int).toNat))).set at_.toNat (b.Vias.getD k.toNat default)) (k+1))
def Fe (b:AG):Nat->List Ag->Int->(List Ag)
 | 0,_,_=>default
 | n0+1,out,k=>bif decide ((k:Int)<(b.Vias.length:Int)) then (Gf b out k (Fe b n0) (((out.length:Nat):Int).toNat+1) ((out.length:Nat):Int)) else out
def BG (b:AG):(List Ag):=Fe b (((b.Vias.length:Int)-0).toNat+1) ([]:List Ag) 0
abbrev MQ (out:List Ag):Nat×Blk:=(100000,.row 8 out.length (AL Ag.c out) 133)
abbrev KP (out:List Ag):Cl:=.own 100000 8 out.length
theorem mE (b:AG) (hp:(b.Vias.length:Int)<=1000000):Fr Tryz.prog 58 [.agg (CB b)] (.row 8 (BG b).length (AL Ag.c (BG b)) 133) (fun d=>tO (.own d 8 (BG b).length)):=by
 refine Cu Tryz.func58 rfl kr (DQ _ _) fun W0 M0 => ?_
 refine AB<|rn ⟨[(1,tP 1 0)],[(Bu b)]⟩<|AB ?_
 refine rn ⟨Rf,[(Bu b)]⟩ ?_
 refine AB<|AB ?_
 refine rn ⟨Rn,[(Bu b)]⟩<|AO ?_
 refine BI (Cv.trans (wg (⟨[(1,tP 1 0),(3,tO (.own 100000 8 0)),(4,tI 0)],[(100000,.row 8 0 (fun _ _=>default) 133),(Bu b)]⟩) 100000 8 (fun _ _=>default) 133 [(3,[0])] [] hk0) (Cv.trans (A7 (⟨[(1,tP 1 0),(3,Z1D),(4,tI 0)],[(100000,Z1E),(Bu b)]⟩) (.cons ⟨rfl,.refl _⟩ (.cons ⟨rfl,.av (.one (.own _ _ au2))⟩ lr)) (.cons ⟨rfl,Ad 133 (B3 8 (fun _ _=>default) Ag.c)⟩ lr)) (Cv.trans (ck (⟨[(1,tP 1 0),(3,Z1D),(4,tI 0)],[(Bu b),(100000,Z1E)]⟩)) (Cv.refl _)))) ?_
 refine A0 (ι:=Nat×List Ag×Int) (fun x=>⟨[(1,tP 1 0),(3,tO (.own 100000 8 x.2.1.length)),(4,tI x.2.2)],[(Bu b),(100000,.row 8 x.2.1.length (AL Ag.c x.2.1) 133)]⟩) (fun x=>((b.Vias.length:Int)-x.2.2).toNat<x.1/\((x.2.1.length:Int)=x.2.2/\0<=x.2.2/\(x.2.2<=(b.Vias.length:Int)\/x.2.2=0))/\Fe b x.1 x.2.1 x.2.2=BG b) (fun x=>x.1) ?_ (((b.Vias.length:Int)-0).toNat+1,([]:List Ag),0) ⟨Nat.lt_succ_self _,⟨ax0,ax0,ax0⟩,(by simp only [BG,cond_true,cond_false])⟩
 rintro ⟨n0,out,k⟩ ⟨hm0,hinv0,hF0⟩
 try dsimp only at hm0 hinv0 hF0
 cases n0 with | zero=>exact nz hm0 | succ n0 => ?_
 refine AB<|AB ?_
 refine rn ⟨[(1,tP 1 0),(3,tO (KP out)),(4,tI k),(10,tB (decide ((k:Int)<(b.Vias.length:Int))))],[(Bu b),(MQ out)]⟩ ?_
 refine AW _ rfl (fun h1 => ?_) (fun h1 => ?_)
 ·have g1:=oT h1
  refine AV<|AF ?_
  refine AB<|AO<|AB ?_
  refine rn ⟨[(1,tP 1 0),(3,tO (KP out)),(4,tI k),(5,tI ((out.length:Nat):Int))],[(Bu b),(MQ out)]⟩ ?_
  refine AB<|AO ?_
  refine A0 (ι:=Nat×Int) (fun x=>⟨[(1,tP 1 0),(3,tO (KP out)),(4,tI k),(5,tI x.2)],[(Bu b),(MQ out)]⟩) (fun x=>x.2.toNat<x.1/\(0<=x.2/\x.2<=(out.length:Int))/\Gf b out k (Fe b n0) x.1 x.2=BG b) (fun x=>x.1) ?_ (((out.length:Nat):Int).toNat+1,((out.length:Nat):Int)) ⟨Nat.lt_succ_self _,⟨ax0,ax0⟩,(by rw [<- hF0];simp only [Fe,h1,cond_true,cond_false])⟩
  rintro ⟨n1,at_⟩ ⟨hm1,hinv1,hF1⟩
  try dsimp only at hm1 hinv1 hF1
  cases n1 with | zero=>exact nz hm1 | succ n1 => ?_
  have hw9:W64 (at_+1)=at_+1:=Ah oM oM
  refine AB<|AB ?_
  refine dw [] [] (t3 (Dt at_) ((gk (Dt at_) (0<=(k:Int)/\(k:Int)<((b.Vias.length:Nat):Int)))::(t5 (Dt at_) ((gk (Dt at_) (0<=(W64 (at_-1):Int)/\(W64 (at_-1):Int)<((out.length:Nat):Int)))::(t2 (Dt at_) ((gk (Dt at_) ((W64 (at_-1)).toNat<out.length))::(t3 (Dt at_) []))))))) ⟨[(1,tP 1 0),(3,tO (KP out)),(4,tI k),(5,tI at_),(31,tB (bif decide ((0:Int)<at_) then decide (((OQ b k).Id:Int)<(out.getD (W64 (at_-1)).toNat default).Id) else false))],[(Bu b),(MQ out)]⟩ .nil (c3 (.cons (fun hG=>by first | exact au12 | (simp only [decide_eq_true_eq,decide_eq_false_iff_not,Bool.not_eq_true,Bool.and_eq_true] at hG <;> omega) | (simp at hG <;> omega) | (simp only [decide_eq_true_eq,decide_eq_false_iff_not] at hG;simp only [Bk];omega)) (c5 (.cons (fun hG=>by first | exact au12 | (simp only [decide_eq_true_eq,decide_eq_false_iff_not,Bool.not_eq_true,Bool.and_eq_true] at hG <;> omega) | (simp at hG <;> omega) | (simp only [decide_eq_true_eq,decide_eq_false_iff_not] at hG;simp only [Bk];omega)) (c2 (.cons (fun hG=>by first | exact au12 | (simp only [decide_eq_true_eq,decide_eq_false_iff_not,Bool.not_eq_true,Bool.and_eq_true] at hG <;> omega) | (simp at hG <;> omega) | (simp only [decide_eq_true_eq,decide_eq_false_iff_not] at hG;simp only [Bk];omega)) (c3 .nil))))))) ?_
  (try rw [(show W64 (at_-1)=at_-1 from Ah oM oM)])
  refine AF ?_
  refine AW _ rfl (fun h2 => ?_) (fun h2 => ?_)
  ·have g2:=HT h2
   refine AV<|AF<|AO ?_
   refine rg ⟨[(1,tP 1 0),(3,tO (KP out)),(4,tI k),(5,tI (W64 (at_-1)))],[(Bu b),(MQ out)]⟩ ?_
   (try rw [(show W64 (at_-1)=at_-1 from Ah oM oM)])
   refine BA<|AF ?_
   refine ⟨(n1,at_-1),⟨?_,?_,(by rw [<- hF1];simp only [Gf,h2,cond_true,cond_false])⟩,Nat.lt_succ_self _,Aw kr⟩
   ·show (at_-1).toNat<n1;omega
   exact ⟨ax0,ax0⟩
  refine A3<|Ar ?_
  refine Ar<|A4 ?_
  refine AF<|AB ?_
  refine rc [] [out.length=out.length,out.length+1<=maxLen,(out.length+1)*72<=140737488355328] ⟨[(1,tP 1 0),(3,tO (.own 37 8 (out.length+1))),(4,tI k),(5,tI at_)],[(Bu b),(37,.row 8 (out.length+1) (fun i_ j_=>if i_<out.length then (AL Ag.c out) i_ j_ else (Ap 8 1 (RQ [.i 0])) (i_-out.length) j_) 133)]⟩ .nil (.cons rfl (.cons au18 (.cons au18 .nil)))<|AF ?_
  refine BI (Cv.trans (A7 (⟨[(1,tP 1 0),(3,Z1F out),(4,tI k),(5,tI at_)],[(Bu b),(37,.row 8 (NB out).length (AL Ag.c (NB out)) 133)]⟩) (.cons ⟨rfl,.refl _⟩ (.cons ⟨rfl,.av (.one (.own _ _ au2))⟩ lr)) (.cons ⟨rfl,.refl _⟩ (.cons ⟨rfl,Ad 133 (A8 (Ay 8 Ag.c out) (Al (c:=Ag.c) (xs:=([Ag.mk 0 (⟨#[]⟩) (AC.mk 0 0) 0 0 0 0]:List Ag)) rfl kr))⟩ .nil))) (Cv.refl _))<|AB ?_
  refine dw [] [] [(out++[Ag.mk 0 (⟨#[]⟩) (AC.mk 0 0) 0 0 0 0]).length=(out++[Ag.mk 0 (⟨#[]⟩) (AC.mk 0 0) 0 0 0 0]).length,0<=(W64 (at_+1):Int)/\(W64 (at_+1):Int)<=((((out++[Ag.mk 0 (⟨#[]⟩) (AC.mk 0 0) 0 0 0 0]).length:Nat):Int):Int)/\((((out++[Ag.mk 0 (⟨#[]⟩) (AC.mk 0 0) 0 0 0 0]).length:Nat):Int):Int)<=(((out++[Ag.mk 0 (⟨#[]⟩) (AC.mk 0 0) 0 0 0 0]).length:Nat):Int),(out++[Ag.mk 0 (⟨#[]⟩) (AC.mk 0 0) 0 0 0 0]).length=(out++[Ag.mk 0 (⟨#[]⟩) (AC.mk 0 0) 0 0 0 0]).length,0<=(at_:Int)/\(at_:Int)<=((((out++[Ag.mk 0 (⟨#[]⟩) (AC.mk 0 0) 0 0 0 0]).length:Nat):Int):Int)/\((((out++[Ag.mk 0 (⟨#[]⟩) (AC.mk 0 0) 0 0 0 0]).length:Nat):Int):Int)<=(((out++[Ag.mk 0 (⟨#[]⟩) (AC.mk 0 0) 0 0 0 0]).length:Nat):Int),(W64 (at_+1):Int).toNat+(((((out++[Ag.mk 0 (⟨#[]⟩) (AC.mk 0 0) 0 0 0 0]).length:Nat):Int):Int).toNat-(W64 (at_+1):Int).toNat)<=(out++[Ag.mk 0 (⟨#[]⟩) (AC.mk 0 0) 0 0 0 0]).length,(at_:Int).toNat+(((((out++[Ag.mk 0 (⟨#[]⟩) (AC.mk 0 0) 0 0 0 0]).length:Nat):Int):Int).toNat-(at_:Int).toNat)<=(out++[Ag.mk 0 (⟨#[]⟩) (AC.mk 0 0) 0 0 0 0]).length] ⟨[(1,tP 1 0),(3,Z1F out),(4,tI k),(5,tI at_)],[(Bu b),(37,.row 8 (NB out).length (fun i_ j_=>if (W64 (at_+1):Int).toNat<=i_/\i_<(W64 (at_+1):Int).toNat+Nat.min (((((NB out).length:Nat):Int):Int).toNat-(at_:Int).toNat) (((((NB out).length:Nat):Int):Int).toNat-(W64 (at_+1):Int).toNat) then (AL Ag.c (NB out)) (i_-(W64 (at_+1):Int).toNat+(at_:Int).toNat) j_ else (AL Ag.c (NB out)) i_ j_) 133)]⟩ .nil (.cons rfl (.cons au12 (.cons rfl (.cons au12 (.cons au12 (.cons au12 .nil))))))<|AF ?_
  refine BI (Cv.trans (A7 (⟨[(1,tP 1 0),(3,Z1G out at_),(4,tI k),(5,tI at_)],[(Bu b),(37,.row 8 (TG out at_).length (AL Ag.c (TG out at_)) 133)]⟩) (.cons ⟨rfl,.refl _⟩ (.cons ⟨rfl,.av (.one (.own _ _ (Jg (lo1:=(W64 (at_+1):Int).toNat) (m1:=((((out++[Ag.mk 0 (⟨#[]⟩) (AC.mk 0 0) 0 0 0 0]).length:Nat):Int):Int).toNat-(W64 (at_+1):Int).toNat) (lo2:=(at_:Int).toNat) (m2:=((((out++[Ag.mk 0 (⟨#[]⟩) (AC.mk 0 0) 0 0 0 0]).length:Nat):Int):Int).toNat-(at_:Int).toNat) (Ay 8 Ag.c (out++[Ag.mk 0 (⟨#[]⟩) (AC.mk 0 0) 0 0 0 0])) au12 au12).1))⟩ lr)) (.cons ⟨rfl,.refl _⟩ (.cons ⟨rfl,Ad 133 (Jg (lo1:=(W64 (at_+1):Int).toNat) (m1:=((((out++[Ag.mk 0 (⟨#[]⟩) (AC.mk 0 0) 0 0 0 0]).length:Nat):Int):Int).toNat-(W64 (at_+1):Int).toNat) (lo2:=(at_:Int).toNat) (m2:=((((out++[Ag.mk 0 (⟨#[]⟩) (AC.mk 0 0) 0 0 0 0]).length:Nat):Int):Int).toNat-(at_:Int).toNat) (Ay 8 Ag.c (out++[Ag.mk 0 (⟨#[]⟩) (AC.mk 0 0) 0 0 0 0])) au12 au12)⟩ .nil))) (Cv.refl _)) ?_
  refine rc [] [0<=(k:Int)/\(k:Int)<((b.Vias.length:Nat):Int),0<=(at_:Int)/\(at_:Int)<(((GX (out++[Ag.mk 0 (⟨#[]⟩) (AC.mk 0 0) 0 0 0 0]) (W64 (at_+1):Int).toNat (at_:Int).toNat (Nat.min (((((out++[Ag.mk 0 (⟨#[]⟩) (AC.mk 0 0) 0 0 0 0]).length:Nat):Int):Int).toNat-(at_:Int).toNat) (((((out++[Ag.mk 0 (⟨#[]⟩) (AC.mk 0 0) 0 0 0 0]).length:Nat):Int):Int).toNat-(W64 (at_+1):Int).toNat))).length:Nat):Int),at_.toNat<(GX (out++[Ag.mk 0 (⟨#[]⟩) (AC.mk 0 0) 0 0 0 0]) (W64 (at_+1):Int).toNat (at_:Int).toNat (Nat.min (((((out++[Ag.mk 0 (⟨#[]⟩) (AC.mk 0 0) 0 0 0 0]).length:Nat):Int):Int).toNat-(at_:Int).toNat) (((((out++[Ag.mk 0 (⟨#[]⟩) (AC.mk 0 0) 0 0 0 0]).length:Nat):Int):Int).toNat-(W64 (at_+1):Int).toNat))).length] ⟨[(1,tP 1 0),(3,Z1G out at_),(4,tI k)],[(Bu b),(37,.row 8 (TG out at_).length (fun i_ j_=>if i_=at_.toNat/\0<=j_/\j_<0+8 then ((Ag.c (OQ b k)):List Cl).getD (j_-0) default else (AL Ag.c (TG out at_)) i_ j_) 133)]⟩ .nil (.cons au12 (.cons au12 (.cons au12 .nil)))<|BA<|AF ?_
  refine BI (Cv.trans (A7 (⟨[(1,tP 1 0),(3,Z1H out at_ b k),(4,tI k)],[(Bu b),(37,Z1I out at_ b k)]⟩) (.cons ⟨rfl,.refl _⟩ (.cons ⟨rfl,.av (.one (.own _ _ au2))⟩ lr)) (.cons ⟨rfl,.refl _⟩ (.cons ⟨rfl,Ad 133 (Gt (l:=(Ag.c (b.Vias.getD k.toNat default))) (off:=0) (q:=8) (k:=at_.toNat) (Ay 8 Ag.c (GX (out++[Ag.mk 0 (⟨#[]⟩) (AC.mk 0 0) 0 0 0 0]) (W64 (at_+1):Int).toNat (at_:Int).toNat (Nat.min (((((out++[Ag.mk 0 (⟨#[]⟩) (AC.mk 0 0) 0 0 0 0]).length:Nat):Int):Int).toNat-(at_:Int).toNat) (((((out++[Ag.mk 0 (⟨#[]⟩) (AC.mk 0 0) 0 0 0 0]).length:Nat):Int):Int).toNat-(W64 (at_+1):Int).toNat)))) au12 (b.Vias.getD k.toNat default) (GW kr))⟩ .nil))) (Cv.refl _)) ?_
  refine rg ⟨[(1,tP 1 0),(3,Z1H out at_ b k),(4,tI (W64 (k+1)))],[(Bu b),(37,Z1I out at_ b k)]⟩ ?_
  (try rw [(show W64 (k+1)=k+1 from Ah oM au5)])
  refine AF ?_
  refine ⟨(n0,(GX (out++[Ag.mk 0 (⟨#[]⟩) (AC.mk 0 0) 0 0 0 0]) (W64 (at_+1):Int).toNat (at_:Int).toNat (Nat.min (((((out++[Ag.mk 0 (⟨#[]⟩) (AC.mk 0 0) 0 0 0 0]).length:Nat):Int):Int).toNat-(at_:Int).toNat) (((((out++[Ag.mk 0 (⟨#[]⟩) (AC.mk 0 0) 0 0 0 0]).length:Nat):Int):Int).toNat-(W64 (at_+1):Int).toNat))).set at_.toNat (b.Vias.getD k.toNat default),k+1),⟨?_,?_,(by rw [<- hF1];simp only [Gf,h2,cond_true,cond_false])⟩,Nat.lt_succ_self _,Cv.trans (vr 37 100000 hk0) (Aw kr)⟩
  ·show ((b.Vias.length:Int)-(k+1)).toNat<n0;omega
  exact (by show (((GX (out++[Ag.mk 0 (⟨#[]⟩) (AC.mk 0 0) 0 0 0 0]) (W64 (at_+1):Int).toNat (at_:Int).toNat (Nat.min (((((out++[Ag.mk 0 (⟨#[]⟩) (AC.mk 0 0) 0 0 0 0]).length:Nat):Int):Int).toNat-(at_:Int).toNat) (((((out++[Ag.mk 0 (⟨#[]⟩) (AC.mk 0 0) 0 0 0 0]).length:Nat):Int):Int).toNat-(W64 (at_+1):Int).toNat))).set at_.toNat (b.Vias.getD k.toNat default)).length:Int)=(k+1)/\0<=(k+1)/\((k+1)<=(b.Vias.length:Int)\/(k+1)=0);(simp only [PF,SV,hw9,List.length_set,List.length_append,List.length_cons,List.length_nil];omega))
 refine A3<|Ar ?_
 refine Ar<|A4 ?_
 refine AF<|AB ?_
 refine rn ⟨[(2,tO (KP out))],[(MQ out)]⟩<|Ab ?_
 exact xl (tO (KP out)) (frE (c:=Ag.c) (xs:=out) (by rw [<- hF0];first | (simp only [Fe,h1,cond_true,cond_false] <;> rfl)) kr)
def dX:CT:=(58,[.agg (CB b)],.new [] (.row 8 (BG b).length (AL Ag.c (BG b)) 133) (fun d=>.av (.one (.own d 8 (BG b).length))))
theorem iP (b:AG) (hp:(b.Vias.length:Int)<=1000000):OKc (dX b):=Cx (fun _ _=>kr) (mE b hp)
def Z1J:Blk:=.cells [.i 0,vN,.i 0] 28
def Z1K:Blk:=.cells [.i s.Kind,.own 6 7 s.Edges.length,.i s.R] 28
def Z1L:Blk:=.row 7 s.Edges.length (AL AH.c s.Edges) 68
def Fw (s:AQ):AQ:=s
def N1:CT:=(57,[.agg (AQ.c s)],.val [] (.av (.agg (AQ.c (Fw s)))))
theorem iD (s:AQ) (h0:(s.Edges.length:Int)<=1000000):PuP 57 (N1 s).2.1 (.av (.agg (AQ.c (Fw s)))):=by
 refine pwf Tryz.func57 fun W0 M0 => ?_
 refine AB<|rn ⟨Gj,[(1,.cells (AQ.c s) 28),(2,Z1J)]⟩<|AB ?_
 refine Dk DN [3] [] [] [1,2] [1,2,6] [0=0,0+s.Edges.length<=maxLen,(0+s.Edges.length)*56<=140737488355328] ⟨Gj,[(1,.cells [.i s.Kind,.own 6 7 (0+s.Edges.length),.i s.R] 28),(2,Z1J),(6,.row 7 (0+s.Edges.length) (fun i_ j_=>if i_<0 then (Ap 7 0 []) i_ j_ else (AL AH.c s.Edges) (i_-0) j_) 68)]⟩ .nil kr (.cons rfl (.cons au3 (.cons au3 .nil)))<|AF ?_
 refine BI (Cv.trans (A7 (⟨Gj,[(1,Z1K s),(2,Z1J),(6,Z1L s)]⟩) lr (.cons ⟨rfl,.cells _ (rr (.cons (.own _ _ au2) (rr .nil)))⟩ (.cons ⟨rfl,.refl _⟩ (.cons ⟨rfl,Ad 68 (A8 (Al (c:=AH.c) (xs:=(([]:List AH):List AH)) rfl kr) (Ay 7 AH.c s.Edges))⟩ .nil)))) (Cv.refl _))<|AB ?_
 refine rn ⟨[(2,tP 2 0)],[(2,Z1K s),(6,Z1L s)]⟩<|Ab ?_
 exact yl (Cv.trans (vf 6 7 s.Edges.length (AL AH.c s.Edges) 68 hk0 (.cons ⟨rfl,rfl⟩ .nil)) (Cv.refl _)) (.av (.agg (AQ.c s))) (Ae (by rfl))
theorem bN (s:AQ) (h0:(s.Edges.length:Int)<=1000000):OKc (N1 s):=cPu<|iD s h0
end
section
open Go.RowKit
def Ai (k:Int):ByteArray:=([({ data := #[80,49] }:ByteArray),({ data := #[80,50] }:ByteArray),({ data := #[80,51] }:ByteArray),({ data := #[80,52] }:ByteArray),({ data := #[80,53] }:ByteArray),({ data := #[80,54] }:ByteArray)]:List ByteArray).getD k.toNat ⟨#[]⟩
variable (a:AC) (b:AG) (x0 b_:AC) (l:List (List Int)) (d:AD) (k:Int) (types:List AR) (vs:Nat->Value) (x1:AC)
def CW:CT:=(91,[.one (.i k)],.val [] (.av (.one (.s (Ai k)))))
theorem aT (k:Int) (hk:0<=k/\k<6):PuP 91 (CW k).2.1 (tO (.s (Ai k))):=by
 refine pwf Tryz.func91 fun W0 M0 => ?_
 refine AB<|rn ⟨[(0,tI k)],[]⟩<|AB ?_
 refine rc [] [0<=(k:Int)/\(k:Int)<((6:Nat):Int)] ⟨[(2,tO (.s (([({ data := #[80,49] }:ByteArray),({ data := #[80,50] }:ByteArray),({ data := #[80,51] }:ByteArray),({ data := #[80,52] }:ByteArray),({ data := #[80,53] }:ByteArray),({ data := #[80,54] }:ByteArray)]:List ByteArray).getD k.toNat ⟨#[]⟩)))],[]⟩ .nil (.cons au0 .nil)<|AF<|Ab ?_
 exact xl (tO (.s (([({ data := #[80,49] }:ByteArray),({ data := #[80,50] }:ByteArray),({ data := #[80,51] }:ByteArray),({ data := #[80,52] }:ByteArray),({ data := #[80,53] }:ByteArray),({ data := #[80,54] }:ByteArray)]:List ByteArray).getD k.toNat ⟨#[]⟩))) (Ae (by rfl))
theorem EX (k:Int) (hk:0<=k/\k<6):OKc (CW k):=cPu<|aT k hk
def Gi (x0:AE):AX:=AX.mk x0.At x0.Turn x0.Under
def Jw (x0:AE):CT:=(145,[.agg (AE.c x0)],.val [] (.av (.agg (AX.c (Gi x0)))))
theorem YZ (x0:AE):PuP 145 (Jw x0).2.1 (.av (.agg (AX.c (Gi x0)))):=by
 refine pwf Tryz.func145 fun W0 M0 => ?_
 refine AB<|rn ⟨Gj,[(1,.cells (AE.c x0) 78),VA]⟩<|AB ?_
 refine rn ⟨[(2,tP 2 0)],[(2,.cells (Rk x0) 74)]⟩<|Ab ?_
 exact xl (.av (.agg (Rk x0))) (Ae (by rfl))
theorem WA (x0:AE):OKc (Jw x0):=cPu<|YZ x0
def E1 (x0:AC) (x1:AC):AH:=AH.mk 1 x0 x1 (AC.mk 0 0)
def DC:CT:=(98,[.agg (AC.c x0),.agg (AC.c x1)],.val [] (.av (.agg (AH.c (E1 x0 x1)))))
abbrev Ri:List Cl:=[.i 1,.i x0.X,.i x0.Y,.i x1.X,.i x1.Y,.i 0,.i 0]
abbrev ZZ:List (Nat×Blk):=[(2,.cells (AC.c x0) 66),(3,.cells (AC.c x1) 66),(4,.cells [.i 0,.i 0,.i 0,.i 0,.i 0,.i 0,.i 0] 68)]
theorem Vq (x0:AC) (x1:AC):PuP 98 (DC x0 x1).2.1 (.av (.agg (AH.c (E1 x0 x1)))):=by
 refine pwf Tryz.func98 fun W0 M0 => ?_
 refine AB<|rn ⟨Kf,(ZZ x0 x1)⟩<|AB ?_
 refine rn ⟨[(4,tP 4 0)],[(4,.cells (Ri x0 x1) 68)]⟩<|Ab ?_
 exact xl (.av (.agg (Ri x0 x1))) (Ae (by rfl))
theorem F4 (x0:AC) (x1:AC):OKc (DC x0 x1):=cPu<|Vq x0 x1
def Aa (l:(List (List Int))) (k:Int):(List Int):=bif decide ((k:Int)<(l.length:Int)) then (l.getD k.toNat default) else ([])
def EY:CT:=(40,[.one (lst 1 (fun x=>[lst 1 eIn x]) l),.one (.i k)],.val [] (.av (.one (lst 1 eIn (Aa l k)))))
abbrev oL (l:List (List Int)):Av:=.one (lst 1 (fun x=>[lst 1 (fun x=>[.i x]) x]) l)
theorem gX (l:(List (List Int))) (k:Int) (hk:0<=k):PuP 40 (EY l k).2.1 (tO (lst 1 eIn (Aa l k))):=by
 refine pwf Tryz.func40 fun W0 M0 => ?_
 refine AB<|rn ⟨[(0,.av (oL l)),(1,tI k)],[]⟩ ?_
 refine AB<|AB ?_
 refine rn ⟨[(0,.av (oL l)),(1,tI k),(8,tB (decide ((k:Int)<(l.length:Int))))],[]⟩ ?_
 refine AW _ rfl (fun h1 => ?_) (fun h1 => ?_)
 ·have g1:=oT h1
  refine AB<|rc [] [0<=(k:Int)/\(k:Int)<((l.length:Nat):Int)] ⟨[(4,tO (lst 1 eIn (l.getD k.toNat default)))],[]⟩ .nil (.cons au0 .nil)<|AF ?_
  refine Ab<|An ?_
  exact xl (tO (lst 1 eIn (l.getD k.toNat default))) (Ae (by simp only [Aa,h1,cond_true,cond_false] <;> rfl))
 refine AV<|AF<|AB ?_
 refine rn ⟨[(4,.av (.one vN))],[]⟩<|Ab ?_
 exact xl (.av (.one vN)) (Du (y:=tO (lst 1 eIn [])) (.av (.one (Cd 1 eIn))) (by simp only [Aa,h1,cond_true,cond_false] <;> rfl))
theorem F5 (l:(List (List Int))) (k:Int) (hk:0<=k):OKc (EY l k):=cPu<|gX l k hk
abbrev HZ:List Av:=[.one (.ptr 1000 0),.one (.i 4)]
abbrev HW:Blk:=.cells (AD.c d) 117
def Z1M:CT:=(42,(HZ:List Av).map (Br 1000 1000),wrI 1000 (HW d) (tI (AA d 4).1) (.cells (AD.c (AA d 4).2) 117))
def Z1N:AH:=E1 a (AC.mk (bif (decide (a.X=b_.X)&&(decide (a.Y=b_.Y)&&true)) then (W64 (b_.X+20)) else b_.X) a.Y)
def Z1O:AH:=E1 (AC.mk (bif (decide (a.X=b_.X)&&(decide (a.Y=b_.Y)&&true)) then (W64 (b_.X+20)) else b_.X) a.Y) (AC.mk (bif (decide (a.X=b_.X)&&(decide (a.Y=b_.Y)&&true)) then (W64 (b_.X+20)) else b_.X) b_.Y)
def Z1P:CT:=(42,([.one (.ptr 1000 0),.one (.i 20)]:List Av).map (Br 1000 1000),wrI 1000 (.cells (AD.c (AA d 4).2) 117) (tI (AA (AA d 4).2 20).1) (.cells (AD.c (AA (AA d 4).2 20).2) 117))
def Z1Q:Blk:=.cells (AD.c (AA (AA d 4).2 20).2) 117
def Z1R:AH:=FB (AC.mk (bif (decide (a.X=b_.X)&&(decide (a.Y=b_.Y)&&true)) then (W64 (b_.X+20)) else b_.X) (W64 (b_.Y+(W64 (5+(AA (AA d 4).2 20).1))))) (W64 (5+(AA (AA d 4).2 20).1)) 3 2
def Z1S:AH:=E1 a (AC.mk (bif (decide (a.X=b_.X)&&(decide (a.Y=b_.Y)&&true)) then (W64 (b_.X+20)) else b_.X) b_.Y)
def Cj (a:AC) (b_:AC) (d:AD):((List AH)×AD):=bif bif bif bif decide ((0:Int)<(AA d 4).1) then decide (((AA d 4).1:Int)<3) else false then !(decide ((bif (decide (a.X=b_.X)&&(decide (a.Y=b_.Y)&&true)) then (W64 (b_.X+20)) else b_.X)=a.X)&&(decide (a.Y=a.Y)&&true)) else false then !(decide ((bif (decide (a.X=b_.X)&&(decide (a.Y=b_.Y)&&true)) then (W64 (b_.X+20)) else b_.X)=(bif (decide (a.X=b_.X)&&(decide (a.Y=b_.Y)&&true)) then (W64 (b_.X+20)) else b_.X))&&(decide (a.Y=b_.Y)&&true)) else false then ([Z1N a b_,Z1O a b_],(AA d 4).2) else (bif decide (((AA d 4).1:Int)=3) then ([Z1S a b_,Z1R a b_ d],(AA (AA d 4).2 20).2) else ([Z1S a b_],(AA d 4).2))
abbrev FU:Bool:=decide (a.X=b_.X)&&(decide (a.Y=b_.Y)&&true)
abbrev IK:=bif (FU a b_) then (W64 (b_.X+20)) else b_.X
abbrev Z1:Av:=.one (.list true 7 2 (Ap 7 2 [.i (Z1S a b_).Kind,.i (Z1S a b_).A.X,.i (Z1S a b_).A.Y,.i (Z1S a b_).B.X,.i (Z1S a b_).B.Y,.i (Z1S a b_).C.X,.i (Z1S a b_).C.Y,.i (Z1R a b_ d).Kind,.i (Z1R a b_ d).A.X,.i (Z1R a b_ d).A.Y,.i (Z1R a b_ d).B.X,.i (Z1R a b_ d).B.Y,.i (Z1R a b_ d).C.X,.i (Z1R a b_ d).C.Y]))
abbrev Z0:Av:=.one (.list true 7 2 (Ap 7 2 [.i (Z1N a b_).Kind,.i (Z1N a b_).A.X,.i (Z1N a b_).A.Y,.i (Z1N a b_).B.X,.i (Z1N a b_).B.Y,.i (Z1N a b_).C.X,.i (Z1N a b_).C.Y,.i (Z1O a b_).Kind,.i (Z1O a b_).A.X,.i (Z1O a b_).A.Y,.i (Z1O a b_).B.X,.i (Z1O a b_).B.Y,.i (Z1O a b_).C.X,.i (Z1O a b_).C.Y]))
abbrev Gn:Nat×Blk:=(3,.cells (AC.c a) 66)
abbrev JG:Nat×Blk:=(1000,.cells (AD.c d) 117)
abbrev MA (t_:List (Nat×Tv)):List (Nat×Tv):=(2,tP 1000 0)::(3,tP 3 0)::(4,tP 4 0)::t_
abbrev Rl:List (Nat×Tv):=(MA [])
abbrev Oe:Nat×Blk:=(1000,.cells (AD.c (AA d 4).2) 117)
abbrev MI:Nat×Blk:=(4,.cells [.i (IK a b_),.i b_.Y] 66)
theorem au21 {p:Prop} (h:p:=by repeat (first | assumption | exact Ci (by assumption) | refine BQ ?_ | refine Cp ?_ ?_ | refine hKd _ _ ?_ | refine cond_dk _ ?_)):p:=h
theorem au9 {p:Prop} (h:p:=by first | decide | omega | (simp only [Bk];omega)):p:=h
theorem aU  (a:AC) (b_:AC) (d:AD) (hd:Bg d):Wr Tryz.prog 96 1000 [.agg (AC.c a),.agg (AC.c b_),.one (.ptr 1000 0)] (.cells (AD.c d) 117) (tO (lst 7 AH.c (Cj a b_ d).1)) (.cells (AD.c (Cj a b_ d).2) 117):=by
 refine Hk Tryz.func96 rfl kr kr kr kr fun W0 M0 X hX => ?_
 refine AB<|rn ⟨Rl,[(Gn a),(4,.cells (AC.c b_) 66),(JG d)]⟩ ?_
 refine AB<|AB ?_
 refine rn ⟨(MA [(13,tB (FU a b_))]),[(Gn a),(4,.cells (AC.c b_) 66),(JG d)]⟩ ?_
 refine Bb (⟨Rl,[(Gn a),(4,.cells [.i (bif (FU a b_) then (W64 (b_.X+20)) else b_.X),.i b_.Y] 66),(JG d)]⟩) ?_ ?_
 ·refine AW _ rfl (fun h1 => ?_) (fun h1 => ?_)
  ·refine rn ⟨Rl,[(Gn a),(4,.cells [.i (W64 (b_.X+20)),.i b_.Y] 66),(JG d)]⟩ ?_
   refine Aw ?_
   first | rfl | (simp only [h1,cond_true,cond_false] <;> rfl)
  refine AV<|AF ?_
  refine Cv.trans (ck (⟨Rl,[(Gn a),(4,.cells (AC.c b_) 66),(JG d)]⟩)) (Aw ?_)
  first | rfl | (simp only [h1,cond_true,cond_false] <;> rfl)
 refine AB<|rn ⟨(MA [(7,tP 7 0)]),[(Gn a),(MI a b_),(7,.cells [.i (IK a b_),.i a.Y] 66),(JG d)]⟩ ?_
 refine AB<|AB ?_
 refine rb 24 (Z1M d) (HW d) ⟨(MA [(7,tP 7 0),(8,tI (AA d 4).1)]),[(Gn a),(MI a b_),(7,.cells [.i (IK a b_),.i a.Y] 66),(Oe d)]⟩ (cWr (BS d 4 au21 au9))<|AF ?_
 refine AO<|AB ?_
 refine rc [] (t2 (decide ((0:Int)<(AA d 4).1)) (t3 (bif decide ((0:Int)<(AA d 4).1) then decide (((AA d 4).1:Int)<3) else false) (t3 (bif bif decide ((0:Int)<(AA d 4).1) then decide (((AA d 4).1:Int)<3) else false then !(decide ((IK a b_)=a.X)&&(decide (a.Y=a.Y)&&true)) else false) []))) ⟨(MA [(7,tP 7 0),(8,tI (AA d 4).1),(25,tB (bif bif bif decide ((0:Int)<(AA d 4).1) then decide (((AA d 4).1:Int)<3) else false then !(decide ((bif (decide (a.X=b_.X)&&(decide (a.Y=b_.Y)&&true)) then (W64 (b_.X+20)) else b_.X)=a.X)&&(decide (a.Y=a.Y)&&true)) else false then !(decide ((bif (decide (a.X=b_.X)&&(decide (a.Y=b_.Y)&&true)) then (W64 (b_.X+20)) else b_.X)=(bif (decide (a.X=b_.X)&&(decide (a.Y=b_.Y)&&true)) then (W64 (b_.X+20)) else b_.X))&&(decide (a.Y=b_.Y)&&true)) else false))]),[(Gn a),(MI a b_),(7,.cells [.i (IK a b_),.i a.Y] 66),(Oe d)]⟩ .nil (c2 (c3 (c3 .nil)))<|AF ?_
 refine AW (bif bif bif decide ((0:Int)<(AA d 4).1) then decide (((AA d 4).1:Int)<3) else false then !(decide ((bif (FU a b_) then (W64 (b_.X+20)) else b_.X)=a.X)&&(decide (a.Y=a.Y)&&true)) else false then !(decide ((bif (FU a b_) then (W64 (b_.X+20)) else b_.X)=(bif (FU a b_) then (W64 (b_.X+20)) else b_.X))&&(decide (a.Y=b_.Y)&&true)) else false) kr (fun h1 => ?_) (fun h1 => ?_)
 ·refine AB<|dw [] [(44,DC a (AC.mk (IK a b_) a.Y)),(47,DC (AC.mk (IK a b_) a.Y) (AC.mk (IK a b_) b_.Y))] [Aq (DC a (AC.mk (bif (FU a b_) then (W64 (b_.X+20)) else b_.X) a.Y)).2.1,Aq (DC (AC.mk (bif (FU a b_) then (W64 (b_.X+20)) else b_.X) a.Y) (AC.mk (bif (FU a b_) then (W64 (b_.X+20)) else b_.X) b_.Y)).2.1] ⟨[(6,.av (Z0 a b_))],[(Oe d)]⟩ (.cons (F4 a (AC.mk (bif (FU a b_) then (W64 (b_.X+20)) else b_.X) a.Y)) (.cons (F4 (AC.mk (bif (FU a b_) then (W64 (b_.X+20)) else b_.X) a.Y) (AC.mk (bif (FU a b_) then (W64 (b_.X+20)) else b_.X) b_.Y)) .nil)) (.cons rfl (.cons rfl .nil))<|AF ?_
  refine Ab<|BL<|An ?_
  exact xl (.av (Z0 a b_)) ⟨Du (y:=tO (lst 7 AH.c [Z1N a b_,Z1O a b_])) (.av (.one (BZ true (Al (c:=AH.c) (xs:=([Z1N a b_,Z1O a b_]:List AH)) rfl kr)))) (by unfold Cj;rw [h1];rfl),.cells (AD.c (AA d 4).2) 117,by kernel_rfl,Da (by unfold Cj;rw [h1];kernel_rfl)⟩
 refine AB<|rn ⟨(MA [(49,tB (decide (((AA d 4).1:Int)=3)))]),[(Gn a),(MI a b_),(Oe d)]⟩ ?_
 refine AW _ rfl (fun h2 => ?_) (fun h2 => ?_)
 ·have g2:=oT h2
  refine AB<|rb 53 (Z1P d) (.cells (AD.c (AA d 4).2) 117) ⟨[(3,tP 3 0),(4,tP 4 0),(9,tI (W64 (5+(AA (AA d 4).2 20).1)))],[(Gn a),(MI a b_),(1000,Z1Q d)]⟩ (cWr (BS (AA d 4).2 20 au21 au9))<|AF<|AB ?_
  refine rs 63 (CE (AC.mk (bif (FU a b_) then (W64 (b_.X+20)) else b_.X) (W64 (b_.Y+(W64 (5+(AA (AA d 4).2 20).1))))) (W64 (5+(AA (AA d 4).2 20).1)) 3 2) ⟨[(3,tP 3 0),(4,tP 4 0),(10,tP 10 0)],[(Gn a),(MI a b_),(10,.cells (AH.c (Z1R a b_ d)) 68),(1000,Z1Q d)]⟩ (Dv (AC.mk (bif (FU a b_) then (W64 (b_.X+20)) else b_.X) (W64 (b_.Y+(W64 (5+(AA (AA d 4).2 20).1))))) (W64 (5+(AA (AA d 4).2 20).1)) 3 2)<|AF<|AB ?_
  refine dw [] [(66,DC a (AC.mk (IK a b_) b_.Y))] [Aq (DC a (AC.mk (bif (FU a b_) then (W64 (b_.X+20)) else b_.X) b_.Y)).2.1] ⟨[(6,.av (Z1 a b_ d))],[(1000,Z1Q d)]⟩ (.cons (F4 a (AC.mk (bif (FU a b_) then (W64 (b_.X+20)) else b_.X) b_.Y)) .nil) (.cons rfl .nil)<|AF ?_
  refine Ab<|BL<|An ?_
  exact xl (.av (Z1 a b_ d)) ⟨Du (y:=tO (lst 7 AH.c [Z1S a b_,Z1R a b_ d])) (.av (.one (BZ true (Al (c:=AH.c) (xs:=([Z1S a b_,Z1R a b_ d]:List AH)) rfl kr)))) (by unfold Cj;rw [h1,h2];rfl),.cells (AD.c (AA (AA d 4).2 20).2) 117,by kernel_rfl,Da (by unfold Cj;rw [h1,h2];kernel_rfl)⟩
 refine AV<|BA ?_
 refine AF<|AB ?_
 refine rs 71 (DC a (AC.mk (bif (FU a b_) then (W64 (b_.X+20)) else b_.X) b_.Y)) ⟨[(6,.av (.one (.list true 7 1 (Ap 7 1 (AH.c (Z1S a b_))))))],[(Oe d)]⟩ (F4 a (AC.mk (bif (FU a b_) then (W64 (b_.X+20)) else b_.X) b_.Y))<|AF<|Ab ?_
 exact xl (.av (.one (.list true 7 1 (Ap 7 1 (AH.c (Z1S a b_)))))) ⟨Du (y:=tO (lst 7 AH.c [Z1S a b_])) (.av (.one (BZ true (Al (c:=AH.c) (xs:=([Z1S a b_]:List AH)) rfl kr)))) (by unfold Cj;rw [h1,h2];rfl),.cells (AD.c (AA d 4).2) 117,by kernel_rfl,Da (by unfold Cj;rw [h1,h2];kernel_rfl)⟩
def Z1T:CT:=(42,([.one (.ptr 1000 0),.one (.i (b.Nets.length:Int))]:List Av).map (Br 1000 1001),wrI 1001 (HW d) (tI (AA d (b.Nets.length:Int)).1) (.cells (AD.c (AA d (b.Nets.length:Int)).2) 117))
def CV (b:AG) (d:AD):(ByteArray×AD):=((b.Nets.getD (AA d (b.Nets.length:Int)).1.toNat default).Name,(AA d (b.Nets.length:Int)).2)
abbrev ED:List (Nat×Tv):=[(0,tP 1000 0),(1,tP 1001 0)]
abbrev ZD:List Cl:=(BD b [.val (vs 6),.val (vs 7),.val (vs 8),.val (vs 9),.val (vs 10),.val (vs 11),.val (vs 12),.val (vs 13),.val (vs 14)])
theorem SF  (b:AG) (d:AD) (vs:Nat->Value) (hd:Bg d) (hn:1<=(b.Nets.length:Int)/\(b.Nets.length:Int)<=1000000):Wr2 Tryz.prog 95 1000 1001 [.one (.ptr 1000 0),.one (.ptr 1001 0)] (.cells [.i b.Layers,.i b.Outline.Kind,lst 7 AH.c b.Outline.Edges,.i b.Outline.R,lst 7 AE.c b.Parts,lst 2 Bi.c b.Nets,.val (vs 6),.val (vs 7),.val (vs 8),.val (vs 9),.val (vs 10),.val (vs 11),.val (vs 12),.val (vs 13),.val (vs 14)] 41) (.cells (AD.c d) 117) (tO (.s (CV b d).1)) (.cells [.i b.Layers,.i b.Outline.Kind,lst 7 AH.c b.Outline.Edges,.i b.Outline.R,lst 7 AE.c b.Parts,lst 2 Bi.c b.Nets,.val (vs 6),.val (vs 7),.val (vs 8),.val (vs 9),.val (vs 10),.val (vs 11),.val (vs 12),.val (vs 13),.val (vs 14)] 41) (.cells (AD.c (CV b d).2) 117):=by
 refine Ox Tryz.func95 rfl kr kr kr rfl kr kr kr fun W0 M0 X hX => ?_
 have hnb:=DM d (b.Nets.length:Int) oM oM
 refine AB<|rn ⟨ED,[(1000,.cells (ZD b vs) 41),(1001,.cells (AD.c d) 117)]⟩<|AB ?_
 refine dw [] [(15,(Z1T b d))] [Aq (Z1T b d).2.1,Bt (HW d),0<=((AA d (b.Nets.length:Int)).1:Int)/\((AA d (b.Nets.length:Int)).1:Int)<((b.Nets.length:Nat):Int)] ⟨[(4,tO (.s (b.Nets.getD (AA d (b.Nets.length:Int)).1.toNat default).Name))],[(1000,.cells (ZD b vs) 41),(1001,.cells (AD.c (AA d (b.Nets.length:Int)).2) 117)]⟩ (.cons (cWr (BS d (b.Nets.length:Int) au21 au9)) .nil) (.cons rfl (.cons rfl (.cons oM .nil)))<|AF<|Ab ?_
 exact xl (tO (.s (b.Nets.getD (AA d (b.Nets.length:Int)).1.toNat default).Name)) ⟨Ae (by rfl),⟨.cells (ZD b vs) 41,by kernel_rfl,Da rfl⟩,.cells (AD.c (AA d (b.Nets.length:Int)).2) 117,by kernel_rfl,Da kr⟩
theorem Li {p q:Prop} [Decidable p] [Decidable q] (h:(bif decide p then decide q else false)=true):q:=by
 by_cases hp:p
 ·rw [decide_eq_true hp] at h;exact oT h
 rw [decide_eq_false hp] at h;cases h
def N6 (b:AG) (types:List AR):Prop:=∀ k:Int,0<=k->k<(b.Parts.length:Int)->1<=((BX types (b.Parts.getD k.toNat default).Type').1.Pads.length:Int)
theorem TM {b:AG} {d:AD} (h:(bif decide ((AA d 12).1<8) then decide ((0:Int)<(b.Parts.length:Int)) else false)=true):0<=Int.tmod (AA d 12).1 (b.Parts.length:Int)/\Int.tmod (AA d 12).1 (b.Parts.length:Int)<(b.Parts.length:Int):=Lb (DM d 12 (by decide) (by decide)).1 (Li h)
theorem LM {b:AG} {types:List AR} {d:AD} (hg:N6 b types) (h:(bif decide ((AA d 12).1<8) then decide ((0:Int)<(b.Parts.length:Int)) else false)=true):1<=((BX types (b.Parts.getD (Int.tmod (AA d 12).1 (b.Parts.length:Int)).toNat default).Type').1.Pads.length:Int):=hg _ (TM h).1 (TM h).2
abbrev kV:List Cl:=[.i b.Layers,.i b.Outline.Kind,lst 7 AH.c b.Outline.Edges,.i b.Outline.R,lst 7 AE.c b.Parts,.any,.any,.any,.any,.any,.any,.any,.any,.any,.any]
def Z1U:Blk:=.cells (kV b) 41
abbrev U0:List Av:=[.one (.ptr 1000 0),.one (.i 12)]
def Z1V:CT:=(42,(U0:List Av).map (Br 1000 1000),wrI 1000 (HW d) (tI (AA d 12).1) (.cells (AD.c (AA d 12).2) 117))
abbrev Ol:List Av:=[.one (.ptr 1000 0),.one (.i 6)]
def Z1W:CT:=(42,(Ol:List Av).map (Br 1000 1000),wrI 1000 (.cells (AD.c (AA d 12).2) 117) (tI (AA (AA d 12).2 6).1) (.cells (AD.c (AA (AA d 12).2 6).2) 117))
def Z1X:Blk:=.cells (AD.c (AA (AA d 12).2 6).2) 117
def Z1Y:AE:=b.Parts.getD (Int.tmod (AA d 12).1 (b.Parts.length:Int)).toNat default
def Z1Z (types:(List AR)) (b:AG) (d:AD):AC:=((BX types (Z1Y b d).Type').1.Pads.getD (Int.tmod (AA (AA d 12).2 6).1 ((BX types (Z1Y b d).Type').1.Pads.length:Int)).toNat default).At
def Z20:AC:=AY (Gi (Z1Y b d)) (Z1Z types b d)
def Bo (b:AG) (types:(List AR)) (d:AD):(AC×AD):=bif bif decide (((AA d 12).1:Int)<8) then decide ((0:Int)<(b.Parts.length:Int)) else false then (Z20 b d types,(AA (AA d 12).2 6).2) else (AC.mk (W64 (30+(Int.tmod (W64 (40*(AA d 12).1)) 360))) (W64 (30+(W64 (60*(AA (AA d 12).2 6).1)))),(AA (AA d 12).2 6).2)
abbrev MN:Nat×Blk:=(6,.cells [.i 0,.i 0] 66)
abbrev Zi:List Cl:=[.i (W64 (30+(Int.tmod (W64 (40*(AA d 12).1)) 360))),.i (W64 (30+(W64 (60*(AA (AA d 12).2 6).1))))]
theorem LO  (b:AG) (types:(List AR)) (d:AD) (hd:Bg d) (hb:(b.Parts.length:Int)<=1000000) (ht:(types.length:Int)<=1000000) (hg:N6 b types):Wr Tryz.prog 97 1000 [.agg [.i b.Layers,.i b.Outline.Kind,lst 7 AH.c b.Outline.Edges,.i b.Outline.R,lst 7 AE.c b.Parts,.any,.any,.any,.any,.any,.any,.any,.any,.any,.any],.one (lst 3 AR.c types),.one (.ptr 1000 0)] (.cells (AD.c d) 117) (.av (.agg (AC.c (Bo b types d).1))) (.cells (AD.c (Bo b types d).2) 117):=by
 refine Hk Tryz.func97 rfl kr kr kr kr fun W0 M0 X hX => ?_
 refine AB<|rn ⟨[(Cn types),(2,tP 1000 0),(3,tP 3 0),(6,tP 6 0)],[(3,Z1U b),MN,(JG d)]⟩<|AB ?_
 refine rb 13 (Z1V d) (HW d) ⟨[(Cn types),(2,tP 1000 0),(3,tP 3 0),(6,tP 6 0),(7,tI (AA d 12).1)],[(3,Z1U b),MN,(1000,.cells (AD.c (AA d 12).2) 117)]⟩ (cWr (BS d 12 au21 au9))<|AF<|AB ?_
 refine rb 15 (Z1W d) (.cells (AD.c (AA d 12).2) 117) ⟨[(Cn types),(3,tP 3 0),(6,tP 6 0),(7,tI (AA d 12).1),(8,tI (AA (AA d 12).2 6).1)],[(3,Z1U b),MN,(1000,Z1X d)]⟩ (cWr (BS (AA d 12).2 6 au21 au9))<|AF ?_
 refine AB<|AB ?_
 refine rc [] (t4 (decide (((AA d 12).1:Int)<8)) []) ⟨[(Cn types),(3,tP 3 0),(6,tP 6 0),(7,tI (AA d 12).1),(8,tI (AA (AA d 12).2 6).1),(23,tB (bif decide (((AA d 12).1:Int)<8) then decide ((0:Int)<(b.Parts.length:Int)) else false))],[(3,Z1U b),MN,(1000,Z1X d)]⟩ .nil (c4 .nil)<|AF ?_
 refine AW _ rfl (fun h1 => ?_) (fun h1 => ?_)
 ·have g1:=HT h1
  refine AB<|dw [] [] [((b.Parts.length:Int):Int)≠0,0<=(Int.tmod (AA d 12).1 (b.Parts.length:Int):Int)/\(Int.tmod (AA d 12).1 (b.Parts.length:Int):Int)<((b.Parts.length:Nat):Int)] ⟨[(Cn types),(6,tP 6 0),(8,tI (AA (AA d 12).2 6).1),(9,tP 9 0)],[MN,(9,.cells (AE.c (Z1Y b d)) 78),(1000,Z1X d)]⟩ .nil (.cons (by first | decide | (have hq:=Li h1;omega) | (have hq:=LM hg h1;show ¬ ((BX types (b.Parts.getD (Int.tmod (AA d 12).1 (b.Parts.length:Int)).toNat default).Type').1.Pads.length:Int)=0;omega)) (.cons (by first | exact TM h1 | exact Lb (DM _ 6 (by decide) (by decide)).1 (by have hq:=LM hg h1;show (0:Int)<((BX types (b.Parts.getD (Int.tmod (AA d 12).1 (b.Parts.length:Int)).toNat default).Type').1.Pads.length:Int);omega) | decide | omega) .nil))<|AF<|AB ?_
  refine rs 37 (LA types (Z1Y b d).Type') ⟨[(6,tP 6 0),(8,tI (AA (AA d 12).2 6).1),(9,tP 9 0),(10,tP 10 0)],[MN,(9,.cells (AE.c (Z1Y b d)) 78),(10,.cells (AR.c (BX types (Z1Y b d).Type').1) 82),(1000,Z1X d)]⟩ (SR types (Z1Y b d).Type' au11)<|AF<|AB ?_
  refine dw [] [(41,Jw (Z1Y b d)),(52,Cq (Gi (Z1Y b d)) (Z1Z types b d))] [Aq (Jw (Z1Y b d)).2.1,(((BX types (Z1Y b d).Type').1.Pads.length:Int):Int)≠0,0<=(Int.tmod (AA (AA d 12).2 6).1 ((BX types (Z1Y b d).Type').1.Pads.length:Int):Int)/\(Int.tmod (AA (AA d 12).2 6).1 ((BX types (Z1Y b d).Type').1.Pads.length:Int):Int)<(((BX types (Z1Y b d).Type').1.Pads.length:Nat):Int),Aq (Cq (Gi (Z1Y b d)) (Z1Z types b d)).2.1] ⟨[(6,tP 6 0)],[(6,.cells (AC.c (Z20 b d types)) 66),(1000,Z1X d)]⟩ (.cons (WA (Z1Y b d)) (.cons (EW (Gi (Z1Y b d)) (Z1Z types b d)) .nil)) (.cons rfl (.cons (by first | decide | (have hq:=Li h1;omega) | (have hq:=LM hg h1;show ¬ ((BX types (b.Parts.getD (Int.tmod (AA d 12).1 (b.Parts.length:Int)).toNat default).Type').1.Pads.length:Int)=0;omega)) (.cons (by first | exact TM h1 | exact Lb (DM _ 6 (by decide) (by decide)).1 (by have hq:=LM hg h1;show (0:Int)<((BX types (b.Parts.getD (Int.tmod (AA d 12).1 (b.Parts.length:Int)).toNat default).Type').1.Pads.length:Int);omega) | decide | omega) (.cons rfl .nil))))<|AF ?_
  refine Ab<|An ?_
  exact xl (.av (.agg (AC.c (Z20 b d types)))) ⟨Ae (by simp only [Bo,h1,cond_true,cond_false] <;> rfl),.cells (AD.c (AA (AA d 12).2 6).2) 117,by kernel_rfl,Da (by first | (simp only [Bo,h1,cond_true,cond_false];done) | (simp only [Bo,h1,cond_true,cond_false];kernel_rfl))⟩
 refine AV<|AF<|AB ?_
 refine rc [] [(360:Int)≠0] ⟨[(6,tP 6 0)],[(6,.cells (Zi d) 66),(1000,Z1X d)]⟩ .nil (.cons (by first | decide | (have hq:=Li h1;omega) | (have hq:=LM hg h1;show ¬ ((BX types (b.Parts.getD (Int.tmod (AA d 12).1 (b.Parts.length:Int)).toNat default).Type').1.Pads.length:Int)=0;omega)) .nil)<|AF<|Ab ?_
 exact xl (.av (.agg (Zi d))) ⟨Ae (by simp only [Bo,h1,cond_true,cond_false] <;> rfl),.cells (AD.c (AA (AA d 12).2 6).2) 117,by kernel_rfl,Da (by first | (simp only [Bo,h1,cond_true,cond_false];done) | (simp only [Bo,h1,cond_true,cond_false];kernel_rfl))⟩
theorem Dj {α:Type} {c:Bool} {a b:α×AD} (ha:Bg a.2) (hb:Bg b.2):Bg (bif c then a else b).2:=by cases c <;> assumption
theorem En {b:AG} {d:AD} (h:Bg d):Bg (CV b d).2:=BQ h
theorem DD {a c:AC} {d:AD} (h:Bg d):Bg (Cj a c d).2:=by
 unfold Cj
 exact Dj (BQ h) (Dj (BQ (BQ h)) (BQ h))
theorem De {b:AG} {types:List AR} {d:AD} (h:Bg d):Bg (Bo b types d).2:=by
 unfold Bo
 exact Dj (BQ (BQ h)) (BQ (BQ h))
theorem DP {l:List (List Int)} (hl:∀ x∈l,(x.length:Int)<=9223372036854775807) (k:Int):((Aa l k).length:Int)<=9223372036854775807:=by
 unfold Aa
 by_cases h:k<(l.length:Int)
 ·rw [decide_eq_true h]
  simp only [cond_true]
  by_cases hk:k.toNat<l.length
  ·rw [List.getD_eq_getElem?_getD,List.getElem?_eq_getElem hk]
   exact hl _ (List.getElem_mem _)
  rw [List.getD_eq_getElem?_getD,List.getElem?_eq_none oM]
  decide
 rw [decide_eq_false h]
 exact Int.le_of_lt (by decide:((([]:List Int).length:Nat):Int)<9223372036854775807)
theorem SY {v:Int} {d:AD} {n:Int} (h:v<(AA d n).1) (h0:0<n) (h1:n<=1000000):v<n:=by
 have:=DM d n h0 (by omega)
 omega
end
section
open Go.RowKit
variable (b:AG) (AP:List AM) (AZ:List Ag) (types:List AR) (Aj:List Bc) (v12:Int) (l:List (List Int)) (v6' v6 v6'':AD)
def Z21:Tv:=.av (oL l)
abbrev VW:List Cl:=(BD b [vN,vN,vN,vN,vN,vN,vN,vN,vN])
def Z22:Blk:=.cells (VW b) 41
abbrev NC:List Cl:=(BD b [lst 6 AM.c [],lst 8 Ag.c [],lst 8 Bc.c [],lst 5 C4.c [],lst 4 Au.c [],lst 2 Cr.c [],lst 20 BF.c [],lst 3 CY.c [],lst 3 Dw.c []])
abbrev HL:=AG.mk b.Layers b.Outline b.Parts b.Nets [] [] [] [] [] [] [] [] []
abbrev On:List Av:=[.one (.ptr 1000 0),.one (.ptr 1001 0)]
def Z23:CT:=(95,(On:List Av).map (FV 1000 1000 1001 22),wqV 1000 22 [6,7,8,9,10,11,12,13,14] (NC b) 41 (.cells [lst 1 eIn (Aa l 4),.i 0] 117) (.av (.one (.s (CV (HL b) (AD.mk (Aa l 4) 0)).1))) (.cells (AD.c (CV (HL b) (AD.mk (Aa l 4) 0)).2) 117))
abbrev Z24:AD:=(CV (AG.mk b.Layers b.Outline b.Parts b.Nets [] [] [] [] [] [] [] [] []) (AD.mk (Aa l 4) 0)).2
def Z25:Tv:=.av (.one (.s (CV (HL b) (AD.mk (Aa l 4) 0)).1))
def Z26:CT:=(42,(Ol:List Av).map (Br 1000 22),wrI 22 (.cells (AD.c (Z24 b l)) 117) (tI (AA (Z24 b l) 6).1) (.cells (AD.c (AA (Z24 b l) 6).2) 117))
def Z27:Blk:=.cells (AD.c (AA (Z24 b l) 6).2) 117
abbrev E5:List Av:=[.one (.ptr 1000 0),.one (.i 3)]
def Z28:CT:=(42,(E5:List Av).map (Br 1000 75),wrI 75 (.cells [lst 1 eIn (Aa l 5),.i 0] 117) (tI (AA (AD.mk (Aa l 5) 0) 3).1) (.cells (AD.c (AA (AD.mk (Aa l 5) 0) 3).2) 117))
def Z29:Tv:=tI (AA (AD.mk (Aa l 5) 0) 3).1
def Z2a:Blk:=.cells (AD.c (AA (AD.mk (Aa l 5) 0) 3).2) 117
abbrev KS:=AA (AD.mk (Aa l 6) 0) 3
def Z2b:CT:=(42,(E5:List Av).map (Br 1000 189),wrI 189 (.cells [lst 1 eIn (Aa l 6),.i 0] 117) (tI (KS l).1) (.cells (AD.c (KS l).2) 117))
def Z2c:Blk:=.cells (AD.c (KS l).2) 117
abbrev J8:=AG.mk b.Layers b.Outline b.Parts [] [] [] [] [] [] [] [] [] []
abbrev Oh:List Av:=[.agg (kV b),.one (Fz types),.one (.ptr 1000 0)]
def Z2d:CT:=(97,((Oh b types):List Av).map (Br 1000 189),wrI 189 (.cells (AD.c (KS l).2) 117) (.av (.agg (AC.c (Bo (J8 b) types (KS l).2).1))) (.cells (AD.c (Bo (J8 b) types (KS l).2).2) 117))
abbrev Z2e:AD:=(Bo (AG.mk b.Layers b.Outline b.Parts [] [] [] [] [] [] [] [] [] []) types (AA (AD.mk (Aa l 6) 0) 3).2).2
def Z2f:AC:=(Bo (AG.mk b.Layers b.Outline b.Parts [] [] [] [] [] [] [] [] [] []) types (AA (AD.mk (Aa l 6) 0) 3).2).1
def Z2g:CT:=(42,(E5:List Av).map (Br 1000 189),wrI 189 (.cells (AD.c (Z2e b types l)) 117) (tI (AA (Z2e b types l) 3).1) (.cells (AD.c (AA (Z2e b types l) 3).2) 117))
def Z2h:AQ:=Hd (As.mk (Z2f b types l).X (Z2f b types l).Y (W64 ((Z2f b types l).X+30)) (W64 ((Z2f b types l).Y+20)))
abbrev Z2i (l:(List (List Int))) (b:AG) (types:(List AR)):AD:=bif decide (((AA (AD.mk (Aa l 6) 0) 3).1:Int)=0) then (AA (Z2e b types l) 3).2 else (AA (AD.mk (Aa l 6) 0) 3).2
def Z2j (l:(List (List Int))) (b:AG) (types:(List AR)):(List C4):=bif decide (((AA (AD.mk (Aa l 6) 0) 3).1:Int)=0) then [C4.mk 41 (AA (Z2e b types l) 3).1 (Z2h b types l)] else []
def Z2k (l:(List (List Int))) (b:AG) (types:(List AR)):CT:=(42,(E5:List Av).map (Br 1000 189),wrI 189 (.cells (AD.c (Z2i l b types)) 117) (tI (AA (Z2i l b types) 3).1) (.cells (AD.c (AA (Z2i l b types) 3).2) 117))
def Z2l (l:(List (List Int))) (b:AG) (types:(List AR)):Tv:=tB (decide (((AA (Z2i l b types) 3).1:Int)=0))
def Z2m (l:(List (List Int))) (b:AG) (types:(List AR)):Blk:=.cells (AD.c (AA (Z2i l b types) 3).2) 117
def Z2n:CT:=(97,((Oh b types):List Av).map (Br 1000 189),wrI 189 (.cells (AD.c (AA (Z2i l b types) 3).2) 117) (.av (.agg (AC.c (Bo (J8 b) types (AA (Z2i l b types) 3).2).1))) (.cells (AD.c (Bo (J8 b) types (AA (Z2i l b types) 3).2).2) 117))
abbrev Z2o:AD:=(Bo (AG.mk b.Layers b.Outline b.Parts [] [] [] [] [] [] [] [] [] []) types (AA (Z2i l b types) 3).2).2
def Z2p:AC:=(Bo (AG.mk b.Layers b.Outline b.Parts [] [] [] [] [] [] [] [] [] []) types (AA (Z2i l b types) 3).2).1
def Z2q:CT:=(42,(HZ:List Av).map (Br 1000 189),wrI 189 (.cells (AD.c (Z2o b types l)) 117) (tI (AA (Z2o b types l) 4).1) (.cells (AD.c (AA (Z2o b types l) 4).2) 117))
def Z2r:AH:=E1 (Z2p b types l) (AC.mk (W64 ((Z2p b types l).X+25)) (W64 ((Z2p b types l).Y+10)))
def Z2s:Blk:=.row 8 ([]:List Bc).length (AL Bc.c ([]:List Bc)) 97
def Z2t:Blk:=.row 8 Aj.length (AL Bc.c Aj) 97
def Z2u:Blk:=.row 8 ([]:List Ag).length (AL Ag.c ([]:List Ag)) 133
def Z2v:Blk:=.row 8 AZ.length (AL Ag.c AZ) 133
def Z2w:Blk:=.row 6 ([]:List AM).length (AL AM.c ([]:List AM)) 131
def Z2x:Blk:=.cells (BD b [.own 100000 6 ([]:List AM).length,vN,vN,vN,vN,vN,vN,vN,vN]) 41
abbrev TC:List Cl:=(BD b [.own 100000 6 AP.length,vN,vN,vN,vN,vN,vN,vN,vN])
def Z2y:Blk:=.cells (TC b AP) 41
def Z2z:Blk:=.row 6 AP.length (AL AM.c AP) 131
abbrev Hf:List Av:=[.one (.ptr 1000 0),.one (.i 2)]
def Z2A:CT:=(42,(Hf:List Av).map (Br 1000 22),wrI 22 (.cells (AD.c v6) 117) (tI (AA v6 2).1) (.cells (AD.c (AA v6 2).2) 117))
abbrev ID:=AA (AA v6 2).2 4
def Z2B:CT:=(42,(HZ:List Av).map (Br 1000 22),wrI 22 (.cells (AD.c (AA v6 2).2) 117) (tI (ID v6).1) (.cells (AD.c (ID v6).2) 117))
def Z2C:CT:=(97,((Oh b types):List Av).map (Br 1000 22),wrI 22 (.cells (AD.c (ID v6).2) 117) (.av (.agg (AC.c (Bo (J8 b) types (ID v6).2).1))) (.cells (AD.c (Bo (J8 b) types (ID v6).2).2) 117))
abbrev Z2D:AD:=(Bo (AG.mk b.Layers b.Outline b.Parts [] [] [] [] [] [] [] [] [] []) types (AA (AA v6 2).2 4).2).2
def Z2E:AC:=(Bo (AG.mk b.Layers b.Outline b.Parts [] [] [] [] [] [] [] [] [] []) types (AA (AA v6 2).2 4).2).1
def Z2F:CT:=(97,((Oh b types):List Av).map (Br 1000 22),wrI 22 (.cells (AD.c (Z2D b types v6)) 117) (.av (.agg (AC.c (Bo (J8 b) types (Z2D b types v6)).1))) (.cells (AD.c (Bo (J8 b) types (Z2D b types v6)).2) 117))
abbrev Z2G:AD:=(Bo (AG.mk b.Layers b.Outline b.Parts [] [] [] [] [] [] [] [] [] []) types (Z2D b types v6)).2
def Z2H:AC:=(Bo (AG.mk b.Layers b.Outline b.Parts [] [] [] [] [] [] [] [] [] []) types (Z2D b types v6)).1
abbrev MP:=Cj (Z2E b types v6) (Z2H b types v6) (Z2G b types v6)
def Z2I:CT:=(96,([.agg (AC.c (Z2E b types v6)),.agg (AC.c (Z2H b types v6)),.one (.ptr 1000 0)]:List Av).map (Br 1000 22),wrI 22 (.cells (AD.c (Z2G b types v6)) 117) (.av (.one (lst 7 AH.c (MP b types v6).1))) (.cells (AD.c (MP b types v6).2) 117))
abbrev Z2J:AD:=(Cj (Z2E b types v6) (Z2H b types v6) (Z2G b types v6)).2
abbrev ZC (v9:Int) (v7:ByteArray) (v6:AD) (b:AG) (types:List AR):=[AM.mk (W64 (11+v9)) v7 (W64 (1+(AA v6 2).1)) (AQ.mk 1 (MP b types v6).1 (W64 (3+(ID v6).1)))]
def Z2K (AP:List AM) (v9:Int) (v7:ByteArray) (v6:AD) (b:AG) (types:(List AR)):Blk:=.row 6 (AP++(ZC v9 v7 v6 b types)).length (AL AM.c (AP++(ZC v9 v7 v6 b types))) 131
abbrev ZE (b:AG) (AP:List AM) (v9:Int) (v7:ByteArray) (v6:AD) (types:List AR):List Cl:=(BD b [.own 66 6 (AP++(ZC v9 v7 v6 b types)).length,vN,vN,vN,vN,vN,vN,vN,vN])
def Z2L (b:AG) (AP:List AM) (v9:Int) (v7:ByteArray) (v6:AD) (types:(List AR)):Blk:=.cells (ZE b AP v9 v7 v6 types) 41
def Z2M:CT:=(95,(On:List Av).map (FV 1000 1000 1001 22),wqV 1000 22 [6,7,8,9,10,11,12,13,14] (NC b) 41 (.cells (AD.c (Z2J b types v6)) 117) (.av (.one (.s (CV (HL b) (Z2J b types v6)).1))) (.cells (AD.c (CV (HL b) (Z2J b types v6)).2) 117))
abbrev Z2N:AD:=(CV (AG.mk b.Layers b.Outline b.Parts b.Nets [] [] [] [] [] [] [] [] []) (Z2J b types v6)).2
def Z2O:Tv:=.av (.one (.s (CV (HL b) (Z2J b types v6)).1))
def Z2P:Blk:=.cells (AD.c (Z2N b types v6)) 117
def Z2Q:CT:=(95,(On:List Av).map (FV 1000 1000 1001 75),wqV 1000 75 [6,7,8,9,10,11,12,13,14] (NC b) 41 (.cells (AD.c v6') 117) (.av (.one (.s (CV (HL b) v6').1))) (.cells (AD.c (CV (HL b) v6').2) 117))
abbrev Z2R:AD:=(CV (AG.mk b.Layers b.Outline b.Parts b.Nets [] [] [] [] [] [] [] [] []) v6').2
def Z2S:CT:=(97,((Oh b types):List Av).map (Br 1000 75),wrI 75 (.cells (AD.c (Z2R b v6')) 117) (.av (.agg (AC.c (Bo (J8 b) types (Z2R b v6')).1))) (.cells (AD.c (Bo (J8 b) types (Z2R b v6')).2) 117))
abbrev Z2T:AD:=(Bo (AG.mk b.Layers b.Outline b.Parts [] [] [] [] [] [] [] [] [] []) types (Z2R b v6')).2
def Z2U:AC:=(Bo (AG.mk b.Layers b.Outline b.Parts [] [] [] [] [] [] [] [] [] []) types (Z2R b v6')).1
abbrev Kc:List Av:=[.one (.ptr 1000 0),.one (.i 5)]
def Z2V:CT:=(42,(Kc:List Av).map (Br 1000 75),wrI 75 (.cells (AD.c (Z2T b types v6')) 117) (tI (AA (Z2T b types v6') 5).1) (.cells (AD.c (AA (Z2T b types v6') 5).2) 117))
def Z2W:CT:=(42,(E5:List Av).map (Br 1000 75),wrI 75 (.cells (AD.c (AA (Z2T b types v6') 5).2) 117) (tI (AA (AA (Z2T b types v6') 5).2 3).1) (.cells (AD.c (AA (AA (Z2T b types v6') 5).2 3).2) 117))
abbrev Z2X:AD:=(AA (AA (Z2T b types v6') 5).2 3).2
def Z2Y:Blk:=.cells (AD.c (Z2X b types v6')) 117
abbrev R6 (v11:Int) (b:AG) (v6':AD) (types:List AR):=[Ag.mk (W64 (21+v11)) (CV (HL b) v6').1 (Z2U b types v6') (W64 (6+(AA (Z2T b types v6') 5).1)) (W64 (4+(W64 (2*(AA (AA (Z2T b types v6') 5).2 3).1)))) 1 2]
def Z2Z (AZ:List Ag) (v11:Int) (b:AG) (v6':AD) (types:(List AR)):Blk:=.row 8 (AZ++(R6 v11 b v6' types)).length (AL Ag.c (AZ++(R6 v11 b v6' types))) 133
def Z30 (b:AG) (AP:List AM) (AZ:List Ag) (v11:Int) (v6':AD) (types:(List AR)):Blk:=.cells (BD b [.own 100000 6 AP.length,.own 108 8 (AZ++(R6 v11 b v6' types)).length,vN,vN,vN,vN,vN,vN,vN]) 41
def Z31:CT:=(42,(E5:List Av).map (Br 1000 75),wrI 75 (.cells (AD.c v6') 117) (tI (AA v6' 3).1) (.cells (AD.c (AA v6' 3).2) 117))
def Z32:CT:=(42,(U0:List Av).map (Br 1000 75),wrI 75 (.cells (AD.c v6'') 117) (tI (AA v6'' 12).1) (.cells (AD.c (AA v6'' 12).2) 117))
abbrev HK:=AA (AA v6'' 12).2 12
def Z33:CT:=(42,(U0:List Av).map (Br 1000 75),wrI 75 (.cells (AD.c (AA v6'' 12).2) 117) (tI (HK v6'').1) (.cells (AD.c (HK v6'').2) 117))
def Z34:CT:=(42,(Ol:List Av).map (Br 1000 75),wrI 75 (.cells (AD.c (HK v6'').2) 117) (tI (AA (HK v6'').2 6).1) (.cells (AD.c (AA (HK v6'').2 6).2) 117))
abbrev Z35:AD:=(AA (AA (AA v6'' 12).2 12).2 6).2
def Z36:CT:=(42,(Kc:List Av).map (Br 1000 75),wrI 75 (.cells (AD.c (Z35 v6'')) 117) (tI (AA (Z35 v6'') 5).1) (.cells (AD.c (AA (Z35 v6'') 5).2) 117))
abbrev VS:=CV (HL b) (AA (Z35 v6'') 5).2
def Z37:CT:=(95,(On:List Av).map (FV 1000 1000 1001 75),wqV 1000 75 [6,7,8,9,10,11,12,13,14] (NC b) 41 (.cells (AD.c (AA (Z35 v6'') 5).2) 117) (.av (.one (.s (VS b v6'').1))) (.cells (AD.c (VS b v6'').2) 117))
abbrev Z38:AD:=(CV (AG.mk b.Layers b.Outline b.Parts b.Nets [] [] [] [] [] [] [] [] []) (AA (Z35 v6'') 5).2).2
abbrev IC:=AA (Z38 b v6'') 2
def Z39:CT:=(42,(Hf:List Av).map (Br 1000 75),wrI 75 (.cells (AD.c (Z38 b v6'')) 117) (tI (IC b v6'').1) (.cells (AD.c (IC b v6'').2) 117))
abbrev VO:=AA (IC b v6'').2 3
def Z3a:CT:=(42,(E5:List Av).map (Br 1000 75),wrI 75 (.cells (AD.c (IC b v6'').2) 117) (tI (VO b v6'').1) (.cells (AD.c (VO b v6'').2) 117))
abbrev Z3b:AD:=(AA (AA (Z38 b v6'') 2).2 3).2
abbrev IB:=AA (Z3b b v6'') 2
def Z3c:CT:=(42,(Hf:List Av).map (Br 1000 75),wrI 75 (.cells (AD.c (Z3b b v6'')) 117) (tI (IB b v6'').1) (.cells (AD.c (IB b v6'').2) 117))
abbrev VN:=AA (IB b v6'').2 4
def Z3d:CT:=(42,(HZ:List Av).map (Br 1000 75),wrI 75 (.cells (AD.c (IB b v6'').2) 117) (tI (VN b v6'').1) (.cells (AD.c (VN b v6'').2) 117))
abbrev Z3e:AD:=(AA (AA (Z3b b v6'') 2).2 4).2
abbrev IG:=AA (Z3e b v6'') 6
def Z3f:CT:=(42,(Ol:List Av).map (Br 1000 75),wrI 75 (.cells (AD.c (Z3e b v6'')) 117) (tI (IG b v6'').1) (.cells (AD.c (IG b v6'').2) 117))
abbrev L7:=[As.mk (AA v6'' 12).1 (HK v6'').1 (W64 ((W64 ((AA v6'' 12).1+1))+(AA (HK v6'').2 6).1)) (W64 ((W64 ((HK v6'').1+1))+(AA (Z35 v6'') 5).1))]
abbrev OL (v12:Int) (b:AG) (v6'':AD) (t_:List Cl):List Cl:=(.i (W64 (31+v12)))::(.s (VS b v6'').1)::(.i (W64 (1+(IC b v6'').1)))::(.i (W64 (20+(W64 (5*(VO b v6'').1)))))::(.i (IB b v6'').1)::(.i (([0,0,5,9]:List Int).getD (VN b v6'').1.toNat 0))::(.i (W64 (4+(IG b v6'').1)))::t_
def Z3g (v12:Int) (b:AG) (v6'':AD):Blk:=.cells (OL v12 b v6'' [.own 158 4 ((L7 v6'').length)]) 97
def Z3h:Blk:=.row 4 ((L7 v6'').length) (AL As.c (L7 v6'')) 90
def Z3i:CT:=(42,(E5:List Av).map (Br 1000 75),wrI 75 (.cells (AD.c (IG b v6'').2) 117) (tI (AA (IG b v6'').2 3).1) (.cells (AD.c (AA (IG b v6'').2 3).2) 117))
abbrev Z3j:AD:=(AA (AA (Z3e b v6'') 6).2 3).2
def Z3k:Blk:=.cells (AD.c (Z3j b v6'')) 117
abbrev R4:=[As.mk (W64 ((AA v6'' 12).1-2)) (HK v6'').1 (W64 ((AA v6'' 12).1+1)) (W64 ((HK v6'').1+2))]
def Z3l:Blk:=.row 4 ((L7 v6'')++(R4 v6'')).length (AL As.c ((L7 v6'')++(R4 v6''))) 90
def Z3m:(List As):=bif decide (((AA (AA (Z3e b v6'') 6).2 3).1:Int)=0) then ([As.mk (AA v6'' 12).1 (AA (AA v6'' 12).2 12).1 (W64 ((W64 ((AA v6'' 12).1+1))+(AA (AA (AA v6'' 12).2 12).2 6).1)) (W64 ((W64 ((AA (AA v6'' 12).2 12).1+1))+(AA (Z35 v6'') 5).1))]++[As.mk (W64 ((AA v6'' 12).1-2)) (AA (AA v6'' 12).2 12).1 (W64 ((AA v6'' 12).1+1)) (W64 ((AA (AA v6'' 12).2 12).1+2))]) else [As.mk (AA v6'' 12).1 (AA (AA v6'' 12).2 12).1 (W64 ((W64 ((AA v6'' 12).1+1))+(AA (AA (AA v6'' 12).2 12).2 6).1)) (W64 ((W64 ((AA (AA v6'' 12).2 12).1+1))+(AA (Z35 v6'') 5).1))]
abbrev R9 (v12:Int) (b:AG) (v6'':AD):=[Bc.mk (W64 (31+v12)) (VS b v6'').1 (W64 (1+(IC b v6'').1)) (W64 (20+(W64 (5*(VO b v6'').1)))) (IB b v6'').1 (([0,0,5,9]:List Int).getD (VN b v6'').1.toNat 0) (W64 (4+(IG b v6'').1)) (Z3m b v6'')]
def Z3n (Aj:List Bc) (v12:Int) (b:AG) (v6'':AD):Blk:=.row 8 (Aj++(R9 v12 b v6'')).length (AL Bc.c (Aj++(R9 v12 b v6''))) 97
def Z3o (b:AG) (AP:List AM) (v9:Int) (v7:ByteArray) (v6:AD) (types:(List AR)):Blk:=.cells (BD b [.own 100000 6 (AP++(ZC v9 v7 v6 b types)).length,vN,vN,vN,vN,vN,vN,vN,vN]) 41
def Z3p:Blk:=.cells (BD b [.own 100000 6 AP.length,.own 100001 8 ([]:List Ag).length,vN,vN,vN,vN,vN,vN,vN]) 41
abbrev FC (t_:List Cl):List Cl:=(.own 100000 6 AP.length)::(.own 100001 8 AZ.length)::t_
abbrev TF:List Cl:=(BD b (FC AP AZ [vN,vN,vN,vN,vN,vN,vN]))
def Z3q:Blk:=.cells (TF b AP AZ) 41
def Z3r:Blk:=.cells (BD b (FC AP AZ [.own 183 8 (Aj++(R9 v12 b v6'')).length,vN,vN,vN,vN,vN,vN])) 41
def Z3s (b:AG) (AP:List AM) (AZ:List Ag) (v11:Int) (v6':AD) (types:(List AR)):Blk:=.cells (BD b [.own 100000 6 AP.length,.own 100001 8 (AZ++(R6 v11 b v6' types)).length,vN,vN,vN,vN,vN,vN,vN]) 41
def Z3t:Blk:=.cells (BD b (FC AP AZ [.own 100002 8 ([]:List Bc).length,vN,vN,vN,vN,vN,vN])) 41
abbrev TH:List Cl:=(BD b (FC AP AZ [.own 100002 8 Aj.length,vN,vN,vN,vN,vN,vN]))
def Z3u:Blk:=.cells (TH b AP AZ Aj) 41
abbrev Zc (b:AG) (AP:List AM) (AZ:List Ag) (Aj:List Bc) (l:List (List Int)) (types:List AR):List Cl:=(BD b (FC AP AZ [.own 100002 8 Aj.length,lst 5 C4.c (Z2j l b types),vN,vN,vN,vN,vN]))
def Z3v (b:AG) (AP:List AM) (AZ:List Ag) (Aj:List Bc) (l:(List (List Int))) (types:(List AR)):Blk:=.cells (Zc b AP AZ Aj l types) 41
def Z3w (v12:Int) (b:AG) (v6'':AD):Blk:=.cells (OL v12 b v6'' [.own 100003 4 ((L7 v6'')++(R4 v6'')).length]) 97
def Z3x (v12:Int) (b:AG) (v6'':AD):Blk:=.cells (OL v12 b v6'' [.own 100003 4 ((L7 v6'').length)]) 97
def Z3y:Blk:=.cells (BD b (FC AP AZ [.own 100002 8 (Aj++(R9 v12 b v6'')).length,vN,vN,vN,vN,vN,vN])) 41
def CC (b:AG) (types:(List AR)) (l:(List (List Int))) (AP:List AM) (v6:AD) (v7:ByteArray) (v9:Int) (AZ:List Ag) (v6':AD) (v11:Int) (K0:List AM->AD->ByteArray->Int->AG) (K1:List Ag->AD->Int->AG):Nat->List Bc->AD->Int->AG
 | 0,_,_,_=>default
 | n2+1,Aj,v6'',v12=>bif decide ((v12:Int)<(AA v6' 3).1) then ((CC b types l AP v6 v7 v9 AZ v6' v11 K0 K1 n2) (Aj++[Bc.mk (W64 (31+v12)) (CV (AG.mk b.Layers b.Outline b.Parts b.Nets [] [] [] [] [] [] [] [] []) (AA (Z35 v6'') 5).2).1 (W64 (1+(AA (Z38 b v6'') 2).1)) (W64 (20+(W64 (5*(AA (AA (Z38 b v6'') 2).2 3).1)))) (AA (Z3b b v6'') 2).1 (([0,0,5,9]:List Int).getD (AA (AA (Z3b b v6'') 2).2 4).1.toNat 0) (W64 (4+(AA (Z3e b v6'') 6).1)) (Z3m b v6'')]) (Z3j b v6'') (v12+1)) else (bif decide (((AA (Z2i l b types) 3).1:Int)=0) then (AG.mk b.Layers b.Outline b.Parts b.Nets AP AZ Aj (Z2j l b types) [Au.mk 51 (AQ.mk 1 [Z2r b types l] (W64 (3+(AA (Z2o b types l) 4).1)))] [] [] [] []) else (AG.mk b.Layers b.Outline b.Parts b.Nets AP AZ Aj (Z2j l b types) [] [] [] [] []))
def CS (b:AG) (types:(List AR)) (l:(List (List Int))) (AP:List AM) (v6:AD) (v7:ByteArray) (v9:Int) (K0:List AM->AD->ByteArray->Int->AG):Nat->List Ag->AD->Int->AG
 | 0,_,_,_=>default
 | n1+1,AZ,v6',v11=>bif decide ((v11:Int)<(AA (AD.mk (Aa l 5) 0) 3).1) then ((CS b types l AP v6 v7 v9 K0 n1) (AZ++[Ag.mk (W64 (21+v11)) (CV (AG.mk b.Layers b.Outline b.Parts b.Nets [] [] [] [] [] [] [] [] []) v6').1 (Z2U b types v6') (W64 (6+(AA (Z2T b types v6') 5).1)) (W64 (4+(W64 (2*(AA (AA (Z2T b types v6') 5).2 3).1)))) 1 2]) (Z2X b types v6') (v11+1)) else (CC b types l AP v6 v7 v9 AZ v6' v11 K0 (CS b types l AP v6 v7 v9 K0 n1) (((AA v6' 3).1-0).toNat+1) ([]:List Bc) (AA v6' 3).2 0)
def Bz (b:AG) (types:(List AR)) (l:(List (List Int))):Nat->List AM->AD->ByteArray->Int->AG
 | 0,_,_,_,_=>default
 | n0+1,AP,v6,v7,v9=>bif decide ((v9:Int)<(AA (Z24 b l) 6).1) then ((Bz b types l n0) (AP++[AM.mk (W64 (11+v9)) v7 (W64 (1+(AA v6 2).1)) (AQ.mk 1 (Cj (Z2E b types v6) (Z2H b types v6) (Z2G b types v6)).1 (W64 (3+(AA (AA v6 2).2 4).1)))]) (Z2N b types v6) (CV (AG.mk b.Layers b.Outline b.Parts b.Nets [] [] [] [] [] [] [] [] []) (Z2J b types v6)).1 (v9+1)) else (CS b types l AP v6 v7 v9 (Bz b types l n0) (((AA (AD.mk (Aa l 5) 0) 3).1-0).toNat+1) ([]:List Ag) (AA (AD.mk (Aa l 5) 0) 3).2 0)
def Bp (b:AG) (types:(List AR)) (l:(List (List Int))):AG:=Bz b types l (((AA (Z24 b l) 6).1-0).toNat+1) ([]:List AM) (AA (Z24 b l) 6).2 (CV (AG.mk b.Layers b.Outline b.Parts b.Nets [] [] [] [] [] [] [] [] []) (AD.mk (Aa l 4) 0)).1 0
abbrev Zz (v12:Int) (b:AG) (v6'':AD):List Cl:=(OL v12 b v6'' [lst 4 As.c (Z3m b v6'')])
abbrev CK (t_:List (Nat×Tv)):List (Nat×Tv):=(0,tP 1000 0)::(Cn types)::(2,Z21 l)::t_
abbrev IJ:Nat×Tv:=(8,tI (AA v6' 3).1)
abbrev Ov (types:List AR) (l:List (List Int)) (v6':AD) (v12:Int):List (Nat×Tv):=(CK types l [(6,tP 75 0),(IJ v6'),(12,tI v12),(16,tP 16 0)])
abbrev II:Nat×Tv:=(8,tI (AA (Z24 b l) 6).1)
abbrev R3 (types:List AR) (l:List (List Int)) (b:AG):List (Nat×Tv):=(CK types l [(6,tP 22 0),(7,Z25 b l),(II b l),(9,tI 0)])
abbrev Rv:List (Nat×Tv):=(CK types l [(6,tP 75 0),(8,Z29 l),(11,tI 0)])
abbrev MO:List (Nat×Tv):=[(0,tP 1000 0),(Cn types),(6,tP 189 0)]
abbrev Zj:List Cl:=[.i (AA v6'' 12).1,.i (HK v6'').1,.i (W64 ((W64 ((AA v6'' 12).1+1))+(AA (HK v6'').2 6).1)),.i (W64 ((W64 ((HK v6'').1+1))+(AA (Z35 v6'') 5).1))]
abbrev VF:List Cl:=[.i 51,.i 1,.list true 7 1 (Ap 7 1 (AH.c (Z2r b types l))),.i (W64 (3+(AA (Z2o b types l) 4).1))]
abbrev Od:Nat×Blk:=(75,.cells (AD.c (AA v6' 3).2) 117)
abbrev Rc:List (Nat×Tv):=(CK types l [(6,tP 75 0),(IJ v6'),(12,tI 0)])
abbrev ZK (v12:Int) (b:AG) (v6'':AD) (t_:List Cl):List Cl:=(.i (W64 (31+v12)))::(.s (CV (HL b) (AA (Z35 v6'') 5).2).1)::(.i (W64 (1+(AA (Z38 b v6'') 2).1)))::(.i (W64 (20+(W64 (5*(AA (AA (Z38 b v6'') 2).2 3).1)))))::(.i (AA (Z3b b v6'') 2).1)::(.i (([0,0,5,9]:List Int).getD (AA (AA (Z3b b v6'') 2).2 4).1.toNat 0))::(.i (W64 (4+(AA (Z3e b v6'') 6).1)))::t_
abbrev OC (v6':AD) (v12:Int) (v6'':AD) (t_:List (Nat×Tv)):List (Nat×Tv):=(6,tP 75 0)::(IJ v6')::(12,tI v12)::(13,tI (AA v6'' 12).1)::(14,tI (HK v6'').1)::t_
theorem au6 {p:Prop} (h:p:=by repeat (first | with_reducible assumption | exact Ci (DP hll _) | with_reducible refine BQ ?_ | with_reducible refine En ?_ | with_reducible refine De ?_ | with_reducible refine DD ?_  | with_reducible refine Cp ?_ ?_)):p:=h
set_option maxHeartbeats 2000000 in
theorem Vt  (b:AG) (types:(List AR)) (l:(List (List Int))) (hb:(b.Parts.length:Int)<=1000000) (ht:(types.length:Int)<=1000000) (hg:N6 b types) (hn:1<=(b.Nets.length:Int)/\(b.Nets.length:Int)<=1000000) (hl:(l.length:Int)<=9223372036854775807) (hll:∀ x∈l,(x.length:Int)<=9223372036854775807):Wr Tryz.prog 44 1000 [.one (.ptr 1000 0),.one (lst 3 AR.c types),.one (lst 1 (fun x=>[lst 1 eIn x]) l)] (.cells [.i b.Layers,.i b.Outline.Kind,lst 7 AH.c b.Outline.Edges,.i b.Outline.R,lst 7 AE.c b.Parts,lst 2 Bi.c b.Nets,vN,vN,vN,vN,vN,vN,vN,vN,vN] 41) (.tup []) (.cells [.i (Bp b types l).Layers,.i (Bp b types l).Outline.Kind,lst 7 AH.c (Bp b types l).Outline.Edges,.i (Bp b types l).Outline.R,lst 7 AE.c (Bp b types l).Parts,lst 2 Bi.c (Bp b types l).Nets,lst 6 AM.c (Bp b types l).Tracks,lst 8 Ag.c (Bp b types l).Vias,lst 8 Bc.c (Bp b types l).Pours,lst 5 C4.c (Bp b types l).Keeps,lst 4 Au.c (Bp b types l).Slots,vN,vN,vN,vN] 41):=by
 refine Hk Tryz.func44 rfl kr kr kr kr fun W0 M0 X hX => ?_
 refine AB<|rs 20 (EY l 4) ⟨(CK types l [(6,tP 22 0)]),[(22,.cells [lst 1 eIn (Aa l 4),.i 0] 117),(1000,Z22 b)]⟩ (F5 l 4 au11)<|AF<|AB ?_
 refine rc [(25,(Z23 b l))] [Aq (Z23 b l).2.1,Blk.cells (VW b) 41=Blk.cells (P5 [6,7,8,9,10,11,12,13,14] 0 (VW b) (NC b)) 41,Bt (.cells [lst 1 eIn (Aa l 4),.i 0] 117)] ⟨(CK types l [(6,tP 22 0),(7,Z25 b l)]),[(22,.cells (AD.c (Z24 b l)) 117),(1000,Z22 b)]⟩ (.cons (Il (B0:=fun vs=>(BD b [.val (vs 6),.val (vs 7),.val (vs 8),.val (vs 9),.val (vs 10),.val (vs 11),.val (vs 12),.val (vs 13),.val (vs 14)])) (fun _ _=>kr) kr rfl rfl kr (fun vs=>by kernel_rfl) (fun vs=>by kernel_rfl) (fun vs=>SF (AG.mk b.Layers b.Outline b.Parts b.Nets [] [] [] [] [] [] [] [] []) (AD.mk (Aa l 4) 0) vs au6 oM)) .nil) (.cons rfl (.cons rfl (.cons rfl .nil)))<|AF<|AB ?_
 refine rb 27 (Z26 b l) (.cells (AD.c (Z24 b l)) 117) ⟨(CK types l [(6,tP 22 0),(7,Z25 b l),(II b l)]),[(22,Z27 b l),(1000,Z22 b)]⟩ (cWr (BS (Z24 b l) 6 au6 au9))<|AF ?_
 refine AB<|AB ?_
 refine rn ⟨(R3 types l b),[(22,Z27 b l),(1000,Z22 b)]⟩<|AO ?_
 refine BI (Cv.trans (wg (⟨(R3 types l b),[(100000,.row 6 0 (fun _ _=>default) 131),(22,Z27 b l),(1000,.cells (BD b [.own 100000 6 0,vN,vN,vN,vN,vN,vN,vN,vN]) 41)]⟩) 100000 6 (fun _ _=>default) 131 [] [(1000,[6])] (K:=[1000]) hX) (Cv.trans (A7 (⟨(R3 types l b),[(100000,Z2w),(22,Z27 b l),(1000,Z2x b)]⟩) lr (.cons ⟨rfl,Ad 131 (B3 6 (fun _ _=>default) AM.c)⟩ (.cons ⟨rfl,.refl _⟩ (.cons ⟨rfl,.cells _ (rr5 (rr (.cons (.own _ _ au2) (rr (rr (rr (rr (rr (rr (rr (rr .nil)))))))))))⟩ .nil)))) (Cv.trans (ck (⟨(R3 types l b),[(22,Z27 b l),(1000,Z2x b),(100000,Z2w)]⟩)) (Cv.refl _)))) ?_
 refine A0 (ι:=Nat×List AM×AD×ByteArray×Int) (fun x=>⟨(CK types l [(6,tP 22 0),(7,tO (.s x.2.2.2.1)),(II b l),(9,tI x.2.2.2.2)]),[(22,.cells (AD.c x.2.2.1) 117),(1000,.cells (BD b [.own 100000 6 x.2.1.length,vN,vN,vN,vN,vN,vN,vN,vN]) 41),(100000,.row 6 x.2.1.length (AL AM.c x.2.1) 131)]⟩) (fun x=>((AA (Z24 b l) 6).1-x.2.2.2.2).toNat<x.1/\(Bg x.2.2.1/\0<=x.2.2.2.2/\(x.2.2.2.2<=(AA (Z24 b l) 6).1\/x.2.2.2.2=0)/\(x.2.1.length:Int)<=0+1*(x.2.2.2.2-0))/\Bz b types l x.1 x.2.1 x.2.2.1 x.2.2.2.1 x.2.2.2.2=Bp b types l) (fun x=>x.1) ?_ (((AA (Z24 b l) 6).1-0).toNat+1,([]:List AM),(AA (Z24 b l) 6).2,(CV (AG.mk b.Layers b.Outline b.Parts b.Nets [] [] [] [] [] [] [] [] []) (AD.mk (Aa l 4) 0)).1,0) ⟨Nat.lt_succ_self _,⟨(by show Bg ((AA (Z24 b l) 6).2);repeat (first | with_reducible assumption | exact Ci (DP hll _) | with_reducible refine BQ ?_ | with_reducible refine En ?_ | with_reducible refine De ?_ | with_reducible refine DD ?_  | with_reducible refine Cp ?_ ?_)),ax0,ax0,ax0⟩,(by simp only [Bp,cond_true,cond_false])⟩
 rintro ⟨n0,AP,v6,v7,v9⟩ ⟨hm0,hinv0,hF0⟩
 try dsimp only at hm0 hinv0 hF0
 cases n0 with | zero=>exact nz hm0 | succ n0 => ?_
 have hi0_0:=hinv0.1
 refine AB<|AB ?_
 refine rn ⟨(CK types l [(6,tP 22 0),(7,tO (.s v7)),(II b l),(9,tI v9),(30,tB (decide ((v9:Int)<(AA (Z24 b l) 6).1)))]),[(22,.cells (AD.c v6) 117),(1000,Z2y b AP),(100000,Z2z AP)]⟩ ?_
 refine AW _ rfl (fun h1 => ?_) (fun h1 => ?_)
 ·have g1:=oT h1
  have k1:=SY g1 (by decide) (by decide)
  refine AV<|AF ?_
  refine AB<|AO<|AB ?_
  refine rb 37 (Z2A v6) (.cells (AD.c v6) 117) ⟨(CK types l [(6,tP 22 0),(II b l),(9,tI v9),(10,tP 10 0)]),[(10,.cells [.i (W64 (11+v9)),.s v7,.i (W64 (1+(AA v6 2).1)),.i 0,vN,.i 0] 131),(22,.cells (AD.c (AA v6 2).2) 117),(1000,Z2y b AP),(100000,Z2z AP)]⟩ (cWr (BS v6 2 au6 au9))<|AF<|AB ?_
  refine dw [] [(41,(Z2B v6)),(48,ceI [.agg (TC b AP),.one (Fz types),.one (.ptr 22 0)] (Z2C b types v6)),(54,ceI [.agg (TC b AP),.one (Fz types),.one (.ptr 22 0)] (Z2F b types v6)),(56,(Z2I b types v6))] [Aq (Z2B v6).2.1,Bt (.cells (AD.c (AA v6 2).2) 117),Aq (ceI [.agg (TC b AP),.one (lst 3 AR.c types),.one (.ptr 22 0)] (Z2C b types v6)).2.1,Bt (.cells (AD.c (AA (AA v6 2).2 4).2) 117),Aq (ceI [.agg (TC b AP),.one (lst 3 AR.c types),.one (.ptr 22 0)] (Z2F b types v6)).2.1,Bt (.cells (AD.c (Z2D b types v6)) 117),Aq (Z2I b types v6).2.1,Bt (.cells (AD.c (Z2G b types v6)) 117)] ⟨(CK types l [(6,tP 22 0),(II b l),(9,tI v9),(10,tP 10 0)]),[(10,.cells [.i (W64 (11+v9)),.s v7,.i (W64 (1+(AA v6 2).1)),.i 1,lst 7 AH.c (MP b types v6).1,.i (W64 (3+(ID v6).1))] 131),(22,.cells (AD.c (Z2J b types v6)) 117),(1000,Z2y b AP),(100000,Z2z AP)]⟩ (.cons (cWr (BS (AA v6 2).2 4 au6 au9)) (.cons (Cy (cWr (LO (AG.mk b.Layers b.Outline b.Parts [] [] [] [] [] [] [] [] [] []) types (AA (AA v6 2).2 4).2 au6 oM oM (by assumption))) (.cons (.agg (rr5 (.cons (.any _) (.cons (.any _) (.cons (.any _) (.cons (.any _) (.cons (.any _) (.cons (.any _) (.cons (.any _) (.cons (.any _) (.cons (.any _) (.cons (.any _) .nil)))))))))))) (.cons (AvE.refl _) (.cons (AvE.refl _) .nil)))) (.cons (Cy (cWr (LO (AG.mk b.Layers b.Outline b.Parts [] [] [] [] [] [] [] [] [] []) types (Z2D b types v6) au6 oM oM (by assumption))) (.cons (.agg (rr5 (.cons (.any _) (.cons (.any _) (.cons (.any _) (.cons (.any _) (.cons (.any _) (.cons (.any _) (.cons (.any _) (.cons (.any _) (.cons (.any _) (.cons (.any _) .nil)))))))))))) (.cons (AvE.refl _) (.cons (AvE.refl _) .nil)))) (.cons (cWr (aU (Z2E b types v6) (Z2H b types v6) (Z2G b types v6) au6)) .nil)))) (.cons rfl (.cons rfl (.cons rfl (.cons rfl (.cons rfl (.cons rfl (.cons rfl (.cons rfl .nil))))))))<|AF<|AB ?_
  refine dw [] [] [AP.length=AP.length,AP.length+1<=maxLen,(AP.length+1)*72<=140737488355328] ⟨(CK types l [(6,tP 22 0),(II b l),(9,tI v9)]),[(22,.cells (AD.c (Z2J b types v6)) 117),(66,.row 6 (AP.length+1) (fun i_ j_=>if i_<AP.length then (AL AM.c AP) i_ j_ else (Ap 6 1 [.i (W64 (11+v9)),.s v7,.i (W64 (1+(AA v6 2).1)),.i 1,lst 7 AH.c (MP b types v6).1,.i (W64 (3+(ID v6).1))]) (i_-AP.length) j_) 131),(1000,.cells (BD b [.own 66 6 (AP.length+1),vN,vN,vN,vN,vN,vN,vN,vN]) 41)]⟩ .nil (.cons rfl (.cons au3 (.cons au3 .nil)))<|AF ?_
  refine BI (Cv.trans (A7 (⟨(CK types l [(6,tP 22 0),(II b l),(9,tI v9)]),[(22,.cells (AD.c (Z2J b types v6)) 117),(66,Z2K AP v9 v7 v6 b types),(1000,Z2L b AP v9 v7 v6 types)]⟩) lr (.cons ⟨rfl,.refl _⟩ (.cons ⟨rfl,Ad 131 (A8 (Ay 6 AM.c AP) (Al (c:=AM.c) (xs:=([AM.mk (W64 (11+v9)) v7 (W64 (1+(AA v6 2).1)) (AQ.mk 1 (Cj (Z2E b types v6) (Z2H b types v6) (Z2G b types v6)).1 (W64 (3+(AA (AA v6 2).2 4).1)))]:List AM)) rfl kr))⟩ (.cons ⟨rfl,.cells _ (rr5 (rr (.cons (.own _ _ au2) (rr (rr (rr (rr (rr (rr (rr (rr .nil)))))))))))⟩ .nil)))) (Cv.refl _)) ?_
  refine rc [(71,(Z2M b types v6))] [Aq (Z2M b types v6).2.1,Blk.cells (ZE b AP v9 v7 v6 types) 41=Blk.cells (P5 [6,7,8,9,10,11,12,13,14] 0 (ZE b AP v9 v7 v6 types) (NC b)) 41,Bt (.cells (AD.c (Z2J b types v6)) 117)] ⟨(CK types l [(6,tP 22 0),(7,Z2O b types v6),(II b l),(9,tI v9)]),[(22,Z2P b types v6),(66,Z2K AP v9 v7 v6 b types),(1000,Z2L b AP v9 v7 v6 types)]⟩ (.cons (Il (B0:=fun vs=>(BD b [.val (vs 6),.val (vs 7),.val (vs 8),.val (vs 9),.val (vs 10),.val (vs 11),.val (vs 12),.val (vs 13),.val (vs 14)])) (fun _ _=>kr) kr rfl rfl kr (fun vs=>by kernel_rfl) (fun vs=>by kernel_rfl) (fun vs=>SF (AG.mk b.Layers b.Outline b.Parts b.Nets [] [] [] [] [] [] [] [] []) (Z2J b types v6) vs au6 oM)) .nil) (.cons rfl (.cons rfl (.cons rfl .nil)))<|BA<|AF ?_
  refine rg ⟨(CK types l [(6,tP 22 0),(7,Z2O b types v6),(II b l),(9,tI (W64 (v9+1)))]),[(22,Z2P b types v6),(66,Z2K AP v9 v7 v6 b types),(1000,Z2L b AP v9 v7 v6 types)]⟩ ?_
  (try rw [(show W64 (v9+1)=v9+1 from Ah oM au5)])
  refine AF ?_
  refine ⟨(n0,AP++[AM.mk (W64 (11+v9)) v7 (W64 (1+(AA v6 2).1)) (AQ.mk 1 (Cj (Z2E b types v6) (Z2H b types v6) (Z2G b types v6)).1 (W64 (3+(AA (AA v6 2).2 4).1)))],Z2N b types v6,(CV (AG.mk b.Layers b.Outline b.Parts b.Nets [] [] [] [] [] [] [] [] []) (Z2J b types v6)).1,v9+1),⟨?_,?_,(by rw [<- hF0];simp only [Bz,h1,cond_true,cond_false])⟩,Nat.lt_succ_self _,Cv.trans (vr 66 100000 (K:=[1000]) hX) (Cv.trans (vk [0,1,2,6,7,8,9] [22,1000,100000]) (Aw kr))⟩
  ·show ((AA (Z24 b l) 6).1-(v9+1)).toNat<n0;omega
  exact ⟨(by show Bg (Z2N b types v6);repeat (first | with_reducible assumption | exact Ci (DP hll _) | with_reducible refine BQ ?_ | with_reducible refine En ?_ | with_reducible refine De ?_ | with_reducible refine DD ?_  | with_reducible refine Cp ?_ ?_)),ax0,ax0,ax0⟩
 have g1:=oF h1
 refine A3<|Ar ?_
 refine Ar<|A4 ?_
 refine AF<|AB ?_
 refine rs 73 (EY l 5) ⟨(CK types l [(6,tP 75 0)]),[(75,.cells [lst 1 eIn (Aa l 5),.i 0] 117),(1000,Z2y b AP),(100000,Z2z AP)]⟩ (F5 l 5 au11)<|AF<|AB ?_
 refine rb 77 (Z28 l) (.cells [lst 1 eIn (Aa l 5),.i 0] 117) ⟨(CK types l [(6,tP 75 0),(8,Z29 l)]),[(75,Z2a l),(1000,Z2y b AP),(100000,Z2z AP)]⟩ (cWr (BS (AD.mk (Aa l 5) 0) 3 au6 au9))<|AF ?_
 refine AB<|AB ?_
 refine rn ⟨(Rv types l),[(75,Z2a l),(1000,Z2y b AP),(100000,Z2z AP)]⟩<|AO ?_
 refine BI (Cv.trans (wg (⟨(Rv types l),[(100001,.row 8 0 (fun _ _=>default) 133),(75,Z2a l),(1000,.cells (BD b [.own 100000 6 AP.length,.own 100001 8 0,vN,vN,vN,vN,vN,vN,vN]) 41),(100000,Z2z AP)]⟩) 100001 8 (fun _ _=>default) 133 [] [(1000,[7])] (K:=[1000]) hX) (Cv.trans (A7 (⟨(Rv types l),[(100001,Z2u),(75,Z2a l),(1000,Z3p b AP),(100000,Z2z AP)]⟩) lr (.cons ⟨rfl,Ad 133 (B3 8 (fun _ _=>default) Ag.c)⟩ (.cons ⟨rfl,.refl _⟩ (.cons ⟨rfl,.cells _ (rr5 (rr2 (.cons (.own _ _ au2) (rr (rr (rr (rr (rr (rr (rr .nil))))))))))⟩ lr)))) (Cv.trans (ck (⟨(Rv types l),[(75,Z2a l),(1000,Z3p b AP),(100000,Z2z AP),(100001,Z2u)]⟩)) (Cv.refl _)))) ?_
 refine A0 (ι:=Nat×List Ag×AD×Int) (fun x=>⟨(CK types l [(6,tP 75 0),(8,Z29 l),(11,tI x.2.2.2)]),[(75,.cells (AD.c x.2.2.1) 117),(1000,.cells (BD b [.own 100000 6 AP.length,.own 100001 8 x.2.1.length,vN,vN,vN,vN,vN,vN,vN]) 41),(100000,Z2z AP),(100001,.row 8 x.2.1.length (AL Ag.c x.2.1) 133)]⟩) (fun x=>((AA (AD.mk (Aa l 5) 0) 3).1-x.2.2.2).toNat<x.1/\(Bg x.2.2.1/\0<=x.2.2.2/\(x.2.2.2<=(AA (AD.mk (Aa l 5) 0) 3).1\/x.2.2.2=0)/\(x.2.1.length:Int)<=0+1*(x.2.2.2-0))/\CS b types l AP v6 v7 v9 (Bz b types l n0) x.1 x.2.1 x.2.2.1 x.2.2.2=Bp b types l) (fun x=>x.1) ?_ (((AA (AD.mk (Aa l 5) 0) 3).1-0).toNat+1,([]:List Ag),(AA (AD.mk (Aa l 5) 0) 3).2,0) ⟨Nat.lt_succ_self _,⟨(by show Bg ((AA (AD.mk (Aa l 5) 0) 3).2);repeat (first | with_reducible assumption | exact Ci (DP hll _) | with_reducible refine BQ ?_ | with_reducible refine En ?_ | with_reducible refine De ?_ | with_reducible refine DD ?_  | with_reducible refine Cp ?_ ?_)),ax0,ax0,ax0⟩,(by rw [<- hF0];simp only [Bz,h1,cond_true,cond_false])⟩
 rintro ⟨n1,AZ,v6',v11⟩ ⟨hm1,hinv1,hF1⟩
 try dsimp only at hm1 hinv1 hF1
 cases n1 with | zero=>exact nz hm1 | succ n1 => ?_
 have hi1_0:=hinv1.1
 refine AB<|AB ?_
 refine rn ⟨(CK types l [(6,tP 75 0),(8,Z29 l),(11,tI v11),(80,tB (decide ((v11:Int)<(AA (AD.mk (Aa l 5) 0) 3).1)))]),[(75,.cells (AD.c v6') 117),(1000,Z3q b AP AZ),(100000,Z2z AP),(100001,Z2v AZ)]⟩ ?_
 refine AW _ rfl (fun h2 => ?_) (fun h2 => ?_)
 ·have g2:=oT h2
  have k2:=SY g2 (by decide) (by decide)
  refine AV<|AF ?_
  refine AB<|AO ?_
  refine dw [] [(92,(Z2Q b v6')),(98,ceI [.agg (TF b AP AZ),.one (Fz types),.one (.ptr 75 0)] (Z2S b types v6')),(100,(Z2V b types v6')),(103,(Z2W b types v6'))] [Aq (Z2Q b v6').2.1,Blk.cells (TF b AP AZ) 41=Blk.cells (P5 [6,7,8,9,10,11,12,13,14] 0 (TF b AP AZ) (NC b)) 41,Bt (.cells (AD.c v6') 117),Aq (ceI [.agg (TF b AP AZ),.one (lst 3 AR.c types),.one (.ptr 75 0)] (Z2S b types v6')).2.1,Bt (.cells (AD.c (Z2R b v6')) 117),Aq (Z2V b types v6').2.1,Bt (.cells (AD.c (Z2T b types v6')) 117),Aq (Z2W b types v6').2.1,Bt (.cells (AD.c (AA (Z2T b types v6') 5).2) 117),AZ.length=AZ.length,AZ.length+1<=maxLen,(AZ.length+1)*72<=140737488355328] ⟨(CK types l [(6,tP 75 0),(8,Z29 l),(11,tI v11)]),[(75,Z2Y b types v6'),(108,.row 8 (AZ.length+1) (fun i_ j_=>if i_<AZ.length then (AL Ag.c AZ) i_ j_ else (Ap 8 1 [.i (W64 (21+v11)),.s (CV (HL b) v6').1,.i (Z2U b types v6').X,.i (Z2U b types v6').Y,.i (W64 (6+(AA (Z2T b types v6') 5).1)),.i (W64 (4+(W64 (2*(AA (AA (Z2T b types v6') 5).2 3).1)))),.i 1,.i 2]) (i_-AZ.length) j_) 133),(1000,.cells (BD b [.own 100000 6 AP.length,.own 108 8 (AZ.length+1),vN,vN,vN,vN,vN,vN,vN]) 41),(100000,Z2z AP)]⟩ (.cons (Il (B0:=fun vs=>(BD b [.val (vs 6),.val (vs 7),.val (vs 8),.val (vs 9),.val (vs 10),.val (vs 11),.val (vs 12),.val (vs 13),.val (vs 14)])) (fun _ _=>kr) kr rfl rfl kr (fun vs=>by kernel_rfl) (fun vs=>by kernel_rfl) (fun vs=>SF (AG.mk b.Layers b.Outline b.Parts b.Nets [] [] [] [] [] [] [] [] []) v6' vs au6 oM)) (.cons (Cy (cWr (LO (AG.mk b.Layers b.Outline b.Parts [] [] [] [] [] [] [] [] [] []) types (Z2R b v6') au6 oM oM (by assumption))) (.cons (.agg (rr5 (.cons (.any _) (.cons (.any _) (.cons (.any _) (.cons (.any _) (.cons (.any _) (.cons (.any _) (.cons (.any _) (.cons (.any _) (.cons (.any _) (.cons (.any _) .nil)))))))))))) (.cons (AvE.refl _) (.cons (AvE.refl _) .nil)))) (.cons (cWr (BS (Z2T b types v6') 5 au6 au9)) (.cons (cWr (BS (AA (Z2T b types v6') 5).2 3 au6 au9)) .nil)))) (.cons rfl (.cons rfl (.cons rfl (.cons rfl (.cons rfl (.cons rfl (.cons rfl (.cons rfl (.cons rfl (.cons rfl (.cons au3 (.cons au3 .nil))))))))))))<|BA<|AF ?_
  refine BI (Cv.trans (A7 (⟨(CK types l [(6,tP 75 0),(8,Z29 l),(11,tI v11)]),[(75,Z2Y b types v6'),(108,Z2Z AZ v11 b v6' types),(1000,Z30 b AP AZ v11 v6' types),(100000,Z2z AP)]⟩) lr (.cons ⟨rfl,.refl _⟩ (.cons ⟨rfl,Ad 133 (A8 (Ay 8 Ag.c AZ) (Al (c:=Ag.c) (xs:=([Ag.mk (W64 (21+v11)) (CV (AG.mk b.Layers b.Outline b.Parts b.Nets [] [] [] [] [] [] [] [] []) v6').1 (Z2U b types v6') (W64 (6+(AA (Z2T b types v6') 5).1)) (W64 (4+(W64 (2*(AA (AA (Z2T b types v6') 5).2 3).1)))) 1 2]:List Ag)) rfl kr))⟩ (.cons ⟨rfl,.cells _ (rr5 (rr2 (.cons (.own _ _ au2) (rr (rr (rr (rr (rr (rr (rr .nil))))))))))⟩ lr)))) (Cv.refl _)) ?_
  refine rg ⟨(CK types l [(6,tP 75 0),(8,Z29 l),(11,tI (W64 (v11+1)))]),[(75,Z2Y b types v6'),(108,Z2Z AZ v11 b v6' types),(1000,Z30 b AP AZ v11 v6' types),(100000,Z2z AP)]⟩ ?_
  (try rw [(show W64 (v11+1)=v11+1 from Ah oM au5)])
  refine AF ?_
  refine ⟨(n1,AZ++[Ag.mk (W64 (21+v11)) (CV (AG.mk b.Layers b.Outline b.Parts b.Nets [] [] [] [] [] [] [] [] []) v6').1 (Z2U b types v6') (W64 (6+(AA (Z2T b types v6') 5).1)) (W64 (4+(W64 (2*(AA (AA (Z2T b types v6') 5).2 3).1)))) 1 2],Z2X b types v6',v11+1),⟨?_,?_,(by rw [<- hF1];simp only [CS,h2,cond_true,cond_false])⟩,Nat.lt_succ_self _,Cv.trans (vr 108 100001 (K:=[1000]) hX) (Cv.trans (vk [0,1,2,6,8,11] [75,1000,100000,100001]) (Aw kr))⟩
  ·show ((AA (AD.mk (Aa l 5) 0) 3).1-(v11+1)).toNat<n1;omega
  exact ⟨(by show Bg (Z2X b types v6');repeat (first | with_reducible assumption | exact Ci (DP hll _) | with_reducible refine BQ ?_ | with_reducible refine En ?_ | with_reducible refine De ?_ | with_reducible refine DD ?_  | with_reducible refine Cp ?_ ?_)),ax0,ax0,ax0⟩
 have g2:=oF h2
 refine A3<|Ar ?_
 refine Ar<|A4 ?_
 refine AF<|AB ?_
 refine rb 112 (Z31 v6') (.cells (AD.c v6') 117) ⟨(CK types l [(6,tP 75 0),(IJ v6')]),[(Od v6'),(1000,Z3q b AP AZ),(100000,Z2z AP),(100001,Z2v AZ)]⟩ (cWr (BS v6' 3 au6 au9))<|AF ?_
 refine AB<|AB ?_
 refine rn ⟨(Rc types l v6'),[(Od v6'),(1000,Z3q b AP AZ),(100000,Z2z AP),(100001,Z2v AZ)]⟩<|AO ?_
 refine BI (Cv.trans (wg (⟨(Rc types l v6'),[(100002,.row 8 0 (fun _ _=>default) 97),(Od v6'),(1000,.cells (BD b (FC AP AZ [.own 100002 8 0,vN,vN,vN,vN,vN,vN])) 41),(100000,Z2z AP),(100001,Z2v AZ)]⟩) 100002 8 (fun _ _=>default) 97 [] [(1000,[8])] (K:=[1000]) hX) (Cv.trans (A7 (⟨(Rc types l v6'),[(100002,Z2s),(Od v6'),(1000,Z3t b AP AZ),(100000,Z2z AP),(100001,Z2v AZ)]⟩) lr (.cons ⟨rfl,Ad 97 (B3 8 (fun _ _=>default) Bc.c)⟩ (.cons ⟨rfl,.refl _⟩ (.cons ⟨rfl,.cells _ (rr5 (rr3 (.cons (.own _ _ au2) (rr (rr (rr (rr (rr (rr .nil)))))))))⟩ lr)))) (Cv.trans (ck (⟨(Rc types l v6'),[(Od v6'),(1000,Z3t b AP AZ),(100000,Z2z AP),(100001,Z2v AZ),(100002,Z2s)]⟩)) (Cv.refl _)))) ?_
 refine A0 (ι:=Nat×List Bc×AD×Int) (fun x=>⟨(CK types l [(6,tP 75 0),(IJ v6'),(12,tI x.2.2.2)]),[(75,.cells (AD.c x.2.2.1) 117),(1000,.cells (BD b (FC AP AZ [.own 100002 8 x.2.1.length,vN,vN,vN,vN,vN,vN])) 41),(100000,Z2z AP),(100001,Z2v AZ),(100002,.row 8 x.2.1.length (AL Bc.c x.2.1) 97)]⟩) (fun x=>((AA v6' 3).1-x.2.2.2).toNat<x.1/\(Bg x.2.2.1/\0<=x.2.2.2/\(x.2.2.2<=(AA v6' 3).1\/x.2.2.2=0)/\(x.2.1.length:Int)<=0+1*(x.2.2.2-0))/\CC b types l AP v6 v7 v9 AZ v6' v11 (Bz b types l n0) (CS b types l AP v6 v7 v9 (Bz b types l n0) n1) x.1 x.2.1 x.2.2.1 x.2.2.2=Bp b types l) (fun x=>x.1) ?_ (((AA v6' 3).1-0).toNat+1,([]:List Bc),(AA v6' 3).2,0) ⟨Nat.lt_succ_self _,⟨(by show Bg ((AA v6' 3).2);repeat (first | with_reducible assumption | exact Ci (DP hll _) | with_reducible refine BQ ?_ | with_reducible refine En ?_ | with_reducible refine De ?_ | with_reducible refine DD ?_  | with_reducible refine Cp ?_ ?_)),ax0,ax0,ax0⟩,(by rw [<- hF1];simp only [CS,h2,cond_true,cond_false])⟩
 rintro ⟨n2,Aj,v6'',v12⟩ ⟨hm2,hinv2,hF2⟩
 try dsimp only at hm2 hinv2 hF2
 cases n2 with | zero=>exact nz hm2 | succ n2 => ?_
 have hi2_0:=hinv2.1
 refine AB<|AB ?_
 refine rn ⟨(CK types l [(6,tP 75 0),(IJ v6'),(12,tI v12),(115,tB (decide ((v12:Int)<(AA v6' 3).1)))]),[(75,.cells (AD.c v6'') 117),(1000,Z3u b AP AZ Aj),(100000,Z2z AP),(100001,Z2v AZ),(100002,Z2t Aj)]⟩ ?_
 refine AW _ rfl (fun h3 => ?_) (fun h3 => ?_)
 ·have g3:=oT h3
  have k3:=SY g3 (by decide) (by decide)
  refine AV<|AF ?_
  refine AB<|AO<|AB ?_
  refine rc [(119,(Z32 v6'')),(121,(Z33 v6''))] [Aq (Z32 v6'').2.1,Bt (.cells (AD.c v6'') 117),Aq (Z33 v6'').2.1,Bt (.cells (AD.c (AA v6'' 12).2) 117)] ⟨(CK types l (OC v6' v12 v6'' [])),[(75,.cells (AD.c (HK v6'').2) 117),(1000,Z3u b AP AZ Aj),(100000,Z2z AP),(100001,Z2v AZ),(100002,Z2t Aj)]⟩ (.cons (cWr (BS v6'' 12 au6 au9)) (.cons (cWr (BS (AA v6'' 12).2 12 au6 au9)) .nil)) (.cons rfl (.cons rfl (.cons rfl (.cons rfl .nil))))<|AF<|AB ?_
  refine rc [(127,(Z34 v6'')),(132,(Z36 v6''))] [Aq (Z34 v6'').2.1,Bt (.cells (AD.c (AA (AA v6'' 12).2 12).2) 117),Aq (Z36 v6'').2.1,Bt (.cells (AD.c (Z35 v6'')) 117)] ⟨(CK types l (OC v6' v12 v6'' [(15,tP 15 0)])),[(15,.cells (Zj v6'') 90),(75,.cells (AD.c (AA (Z35 v6'') 5).2) 117),(1000,Z3u b AP AZ Aj),(100000,Z2z AP),(100001,Z2v AZ),(100002,Z2t Aj)]⟩ (.cons (cWr (BS (AA (AA v6'' 12).2 12).2 6 au6 au9)) (.cons (cWr (BS (Z35 v6'') 5 au6 au9)) .nil)) (.cons rfl (.cons rfl (.cons rfl (.cons rfl .nil))))<|AF<|AB ?_
  refine dw [158] [(139,(Z37 b v6'')),(141,(Z39 b v6'')),(144,(Z3a b v6'')),(148,(Z3c b v6'')),(151,(Z3d b v6'')),(155,(Z3f b v6''))] [Aq (Z37 b v6'').2.1,Blk.cells (TH b AP AZ Aj) 41=Blk.cells (P5 [6,7,8,9,10,11,12,13,14] 0 (TH b AP AZ Aj) (NC b)) 41,Bt (.cells (AD.c (AA (Z35 v6'') 5).2) 117),Aq (Z39 b v6'').2.1,Bt (.cells (AD.c (Z38 b v6'')) 117),Aq (Z3a b v6'').2.1,Bt (.cells (AD.c (AA (Z38 b v6'') 2).2) 117),Aq (Z3c b v6'').2.1,Bt (.cells (AD.c (Z3b b v6'')) 117),Aq (Z3d b v6'').2.1,Bt (.cells (AD.c (AA (Z3b b v6'') 2).2) 117),0<=((AA (AA (Z3b b v6'') 2).2 4).1:Int)/\((AA (AA (Z3b b v6'') 2).2 4).1:Int)<((4:Nat):Int),Aq (Z3f b v6'').2.1,Bt (.cells (AD.c (Z3e b v6'')) 117)] ⟨(CK types l (OC v6' v12 v6'' [(16,tP 16 0)])),[(16,.cells (OL v12 b v6'' [.own 158 4 1]) 97),(75,.cells (AD.c (IG b v6'').2) 117),(158,.row 4 1 (Ap 4 1 (Zj v6'')) 90),(1000,Z3u b AP AZ Aj),(100000,Z2z AP),(100001,Z2v AZ),(100002,Z2t Aj)]⟩ (.cons (Il (B0:=fun vs=>(BD b [.val (vs 6),.val (vs 7),.val (vs 8),.val (vs 9),.val (vs 10),.val (vs 11),.val (vs 12),.val (vs 13),.val (vs 14)])) (fun _ _=>kr) kr rfl rfl kr (fun vs=>by kernel_rfl) (fun vs=>by kernel_rfl) (fun vs=>SF (AG.mk b.Layers b.Outline b.Parts b.Nets [] [] [] [] [] [] [] [] []) (AA (Z35 v6'') 5).2 vs au6 oM)) (.cons (cWr (BS (Z38 b v6'') 2 au6 au9)) (.cons (cWr (BS (AA (Z38 b v6'') 2).2 3 au6 au9)) (.cons (cWr (BS (Z3b b v6'') 2 au6 au9)) (.cons (cWr (BS (AA (Z3b b v6'') 2).2 4 au6 au9)) (.cons (cWr (BS (Z3e b v6'') 6 au6 au9)) .nil)))))) (.cons rfl (.cons rfl (.cons rfl (.cons rfl (.cons rfl (.cons rfl (.cons rfl (.cons rfl (.cons rfl (.cons rfl (.cons rfl (.cons (by first | exact Jm _ _ _ (by decide) (by decide) (by decide) | decide | omega) (.cons rfl (.cons rfl .nil))))))))))))))<|AF ?_
  refine BI (Cv.trans (A7 (⟨(CK types l (OC v6' v12 v6'' [(16,tP 16 0)])),[(16,Z3g v12 b v6''),(75,.cells (AD.c (IG b v6'').2) 117),(158,Z3h v6''),(1000,Z3u b AP AZ Aj),(100000,Z2z AP),(100001,Z2v AZ),(100002,Z2t Aj)]⟩) lr (.cons ⟨rfl,.cells _ (rr5 (rr2 (.cons (.own _ _ au2) .nil)))⟩ (.cons ⟨rfl,.refl _⟩ (.cons ⟨rfl,Ad 90 (Al (c:=As.c) (xs:=([As.mk (AA v6'' 12).1 (AA (AA v6'' 12).2 12).1 (W64 ((W64 ((AA v6'' 12).1+1))+(AA (AA (AA v6'' 12).2 12).2 6).1)) (W64 ((W64 ((AA (AA v6'' 12).2 12).1+1))+(AA (Z35 v6'') 5).1))]:List As)) rfl kr)⟩ lr)))) (Cv.refl _))<|AB<|AB ?_
  refine rb 161 (Z3i b v6'') (.cells (AD.c (AA (Z3e b v6'') 6).2) 117) ⟨(CK types l (OC v6' v12 v6'' [(16,tP 16 0),(162,tB (decide (((AA (IG b v6'').2 3).1:Int)=0)))])),[(16,Z3g v12 b v6''),(75,Z3k b v6''),(158,Z3h v6''),(1000,Z3u b AP AZ Aj),(100000,Z2z AP),(100001,Z2v AZ),(100002,Z2t Aj)]⟩ (cWr (BS (AA (Z3e b v6'') 6).2 3 au6 au9))<|AF ?_
  refine Bb (⟨[(0,tP 1000 0),(Cn types),(2,.av (oL l)),(6,tP 75 0),(IJ v6'),(12,tI v12),(16,tP 16 0)],[(16,.cells (OL v12 b v6'' [.own 100003 4 (Z3m b v6'').length]) 97),(75,.cells (AD.c (Z3j b v6'')) 117),(1000,.cells (TH b AP AZ Aj) 41),(100000,.row 6 AP.length (AL AM.c AP) 131),(100001,.row 8 AZ.length (AL Ag.c AZ) 133),(100002,.row 8 Aj.length (AL Bc.c Aj) 97),(100003,.row 4 (Z3m b v6'').length (AL As.c (Z3m b v6'')) 90)]⟩) ?_ ?_
  ·refine AW _ rfl (fun h4 => ?_) (fun h4 => ?_)
   ·have g4:=oT h4
    refine rc [] [[As.mk (AA v6'' 12).1 (AA (AA v6'' 12).2 12).1 (W64 ((W64 ((AA v6'' 12).1+1))+(AA (AA (AA v6'' 12).2 12).2 6).1)) (W64 ((W64 ((AA (AA v6'' 12).2 12).1+1))+(AA (Z35 v6'') 5).1))].length=[As.mk (AA v6'' 12).1 (AA (AA v6'' 12).2 12).1 (W64 ((W64 ((AA v6'' 12).1+1))+(AA (AA (AA v6'' 12).2 12).2 6).1)) (W64 ((W64 ((AA (AA v6'' 12).2 12).1+1))+(AA (Z35 v6'') 5).1))].length,([As.mk (AA v6'' 12).1 (AA (AA v6'' 12).2 12).1 (W64 ((W64 ((AA v6'' 12).1+1))+(AA (AA (AA v6'' 12).2 12).2 6).1)) (W64 ((W64 ((AA (AA v6'' 12).2 12).1+1))+(AA (Z35 v6'') 5).1))].length)+1<=maxLen,(([As.mk (AA v6'' 12).1 (AA (AA v6'' 12).2 12).1 (W64 ((W64 ((AA v6'' 12).1+1))+(AA (AA (AA v6'' 12).2 12).2 6).1)) (W64 ((W64 ((AA (AA v6'' 12).2 12).1+1))+(AA (Z35 v6'') 5).1))].length)+1)*32<=140737488355328] ⟨(Ov types l v6' v12),[(16,.cells (ZK v12 b v6'' [.own 174 4 (((L7 v6'').length)+1)]) 97),(75,Z3k b v6''),(174,.row 4 (((L7 v6'').length)+1) (fun i_ j_=>if i_<((L7 v6'').length) then (AL As.c (L7 v6'')) i_ j_ else (Ap 4 1 [.i (W64 ((AA v6'' 12).1-2)),.i (HK v6'').1,.i (W64 ((AA v6'' 12).1+1)),.i (W64 ((HK v6'').1+2))]) (i_-((L7 v6'').length)) j_) 90),(1000,Z3u b AP AZ Aj),(100000,Z2z AP),(100001,Z2v AZ),(100002,Z2t Aj)]⟩ .nil (.cons rfl (.cons au3 (.cons au3 .nil)))<|AF ?_
    refine Cv.trans (A7 (⟨(Ov types l v6' v12),[(16,.cells (ZK v12 b v6'' [.own 174 4 ((L7 v6'')++(R4 v6'')).length]) 97),(75,Z3k b v6''),(174,Z3l v6''),(1000,Z3u b AP AZ Aj),(100000,Z2z AP),(100001,Z2v AZ),(100002,Z2t Aj)]⟩) lr (.cons ⟨rfl,.cells _ (rr5 (rr2 (.cons (.own _ _ au2) .nil)))⟩ (.cons ⟨rfl,.refl _⟩ (.cons ⟨rfl,Ad 90 (A8 (Ay 4 As.c [As.mk (AA v6'' 12).1 (AA (AA v6'' 12).2 12).1 (W64 ((W64 ((AA v6'' 12).1+1))+(AA (AA (AA v6'' 12).2 12).2 6).1)) (W64 ((W64 ((AA (AA v6'' 12).2 12).1+1))+(AA (Z35 v6'') 5).1))]) (Al (c:=As.c) (xs:=([As.mk (W64 ((AA v6'' 12).1-2)) (AA (AA v6'' 12).2 12).1 (W64 ((AA v6'' 12).1+1)) (W64 ((AA (AA v6'' 12).2 12).1+2))]:List As)) rfl kr))⟩ lr)))) (Cv.trans (vr 174 100003 (K:=[1000]) hX) (Cv.trans (ck (⟨(Ov types l v6' v12),[(16,Z3w v12 b v6''),(75,Z3k b v6''),(1000,Z3u b AP AZ Aj),(100000,Z2z AP),(100001,Z2v AZ),(100002,Z2t Aj),(100003,Z3l v6'')]⟩)) (Aw ?_)))
    first | rfl | (simp only [h4,Z3m,cond_true,cond_false] <;> rfl)
   refine AV<|AF ?_
   refine Cv.trans (vk [0,1,2,6,8,12,16] [16,75,158,1000,100000,100001,100002]) (Cv.trans (vr 158 100003 (K:=[1000]) hX) (Cv.trans (ck (⟨(Ov types l v6' v12),[(16,Z3x v12 b v6''),(75,Z3k b v6''),(1000,Z3u b AP AZ Aj),(100000,Z2z AP),(100001,Z2v AZ),(100002,Z2t Aj),(100003,Z3h v6'')]⟩)) (Aw ?_)))
   first | rfl | (simp only [h4,Z3m,cond_true,cond_false] <;> rfl)
  refine BI (Cv.trans (wf (⟨(Ov types l v6' v12),[(16,.cells (Zz v12 b v6'') 97),(75,Z3k b v6''),(1000,Z3u b AP AZ Aj),(100000,Z2z AP),(100001,Z2v AZ),(100002,Z2t Aj)]⟩) 100003 4 (Z3m b v6'').length (AL As.c (Z3m b v6'')) 90 (K:=[1000]) hX (.cons ⟨rfl,rfl⟩ .nil)) (Cv.refl _)) ?_
  refine dw [] [] [Aj.length=Aj.length,Aj.length+1<=maxLen,(Aj.length+1)*88<=140737488355328] ⟨(CK types l [(6,tP 75 0),(IJ v6'),(12,tI v12)]),[(75,Z3k b v6''),(183,.row 8 (Aj.length+1) (fun i_ j_=>if i_<Aj.length then (AL Bc.c Aj) i_ j_ else (Ap 8 1 (Zz v12 b v6'')) (i_-Aj.length) j_) 97),(1000,.cells (BD b (FC AP AZ [.own 183 8 (Aj.length+1),vN,vN,vN,vN,vN,vN])) 41),(100000,Z2z AP),(100001,Z2v AZ)]⟩ .nil (.cons rfl (.cons au3 (.cons au3 .nil)))<|BA<|AF ?_
  refine BI (Cv.trans (A7 (⟨(CK types l [(6,tP 75 0),(IJ v6'),(12,tI v12)]),[(75,Z3k b v6''),(183,Z3n Aj v12 b v6''),(1000,Z3r b AP AZ Aj v12 v6''),(100000,Z2z AP),(100001,Z2v AZ)]⟩) lr (.cons ⟨rfl,.refl _⟩ (.cons ⟨rfl,Ad 97 (A8 (Ay 8 Bc.c Aj) (Al (c:=Bc.c) (xs:=([Bc.mk (W64 (31+v12)) (CV (AG.mk b.Layers b.Outline b.Parts b.Nets [] [] [] [] [] [] [] [] []) (AA (Z35 v6'') 5).2).1 (W64 (1+(AA (Z38 b v6'') 2).1)) (W64 (20+(W64 (5*(AA (AA (Z38 b v6'') 2).2 3).1)))) (AA (Z3b b v6'') 2).1 (([0,0,5,9]:List Int).getD (AA (AA (Z3b b v6'') 2).2 4).1.toNat 0) (W64 (4+(AA (Z3e b v6'') 6).1)) (Z3m b v6'')]:List Bc)) rfl kr))⟩ (.cons ⟨rfl,.cells _ (rr5 (rr3 (.cons (.own _ _ au2) (rr (rr (rr (rr (rr (rr .nil)))))))))⟩ lr)))) (Cv.refl _)) ?_
  refine rg ⟨(CK types l [(6,tP 75 0),(IJ v6'),(12,tI (W64 (v12+1)))]),[(75,Z3k b v6''),(183,Z3n Aj v12 b v6''),(1000,Z3r b AP AZ Aj v12 v6''),(100000,Z2z AP),(100001,Z2v AZ)]⟩ ?_
  (try rw [(show W64 (v12+1)=v12+1 from Ah oM au5)])
  refine AF ?_
  refine ⟨(n2,Aj++[Bc.mk (W64 (31+v12)) (CV (AG.mk b.Layers b.Outline b.Parts b.Nets [] [] [] [] [] [] [] [] []) (AA (Z35 v6'') 5).2).1 (W64 (1+(AA (Z38 b v6'') 2).1)) (W64 (20+(W64 (5*(AA (AA (Z38 b v6'') 2).2 3).1)))) (AA (Z3b b v6'') 2).1 (([0,0,5,9]:List Int).getD (AA (AA (Z3b b v6'') 2).2 4).1.toNat 0) (W64 (4+(AA (Z3e b v6'') 6).1)) (Z3m b v6'')],Z3j b v6'',v12+1),⟨?_,?_,(by rw [<- hF2];simp only [CC,h3,cond_true,cond_false])⟩,Nat.lt_succ_self _,Cv.trans (vr 183 100002 (K:=[1000]) hX) (Cv.trans (vk [0,1,2,6,8,12] [75,1000,100000,100001,100002]) (Aw kr))⟩
  ·show ((AA v6' 3).1-(v12+1)).toNat<n2;omega
  exact ⟨(by show Bg (Z3j b v6'');repeat (first | with_reducible assumption | exact Ci (DP hll _) | with_reducible refine BQ ?_ | with_reducible refine En ?_ | with_reducible refine De ?_ | with_reducible refine DD ?_  | with_reducible refine Cp ?_ ?_)),ax0,ax0,ax0⟩
 have g3:=oF h3
 refine A3<|Ar ?_
 refine Ar<|A4 ?_
 refine AF<|AB ?_
 refine rs 187 (EY l 6) ⟨(MO types),[(189,.cells [lst 1 eIn (Aa l 6),.i 0] 117),(1000,Z3u b AP AZ Aj),(100000,Z2z AP),(100001,Z2v AZ),(100002,Z2t Aj)]⟩ (F5 l 6 au11)<|AF ?_
 refine AB<|AB ?_
 refine rb 191 (Z2b l) (.cells [lst 1 eIn (Aa l 6),.i 0] 117) ⟨[(0,tP 1000 0),(Cn types),(6,tP 189 0),(192,tB (decide (((KS l).1:Int)=0)))],[(189,Z2c l),(1000,Z3u b AP AZ Aj),(100000,Z2z AP),(100001,Z2v AZ),(100002,Z2t Aj)]⟩ (cWr (BS (AD.mk (Aa l 6) 0) 3 au6 au9))<|AF ?_
 refine Bb (⟨(MO types),[(189,.cells (AD.c (Z2i l b types)) 117),(1000,.cells (BD b (FC AP AZ [.own 100002 8 Aj.length,lst 5 C4.c (Z2j l b types),vN,vN,vN,vN,vN])) 41),(100000,.row 6 AP.length (AL AM.c AP) 131),(100001,.row 8 AZ.length (AL Ag.c AZ) 133),(100002,.row 8 Aj.length (AL Bc.c Aj) 97)]⟩) ?_ ?_
 ·refine AW _ rfl (fun h4 => ?_) (fun h4 => ?_)
  ·have g4:=oT h4
   refine AB<|rb 198 (ceI [.agg (TH b AP AZ Aj),.one (lst 3 AR.c types),.one (.ptr 189 0)] (Z2d b types l)) (.cells (AD.c (AA (AD.mk (Aa l 6) 0) 3).2) 117) ⟨[(0,tP 1000 0),(Cn types),(6,tP 189 0),(17,tP 17 0)],[(17,.cells (AC.c (Z2f b types l)) 66),(189,.cells (AD.c (Z2e b types l)) 117),(1000,Z3u b AP AZ Aj),(100000,Z2z AP),(100001,Z2v AZ),(100002,Z2t Aj)]⟩ (Cy (cWr (LO (AG.mk b.Layers b.Outline b.Parts [] [] [] [] [] [] [] [] [] []) types (AA (AD.mk (Aa l 6) 0) 3).2 au6 oM oM (by assumption))) (.cons (.agg (rr5 (.cons (.any _) (.cons (.any _) (.cons (.any _) (.cons (.any _) (.cons (.any _) (.cons (.any _) (.cons (.any _) (.cons (.any _) (.cons (.any _) (.cons (.any _) .nil)))))))))))) (.cons (AvE.refl _) (.cons (AvE.refl _) .nil))))<|AF ?_
   refine dw [] [(201,(Z2g b types l)),(213,K9 (As.mk (Z2f b types l).X (Z2f b types l).Y (W64 ((Z2f b types l).X+30)) (W64 ((Z2f b types l).Y+20))))] [Aq (Z2g b types l).2.1,Bt (.cells (AD.c (Z2e b types l)) 117),Aq (K9 (As.mk (Z2f b types l).X (Z2f b types l).Y (W64 ((Z2f b types l).X+30)) (W64 ((Z2f b types l).Y+20)))).2.1] ⟨(MO types),[(189,.cells (AD.c (AA (Z2e b types l) 3).2) 117),(1000,.cells (BD b (FC AP AZ [.own 100002 8 Aj.length,.list true 5 1 (Ap 5 1 [.i 41,.i (AA (Z2e b types l) 3).1,.i (Z2h b types l).Kind,lst 7 AH.c (Z2h b types l).Edges,.i (Z2h b types l).R]),vN,vN,vN,vN,vN])) 41),(100000,Z2z AP),(100001,Z2v AZ),(100002,Z2t Aj)]⟩ (.cons (cWr (BS (Z2e b types l) 3 au6 au9)) (.cons (SP (As.mk (Z2f b types l).X (Z2f b types l).Y (W64 ((Z2f b types l).X+30)) (W64 ((Z2f b types l).Y+20)))) .nil)) (.cons rfl (.cons rfl (.cons rfl .nil)))<|AF ?_
   refine Cv.trans (A7 (⟨(MO types),[(189,.cells (AD.c (AA (Z2e b types l) 3).2) 117),(1000,.cells (BD b (FC AP AZ [.own 100002 8 Aj.length,lst 5 C4.c [C4.mk 41 (AA (Z2e b types l) 3).1 (Z2h b types l)],vN,vN,vN,vN,vN])) 41),(100000,Z2z AP),(100001,Z2v AZ),(100002,Z2t Aj)]⟩) lr (.cons ⟨rfl,.refl _⟩ (.cons ⟨rfl,.cells _ (rr9 (.cons (BZ true (Al (c:=C4.c) (xs:=([C4.mk 41 (AA (Z2e b types l) 3).1 (Z2h b types l)]:List C4)) rfl kr)) (rr (rr (rr (rr (rr .nil)))))))⟩ lr))) (Aw ?_)
   first | rfl | (simp only [h4,Z2i,Z2j,cond_true,cond_false] <;> rfl)
  refine AV<|AF ?_
  refine Cv.trans (ck (⟨(MO types),[(189,Z2c l),(1000,Z3u b AP AZ Aj),(100000,Z2z AP),(100001,Z2v AZ),(100002,Z2t Aj)]⟩)) (Cv.trans (A7 (⟨(MO types),[(189,Z2c l),(1000,.cells (BD b (FC AP AZ [.own 100002 8 Aj.length,lst 5 C4.c [],vN,vN,vN,vN,vN])) 41),(100000,Z2z AP),(100001,Z2v AZ),(100002,Z2t Aj)]⟩) lr (.cons ⟨rfl,.refl _⟩ (.cons ⟨rfl,.cells _ (rr9 (.cons (Cd 5 C4.c) (rr (rr (rr (rr (rr .nil)))))))⟩ lr))) (Aw ?_))
  first | rfl | (simp only [h4,Z2i,Z2j,cond_true,cond_false] <;> rfl)
 refine AB<|rb 219 (Z2k l b types) (.cells (AD.c (Z2i l b types)) 117) ⟨[(0,tP 1000 0),(Cn types),(6,tP 189 0),(220,Z2l l b types)],[(189,Z2m l b types),(1000,Z3v b AP AZ Aj l types),(100000,Z2z AP),(100001,Z2v AZ),(100002,Z2t Aj)]⟩ (cWr (BS (Z2i l b types) 3 au6 au9))<|AF ?_
 refine AW _ rfl (fun h4 => ?_) (fun h4 => ?_)
 ·have g4:=oT h4
  refine AB<|rb 226 (ceI [.agg (Zc b AP AZ Aj l types),.one (lst 3 AR.c types),.one (.ptr 189 0)] (Z2n b types l)) (.cells (AD.c (AA (Z2i l b types) 3).2) 117) ⟨[(0,tP 1000 0),(6,tP 189 0),(18,tP 18 0)],[(18,.cells (AC.c (Z2p b types l)) 66),(189,.cells (AD.c (Z2o b types l)) 117),(1000,Z3v b AP AZ Aj l types),(100000,Z2z AP),(100001,Z2v AZ),(100002,Z2t Aj)]⟩ (Cy (cWr (LO (AG.mk b.Layers b.Outline b.Parts [] [] [] [] [] [] [] [] [] []) types (AA (Z2i l b types) 3).2 au6 oM oM (by assumption))) (.cons (.agg (rr5 (.cons (.any _) (.cons (.any _) (.cons (.any _) (.cons (.any _) (.cons (.any _) (.cons (.any _) (.cons (.any _) (.cons (.any _) (.cons (.any _) (.cons (.any _) .nil)))))))))))) (.cons (AvE.refl _) (.cons (AvE.refl _) .nil))))<|AF ?_
  refine dw [] [(229,(Z2q b types l)),(239,DC (Z2p b types l) (AC.mk (W64 ((Z2p b types l).X+25)) (W64 ((Z2p b types l).Y+10))))] [Aq (Z2q b types l).2.1,Bt (.cells (AD.c (Z2o b types l)) 117),Aq (DC (Z2p b types l) (AC.mk (W64 ((Z2p b types l).X+25)) (W64 ((Z2p b types l).Y+10)))).2.1] ⟨[],[(1000,.cells (BD b (FC AP AZ [.own 100002 8 Aj.length,lst 5 C4.c (Z2j l b types),.list true 4 1 (Ap 4 1 (VF b types l)),vN,vN,vN,vN])) 41),(100000,Z2z AP),(100001,Z2v AZ),(100002,Z2t Aj)]⟩ (.cons (cWr (BS (Z2o b types l) 4 au6 au9)) (.cons (F4 (Z2p b types l) (AC.mk (W64 ((Z2p b types l).X+25)) (W64 ((Z2p b types l).Y+10)))) .nil)) (.cons rfl (.cons rfl (.cons rfl .nil))) ?_
  exact yn (Cv.trans (vf 100000 6 AP.length (AL AM.c AP) 131 (K:=[1000]) hX (.cons ⟨rfl,rfl⟩ .nil)) (Cv.trans (vf 100001 8 AZ.length (AL Ag.c AZ) 133 (K:=[1000]) hX (.cons ⟨rfl,rfl⟩ .nil)) (Cv.trans (vf 100002 8 Aj.length (AL Bc.c Aj) 97 (K:=[1000]) hX (.cons ⟨rfl,rfl⟩ .nil)) (Cv.refl _)))) (.tup []) ⟨Ae rfl,.cells (BD b [lst 6 AM.c AP,lst 8 Ag.c AZ,lst 8 Bc.c Aj,lst 5 C4.c (Z2j l b types),.list true 4 1 (Ap 4 1 (VF b types l)),vN,vN,vN,vN]) 41,by kernel_rfl,S2 (y:=.cells (BD b [lst 6 AM.c AP,lst 8 Ag.c AZ,lst 8 Bc.c Aj,lst 5 C4.c (Z2j l b types),lst 4 Au.c [Au.mk 51 (AQ.mk 1 [Z2r b types l] (W64 (3+(AA (Z2o b types l) 4).1)))],vN,vN,vN,vN]) 41) (.cells _ (rr9 (rr (.cons (BZ true (E7 (c:=Au.c) (xs:=([Au.mk 51 (AQ.mk 1 [Z2r b types l] (W64 (3+(AA (Z2o b types l) 4).1)))]:List Au)) (y:=[(VF b types l)]) (z:=[[.i 51,.i 1,lst 7 AH.c [Z2r b types l],.i (W64 (3+(AA (Z2o b types l) 4).1))]]) rfl kr kr (.cons (rr (rr (.cons (BZ true (Al (c:=AH.c) (xs:=([Z2r b types l]:List AH)) rfl kr)) (rr .nil)))) .nil))) (rr (rr (rr (rr .nil)))))))) (by rw [<- hF2];first | (simp only [CC,h3,h4,cond_true,cond_false];done) | (simp only [CC,h3,h4,cond_true,cond_false];kernel_rfl))⟩
 refine AV ?_
 exact yn (Cv.trans (vf 100000 6 AP.length (AL AM.c AP) 131 (K:=[1000]) hX (.cons ⟨rfl,rfl⟩ .nil)) (Cv.trans (vf 100001 8 AZ.length (AL Ag.c AZ) 133 (K:=[1000]) hX (.cons ⟨rfl,rfl⟩ .nil)) (Cv.trans (vf 100002 8 Aj.length (AL Bc.c Aj) 97 (K:=[1000]) hX (.cons ⟨rfl,rfl⟩ .nil)) (Cv.refl _)))) (.tup []) ⟨Ae rfl,.cells (BD b [lst 6 AM.c AP,lst 8 Ag.c AZ,lst 8 Bc.c Aj,lst 5 C4.c (Z2j l b types),vN,vN,vN,vN,vN]) 41,by kernel_rfl,S2 (y:=.cells (BD b [lst 6 AM.c AP,lst 8 Ag.c AZ,lst 8 Bc.c Aj,lst 5 C4.c (Z2j l b types),lst 4 Au.c [],vN,vN,vN,vN]) 41) (.cells _ (rr9 (rr (.cons (Cd 4 Au.c) (rr (rr (rr (rr .nil)))))))) (by rw [<- hF2];first | (simp only [CC,h3,h4,cond_true,cond_false];done) | (simp only [CC,h3,h4,cond_true,cond_false];kernel_rfl))⟩
end
structure Ll (b:AG) (B:AG):Prop where
 lay:B.Layers=b.Layers
 out:B.Outline=b.Outline
 par:B.Parts=b.Parts
 net:B.Nets=b.Nets
 trk:(B.Tracks.length:Int)<=6
 edg:∀ t∈B.Tracks,(t.Shape.Edges.length:Int)<=2
 via:(B.Vias.length:Int)<=3
 pou:(B.Pours.length:Int)<=3
 kee:(B.Keeps.length:Int)<=1
 slo:(B.Slots.length:Int)<=1
theorem jA {b B C:AG} {c:Bool} (h:Ll b B) (k:Ll b C):Ll b (bif c then B else C):=by cases c <;> assumption
theorem SN {α:Type} {c:Bool} {x:α}:((bif c then [x] else []:List α).length:Int)<=1:=by cases c <;> simp
theorem Q1 (a c:AC) (d:AD):((Cj a c d).1.length:Int)<=2:=by
 unfold Cj
 generalize (bif _ then _ else false:Bool)=q
 cases q with
 | true=>simp
 | false =>
  simp only [cond_false]
  cases decide (((AA d 4).1:Int)=3) <;> simp
theorem XQ (b:AG) (types:List AR) (l:List (List Int)) (v1:List AM) (v6:AD) (v7:ByteArray) (v9:Int) (v2:List Ag) (v6':AD) (v11:Int) (K0:List AM->AD->ByteArray->Int->AG) (K1:List Ag->AD->Int->AG) (h1:(v1.length:Int)<=6) (he:∀ t∈v1,(t.Shape.Edges.length:Int)<=2) (h2:(v2.length:Int)<=3):∀ (n:Nat) (v:List Bc) (d:AD) (k:Int),0<=k->(v.length:Int)<=k->k<=3->((AA v6' 3).1-k).toNat<n->Ll b (CC b types l v1 v6 v7 v9 v2 v6' v11 K0 K1 n v d k)
 | 0,v,d,k,_,_,_,h=>absurd h (Nat.not_lt_zero _)
 | n+1,v,d,k,k0,kv,k3,h=>by
  unfold CC
  have hb:=DM v6' 3 (by decide) (by decide)
  by_cases hc:k<(AA v6' 3).1
  ·simp only [hc,decide_true,cond_true]
   exact XQ b types l v1 v6 v7 v9 v2 v6' v11 K0 K1 h1 he h2 n _ _ _ (by omega) (by simp only [List.length_append,List.length_cons,List.length_nil];omega) (by omega) (by omega)
  simp only [hc,decide_false,cond_false]
  have hv:(v.length:Int)<=3:=by omega
  repeat (first | exact ⟨rfl,rfl,rfl,rfl,h1,he,h2,hv,SN,SN⟩ | exact ⟨rfl,rfl,rfl,rfl,h1,he,h2,hv,SN,(by simp:((([_]:List Au).length:Nat):Int)<=1)⟩ | exact ⟨rfl,rfl,rfl,rfl,h1,he,h2,hv,SN,(by simp:((([]:List Au).length:Nat):Int)<=1)⟩ | refine jA ?_ ?_)
theorem XR (b:AG) (types:List AR) (l:List (List Int)) (v1:List AM) (v6:AD) (v7:ByteArray) (v9:Int) (K0:List AM->AD->ByteArray->Int->AG) (h1:(v1.length:Int)<=6) (he:∀ t∈v1,(t.Shape.Edges.length:Int)<=2):∀ (n:Nat) (v:List Ag) (d:AD) (k:Int),0<=k->(v.length:Int)<=k->k<=3->((AA (AD.mk (Aa l 5) 0) 3).1-k).toNat<n->Ll b (CS b types l v1 v6 v7 v9 K0 n v d k)
 | 0,v,d,k,_,_,_,h=>absurd h (Nat.not_lt_zero _)
 | n+1,v,d,k,k0,kv,k3,h=>by
  unfold CS
  have hb:=DM (AD.mk (Aa l 5) 0) 3 (by decide) (by decide)
  by_cases hc:k<(AA (AD.mk (Aa l 5) 0) 3).1
  ·simp only [hc,decide_true,cond_true]
   exact XR b types l v1 v6 v7 v9 K0 h1 he n _ _ _ (by omega) (by simp only [List.length_append,List.length_cons,List.length_nil];omega) (by omega) (by omega)
  simp only [hc,decide_false,cond_false]
  exact XQ b types l v1 v6 v7 v9 v d k K0 _ h1 he (by omega) _ _ _ 0 (by omega) (by simp) (by omega) (by omega)
theorem XS (b:AG) (types:List AR) (l:List (List Int)):∀ (n:Nat) (v:List AM) (d:AD) (s:ByteArray) (k:Int),0<=k->(v.length:Int)<=k->k<=6->(∀ t∈v,(t.Shape.Edges.length:Int)<=2)->((AA (Z24 b l) 6).1-k).toNat<n->Ll b (Bz b types l n v d s k)
 | 0,v,d,s,k,_,_,_,_,h=>absurd h (Nat.not_lt_zero _)
 | n+1,v,d,s,k,k0,kv,k3,he,h=>by
  unfold Bz
  have hb:=DM (Z24 b l) 6 (by decide) (by decide)
  by_cases hc:k<(AA (Z24 b l) 6).1
  ·simp only [hc,decide_true,cond_true]
   refine XS b types l n _ _ _ _ (by omega) (by simp only [List.length_append,List.length_cons,List.length_nil];omega) (by omega) (fun t ht => ?_) (by omega)
   rcases List.mem_append.1 ht with ht | ht
   ·exact he t ht
   rw [List.mem_singleton.1 ht];exact Q1 _ _ _
  simp only [hc,decide_false,cond_false]
  exact XR b types l v d s k _ (by omega) he _ _ _ 0 (by omega) (by simp) (by omega) (by omega)
theorem IX (b:AG) (types:List AR) (l:List (List Int)):Ll b (Bp b types l):=by
 have hb:=DM (Z24 b l) 6 (by decide) (by decide)
 unfold Bp
 exact XS b types l _ _ _ _ 0 (by omega) (by simp) (by omega) (fun t ht=>by cases ht) (by omega)
end Go.Proofs.YtheobjkgllmnmaaGreat
