/-
  Proved: the statement of PlaceInside; the parts before it hold what its proof needs.
-/
import Derived.Test.YtdbampcfmjbgmaaGreatPlaceInsideQf
namespace Go.Proofs.YtdbampcfmjbgmaaGreat
set_option maxRecDepth 100000
set_option linter.unusedVariables false
set_option linter.unusedSimpArgs false
section
open Go.RowKit
theorem dK {e:AE} {p:AB} {r:Int} (hp:RP p) (hA:RP e.A) (hr:0<=r/\r<=1000) (hd:(p.X-e.A.X)*(p.X-e.A.X)+(p.Y-e.A.Y)*(p.Y-e.A.Y)<=r*r):Ft e p r=true:=by
 have h1:IU p e.A=(p.X-e.A.X)*(p.X-e.A.X)+(p.Y-e.A.Y)*(p.Y-e.A.Y):=by
  unfold IU
  rw [Hm hp hA,Uz (Jl hp hA) (Jl hp hA)]
 have h2:=ZH r r 1000 1000 (by omega) (by omega)
 unfold Ft
 rw [h1,Al (x:=r*r) (by omega) (by omega),decide_eq_true hd]
 rfl
theorem V5 {e:AE} {r:Int} {p:AB} (hk:OkS ⟨1,[e],r⟩) (hr:0<=r/\r<=1000) (hp:RP p) (hA:RP e.A) (hB:RP e.B) (hd:(p.X-e.A.X)*(p.X-e.A.X)+(p.Y-e.A.Y)*(p.Y-e.A.Y)<=r*r)
  (hb:(min e.A.X e.B.X<=p.X/\p.X<=max e.A.X e.B.X)/\min e.A.Y e.B.Y<=p.Y/\p.Y<=max e.A.Y e.B.Y):C7 ⟨1,[e],r⟩ p=true:=by
 have hbx:Fj ⟨1,[e],r⟩=⟨W64 (min e.A.X e.B.X-r),W64 (min e.A.Y e.B.Y-r),W64 (max e.A.X e.B.X+r),W64 (max e.A.Y e.B.Y+r)⟩:=rfl
 unfold RP C27 at hp hA hB
 have hn:=dK (e:=e) (p:=p) (r:=r) hp hA hr hd
 have hc:Xe [e] p ⟨1,[e],r⟩=true:=by
  show decide ((0:Int)<=(bif Ft e p r then 0 else _))=true
  rw [hn];rfl
 unfold C7
 rw [TU hk,hbx]
 simp only
 rw [hc,Al (x:=min e.A.X e.B.X-r) (by omega) (by omega),Al (x:=min e.A.Y e.B.Y-r) (by omega) (by omega),Al (x:=max e.A.X e.B.X+r) (by omega) (by omega),Al (x:=max e.A.Y e.B.Y+r) (by omega) (by omega)]
 rw [decide_eq_false (show ¬ p.X<min e.A.X e.B.X-r by omega),decide_eq_false (show ¬ max e.A.X e.B.X+r<p.X by omega),decide_eq_false (show ¬ p.Y<min e.A.Y e.B.Y-r by omega),decide_eq_false (show ¬ max e.A.Y e.B.Y+r<p.Y by omega)]
 rfl
abbrev lnE (a b:AB):AE:=⟨1,a,b,⟨0,0⟩⟩
abbrev GU (a b c d:AB):AW:=⟨2,[lnE a b,lnE b c,lnE c d,lnE d a],0⟩
theorem min4 {a b c d p:Int} (ha:C27 a) (hb:C27 b) (hc:C27 c) (hd:C27 d) (h:a<=p\/b<=p\/c<=p\/d<=p):decide (p<W64 (min (min (min (min a b) (min b c)) (min c d)) (min d a)-0))=false:=by
 unfold C27 at ha hb hc hd
 have h0 : -67108864<=min (min (min (min a b) (min b c)) (min c d)) (min d a):=by simp only [Int.le_min];omega
 have h1:min (min (min (min a b) (min b c)) (min c d)) (min d a)<=a:=Int.le_trans (Int.min_le_left _ _) (Int.le_trans (Int.min_le_left _ _) (Int.le_trans (Int.min_le_left _ _) (Int.min_le_left _ _)))
 have h2:min (min (min (min a b) (min b c)) (min c d)) (min d a)<=b:=Int.le_trans (Int.min_le_left _ _) (Int.le_trans (Int.min_le_left _ _) (Int.le_trans (Int.min_le_left _ _) (Int.min_le_right _ _)))
 have h3:min (min (min (min a b) (min b c)) (min c d)) (min d a)<=c:=Int.le_trans (Int.min_le_left _ _) (Int.le_trans (Int.min_le_right _ _) (Int.min_le_left _ _))
 have h4:min (min (min (min a b) (min b c)) (min c d)) (min d a)<=d:=Int.le_trans (Int.min_le_right _ _) (Int.min_le_left _ _)
 generalize min (min (min (min a b) (min b c)) (min c d)) (min d a)=m at *
 rw [Al (by omega) (by omega)]
 exact decide_eq_false (by omega)
theorem max4 {a b c d p:Int} (ha:C27 a) (hb:C27 b) (hc:C27 c) (hd:C27 d) (h:p<=a\/p<=b\/p<=c\/p<=d):decide (W64 (max (max (max (max a b) (max b c)) (max c d)) (max d a)+0)<p)=false:=by
 unfold C27 at ha hb hc hd
 have h0:max (max (max (max a b) (max b c)) (max c d)) (max d a)<=67108864:=by simp only [Int.max_le];omega
 have h1:a<=max (max (max (max a b) (max b c)) (max c d)) (max d a):=Int.le_trans (Int.le_trans (Int.le_trans (Int.le_max_left _ _) (Int.le_max_left _ _)) (Int.le_max_left _ _)) (Int.le_max_left _ _)
 have h2:b<=max (max (max (max a b) (max b c)) (max c d)) (max d a):=Int.le_trans (Int.le_trans (Int.le_trans (Int.le_max_right _ _) (Int.le_max_left _ _)) (Int.le_max_left _ _)) (Int.le_max_left _ _)
 have h3:c<=max (max (max (max a b) (max b c)) (max c d)) (max d a):=Int.le_trans (Int.le_trans (Int.le_max_left _ _) (Int.le_max_right _ _)) (Int.le_max_left _ _)
 have h4:d<=max (max (max (max a b) (max b c)) (max c d)) (max d a):=Int.le_trans (Int.le_max_left _ _) (Int.le_max_right _ _)
 generalize max (max (max (max a b) (max b c)) (max c d)) (max d a)=m at *
 rw [Al (by omega) (by omega)]
 exact decide_eq_false (by omega)
theorem S5 {a b c d p:AB} (hk:OkS (GU a b c d)) (ha:RP a) (hb:RP b) (hc:RP c) (hd:RP d) (hx:(a.X<=p.X\/b.X<=p.X\/c.X<=p.X\/d.X<=p.X)/\(p.X<=a.X\/p.X<=b.X\/p.X<=c.X\/p.X<=d.X)) (hy:(a.Y<=p.Y\/b.Y<=p.Y\/c.Y<=p.Y\/d.Y<=p.Y)/\(p.Y<=a.Y\/p.Y<=b.Y\/p.Y<=c.Y\/p.Y<=d.Y))
  (hs:F5 (lnE a b) p+F5 (lnE b c) p+F5 (lnE c d) p+F5 (lnE d a) p≠0) (hz:∀ x y,-1<=F5 (lnE x y) p/\F5 (lnE x y) p<=1):C7 (GU a b c d) p=true:=by
 have hbx:Fj (GU a b c d)=⟨W64 (min (min (min (min a.X b.X) (min b.X c.X)) (min c.X d.X)) (min d.X a.X)-0),W64 (min (min (min (min a.Y b.Y) (min b.Y c.Y)) (min c.Y d.Y)) (min d.Y a.Y)-0),W64 (max (max (max (max a.X b.X) (max b.X c.X)) (max c.X d.X)) (max d.X a.X)+0),W64 (max (max (max (max a.Y b.Y) (max b.Y c.Y)) (max c.Y d.Y)) (max d.Y a.Y)+0)⟩:=rfl
 have h1:=hz a b
 have h2:=hz b c
 have h3:=hz c d
 have h4:=hz d a
 have hl:EH (GU a b c d) p 5 0 0 = !decide (W64 (W64 (W64 (W64 (0+Hd (lnE a b) p)+Hd (lnE b c) p)+Hd (lnE c d) p)+Hd (lnE d a) p)=0):=rfl
 have hl2:EH (GU a b c d) p ((((GU a b c d).Edges.length:Int)-0).toNat+1) 0 0=true:=by
  refine hl.trans ?_
  rw [Q0,Q0,Q0,Q0]
  generalize F5 (lnE a b) p=r1 at *
  generalize F5 (lnE b c) p=r2 at *
  generalize F5 (lnE c d) p=r3 at *
  generalize F5 (lnE d a) p=r4 at *
  clear hx hy hbx hl hz
  rw [Al (x:=0+r1) (by omega) (by omega),Al (x:=0+r1+r2) (by omega) (by omega),Al (x:=0+r1+r2+r3) (by omega) (by omega),Al (by omega) (by omega),decide_eq_false (by omega)]
  rfl
 unfold C7
 rw [TU hk,hbx]
 simp only
 rw [hl2,min4 ha.1 hb.1 hc.1 hd.1 hx.1,min4 ha.2 hb.2 hc.2 hd.2 hy.1,max4 ha.1 hb.1 hc.1 hd.1 hx.2,max4 ha.2 hb.2 hc.2 hd.2 hy.2]
 cases Xe (GU a b c d).Edges p (GU a b c d) <;> rfl
theorem YW (p x y:AB) : -1<=F5 (lnE x y) p/\F5 (lnE x y) p<=1:=by
 unfold F5 up
 split
 ·split
  ·decide
  ·split <;> decide
 ·decide
theorem VU {a b p:AB} (h:a.Y=b.Y):F5 (lnE a b) p=0:=by
 unfold F5 up
 rw [if_neg (show ¬ (lnE a b).A.Y<(lnE a b).B.Y by show ¬ a.Y<b.Y;omega),if_neg (show ¬ (lnE a b).B.Y<(lnE a b).A.Y by show ¬ b.Y<a.Y;omega),ite_self]
theorem VT {a b p:AB} (h:a.X<=p.X/\b.X<=p.X):F5 (lnE a b) p=0:=by
 unfold F5 InR
 exact if_neg fun q=>by
  have:=q.2.1.2
  simp only at this
  omega
theorem VS {a b p:AB} (ho:OkE (lnE a b)) (h:p.X<a.X/\p.X<b.X) (hy:(a.Y<=p.Y/\p.Y<b.Y)\/(b.Y<=p.Y/\p.Y<a.Y)):F5 (lnE a b) p=1\/F5 (lnE a b) p = -1:=by
 unfold F5 InR
 rw [if_pos ⟨ho,⟨by simp only;omega,by simp only;omega⟩,.inl (by simp only;omega)⟩]
 unfold up
 rcases hy with hy | hy
 ·exact .inl (if_pos (by simp only;omega))
 ·exact .inr (by rw [if_neg (by simp only;omega),if_pos (by simp only;omega)])
theorem jH {P Q s u:Int} (hs:s=1\/s = -1) (hu:u=1\/u = -1)
  {b d:AB} (hbd:(b=⟨P+6*s,Q-6*u⟩/\d=⟨P-6*s,Q+6*u⟩)\/(b=⟨P-6*s,Q+6*u⟩/\d=⟨P+6*s,Q-6*u⟩)) (hk:OkS (GU ⟨P-6*s,Q-6*u⟩ b ⟨P+6*s,Q+6*u⟩ d)):C7 (GU ⟨P-6*s,Q-6*u⟩ b ⟨P+6*s,Q+6*u⟩ d) ⟨P,Q⟩=true:=by
 have ho:=hk.2.1
 have o1:=ho _ (List.mem_cons_self ..)
 have o2:=ho _ (List.mem_cons_of_mem _ (List.mem_cons_self ..))
 have o3:=ho _ (List.mem_cons_of_mem _ (List.mem_cons_of_mem _ (List.mem_cons_self ..)))
 have o4:=ho _ (List.mem_cons_of_mem _ (List.mem_cons_of_mem _ (List.mem_cons_of_mem _ (List.mem_cons_self ..))))
 rcases hbd with ⟨rfl,rfl⟩ | ⟨rfl,rfl⟩
 ·refine S5 hk o1.1.1 o2.1.1 o3.1.1 o4.1.1 ⟨by simp only;omega,by simp only;omega⟩ ⟨by simp only;omega,by simp only;omega⟩ ?_ fun x y=>YW _ _ _
  rw [VU (a:=⟨P-6*s,Q-6*u⟩) (b:=⟨P+6*s,Q-6*u⟩) rfl,VU (a:=⟨P+6*s,Q+6*u⟩) (b:=⟨P-6*s,Q+6*u⟩) rfl]
  rcases hs with rfl | rfl
  ·have e1:=VS (p:=⟨P,Q⟩) o2 (by simp only;omega) (by simp only;omega)
   rw [VT (p:=⟨P,Q⟩) (a:=⟨P-6*1,Q+6*u⟩) (b:=⟨P-6*1,Q-6*u⟩) (by simp only;omega)]
   omega
  ·have e1:=VS (p:=⟨P,Q⟩) o4 (by simp only;omega) (by simp only;omega)
   rw [VT (p:=⟨P,Q⟩) (a:=⟨P+6 * -1,Q-6*u⟩) (b:=⟨P+6 * -1,Q+6*u⟩) (by simp only;omega)]
   omega
 ·refine S5 hk o1.1.1 o2.1.1 o3.1.1 o4.1.1 ⟨by simp only;omega,by simp only;omega⟩ ⟨by simp only;omega,by simp only;omega⟩ ?_ fun x y=>YW _ _ _
  rw [VU (a:=⟨P-6*s,Q+6*u⟩) (b:=⟨P+6*s,Q+6*u⟩) rfl,VU (a:=⟨P+6*s,Q-6*u⟩) (b:=⟨P-6*s,Q-6*u⟩) rfl]
  rcases hs with rfl | rfl
  ·have e1:=VS (p:=⟨P,Q⟩) o3 (by simp only;omega) (by simp only;omega)
   rw [VT (p:=⟨P,Q⟩) (a:=⟨P-6*1,Q-6*u⟩) (b:=⟨P-6*1,Q+6*u⟩) (by simp only;omega)]
   omega
  ·have e1:=VS (p:=⟨P,Q⟩) o1 (by simp only;omega) (by simp only;omega)
   rw [VT (p:=⟨P,Q⟩) (a:=⟨P+6 * -1,Q+6*u⟩) (b:=⟨P+6 * -1,Q-6*u⟩) (by simp only;omega)]
   omega
theorem SP {k:Nat} {p:Ay} (h:Tc k p) {m:Ab} (ha:(-1000<=m.At.X/\m.At.X<=1000) /\ -1000<=m.At.Y/\m.At.Y<=1000):C7 (Dk p.Shape m) (Aa m p.At)=true:=by
 obtain ⟨hm,hok⟩:=ZI (US h) ha
 have hk6:=h.lt
 obtain ⟨y,y0,y1,hat,hs⟩:=h.shp
 have ht:m.Turn % 4=0\/m.Turn % 4=1\/m.Turn % 4=2\/m.Turn % 4=3:=by omega
 have hap:Aa m p.At=mvp (m.Turn % 4) m.Mirror m.At p.At:=JV m p.At (by rw [hat];unfold Sm;simp only;omega) (by unfold Sm;omega)
 rw [hm] at hok ⊢
 rw [hap,hat]
 generalize m.Turn % 4=t at *
 generalize m.Mirror=mi at *
 generalize m.At=o at *
 have hr:∀ q:AB,(-1000<=q.X/\q.X<=1000) /\ -1000<=q.Y/\q.Y<=1000->RP (mvp t mi o q):=fun q hq=>by
  unfold mvp KU RP C27
  rcases ht with rfl | rfl | rfl | rfl <;> cases mi <;> simp <;> omega
 rcases hs with hs | ⟨r,r0,r1,hs⟩ | hs
 ·rw [hs] at hok ⊢
  have hf:Cn (An.mk (30*(k:Int)-6) (y-6) (30*(k:Int)+6) (y+6))=GU ⟨30*(k:Int)-6,y-6⟩ ⟨30*(k:Int)+6,y-6⟩ ⟨30*(k:Int)+6,y+6⟩ ⟨30*(k:Int)-6,y+6⟩:=by kernel_rfl
  rw [hf] at hok ⊢
  have hg:∀ a b c d:AB,(AW.mk (GU a b c d).Kind ((GU a b c d).Edges.map (fun e=>Gx e t mi o)) (GU a b c d).R)=GU (mvp t mi o a) (mvp t mi o b) (mvp t mi o c) (mvp t mi o d):=fun a b c d=>by
   simp [Gx]
  rw [hg] at hok ⊢
  obtain ⟨P,Q,s,u,hs,hu,e0,e1,e2,e3⟩:∃ P Q s u:Int,(s=1\/s = -1)/\(u=1\/u = -1)/\mvp t mi o ⟨30*(k:Int),y⟩=⟨P,Q⟩/\mvp t mi o ⟨30*(k:Int)-6,y-6⟩=⟨P-6*s,Q-6*u⟩/\mvp t mi o ⟨30*(k:Int)+6,y+6⟩=⟨P+6*s,Q+6*u⟩ /\
    ((mvp t mi o ⟨30*(k:Int)+6,y-6⟩=⟨P+6*s,Q-6*u⟩/\mvp t mi o ⟨30*(k:Int)-6,y+6⟩=⟨P-6*s,Q+6*u⟩)\/(mvp t mi o ⟨30*(k:Int)+6,y-6⟩=⟨P-6*s,Q+6*u⟩/\mvp t mi o ⟨30*(k:Int)-6,y+6⟩=⟨P+6*s,Q-6*u⟩)):=by
   unfold mvp KU
   rcases ht with rfl | rfl | rfl | rfl <;> cases mi <;> simp only [if_true,if_false,Bool.false_eq_true,Int.reduceEq,AB.mk.injEq]
   ·exact ⟨_,_,1,1,.inl rfl,.inl rfl,⟨rfl,rfl⟩,by omega,by omega,.inl (by omega)⟩
   ·exact ⟨_,_,-1,1,.inr rfl,.inl rfl,⟨rfl,rfl⟩,by omega,by omega,.inl (by omega)⟩
   ·exact ⟨_,_,-1,1,.inr rfl,.inl rfl,⟨rfl,rfl⟩,by omega,by omega,.inr (by omega)⟩
   ·exact ⟨_,_,-1,-1,.inr rfl,.inr rfl,⟨rfl,rfl⟩,by omega,by omega,.inr (by omega)⟩
   ·exact ⟨_,_,-1,-1,.inr rfl,.inr rfl,⟨rfl,rfl⟩,by omega,by omega,.inl (by omega)⟩
   ·exact ⟨_,_,1,-1,.inl rfl,.inr rfl,⟨rfl,rfl⟩,by omega,by omega,.inl (by omega)⟩
   ·exact ⟨_,_,1,-1,.inl rfl,.inr rfl,⟨rfl,rfl⟩,by omega,by omega,.inr (by omega)⟩
   ·exact ⟨_,_,1,1,.inl rfl,.inl rfl,⟨rfl,rfl⟩,by omega,by omega,.inr (by omega)⟩
  rw [e1,e2] at hok ⊢
  rw [e0]
  exact jH hs hu e3 hok
 ·rw [hs] at hok ⊢
  have hg:(AW.mk (DD (AB.mk (30*(k:Int)) y) r).Kind ((DD (AB.mk (30*(k:Int)) y) r).Edges.map (fun e=>Gx e t mi o)) (DD (AB.mk (30*(k:Int)) y) r).R)=⟨1,[lnE (mvp t mi o ⟨30*(k:Int),y⟩) (mvp t mi o ⟨30*(k:Int),y⟩)],r⟩:=by
   simp [DD,Gx]
  rw [hg] at hok ⊢
  have hq:=hr ⟨30*(k:Int),y⟩ (by simp only;omega)
  have:=ZH r r 1000 1000 (by omega) (by omega)
  have h0:=sq_nn r
  refine V5 hok (by omega) hq hq hq ?_ ⟨⟨?_,?_⟩,?_,?_⟩ <;> simp only [Int.sub_self,Int.mul_zero,Int.add_zero] <;> omega
 ·rw [hs] at hok ⊢
  have hg:(AW.mk (1:Int) ([lnE (AB.mk (30*(k:Int)-2) y) (AB.mk (30*(k:Int)+2) y)].map (fun e=>Gx e t mi o)) 4)=⟨1,[lnE (mvp t mi o ⟨30*(k:Int)-2,y⟩) (mvp t mi o ⟨30*(k:Int)+2,y⟩)],4⟩:=by
   simp [Gx]
  change OkS (AW.mk (1:Int) ([lnE (AB.mk (30*(k:Int)-2) y) (AB.mk (30*(k:Int)+2) y)].map (fun e=>Gx e t mi o)) 4) at hok
  show C7 (AW.mk (1:Int) ([lnE (AB.mk (30*(k:Int)-2) y) (AB.mk (30*(k:Int)+2) y)].map (fun e=>Gx e t mi o)) 4) _=true
  rw [hg] at hok ⊢
  have q1:=hr ⟨30*(k:Int),y⟩ (by simp only;omega)
  have q2:=hr ⟨30*(k:Int)-2,y⟩ (by simp only;omega)
  have q3:=hr ⟨30*(k:Int)+2,y⟩ (by simp only;omega)
  refine V5 hok (by omega) q1 q2 q3 ?_ ?_ <;> unfold mvp KU <;> rcases ht with rfl | rfl | rfl | rfl <;> cases mi <;> simp only [if_true,if_false,Bool.false_eq_true,Int.reduceEq]
  all_goals first | omega | (simp;omega)
end
section
open Go.RowKit
theorem XJ {α:Type} [Inhabited α] (lt:α->α->Bool) (l:List α) (h:∀ k,k+1<l.length->lt (l.getD (k+1) default) (l.getD k default)=false):GR lt l=l:=by
 have key:∀ n,n<=l.length->GR lt (l.take n)=l.take n:=by
  intro n
  induction n with
  | zero=>intro _;rfl
  | succ n ih =>
   intro hn
   have e:l.take (n+1)=l.take n++[l.getD n default]:=by
    rw [List.take_succ_eq_append_getElem (by omega),List.getD_eq_getElem?_getD,List.getElem?_eq_getElem (by omega)];rfl
   rw [e,Md,ih (by omega)]
   have hl:(l.take n).length=n:=by rw [List.length_take];omega
   have hp:Ht (lt (l.getD n default)) (l.take n) (l.take n).length=n:=by
    rw [hl]
    cases n with
    | zero=>rfl
    | succ m =>
     unfold Ht
     rw [show (l.take (m+1)).getD m default=l.getD m default by rw [List.getD_eq_getElem?_getD,List.getElem?_take_of_lt (by omega),<- List.getD_eq_getElem?_getD],h m (by omega)]
     rfl
   unfold S6
   rw [hp,List.take_of_length_le (by omega),List.drop_eq_nil_of_le (by omega)]
 have:=key l.length (Nat.le_refl _)
 rwa [List.take_length] at this
theorem jR {x y:Int} (h:y<=x):decide (Dn x y<0)=false:=by
 unfold Dn FJ
 by_cases h2:y<x
 ·simp [show ¬ x<y by omega,h2]
 ·simp [show ¬ x<y by omega,h2]
theorem OU {B:AF} {T:List AL} {l:List (List Int)} (h:Fx B T l):CF B.Parts=B.Parts:=by
 rw [aY]
 exact XJ _ _ fun k hk=>jR (by rw [(h.par k (by omega)).id,(h.par (k+1) hk).id];omega)
theorem So {B:AF} {T:List AL} {l:List (List Int)} (h:Fx B T l) {p:AG} (hp:p∈B.Parts):∃ a,B9 T p.Type'=(A1 a p.Type',true):=by
 obtain ⟨k,_,_,hm⟩:=OY h.par hp
 obtain ⟨a,e,_⟩:=Nw l hm.typ
 rw [<- QS,h.types]
 exact ⟨a,e⟩
end
section
open Go.RowKit
theorem Zs {α:Type} [Inhabited α] {f:α->Bool} {l:List α} {i:Nat} (hi:i<l.length) (ht:f (l.getD i default)=true) (hf:∀ k,k<i->f (l.getD k default)=false):l.findIdx? f=some i:=by
 rw [List.findIdx?_eq_some_iff_getElem]
 refine ⟨hi,?_,fun j hj => ?_⟩
 ·rw [List.getD_eq_getElem?_getD,List.getElem?_eq_getElem hi] at ht;exact ht
 ·have:=hf j hj
  rw [List.getD_eq_getElem?_getD,List.getElem?_eq_getElem (by omega)] at this
  have:f l[j]=false:=this
  rw [this];decide
theorem ZU {α:Type} [Inhabited α] {f:α->Bool} {l:List α} {i:Nat} (hi:i<l.length) (ht:f (l.getD i default)=true) (hf:∀ k,k<i->f (l.getD k default)=false):ixI f l=(i:Int):=by
 unfold ixI
 rw [Zs hi ht hf]
theorem bQ (i j:Nat) (hi:i<3) (hj:j<3) (h:i≠j):((SG.getD i ⟨#[]⟩).toList==(SG.getD j ⟨#[]⟩).toList)=false:=by
 have key:∀ i:Fin 3,∀ j:Fin 3,i≠j->((SG.getD i.val ⟨#[]⟩).toList==(SG.getD j.val ⟨#[]⟩).toList)=false:=by decide +kernel
 exact key ⟨i,hi⟩ ⟨j,hj⟩ fun e=>h (Fin.mk.inj e)
theorem LH (a:ByteArray):(a.toList==a.toList)=true:=by simp
theorem U8 {a c:ByteArray} (h:a≠c):(a.toList==c.toList)=false:=by
 cases hq:(a.toList==c.toList) with
 | false=>rfl
 | true=>exact absurd (WL hq) h
theorem dQ {B:AF} {T:List AL} {l:List (List Int)} (h:Fx B T l) {i:Nat} (hi:i<B.Parts.length) (s:ByteArray):DX B.Parts ⟨(B.Parts.getD i default).Ref,s⟩=(i:Int):=by
 have h3:=h.parl
 rw [Te]
 refine ZU hi (LH _) fun k hk => ?_
 show ((B.Parts.getD k default).Ref.toList==(B.Parts.getD i default).Ref.toList)=false
 rw [(h.par k (by omega)).ref,(h.par i hi).ref]
 exact bQ k i (by omega) (by omega) (by omega)
theorem dR {t:AL} (h:Ix Tc t.Pads) {j:Nat} (hj:j<t.Pads.length):Fi t (t.Pads.getD j default).Name=(t.Pads.getD j default,true):=by
 have e:FA t.Pads (t.Pads.getD j default).Name=(j:Int):=by
  rw [Tf]
  refine ZU hj (LH _) fun k hk => ?_
  show ((t.Pads.getD k default).Name.toList==(t.Pads.getD j default).Name.toList)=false
  have hk':=h k (by omega)
  have hj':=h j hj
  rw [hk'.name,hj'.name]
  exact U8 fun q=>absurd (W7 hk'.lt hj'.lt q) (by omega)
 unfold Fi Z0s
 rw [e,decide_eq_false (by omega),cond_false,Int.toNat_natCast]
theorem dS {B:AF} {T:List AL} {l:List (List Int)} (h:Fx B T l) {i:Nat} (hi:i<B.Parts.length) {q:Ay} (hq:q∈(B9 T (B.Parts.getD i default).Type').1.Pads) :
  FAt B T ⟨(B.Parts.getD i default).Ref,q.Name⟩=(Aa (CT (B.Parts.getD i default)) q.At,DW B (B.Parts.getD i default),true):=by
 obtain ⟨a,e⟩:=So h (p:=B.Parts.getD i default) (by rw [List.getD_eq_getElem?_getD,List.getElem?_eq_getElem hi];exact List.getElem_mem hi)
 have hx:Ix Tc (B9 T (B.Parts.getD i default).Type').1.Pads:=by rw [e];exact Iv _ _
 obtain ⟨j,hj,ej,_⟩:=OY hx hq
 subst ej
 have e0:=dQ h hi ((B9 T (B.Parts.getD i default).Type').1.Pads.getD j default).Name
 have e1:Z0w B ⟨(B.Parts.getD i default).Ref,((B9 T (B.Parts.getD i default).Type').1.Pads.getD j default).Name⟩=B.Parts.getD i default:=by unfold Z0w;rw [e0,Int.toNat_natCast]
 have e2:Z0v T B ⟨(B.Parts.getD i default).Ref,((B9 T (B.Parts.getD i default).Type').1.Pads.getD j default).Name⟩=(B9 T (B.Parts.getD i default).Type').1:=by unfold Z0v;rw [e0,Int.toNat_natCast]
 unfold FAt Z0x
 rw [e0,e1,e2,dR hx hj,decide_eq_false (by omega),cond_false]
 rfl
theorem Wo {B:AF} {T:List AL} {l:List (List Int)} (h:Fx B T l) {x:AG×Ay} (hx:x∈Ai B T):∃ i,i<B.Parts.length/\B.Parts.getD i default=x.1/\x.2∈(B9 T x.1.Type').1.Pads:=by
 unfold Ai at hx
 rw [OU h] at hx
 obtain ⟨p,hp,hx⟩:=List.mem_flatMap.1 hx
 unfold D1 at hx
 obtain ⟨q,hq,rfl⟩:=List.mem_map.1 hx
 obtain ⟨i,hi,e,_⟩:=OY h.par hp
 exact ⟨i,hi,e,hq⟩
theorem XC {B:AF} {T:List AL} {l:List (List Int)} (h:Fx B T l) {i:Nat} (hi:i<B.Parts.length) {q:Ay} (hq:q∈(B9 T (B.Parts.getD i default).Type').1.Pads):∃ k,Tc k q:=by
 obtain ⟨a,e⟩:=So h (p:=B.Parts.getD i default) (by rw [List.getD_eq_getElem?_getD,List.getElem?_eq_getElem hi];exact List.getElem_mem hi)
 rw [e] at hq
 obtain ⟨k,_,_,hm⟩:=OY (Iv a _) hq
 exact ⟨k,hm⟩
end
section
open Go.RowKit
theorem dI (b:AF) (q:Ac) (k:Nat) (K0:Int->ByteArray) (m:Nat) (hm:(b.Nets.getD k default).Pins.length<m):E4 b q k K0 m 0=bif (b.Nets.getD k default).Pins.any (fun p=>Ar p q) then (b.Nets.getD k default).Name else K0 ((k:Int)+1):=by
 have h:=Rf (fun p=>Ar p q) (fun _=>(b.Nets.getD k default).Name) (K0 ((k:Int)+1)) (b.Nets.getD k default).Pins (E4 b q k K0) (fun m v=>by
  rw [E4]
  unfold Z6r Z6q Ar eqS
  rw [Int.toNat_natCast,Int.toNat_natCast,Bool.and_true]) (b.Nets.getD k default).Pins.length 0 m rfl (Nat.zero_le _) hm
 rw [List.drop_zero] at h
 refine h.trans ?_
 cases hf:(b.Nets.getD k default).Pins.find? (fun p=>Ar p q) with
 | some x =>
  have:(b.Nets.getD k default).Pins.any (fun p=>Ar p q)=true:=List.any_eq_true.2 ⟨x,List.mem_of_find?_eq_some hf,List.find?_some (p:=fun p=>Ar p q) hf⟩
  rw [this];rfl
 | none =>
  have:(b.Nets.getD k default).Pins.any (fun p=>Ar p q)=false:=List.any_eq_false.2 fun x hx=>List.find?_eq_none.1 hf x hx
  rw [this];rfl
theorem dJ (b:AF) (q:Ac):Jy b q=OX (MT b) q:=by
 rw [XG]
 have h:=Rf (fun n:BO=>n.Pins.any fun p=>Ar p q) (fun n=>n.Name) (⟨#[]⟩:ByteArray) b.Nets (E5 b q) (fun m v=>by
  rw [E5]
  have:=dI b q v (E5 b q m) ((((b.Nets.getD ((v:Nat):Int).toNat default).Pins.length:Int)-0).toNat+1) (by rw [Int.toNat_natCast];omega)
  rw [this]) b.Nets.length 0 (((((b.Nets.length:Int)))-0).toNat+1) rfl (Nat.zero_le _) (by omega)
 rw [List.drop_zero] at h
 unfold Jy
 refine h.trans ?_
 cases b.Nets.find? (fun n=>n.Pins.any fun p=>Ar p q) <;> rfl
theorem eE {B:AF} {T:List AL} {l:List (List Int)} (h:Fx B T l) {j:Nat} (hj:j<(BF B T).length) {i:Nat} (hi:i<B.Parts.length) (he:((BF B T).getD j default).Id=(B.Parts.getD i default).Id) :
  (FAt B T ⟨(B.Parts.getD i default).Ref,((BF B T).getD j default).Pad⟩).2.2=true/\C7 ((BF B T).getD j default).Shape (FAt B T ⟨(B.Parts.getD i default).Ref,((BF B T).getD j default).Pad⟩).1=true /\
  ((BF B T).getD j default).From<=(FAt B T ⟨(B.Parts.getD i default).Ref,((BF B T).getD j default).Pad⟩).2.1/\(FAt B T ⟨(B.Parts.getD i default).Ref,((BF B T).getD j default).Pad⟩).2.1<=((BF B T).getD j default).To /\
  ((BF B T).getD j default).Net=Jy B ⟨(B.Parts.getD i default).Ref,((BF B T).getD j default).Pad⟩:=by
 have hl:j<(Ai B T).length:=by rw [MI] at hj;exact hj
 have e:(BF B T).getD j default=KT B (MT B) ((Ai B T).getD j default):=by
  rw [PG,List.getD_eq_getElem?_getD,List.getElem?_map,List.getElem?_eq_getElem hl,List.getD_eq_getElem?_getD,List.getElem?_eq_getElem hl];rfl
 obtain ⟨i2,hi2,e2,hq⟩:=Wo h (x:=(Ai B T).getD j default) (by rw [List.getD_eq_getElem?_getD,List.getElem?_eq_getElem hl];exact List.getElem_mem hl)
 rw [e] at he ⊢
 generalize (Ai B T).getD j default=x at *
 have hii:i2=i:=by
  have h1:x.1.Id=(B.Parts.getD i default).Id:=he
  rw [<- e2,(h.par i2 hi2).id,(h.par i hi).id] at h1
  omega
 subst hii
 rw [<- e2] at hq
 have hat:=dS h hi hq
 have hpad:(KT B (MT B) x).Pad=x.2.Name:=rfl
 rw [hpad,hat]
 obtain ⟨k,hk⟩:=XC h hi hq
 have hs:(KT B (MT B) x).Shape=Dk x.2.Shape (CT (B.Parts.getD i2 default)):=by rw [e2];rfl
 have hside:1<=DW B (B.Parts.getD i2 default)/\DW B (B.Parts.getD i2 default)<=B.Layers:=by
  unfold DW
  rw [h.lay]
  cases (B.Parts.getD i2 default).Under <;> decide
 refine ⟨rfl,?_,?_,?_,?_⟩
 ·rw [hs]
  exact SP hk (cE (h.par i2 hi2))
 ·show (bif decide (x.2.Drill=0) then DW B x.1 else 1)<=DW B (B.Parts.getD i2 default)
  rw [e2] at *
  cases decide (x.2.Drill=0) with
  | true=>exact Int.le_refl _
  | false=>exact hside.1
 ·show DW B (B.Parts.getD i2 default)<=(bif decide (x.2.Drill=0) then DW B x.1 else B.Layers)
  rw [e2] at *
  cases decide (x.2.Drill=0) with
  | true=>exact Int.le_refl _
  | false=>exact hside.2
 ·rw [dJ]
  show (bif C9 Ar (MT B) (Ac.mk x.1.Ref x.2.Name) then _ else _)=_
  rw [dV,e2]
theorem Pt (l:List (List Int)) (v7:Int) (i:Nat) (v7' v36:Int) (K0 K1:Int->Int->Bool) (hi:i<(AP l).1.Parts.length):∀ (n j:Nat),(BF (AP l).1 (AP l).2).length-j<n->Br l v7 (i:Int) v7' v36 K0 K1 n (j:Int)=K0 v7' ((i:Int)+1)
 | 0,j,h=>absurd h (Nat.not_lt_zero _)
 | n+1,j,h=>by
  obtain ⟨k,hq⟩:=Iu l
  unfold Br
  by_cases hc:j<(BF (AP l).1 (AP l).2).length
  ·rw [decide_eq_true (show (j:Int)<((BF (AP l).1 (AP l).2).length:Int) by omega),cond_true]
   have ih:=Pt l v7 i v7' v36 K0 K1 hi n (j+1) (by omega)
   rw [show ((j+1:Nat):Int)=(j:Int)+1 by omega] at ih
   rw [ih]
   unfold Z6w Z6v Z6u Z6t Z6s
   rw [Int.toNat_natCast,Int.toNat_natCast]
   by_cases he:((BF (AP l).1 (AP l).2).getD j default).Id=((AP l).1.Parts.getD i default).Id
   ·obtain ⟨a1,a2,a3,a4,a5⟩:=eE hq hc hi he
    rw [decide_eq_true he,a1,a2,decide_eq_false (Int.not_lt.2 a3),decide_eq_false (Int.not_lt.2 a4),<- a5,LH]
    rfl
   ·rw [decide_eq_false he];rfl
  ·rw [decide_eq_false (show ¬ (j:Int)<((BF (AP l).1 (AP l).2).length:Int) by omega),cond_false]
theorem Zj {a c:AL} {x:ByteArray} (hne:a.Name≠c.Name) (hx:x=a.Name\/x=c.Name):(B9 [a,c] x).1.Pads.length=(bif (a.Name.toList==x.toList) then a.Pads.length else 0)+(bif (c.Name.toList==x.toList) then c.Pads.length else 0):=by
 rw [Gy]
 unfold Rb Fh
 rcases hx with rfl | rfl
 ·rw [List.find?_cons,LH,U8 (fun e=>hne e.symm)];simp
 ·rw [List.find?_cons,U8 hne,List.find?_cons,LH];simp
theorem XK (l:List (List Int)) (v7:Int) (i:Nat) (K0:Int->Int->Bool) (hi:i<(AP l).1.Parts.length) (h0:0<=v7/\v7<=1000000) :
  Bs l v7 (i:Int) K0 ((((AP l).2.length:Int)-0).toNat+1) v7 0=K0 (v7+((B9 (AP l).2 ((AP l).1.Parts.getD i default).Type').1.Pads.length:Int)) ((i:Int)+1):=by
 obtain ⟨k,hq⟩:=Iu l
 have hT:=hq.types
 have ha:(Z5h k).Name=nR:=(Dc _ _).1
 have hc:(Z5i k).Name=nQ:=(Dc _ _).1
 have hla:(Z5h k).Pads.length<=6:=by have h6:((Z5h k).Pads.length:Int)<=6:=(Dc (AU k 0) nR).2.2;omega
 have hlc:(Z5i k).Pads.length<=6:=by have h6:((Z5i k).Pads.length:Int)<=6:=(Dc (AU k 1) nQ).2.2;omega
 have hn:(Z5h k).Name≠(Z5i k).Name:=by rw [ha,hc];decide +kernel
 have ht:=(hq.par i hi).typ
 rw [<- ha,<- hc] at ht
 have e:=Zj hn ht
 have e0:(AP l).2=[Z5h k,Z5i k]:=hT
 have hlen:((((AP l).2.length:Int)-0).toNat+1)=3:=by rw [e0];rfl
 rw [hlen]
 have hz:(((AP l).2.length:Nat):Int)=2:=by rw [e0];rfl
 have g0:(AP l).2.getD (0:Int).toNat default=Z5h k:=by rw [e0];rfl
 have g1:(AP l).2.getD ((0:Int)+1).toNat default=Z5i k:=by rw [e0];rfl
 have s2:∀ v K1,Br l v7 (i:Int) v ((0:Int)+1+1) K0 K1 ((((BF (AP l).1 (AP l).2).length:Int)-0).toNat+1) 0=K0 v ((i:Int)+1):=fun v K1=>by
  have:=Pt l v7 i v ((0:Int)+1+1) K0 K1 hi ((((BF (AP l).1 (AP l).2).length:Int)-0).toNat+1) 0 (by omega)
  rw [show ((0:Nat):Int)=0 from rfl] at this
  exact this
 rw [Bs,Bs,Bs]
 unfold Z6x Z6t
 rw [hz,g0,g1,Int.toNat_natCast,s2]
 rw [decide_eq_true (by decide:(0:Int)<2),decide_eq_true (by decide:(0:Int)+1<2),decide_eq_false (by decide:¬ (0:Int)+1+1<2),cond_true,cond_true,cond_false]
 congr 1
 rw [hT]
 show _=v7+((B9 [Z5h k,Z5i k] _).1.Pads.length:Int)
 rw [e]
 cases ((Z5h k).Name.toList==((AP l).1.Parts.getD i default).Type'.toList) <;> cases ((Z5i k).Name.toList==((AP l).1.Parts.getD i default).Type'.toList) <;> simp only [cond_true,cond_false]
 ·omega
 ·rw [Al (by omega) (by omega)];omega
 ·rw [Al (by omega) (by omega)];omega
 ·rw [Al (x:=v7+((Z5h k).Pads.length:Int)) (by omega) (by omega),Al (by omega) (by omega)];omega
theorem Pu (l:List (List Int)):∀ (n i:Nat) (v7:Int),(AP l).1.Parts.length-i<n->0<=v7->v7+((((AP l).1.Parts.drop i).flatMap (D1 (AP l).2)).length:Int)<=1000000 ->
  Bt l n v7 (i:Int)=decide (((BF (AP l).1 (AP l).2).length:Int)=v7+((((AP l).1.Parts.drop i).flatMap (D1 (AP l).2)).length:Int))
 | 0,i,v7,h,_,_=>absurd h (Nat.not_lt_zero _)
 | n+1,i,v7,h,h0,hb=>by
  unfold Bt
  by_cases hc:i<(AP l).1.Parts.length
  ·rw [decide_eq_true (show (i:Int)<((AP l).1.Parts.length:Int) by omega),cond_true]
   have e:=On hc
   have hl:(((AP l).1.Parts.drop i).flatMap (D1 (AP l).2)).length=(B9 (AP l).2 ((AP l).1.Parts.getD i default).Type').1.Pads.length+(((AP l).1.Parts.drop (i+1)).flatMap (D1 (AP l).2)).length:=by
    rw [e,List.flatMap_cons,List.length_append,GQ]
   rw [hl] at hb ⊢
   rw [XK l v7 i (Bt l n) hc (by omega)]
   have:=Pu l n (i+1) (v7+((B9 (AP l).2 ((AP l).1.Parts.getD i default).Type').1.Pads.length:Int)) (by omega) (by omega) (by omega)
   rw [show ((i+1:Nat):Int)=(i:Int)+1 by omega] at this
   rw [this]
   congr 1
   rw [eq_iff_iff]
   omega
  ·rw [decide_eq_false (show ¬ (i:Int)<((AP l).1.Parts.length:Int) by omega),cond_false,List.drop_eq_nil_of_le (by omega),gS]
   simp
theorem Lu (l:List (List Int)):DO l=true:=by
 obtain ⟨k,hq⟩:=Iu l
 have hp:Ai (AP l).1 (AP l).2=(AP l).1.Parts.flatMap (D1 (AP l).2):=by unfold Ai;rw [OU hq]
 have hb:(((AP l).1.Parts.flatMap (D1 (AP l).2)).length:Int)<=1000000:=by
  have h3:=hq.parl
  have key:∀ v:List AG,(∀ x∈v,x∈(AP l).1.Parts)->(v.flatMap (D1 (AP l).2)).length<=6*v.length:=by
   intro v
   induction v with
   | nil=>intro _;exact Nat.le_refl _
   | cons x v ih =>
    intro hx
    have:=ih fun y hy=>hx y (List.mem_cons_of_mem _ hy)
    obtain ⟨i,hi,e,hm⟩:=OY hq.par (hx x (List.mem_cons_self ..))
    have:=TG k hm.typ
    rw [<- hq.types,QS] at this
    rw [List.flatMap_cons,List.length_append,GQ,List.length_cons]
    omega
  have:=key _ fun x hx=>hx
  omega
 unfold DO
 have:=Pu l ((((AP l).1.Parts.length:Int)-0).toNat+1) 0 0 (by omega) (by omega) (by rw [List.drop_zero];omega)
 rw [show ((0:Nat):Int)=0 from rfl,List.drop_zero] at this
 rw [this,MI,hp]
 exact decide_eq_true (by omega)
end
section
open Go.ChangeShapes Go.WideShapes Go.ChangeAt Go.RowKit
theorem KP (os:Os) (started:os.Started) (H:Type) (enc:TypeId×Value->H) :
  ReturnsInHanded {} Tryz.checked os 4 .any (Rows.placeInsideSpec.pre6 enc Tryz.prog Tryz.f4 Rows.placeInsideRow.domain false) (Rows.placeInsideSpec.post enc Tryz.prog Tryz.f4 false true false false):=by
 refine returnsInHanded_of_change (C:=Tryz.checked) own started kr Tryz.func4
  (ChangeSpec.witness6 (enc:=enc) (C:=Tryz.checked) false ⟨#[],#[.slice none 0 0],[]⟩ 8 kr kr kr kr) ?_
 intro W base args ds gs before hval0 hW hcnd _
 have hval:∀ (j:Nat) t v,Tryz.f4.params[j]? = some t->args[j]? = some v->Value.okWide Tryz.prog W .any base t v:=hval0
 have hW':=hW
 obtain ⟨p,q,hA0,hV,rfl,hfz,hnd⟩:=hW
 have hA:DataW.TrodAll enc Tryz.prog W 0 (fun _=>true) true Tryz.f4.params.toList args.toList ds p:=hA0
 rw [Tryz.params4] at hA hval
 obtain ⟨v0,vs0,d0,ds0,p0,q0,hargs,rfl,rfl,h0,r0⟩:=trodAll_cons hA
 obtain ⟨rfl,rfl,rfl⟩:=trodAll_nil r0
 obtain rfl:args = #[v0]:=by cases args;simp_all
 obtain ⟨l,kl,x0⟩:=Yv opT22 (.inl ⟨_,Tryz.underlying22⟩) (hval 0 22 v0 rfl rfl) h0
 clear hA0 hval0
 refine (Sy (Q8 l (Sk kl.1) (fun x hx=>Sk (kl.2 x hx).1)) (Lu l) (.cons x0 .nil)).mono fun e W' ⟨he,hb⟩ => ?_
 subst he
 exact ⟨_,rfl,ZO hW' rfl rfl eB (by rw [Tryz.params4];exact List.forall_mem_cons.2 ⟨⟨by kernel_rfl,oT (by kernel_rfl)⟩,List.forall_mem_nil _⟩) rfl Tryz.underlying4 hb⟩
theorem placeInside_holds:Rows.PlaceInsideSaid :=
 OpenClaim.holds_of_wide 4 Tryz.f4 rfl rfl rfl rfl rfl rfl rfl ⟨rfl,rfl,rfl,rfl,rfl⟩ rfl rfl rfl rfl rfl kr Tryz.func4 kr
  (oT (by kernel_rfl)) (by unfold Func.isWrapper;first | (rw [if_pos (by decide +kernel)];kernel_rfl) | (rw [if_neg (by decide +kernel)];exact ⟨rfl,rfl⟩))
  (fun os started H enc _=>KP os started H enc)
#print axioms placeInside_holds
end
end Go.Proofs.YtdbampcfmjbgmaaGreat
