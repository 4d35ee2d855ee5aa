/-
  Proved: the statement of ItemsCount; the parts before it hold what its proof needs.
-/
import Derived.Test.YtheobjkgllmnmaaGreatItemsCountQg
namespace Go.Proofs.YtheobjkgllmnmaaGreat
set_option maxRecDepth 100000
set_option linter.unusedVariables false
set_option linter.unusedSimpArgs false
section
open Go.RowKit
theorem Oq {p:AB} (h:PtB p):RP p:=by unfold PtB at h;unfold RP C27;omega
theorem Jh {a b:AB} (ha:RP a) (hb:RP b):OkE ⟨1,a,b,⟨0,0⟩⟩:=⟨⟨ha,hb,by unfold RP C27;simp only;omega⟩,.inl ⟨rfl,rfl,rfl⟩⟩
theorem SA {e:AG} {r:Int} (he:OkE e) (hr:0<=r/\r<=4194304):OkS ⟨1,[e],r⟩:=by
 refine ⟨⟨.inl rfl,⟨Nat.le_refl 1,(by decide:1<=40)⟩,fun h=>by cases h⟩,fun x hx=>by rw [List.mem_singleton.1 hx];exact he,⟨fun i hi => ?_,fun h=>by cases h⟩,hr,fun h=>by cases h⟩
 have hi:i+1<1:=hi
 omega
theorem Wc {e f:AG} {r:Int} (he:OkE e) (hf:OkE f) (hj:e.B=f.A) (hr:0<=r/\r<=4194304):OkS ⟨1,[e,f],r⟩:=by
 refine ⟨⟨.inl rfl,⟨(by decide:1<=2),(by decide:2<=40)⟩,fun h=>by cases h⟩,fun x hx => ?_,⟨fun i hi => ?_,fun h=>by cases h⟩,hr,fun h=>by cases h⟩
 ·simp only [List.mem_cons,List.not_mem_nil,or_false] at hx
  rcases hx with rfl | rfl <;> assumption
 ·have hi:i+1<2:=hi
  obtain rfl:i=0:=by omega
  exact hj
theorem Vt {a b:AB} {r:Int} (ha:Ju a) (hb:Ju b) (hr:0<=r/\r<=40):NE ⟨1,[⟨1,a,b,⟨0,0⟩⟩],r⟩:=by
 obtain ⟨h1,h2⟩:=SS ha hb
 exact ⟨SA h1 ⟨hr.1,by omega⟩,fun e he=>by rw [List.mem_singleton.1 he];exact h2,hr.2,(by decide:1<=8)⟩
theorem Vd {k:Nat} {p:BF} (h:Yp k p):NE p.Shape:=by
 have hk:=h.lt
 obtain ⟨y,h0,h1,_,e | ⟨r,r0,r1,e⟩ | e⟩:=h.shp <;> rw [e]
 ·exact fG (by simp only;omega)
 ·exact jB (by unfold Ju;simp only;omega) (by omega)
 ·exact Vt (by unfold Ju;simp only;omega) (by unfold Ju;simp only;omega) (by omega)
theorem J5 {l:List AG} {f:AG->AG} {i:Nat} (h:i<l.length):(l.map f).getD i default=f (l.getD i default):=by
 rw [List.getD_eq_getElem?_getD,List.getElem?_map,List.getElem?_eq_getElem h,List.getD_eq_getElem?_getD,List.getElem?_eq_getElem h];rfl
theorem aZ {s:AQ} {m:Ac} (h:NE s) (ha:(-1000<=m.At.X/\m.At.X<=1000) /\ -1000<=m.At.Y/\m.At.Y<=1000):EH s m=⟨s.Kind,s.Edges.map (fun e=>Q1 e (m.Turn % 4) m.Mirror m.At),s.R⟩/\OkS (EH s m):=by
 have e1:EH s m=⟨s.Kind,s.Edges.map (fun e=>Q1 e (m.Turn % 4) m.Mirror m.At),s.R⟩:=by
  rw [Tl]
  congr 1
  exact List.map_congr_left fun e he=>iF e m (h.1.2.1 e he) (h.2.1 e he) (by unfold Sm;omega)
 refine ⟨e1,?_⟩
 rw [e1]
 obtain ⟨⟨⟨h1,h2,h3⟩,h4,⟨h5,h6⟩,h7,h8⟩,hs,_⟩:=h
 refine ⟨⟨h1,by simp only [List.length_map];exact h2,fun hk=>by simp only [List.length_map];exact h3 hk⟩,fun e he => ?_,⟨fun i hi => ?_,fun hk => ?_⟩,h7,h8⟩
 ·obtain ⟨f,hf,rfl⟩:=List.mem_map.1 he
  exact rZ (h4 f hf) (hs f hf) ha
 ·simp only [List.length_map] at hi
  simp only
  rw [J5 (by omega),J5 hi]
  show mvp _ _ _ _=mvp _ _ _ _
  rw [h5 i hi]
 ·simp only [List.length_map]
  rw [J5 (by omega),J5 (by omega)]
  show mvp _ _ _ _=mvp _ _ _ _
  rw [h6 hk]
theorem Pb {s:AQ} (h:OkS s):C9 s=0:=by rw [Yg];exact (Si s).2 h
theorem fU {k:Nat} {p:AE} (h:Pm k p):((-1000<=p.At.X/\p.At.X<=1000) /\ -1000<=p.At.Y/\p.At.Y<=1000):=by
 have:=h.x
 have:=h.y
 omega
theorem Yh {a c:AB} {d:AD} {r:Int} (ha:PtB a) (hc:PtB c) (hr:0<=r/\r<=4194304):OkS ⟨1,(CR a c d).1,r⟩:=by
 have hx:∃ x:Int,(bif (decide (a.X=c.X)&&(decide (a.Y=c.Y)&&true)) then (W64 (c.X+20)) else c.X)=x /\ -920<=x/\x<=920:=by
  unfold PtB at hc
  cases (decide (a.X=c.X)&&(decide (a.Y=c.Y)&&true)) with
  | true=>exact ⟨_,rfl,by simp only [cond_true];rw [An (by omega) (by omega)];omega⟩
  | false=>exact ⟨_,rfl,by simp only [cond_false];omega⟩
 obtain ⟨x,ex,hx0,hx1⟩:=hx
 have hn:=CI (d:=(AA d 4).2) (n:=20) (by decide) (by decide)
 have q1:RP (AB.mk x a.Y):=by unfold PtB at ha;unfold RP C27;simp only;omega
 have q2:RP (AB.mk x c.Y):=by unfold PtB at hc;unfold RP C27;simp only;omega
 unfold CR Z1h Z1i Z1l Z1m
 rw [ex]
 generalize (bif _ then _ else false:Bool)=q
 cases q with
 | true=>exact Wc (Jh (Oq ha) q1) (Jh q1 q2) rfl hr
 | false =>
  rw [cond_false]
  cases decide ((AA d 4).1=3) with
  | true =>
   rw [cond_true]
   unfold PtB at hc
   have w1:W64 (5+(AA (AA d 4).2 20).1)=5+(AA (AA d 4).2 20).1:=An (by omega) (by omega)
   have w2:W64 (c.Y+(5+(AA (AA d 4).2 20).1))=c.Y+(5+(AA (AA d 4).2 20).1):=An (by omega) (by omega)
   rw [w1,w2]
   refine Wc (Jh (Oq ha) q2) (sY _ _ 3 2 (by simp only;omega) (by omega) (by omega) (.inl rfl)) ?_ hr
   rw [(sZ _ _ (by simp only;omega) (by omega)).2.2.2]
   show AB.mk x c.Y=AB.mk x (c.Y+(5+(AA (AA d 4).2 20).1)-(5+(AA (AA d 4).2 20).1))
   congr 1
   omega
  | false=>exact SA (Jh (Oq ha) q2) hr
theorem O9:∀ k:Nat,k<6->((Ah (k:Int)).toList.getD 1 0).toNat=49+k:=by
 intro k hk
 have:k=0\/k=1\/k=2\/k=3\/k=4\/k=5:=by omega
 rcases this with rfl | rfl | rfl | rfl | rfl | rfl <;> decide +kernel
theorem YK {k j:Nat} (hk:k<6) (hj:j<6) (h:Ah (k:Int)=Ah (j:Int)):k=j:=by
 have h1:=O9 k hk
 have h2:=O9 j hj
 rw [h] at h1
 omega
theorem O8 {k : Nat} (hk : k < 6) : Ah (k : Int) ≠ ⟨#[]⟩ := by
  intro h
  have h1 := O9 k hk
  rw [h] at h1
  exact absurd h1 (by have : ((ByteArray.toList ⟨#[]⟩).getD 1 0).toNat = 0 := by decide +kernel
                      omega)
structure lF (x:AZ):Prop where
 kind:decide (x.Kind=1) = !(x.Pad.toList==(⟨#[]⟩:ByteArray).toList)
 lay:1<=x.From/\x.From<=x.To/\x.To<=2
 chk:C9 x.Shape=0
theorem ba_ne {a:ByteArray} (h:a≠⟨#[]⟩):(a.toList==(⟨#[]⟩:ByteArray).toList)=false:=by
 cases hq:(a.toList==(⟨#[]⟩:ByteArray).toList) with
 | true=>exact absurd (dJ hq) h
 | false=>rfl
theorem Vs {B:AF} {T:List AM} {l:List (List Int)} (h:F7 B T l):∀ x∈Cw B T,lF x:=by
 intro x hx
 rw [LX h] at hx
 rcases List.mem_append.1 hx with hx | hx
 ·rcases List.mem_append.1 hx with hx | hx
  ·obtain ⟨y,hy,rfl⟩:=List.mem_map.1 hx
   obtain ⟨hp,k,hm⟩:=Jz h hy
   obtain ⟨j,_,_,hq⟩:=Ji h.par hp
   refine ⟨?_,?_,Pb (aZ (Vd hm) (fU hq)).2⟩
   ·show decide ((1:Int)=1) = !(y.2.Name.toList==_)
    rw [ba_ne (by rw [hm.name];exact O8 hm.lt)];rfl
   ·show 1<=(bif decide (y.2.Drill=0) then Ed B y.1 else 1)/\(bif decide (y.2.Drill=0) then Ed B y.1 else 1)<=(bif decide (y.2.Drill=0) then Ed B y.1 else B.Layers)/\(bif decide (y.2.Drill=0) then Ed B y.1 else B.Layers)<=2
    unfold Ed
    rw [h.lay]
    cases decide (y.2.Drill=0) <;> cases y.1.Under <;> decide
  ·obtain ⟨y,hy,rfl⟩:=List.mem_map.1 hx
   obtain ⟨k,_,_,hm⟩:=Ji h.trk hy
   obtain ⟨a,c,d,ha,hc,e⟩:=hm.edg
   have hl:=hm.lay
   refine ⟨by show decide ((2:Int)=1) = !((⟨#[]⟩:ByteArray).toList==(⟨#[]⟩:ByteArray).toList);decide +kernel,by show 1<=y.Layer/\y.Layer<=y.Layer/\y.Layer<=2;omega,?_⟩
   show C9 y.Shape=0
   have hs:y.Shape=⟨1,(CR a c d).1,y.Shape.R⟩:=by rw [<- hm.kind,<- e]
   rw [hs]
   exact Pb (Yh ha hc (by have:=hm.r;omega))
 ·obtain ⟨y,hy,rfl⟩:=List.mem_map.1 hx
  obtain ⟨k,_,_,hm⟩:=Ji h.via hy
  have hl:=hm.lay
  have hr:=hm.r
  refine ⟨by show decide ((3:Int)=1) = !((⟨#[]⟩:ByteArray).toList==(⟨#[]⟩:ByteArray).toList);decide +kernel,by show 1<=y.From/\y.From<=y.To/\y.To<=2;omega,?_⟩
  exact Pb (SA (Jh (Oq hm.at_) (Oq hm.at_)) (by omega))
theorem XN {α:Type} [Inhabited α] {P:Nat->α->Prop} {R:α->α->Prop} {v:List α} (h:Ix P v) (hr:∀ k j x y,k<j->P k x->P j y->R x y):v.Pairwise R:=by
 rw [List.pairwise_iff_getElem]
 intro i j hi hj hij
 have h1:=h i hi
 have h2:=h j hj
 rw [List.getD_eq_getElem?_getD,List.getElem?_eq_getElem hi] at h1
 rw [List.getD_eq_getElem?_getD,List.getElem?_eq_getElem hj] at h2
 exact hr i j _ _ hij h1 h2
abbrev KeyNe (x y:AZ):Prop:=¬ (x.Id=y.Id/\x.Pad=y.Pad)
theorem YO {B:AF} {T:List AM} {l:List (List Int)} (h:F7 B T l):(Cw B T).Pairwise KeyNe:=by
 rw [LX h,List.pairwise_append,List.pairwise_append]
 refine ⟨⟨?_,?_,fun x hx y hy => ?_⟩,?_,fun x hx y hy => ?_⟩
 ·rw [List.pairwise_map,List.pairwise_flatMap]
  refine ⟨fun p hp => ?_,XN h.par fun k j p q hkj hp hq x hx y hy => ?_⟩
  ·obtain ⟨a,e⟩:=Tu h hp
   unfold EG
   rw [e,List.pairwise_map]
   refine XN (Je a p.Type') fun k j x y hkj hx hy hne => ?_
   have e2:x.Name=y.Name:=hne.2
   rw [hx.name,hy.name] at e2
   have:=YK hx.lt hy.lt e2
   omega
  ·obtain ⟨x2,_,rfl⟩:=List.mem_map.1 hx
   obtain ⟨y2,_,rfl⟩:=List.mem_map.1 hy
   intro hne
   have e1:p.Id=q.Id:=hne.1
   rw [hp.id,hq.id] at e1
   omega
 ·rw [List.pairwise_map]
  refine XN h.trk fun k j x y hkj hx hy hne => ?_
  have e1:x.Id=y.Id:=hne.1
  rw [hx.id,hy.id] at e1
  omega
 ·obtain ⟨x2,hx2,rfl⟩:=List.mem_map.1 hx
  obtain ⟨y2,hy2,rfl⟩:=List.mem_map.1 hy
  obtain ⟨_,k,hm⟩:=Jz h hx2
  intro hne
  have e2:x2.2.Name=⟨#[]⟩:=hne.2
  exact O8 hm.lt (hm.name.symm.trans e2)
 ·rw [List.pairwise_map]
  refine XN h.via fun k j x y hkj hx hy hne => ?_
  have e1:x.Id=y.Id:=hne.1
  rw [hx.id,hy.id] at e1
  omega
 ·obtain ⟨y2,hy2,rfl⟩:=List.mem_map.1 hy
  obtain ⟨j,hj,_,hv⟩:=Ji h.via hy2
  intro hne
  rcases List.mem_append.1 hx with hx | hx
  ·obtain ⟨x2,hx2,rfl⟩:=List.mem_map.1 hx
   obtain ⟨_,k,hm⟩:=Jz h hx2
   have e2:x2.2.Name=⟨#[]⟩:=hne.2
   exact O8 hm.lt (hm.name.symm.trans e2)
  ·obtain ⟨x2,hx2,rfl⟩:=List.mem_map.1 hx
   obtain ⟨k,hk,_,hm⟩:=Ji h.trk hx2
   have e1:x2.Id=y2.Id:=hne.1
   rw [hm.id,hv.id] at e1
   have:=h.trkl
   omega
end
section
open Go.RowKit
theorem UL (c:CY) (v7 v36:Int) (k:Nat) (hk:k<(Z6r c).length) (K0:Int->Int->Bool) (K1:Int->Bool):∀ (n j:Nat),k-j<n->Cd c v7 v36 (k:Int) K0 K1 n (j:Int)=K1 ((k:Int)+1)
 | 0,j,h=>absurd h (Nat.not_lt_zero _)
 | n+1,j,h=>by
  have hq:=SN c.Board
  have hk2:k<(Cw (Ao c.Board).1 (Ao c.Board).2).length:=hk
  unfold Cd
  by_cases hc:j<k
  ·rw [decide_eq_true (show (j:Int)<(((k:Int).toNat-(0:Int).toNat:Nat):Int) by omega),cond_true]
   have e:Z6t c (k:Int) (j:Int)=(Z6r c).getD j default:=by
    unfold Z6t
    rw [Int.toNat_natCast,Int.toNat_natCast,List.getD_eq_getElem?_getD,List.getElem?_take_of_lt hc,<- List.getD_eq_getElem?_getD]
   rw [e,Int.toNat_natCast]
   have hp:=List.pairwise_iff_getElem.1 (YO hq) j k (by show j<(Z6r c).length;omega) hk2 hc
   have g1:(Z6r c).getD j default=(Cw (Ao c.Board).1 (Ao c.Board).2)[j]'(by show j<(Z6r c).length;omega):=by
    show (Cw (Ao c.Board).1 (Ao c.Board).2).getD j default=_
    rw [List.getD_eq_getElem?_getD,List.getElem?_eq_getElem (by show j<(Z6r c).length;omega)];rfl
   have g2:(Z6r c).getD k default=(Cw (Ao c.Board).1 (Ao c.Board).2)[k]'hk2:=by
    show (Cw (Ao c.Board).1 (Ao c.Board).2).getD k default=_
    rw [List.getD_eq_getElem?_getD,List.getElem?_eq_getElem hk2];rfl
   have hb:(bif decide (((Z6r c).getD k default).Id=((Z6r c).getD j default).Id) then (((Z6r c).getD k default).Pad.toList==((Z6r c).getD j default).Pad.toList) else false)=false:=by
    by_cases hid:((Z6r c).getD k default).Id=((Z6r c).getD j default).Id
    ·rw [decide_eq_true hid,cond_true]
     cases hb:(((Z6r c).getD k default).Pad.toList==((Z6r c).getD j default).Pad.toList) with
     | false=>rfl
     | true =>
      have hpad:=dJ hb
      rw [g1,g2] at hid hpad
      exact absurd ⟨hid.symm,hpad.symm⟩ hp
    ·rw [decide_eq_false hid];rfl
   rw [hb,cond_false]
   exact UL c v7 v36 k hk K0 K1 n (j+1) (by omega)
  ·rw [decide_eq_false (show ¬ (j:Int)<(((k:Int).toNat-(0:Int).toNat:Nat):Int) by omega),cond_false]
   have hm:lF ((Z6r c).getD k default):=Vs hq _ (by
    show (Cw (Ao c.Board).1 (Ao c.Board).2).getD k default∈_
    rw [List.getD_eq_getElem?_getD,List.getElem?_eq_getElem hk2]
    exact List.getElem_mem hk2)
   unfold Z6s
   rw [Int.toNat_natCast,hm.kind,hm.chk,hq.lay,decide_eq_false (show ¬ ((Z6r c).getD k default).From<1 by have:=hm.lay;omega),decide_eq_false (show ¬ ((Z6r c).getD k default).To<((Z6r c).getD k default).From by have:=hm.lay;omega),decide_eq_false (show ¬ 2<((Z6r c).getD k default).To by have:=hm.lay;omega)]
   simp only [beq_self_eq_true,Bool.not_true,cond_false,decide_true]
theorem UM (c:CY) (v7 v36:Int) (K0:Int->Int->Bool):∀ (n k:Nat),(Z6r c).length-k<n->Ce c v7 v36 K0 n (k:Int)=(bif A9 then decide (((Z6r c).length:Int)=v7) else false)
 | 0,k,h=>absurd h (Nat.not_lt_zero _)
 | n+1,k,h=>by
  unfold Ce
  by_cases hc:k<(Z6r c).length
  ·rw [decide_eq_true (show (k:Int)<((Z6r c).length:Int) by omega),cond_true]
   have h2:=UL c v7 v36 k hc K0 (Ce c v7 v36 K0 n) (((((k:Int).toNat-(0:Int).toNat:Nat):Int)-0).toNat+1) 0 (by omega)
   rw [show ((0:Nat):Int)=0 from rfl] at h2
   rw [h2]
   exact UM c v7 v36 K0 n (k+1) (by omega)
  ·rw [decide_eq_false (show ¬ (k:Int)<((Z6r c).length:Int) by omega),cond_false]
theorem UN (c:CY):∀ (n k:Nat) (v7:Int),(Ao c.Board).1.Parts.length-k<n->0<=v7->v7+((((Ao c.Board).1.Parts.drop k).flatMap (EG (Ao c.Board).2)).length:Int)<=1000000000->B3 c n v7 (k:Int)=(bif A9 then decide (((Z6r c).length:Int)=v7+((((Ao c.Board).1.Parts.drop k).flatMap (EG (Ao c.Board).2)).length:Int)) else false)
 | 0,k,v7,h,_,_=>absurd h (Nat.not_lt_zero _)
 | n+1,k,v7,h,h0,hb=>by
  unfold B3
  by_cases hc:k<(Ao c.Board).1.Parts.length
  ·rw [decide_eq_true (show (k:Int)<((Ao c.Board).1.Parts.length:Int) by omega),cond_true]
   have e:=PS hc
   have hl:(((Ao c.Board).1.Parts.drop k).flatMap (EG (Ao c.Board).2)).length=(Z6v c (k:Int)).Pads.length+(((Ao c.Board).1.Parts.drop (k+1)).flatMap (EG (Ao c.Board).2)).length:=by
    rw [e,List.flatMap_cons,List.length_append,Ia]
    rfl
   rw [hl] at hb ⊢
   rw [An (by omega) (by omega)]
   have:=UN c n (k+1) (v7+((Z6v c (k:Int)).Pads.length:Int)) (by omega) (by omega) (by omega)
   rw [show ((k+1:Nat):Int)=(k:Int)+1 by omega] at this
   rw [this,Int.add_assoc]
   rfl
  ·rw [decide_eq_false (show ¬ (k:Int)<((Ao c.Board).1.Parts.length:Int) by omega),cond_false,List.drop_eq_nil_of_le (by omega)]
   have:=UM c v7 (k:Int) (B3 c n) ((((Z6r c).length:Int)-0).toNat+1) 0 (by omega)
   rw [show ((0:Nat):Int)=0 from rfl] at this
   rw [this]
   simp
theorem Nx (c:CY):D1 c=true:=by
 have hq:=SN c.Board
 have h1:=hq.trkl
 have h2:=hq.vial
 have hlen:(Z6r c).length=((Ao c.Board).1.Parts.flatMap (EG (Ao c.Board).2)).length+(Ao c.Board).1.Tracks.length+(Ao c.Board).1.Vias.length:=by
  show (Cw (Ao c.Board).1 (Ao c.Board).2).length=_
  rw [LX hq]
  simp only [List.length_append,List.length_map]
 have hb:((Z6r c).length:Int)<=100000000:=Xg c.Board
 unfold D1
 rw [An (by omega) (by omega)]
 have:=UN c ((((Ao c.Board).1.Parts.length:Int)-0).toNat+1) 0 (((Ao c.Board).1.Tracks.length:Int)+((Ao c.Board).1.Vias.length:Int)) (by omega) (by omega) (by rw [List.drop_zero];omega)
 rw [show ((0:Nat):Int)=0 from rfl,List.drop_zero] at this
 rw [this,qM,cond_true]
 exact decide_eq_true (by omega)
end
section
open Go.ChangeShapes Go.WideShapes Go.ChangeAt Go.RowKit
theorem Lf (os:Os) (started:os.Started) (H:Type) (enc:TypeId×Value->H) :
  ReturnsInHanded {} Tryz.checked os 6 .any (Rows.itemsCountSpec.pre6 enc Tryz.prog Tryz.f6 Rows.itemsCountRow.domain false) (Rows.itemsCountSpec.post enc Tryz.prog Tryz.f6 false true false false):=by
 refine returnsInHanded_of_change (C:=Tryz.checked) own started kr Tryz.func6
  (ChangeSpec.witness6 (enc:=enc) (C:=Tryz.checked) false ⟨#[],#[.agg #[.slice none 0 0,.int .i64 0,.int .i64 0,.int .i64 0]],[]⟩ 8 kr kr kr kr) ?_
 intro W base args ds gs before hval0 hW hcnd _
 have hval:∀ (j:Nat) t v,Tryz.f6.params[j]? = some t->args[j]? = some v->Value.okWide Tryz.prog W .any base t v:=hval0
 have hW':=hW
 obtain ⟨p,q,hA0,hV,rfl,hfz,hnd⟩:=hW
 have hA:DataW.TrodAll enc Tryz.prog W 0 (fun _=>true) true Tryz.f6.params.toList args.toList ds p:=hA0
 rw [Tryz.params6] at hA hval
 obtain ⟨v0,vs0,d0,ds0,p0,q0,hargs,rfl,rfl,h0,r0⟩:=trodAll_cons hA
 obtain ⟨rfl,rfl,rfl⟩:=trodAll_nil r0
 obtain rfl:args = #[v0]:=by cases args;simp_all
 obtain ⟨c,kc,x0⟩:=aE opT25 (.inl ⟨_,Tryz.underlying25⟩) (hval 0 25 v0 rfl rfl) h0
 clear hA0 hval0
 refine (T0 (TP c (Tp kc.1.1) (fun x hx=>Tp (kc.1.2 x hx).1)) (Nx c) (.cons x0 .nil)).mono fun e W' ⟨he,hb⟩ => ?_
 subst he
 exact ⟨_,rfl,bG hW' rfl rfl iV (by rw [Tryz.params6];exact List.forall_mem_cons.2 ⟨⟨by kernel_rfl,oT (by kernel_rfl)⟩,List.forall_mem_nil _⟩) rfl Tryz.underlying4 hb⟩
theorem itemsCount_holds:Rows.ItemsCountSaid :=
 OpenClaim.holds_of_wide 6 Tryz.f6 rfl rfl rfl rfl rfl rfl rfl ⟨rfl,rfl,rfl,rfl,rfl⟩ rfl rfl rfl rfl rfl kr Tryz.func6 kr
  (oT (by kernel_rfl)) (by unfold Func.isWrapper;first | (rw [if_pos (by decide +kernel)];kernel_rfl) | (rw [if_neg (by decide +kernel)];exact ⟨rfl,rfl⟩))
  (fun os started H enc _=>Lf os started H enc)
#print axioms itemsCount_holds
end
end Go.Proofs.YtheobjkgllmnmaaGreat
