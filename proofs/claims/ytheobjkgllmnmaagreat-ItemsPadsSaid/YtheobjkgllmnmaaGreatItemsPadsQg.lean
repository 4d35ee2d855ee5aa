/-
  Proved: the statement of ItemsPads; the parts before it hold what its proof needs.
-/
import Derived.Test.YtheobjkgllmnmaaGreatItemsPadsQf
namespace Go.Proofs.YtheobjkgllmnmaaGreat
set_option maxRecDepth 100000
set_option linter.unusedVariables false
set_option linter.unusedSimpArgs false
open Go.RowKit
theorem F9 (a b:Bool):(bif a then b else false)=(a&&b):=by cases a <;> rfl
theorem Yp (a b:Bool):(bif a then true else b)=(a||b):=by cases a <;> rfl
theorem Ja {α:Type} (a:Bool) (x y:α):(bif a then x else y)=if a=true then x else y:=by cases a <;> rfl
def C27 (x:Int):Prop := -67108864<=x/\x<=67108864
def RP (p:AC):Prop:=C27 p.X/\C27 p.Y
def R28 (p:AC):Prop:=(-134217728<=p.X/\p.X<=134217728) /\ -134217728<=p.Y/\p.Y<=134217728
instance (x:Int):Decidable (C27 x):=by unfold C27;infer_instance
instance (p:AC):Decidable (RP p):=by unfold RP;infer_instance
theorem kG (x y A B:Int) (hx : -A<=x/\x<=A) (hy : -B<=y/\y<=B) : -(A*B)<=x*y/\x*y<=A*B:=by
 have hA:0<=A:=by omega
 have h1:0<=(A-x)*(B+y):=Int.mul_nonneg (by omega) (by omega)
 have h2:0<=(A+x)*(B-y):=Int.mul_nonneg (by omega) (by omega)
 have h3:0<=(A-x)*(B-y):=Int.mul_nonneg (by omega) (by omega)
 have h4:0<=(A+x)*(B+y):=Int.mul_nonneg (by omega) (by omega)
 have e1:(A-x)*(B+y)=A*B+A*y-x*B-x*y:=by grind
 have e2:(A+x)*(B-y)=A*B-A*y+x*B-x*y:=by grind
 have e3:(A-x)*(B-y)=A*B-A*y-x*B+x*y:=by grind
 have e4:(A+x)*(B+y)=A*B+A*y+x*B+x*y:=by grind
 omega
theorem b54 {x y:Int} (hx : -134217728<=x/\x<=134217728) (hy : -134217728<=y/\y<=134217728) : -18014398509481984<=x*y/\x*y<=18014398509481984:=by
 have:=kG x y 134217728 134217728 hx hy
 omega
theorem sq_nn (x:Int):0<=x*x:=by
 rcases Int.le_total 0 x with h | h
 ·exact Int.mul_nonneg h h
 have:=Int.mul_nonneg (show 0 <= -x by omega) (show 0 <= -x by omega)
 rwa [Int.neg_mul_neg] at this
theorem JD {p q:AC} (hp:RP p) (hq:RP q):AM p q=⟨p.X-q.X,p.Y-q.Y⟩:=by
 unfold RP C27 at *
 unfold AM
 rw [Af (by omega) (by omega),Af (by omega) (by omega)]
theorem LG {p q:AC} (hp:RP p) (hq:RP q):R28 ⟨p.X-q.X,p.Y-q.Y⟩:=by
 unfold RP C27 at *
 unfold R28
 simp only
 omega
theorem Yl {u v:AC} (hu:R28 u) (hv:R28 v):CG u v=u.X*v.X+u.Y*v.Y:=by
 obtain ⟨h1,h2⟩:=hu;obtain ⟨h3,h4⟩:=hv
 have b1:=b54 h1 h3;have b2:=b54 h2 h4
 unfold CG
 rw [Af (x:=u.X*v.X) (by omega) (by omega),Af (x:=u.Y*v.Y) (by omega) (by omega),Af (by omega) (by omega)]
theorem mG {u v:AC} (hu:R28 u) (hv:R28 v):BP u v=u.X*v.Y-u.Y*v.X:=by
 obtain ⟨h1,h2⟩:=hu;obtain ⟨h3,h4⟩:=hv
 have b1:=b54 h1 h4;have b2:=b54 h2 h3
 unfold BP
 rw [Af (x:=u.X*v.Y) (by omega) (by omega),Af (x:=u.Y*v.X) (by omega) (by omega),Af (by omega) (by omega)]
theorem hZ (p:AC):Al p=decide (RP p):=by
 rw [Bool.eq_iff_iff,decide_eq_true_eq]
 unfold Al RP C27
 simp only [F9,Bool.and_eq_true,decide_eq_true_eq]
 omega
def Odd (e:AF):Prop:=¬ (e.A.X-e.C.X=0↔e.A.Y-e.C.Y=0)
def QL (e:AF):Prop:=Odd e/\e.B.X-e.C.X = -(e.A.Y-e.C.Y)/\e.B.Y-e.C.Y=e.A.X-e.C.X
def QR (e:AF):Prop:=Odd e/\e.B.X-e.C.X=e.A.Y-e.C.Y/\e.B.Y-e.C.Y = -(e.A.X-e.C.X)
def Em (e:AF):Prop:=RP e.A/\RP e.B/\RP e.C
def Y8 (e:AF):Prop:=(e.Kind=1/\e.C.X=0/\e.C.Y=0)\/(e.Kind=2/\QL e)\/(e.Kind=3/\QR e)
def OkE (e:AF):Prop:=Em e/\Y8 e
instance (e:AF):Decidable (QL e):=by unfold QL Odd;infer_instance
instance (e:AF):Decidable (QR e):=by unfold QR Odd;infer_instance
instance (e:AF):Decidable (Em e):=by unfold Em;infer_instance
instance (e:AF):Decidable (Y8 e):=by unfold Y8;infer_instance
instance (e:AF):Decidable (OkE e):=by unfold OkE;infer_instance
def Ha (e:AF):Int:=if OkE e then 0 else if (1<=e.Kind/\e.Kind<=3)/\¬ Em e then 10 else 11
theorem xU (p:AC):AZ ⟨⟨0,0⟩,1,false⟩ p=⟨W64 (W64 (0-p.Y)+0),W64 (p.X+0)⟩:=by
 have ht:B3 ⟨⟨0,0⟩,1,false⟩=1:=by decide +kernel
 unfold AZ
 rw [ht]
 rfl
theorem xT (p:AC):AZ ⟨⟨0,0⟩,3,false⟩ p=⟨W64 (W64 (0-W64 (0-p.Y))+0),W64 (W64 (0-p.X)+0)⟩:=by
 have ht:B3 ⟨⟨0,0⟩,3,false⟩=3:=by decide +kernel
 unfold AZ
 rw [ht]
 rfl
theorem rO (e:AF) (h:Em e):D0 e=decide (QL e):=by
 obtain ⟨ha,hb,hc⟩:=h
 rw [Bool.eq_iff_iff,decide_eq_true_eq]
 unfold D0 Co QL Odd
 rw [xU,JD ha hc,JD hb hc]
 unfold RP C27 at *
 simp only [F9,Bool.and_eq_true,decide_eq_true_eq,Bool.not_eq_true',and_true,Bx,beq_eq_false_iff_ne,ne_eq,decide_eq_decide]
 omega
theorem bM (e:AF) (h:Em e):DU e=decide (QR e):=by
 obtain ⟨ha,hb,hc⟩:=h
 rw [Bool.eq_iff_iff,decide_eq_true_eq]
 unfold DU Co QR Odd
 rw [xT,JD ha hc,JD hb hc]
 unfold RP C27 at *
 simp only [F9,Bool.and_eq_true,decide_eq_true_eq,Bool.not_eq_true',and_true,Bx,beq_eq_false_iff_ne,ne_eq,decide_eq_decide]
 omega
theorem rL (e:AF):G1 e=decide (e.C.X=0/\e.C.Y=0):=by
 rw [Bool.eq_iff_iff,decide_eq_true_eq]
 unfold G1
 simp only [Bool.and_eq_true,decide_eq_true_eq,and_true]
theorem HL (a0 a1 a2:AC) (k:Int):(bif bif Al a0 then Al a1 else false then Al a2 else false)=decide (Em ⟨k,a0,a1,a2⟩):=by
 rw [Bool.eq_iff_iff,decide_eq_true_eq]
 unfold Em
 simp only [F9,Bool.and_eq_true,hZ,decide_eq_true_eq,and_assoc]
theorem tH (a0 a1 a2:AC):(bif decide (Em ⟨1,a0,a1,a2⟩) then G1 ⟨1,a0,a1,a2⟩ else false)=decide (OkE ⟨1,a0,a1,a2⟩):=by
 rw [Bool.eq_iff_iff,decide_eq_true_eq]
 unfold OkE Y8
 rw [rL]
 simp [F9]
theorem tG (a0 a1 a2:AC):(bif decide (Em ⟨2,a0,a1,a2⟩) then D0 ⟨2,a0,a1,a2⟩ else false)=decide (OkE ⟨2,a0,a1,a2⟩):=by
 rw [Bool.eq_iff_iff,decide_eq_true_eq]
 unfold OkE Y8
 by_cases h:Em ⟨2,a0,a1,a2⟩
 ·rw [rO _ h];simp [F9,h]
 simp [h]
theorem tF (a0 a1 a2:AC):(bif decide (Em ⟨3,a0,a1,a2⟩) then DU ⟨3,a0,a1,a2⟩ else false)=decide (OkE ⟨3,a0,a1,a2⟩):=by
 rw [Bool.eq_iff_iff,decide_eq_true_eq]
 unfold OkE Y8
 by_cases h:Em ⟨3,a0,a1,a2⟩
 ·rw [bM _ h];simp [F9,h]
 simp [h]
theorem UE {e:AF} (h:OkE e):e.Kind=1\/e.Kind=2\/e.Kind=3:=by
 obtain ⟨_,h⟩:=h
 rcases h with ⟨h,_⟩ | ⟨h,_⟩ | ⟨h,_⟩ <;> simp [h]
theorem mK (e:AF):D8 e=Ha e:=by
 obtain ⟨k,a0,a1,a2⟩:=e
 unfold D8
 by_cases k1:k=1
 ·subst k1
  simp only [if_true,LD,Z09,Z02,Z01,Z00]
  rw [HL a0 a1 a2 1,tH]
  unfold Ha
  simp [Ja]
 by_cases k2:k=2
 ·subst k2
  simp only [k1,if_false,if_true,LC,Z0a,Z05,Z04,Z03]
  rw [HL a0 a1 a2 2,tG]
  unfold Ha
  simp [Ja]
 by_cases k3:k=3
 ·subst k3
  simp only [k1,k2,if_false,if_true,LB,Z0b,Z08,Z07,Z06]
  rw [HL a0 a1 a2 3,tF]
  unfold Ha
  simp [Ja]
 simp only [k1,k2,k3,if_false,Jl]
 rw [HL a0 a1 a2 k]
 unfold Ha
 rw [if_neg (fun h=>by have:=UE h;simp only at this;omega)]
 simp only [F9]
 simp only [Ja,Bool.and_eq_true,decide_eq_true_eq,Bool.not_eq_true',decide_eq_false_iff_not]
def cr (a b p:AC):Int:=(b.X-a.X)*(p.Y-a.Y)-(b.Y-a.Y)*(p.X-a.X)
def d2 (p c:AC):Int:=(p.X-c.X)*(p.X-c.X)+(p.Y-c.Y)*(p.Y-c.Y)
def InB (e:AF) (p:AC):Prop:=(min e.A.X e.B.X<=p.X/\p.X<=max e.A.X e.B.X)/\min e.A.Y e.B.Y<=p.Y/\p.Y<=max e.A.Y e.B.Y
instance (e:AF) (p:AC):Decidable (InB e p):=by unfold InB;infer_instance
def up (e:AF):Int:=if e.A.Y<e.B.Y then 1 else if e.B.Y<e.A.Y then -1 else 0
def FD (e:AF):Prop:=e.C.X<e.A.X\/e.C.X<e.B.X
instance (e:AF):Decidable (FD e):=by unfold FD;infer_instance
def Bey (e:AF) (p:AC):Prop:=if e.Kind=1 then (if e.A.Y<e.B.Y then 0<cr e.A e.B p else cr e.A e.B p<0) else if FD e then d2 p e.C<d2 e.A e.C else d2 e.A e.C<d2 p e.C
instance (e:AF) (p:AC):Decidable (Bey e p):=by unfold Bey;infer_instance
def InR (e:AF) (p:AC):Prop:=(min e.A.Y e.B.Y<=p.Y/\p.Y<max e.A.Y e.B.Y)/\p.X<max e.A.X e.B.X
instance (e:AF) (p:AC):Decidable (InR e p):=by unfold InR;infer_instance
def Gt (e:AF) (p:AC):Int:=if OkE e/\InR e p/\(p.X<min e.A.X e.B.X\/Bey e p) then up e else 0
theorem sH {e:AF} (h:OkE e) (hk:e.Kind≠1):Odd e/\((e.B.X-e.C.X = -(e.A.Y-e.C.Y)/\e.B.Y-e.C.Y=e.A.X-e.C.X)\/(e.B.X-e.C.X=e.A.Y-e.C.Y/\e.B.Y-e.C.Y = -(e.A.X-e.C.X))):=by
 obtain ⟨_,h⟩:=h
 rcases h with ⟨h,_⟩ | ⟨h,h1,h2⟩ | ⟨h,h1,h2⟩
 ·exact absurd h hk
 ·exact ⟨h1,.inl h2⟩
 exact ⟨h1,.inr h2⟩
theorem OC {e:AF} (h:Odd e):(e.A.X-e.C.X=0/\e.A.Y-e.C.Y≠0)\/(e.A.X-e.C.X≠0/\e.A.Y-e.C.Y=0):=by
 unfold Odd at h
 by_cases h1:e.A.X-e.C.X=0 <;> by_cases h2:e.A.Y-e.C.Y=0 <;> simp_all
theorem lA {e:AF} {p:AC} (h:Em e) (hp:InB e p):RP p:=by
 obtain ⟨ha,hb,hc⟩:=h
 unfold InB at hp
 unfold RP C27 at *
 omega
theorem oE {e:AF} {p:AC} (h:Em e) (hp:RP p):Ex e.A e.B p=if 0<cr e.A e.B p then 1 else if cr e.A e.B p<0 then -1 else 0:=by
 obtain ⟨ha,hb,hc⟩:=h
 have:BP (AM e.B e.A) (AM p e.A)=cr e.A e.B p:=by
  rw [JD hb ha,JD hp ha,mG (LG hb ha) (LG hp ha)]
  rfl
 unfold Ex
 rw [this]
 simp only [Ja,decide_eq_true_eq]
theorem iS {e:AF} {p:AC} (h:Em e) (hp:RP p):Dm e p=d2 p e.C-d2 e.A e.C:=by
 obtain ⟨ha,hb,hc⟩:=h
 unfold Dm
 rw [JD hp hc,JD ha hc,Yl (LG hp hc) (LG hp hc),Yl (LG ha hc) (LG ha hc)]
 have h1:=LG hp hc
 have h2:=LG ha hc
 unfold R28 at h1 h2
 have b1:=b54 h1.1 h1.1
 have b2:=b54 h1.2 h1.2
 have b3:=b54 h2.1 h2.1
 have b4:=b54 h2.2 h2.2
 rw [Af (by simp only at *;omega) (by simp only at *;omega)]
 rfl
theorem tA (e:AF):B2 e=up e:=by
 unfold B2 up
 simp only [Ja,decide_eq_true_eq]
theorem tX {e:AF} {p:AC} (h:InR e p) (hx:¬ p.X<min e.A.X e.B.X):InB e p:=by
 unfold InR at h
 unfold InB
 omega
theorem QX (e:AF) (p:AC) (g:Bool) (hg:OkE e->InR e p->¬ p.X<min e.A.X e.B.X->(g=true↔Bey e p)) :
  (bif bif bif bif !decide (OkE e) then true else decide ((p.Y:Int)<(BA e).Y0) then true else decide (((BA e).Y1:Int)<=p.Y) then true else decide (((BA e).X1:Int)<=p.X) then 0 else (bif bif decide ((p.X:Int)<(BA e).X0) then true else g then (B2 e) else 0))=Gt e p:=by
 unfold Gt
 rw [tA]
 unfold BA
 simp only [Yp]
 simp only [Ja,Bool.or_eq_true,Bool.not_eq_true',decide_eq_true_eq,decide_eq_false_iff_not]
 by_cases h:OkE e
 ·by_cases hr:InR e p
  ·have h1:¬ (((¬ OkE e\/p.Y<min e.A.Y e.B.Y)\/max e.A.Y e.B.Y<=p.Y)\/max e.A.X e.B.X<=p.X):=by
    unfold InR at hr
    rintro (((h1 | h1) | h1) | h1)
    ·exact h1 h
    all_goals omega
   rw [if_neg h1]
   by_cases hx:p.X<min e.A.X e.B.X
   ·rw [if_pos (.inl hx),if_pos ⟨h,hr,.inl hx⟩]
   have:=hg h hr hx
   by_cases hb:Bey e p
   ·rw [if_pos (.inr (this.2 hb)),if_pos ⟨h,hr,.inr hb⟩]
   rw [if_neg,if_neg]
   ·rintro ⟨_,_,h3 | h3⟩
    ·exact hx h3
    exact hb h3
   rintro (h3 | h3)
   ·exact hx h3
   exact hb (this.1 h3)
  rw [if_pos,if_neg (fun h=>hr h.2.1)]
  unfold InR at hr
  by_cases h2:p.Y<min e.A.Y e.B.Y
  ·exact .inl (.inl (.inr h2))
  by_cases h3:max e.A.Y e.B.Y<=p.Y
  ·exact .inl (.inr h3)
  refine .inr ?_
  omega
 rw [if_pos (.inl (.inl (.inl h))),if_neg (fun k=>h k.1)]
theorem nG {e:AF} {p:AC} (h:OkE e) (hk:e.Kind=1) (hr:InR e p) (hx:¬ p.X<min e.A.X e.B.X):F2 e p=true↔Bey e p:=by
 unfold F2
 rw [oE h.1 (lA h.1 (tX hr hx)),tA,decide_eq_true_eq]
 unfold Bey up InR at *
 rw [if_pos hk]
 by_cases hu:e.A.Y<e.B.Y
 ·rw [if_pos hu,if_pos hu]
  split
  ·omega
  split <;> omega
 have:e.B.Y<e.A.Y:=by omega
 rw [if_neg hu,if_neg hu,if_pos this]
 split
 ·omega
 split <;> omega
theorem half {e:AF} (h:OkE e) (hk:e.Kind≠1):(FD e/\min e.A.X e.B.X=e.C.X/\e.C.X<max e.A.X e.B.X)\/(¬ FD e/\max e.A.X e.B.X=e.C.X/\min e.A.X e.B.X<e.C.X):=by
 obtain ⟨ho,h2⟩:=sH h hk
 have h1:=OC ho
 unfold FD
 omega
theorem So {e:AF} {p:AC} (h:OkE e) (hk:e.Kind≠1) (hr:InR e p) (hx:¬ p.X<min e.A.X e.B.X):DA e p=true↔Bey e p:=by
 unfold DA
 rw [iS h.1 (lA h.1 (tX hr hx))]
 unfold Bey
 rw [if_neg hk]
 simp only [Yp,F9]
 simp only [Ja]
 unfold InR at hr
 rcases half h hk with ⟨h1,h2,h3⟩ | ⟨h1,h2,h3⟩
 ·have e1:(decide (e.C.X<e.A.X)||decide (e.C.X<e.B.X))=true:=by simpa [FD] using h1
  rw [e1,if_pos rfl,if_pos h1]
  simp only [Bool.or_eq_true,decide_eq_true_eq]
  omega
 have e1:(decide (e.C.X<e.A.X)||decide (e.C.X<e.B.X))=false:=by simpa [FD] using h1
 rw [e1,if_neg (by decide),if_neg h1]
 simp only [Bool.and_eq_true,decide_eq_true_eq]
 omega
theorem T0 (e:AF) (p:AC):Ik e p=Gt e p:=by
 obtain ⟨k,a0,a1,a2⟩:=e
 unfold Ik
 by_cases k1:k=1
 ·subst k1
  simp only [if_true,S4,Z02,Z01,Z00]
  rw [HL a0 a1 a2 1,tH]
  exact QX _ _ _ fun h1 h2 h3=>nG h1 rfl h2 h3
 by_cases k2:k=2
 ·subst k2
  simp only [k1,if_false,if_true,S3,Z05,Z04,Z03]
  rw [HL a0 a1 a2 2,tG]
  exact QX _ _ _ fun h1 h2 h3=>So h1 (by show ¬ (_:Int)=_;simp only;decide) h2 h3
 by_cases k3:k=3
 ·subst k3
  simp only [k1,k2,if_false,if_true,S0,Z08,Z07,Z06]
  rw [HL a0 a1 a2 3,tF]
  exact QX _ _ _ fun h1 h2 h3=>So h1 (by show ¬ (_:Int)=_;simp only;decide) h2 h3
 simp only [k1,k2,k3,if_false,Wo]
 unfold Gt
 rw [if_neg]
 intro h
 have:=UE h.1
 simp only at this
 omega
def NI (e:AF):Prop:=((-300<=e.A.X/\e.A.X<=300) /\ -300<=e.A.Y/\e.A.Y<=300)/\((-300<=e.B.X/\e.B.X<=300) /\ -300<=e.B.Y/\e.B.Y<=300)/\(-300<=e.C.X/\e.C.X<=300) /\ -300<=e.C.Y/\e.C.Y<=300
theorem Fs {α:Type} [Inhabited α] {l:List α} {k:Nat} (h:k<l.length):l.drop k=l.getD k default::l.drop (k+1):=by
 rw [List.drop_eq_getElem_cons h,List.getD_eq_getElem?_getD,List.getElem?_eq_getElem h]
 rfl
theorem Fp {α:Type} [Inhabited α] {l:List α} {k:Nat} (h:k<l.length):l.getD k default∈l:=by
 rw [List.getD_eq_getElem?_getD,List.getElem?_eq_getElem h]
 exact List.getElem_mem h
def Rl:List AF->Int
 | []=>0
 | e::l=>if Ha e=0 then Rl l else Ha e
def MS (s:AP):Prop:=(∀ i,i+1<s.Edges.length->(s.Edges.getD i default).B=(s.Edges.getD (i+1) default).A)/\(s.Kind=2->(s.Edges.getD (s.Edges.length-1) default).B=(s.Edges.getD 0 default).A)
open Classical in
noncomputable def Pg (s:AP):Int :=
 if ¬ (s.Kind=1\/s.Kind=2)\/s.Edges.length=0\/(s.Kind=2/\s.Edges.length<2) then 12
 else if 40<s.Edges.length then 2
 else if Rl s.Edges≠0 then Rl s.Edges
 else if ¬ MS s then 12
 else if (s.Kind=2/\s.R≠0)\/s.R<0\/4194304<s.R then 3 else 0
theorem O3 (e:AF):Ha e=0↔OkE e:=by
 unfold Ha
 by_cases h:OkE e
 ·simp [h]
 simp only [h,if_false,iff_false];split <;> decide
theorem OT:∀ (l:List AF),Rl l=0↔∀ e∈l,OkE e
 | []=>by simp [Rl]
 | e::l=>by
  unfold Rl
  by_cases h:Ha e=0
  ·simp only [h,if_true,OT l,List.mem_cons,forall_eq_or_imp,(O3 e).1 h,true_and]
  simp only [h,if_false,List.mem_cons,forall_eq_or_imp,false_iff]
  exact fun hh=>h ((O3 e).2 hh.1)
def Ut (s:AP) (x:Nat):Bool := !(decide ((jnA s.Edges x).B.X=(jnB s.Edges x).A.X)&&(decide ((jnA s.Edges x).B.Y=(jnB s.Edges x).A.Y)&&true))
theorem aU (s:AP) (x:Nat):Ut s x=false↔(jnA s.Edges x).B=(jnB s.Edges x).A:=by
 unfold Ut
 generalize (jnA s.Edges x).B=a
 generalize (jnB s.Edges x).A=b
 obtain ⟨a1,a2⟩:=a
 obtain ⟨b1,b2⟩:=b
 simp
def Z8 (s:AP):Int:=bif bif bif bif decide ((s.Kind:Int)=2) then !decide ((s.R:Int)=0) else false then true else decide ((s.R:Int)<0) then true else decide ((4194304:Int)<s.R) then 3 else 0
theorem V6 (s:AP):Z8 s=if (s.Kind=2/\s.R≠0)\/s.R<0\/4194304<s.R then 3 else 0:=by
 unfold Z8
 simp only [F9,Yp]
 simp only [Ja,Bool.or_eq_true,Bool.and_eq_true,decide_eq_true_eq,Bool.not_eq_true',decide_eq_false_iff_not,or_assoc]
theorem tE (s:AP) (v:Int) (K:Int->Int):∀ m x,Cn s v K m x=if (List.range' x m).any (Ut s) then 12 else Z8 s
 | 0,x=>rfl
 | m+1,x=>by
  show (bif Ut s x then (12:Int) else Cn s v K m (x+1))=_
  rw [tE s v K m (x+1),List.range'_succ,List.any_cons]
  cases Ut s x
  ·simp only [Bool.false_or,cond_false]
  simp only [Bool.true_or,cond_true,if_true]
theorem YT (s:AP) (h:1<=s.Edges.length):((List.range' 0 (jnN s.Edges (decide (s.Kind=2)))).any (Ut s)=false)↔MS s:=by
 rw [List.any_eq_false]
 have key:(∀ x∈List.range' 0 (jnN s.Edges (decide (s.Kind=2))),¬ Ut s x=true)↔∀ x,x<jnN s.Edges (decide (s.Kind=2))->(jnA s.Edges x).B=(jnB s.Edges x).A:=by
  constructor
  ·intro hh x hx
   have:=hh x (by simp;omega)
   exact (aU s x).1 (by simpa using this)
  intro hh x hx
  have hx':x<jnN s.Edges (decide (s.Kind=2)):=by simpa using hx
  have:=(aU s x).2 (hh x hx')
  simp [this]
 rw [key]
 unfold MS jnN jnA jnB
 constructor
 ·intro hh
  refine ⟨fun i hi => ?_,fun hk => ?_⟩
  ·have:=hh i (by omega)
   simpa only [hi,if_true] using this
  have:=hh (s.Edges.length-1) (by simp [hk])
  simpa only [show ¬ s.Edges.length-1+1<s.Edges.length by omega,if_false] using this
 rintro ⟨h1,h2⟩ x hx
 by_cases hi:x+1<s.Edges.length
 ·simpa only [hi,if_true] using h1 x hi
 have hk:s.Kind=2:=by
  cases hd:decide (s.Kind=2) with
  | true=>exact oT hd
  | false=>rw [hd] at hx;simp only [cond_false] at hx;omega
 simpa only [hi,if_false] using h2 hk
open Classical in
theorem kP (s:AP) (h1:1<=s.Edges.length):∀ n k:Nat,k<=s.Edges.length->s.Edges.length-k<n->Cc s n (k:Int)=if Rl (s.Edges.drop k)≠0 then Rl (s.Edges.drop k) else if ¬ MS s then 12 else Z8 s
 | 0,k,hk,hn=>by omega
 | n+1,k,hk,hn=>by
  unfold Cc
  by_cases hlt:k<s.Edges.length
  ·rw [decide_eq_true (show (k:Int)<(s.Edges.length:Int) by omega)]
   simp only [cond_true,Int.toNat_natCast]
   rw [Fs hlt]
   simp only [Rl,mK]
   have ih:=kP s h1 n (k+1) (by omega) (by omega)
   by_cases h0:Ha (s.Edges.getD k default)=0
   ·simp only [h0,if_true,decide_true,Bool.not_true,cond_false]
    rw [show ((k:Int)+1)=((k+1:Nat):Int) by omega,ih]
   simp only [h0,if_false,decide_false,Bool.not_false,cond_true,ne_eq,not_false_eq_true,if_true]
  rw [decide_eq_false (show ¬ (k:Int)<(s.Edges.length:Int) by omega)]
  simp only [cond_false]
  rw [List.drop_of_length_le (by omega),Rl,tE]
  have:=YT s h1
  by_cases hj:MS s
  ·rw [this.2 hj];simp [hj]
  have hb:(List.range' 0 (jnN s.Edges (decide (s.Kind=2)))).any (Ut s)=true:=by
   cases hh:(List.range' 0 (jnN s.Edges (decide (s.Kind=2)))).any (Ut s) with
   | true=>rfl
   | false=>exact absurd (this.1 hh) hj
  rw [hb];simp [hj]
theorem dO (s:AP):Cx s=Pg s:=by
 unfold Cx Pg
 by_cases hk1:s.Kind=1
 ·simp only [hk1,decide_true,Bool.not_true,cond_false,true_or,not_true,false_or,show ¬ ((1:Int)=2) by decide,decide_false,false_and,or_false]
  by_cases h0:s.Edges.length=0
  ·simp [h0]
  simp only [show ¬ (s.Edges.length:Int)=0 by omega,h0,decide_false,cond_false,if_false]
  by_cases h40:40<s.Edges.length
  ·simp only [show (40:Int)<(s.Edges.length:Int) by omega,h40,decide_true,cond_true,if_true]
  simp only [show ¬ (40:Int)<(s.Edges.length:Int) by omega,h40,decide_false,cond_false,if_false]
  have:=kP s (by omega) (((s.Edges.length:Int)-0).toNat+1) 0 (by omega) (by omega)
  rw [show ((0:Nat):Int)=0 from rfl] at this
  rw [this,List.drop_zero,V6]
  simp only [hk1,show ¬ ((1:Int)=2) by decide,false_and,false_or]
 by_cases hk2:s.Kind=2
 ·simp only [hk2,decide_true,Bool.not_true,cond_false,cond_true,or_true,not_true,false_or,true_and,show ¬ ((2:Int)=1) by decide,decide_false,Bool.not_false]
  by_cases h0:s.Edges.length=0
  ·simp [h0]
  simp only [show ¬ (s.Edges.length:Int)=0 by omega,h0,decide_false,cond_false,if_false,false_or]
  by_cases h2:s.Edges.length<2
  ·simp only [show (s.Edges.length:Int)<2 by omega,h2,decide_true,cond_true,if_true]
  simp only [show ¬ (s.Edges.length:Int)<2 by omega,h2,decide_false,cond_false,if_false]
  by_cases h40:40<s.Edges.length
  ·simp only [show (40:Int)<(s.Edges.length:Int) by omega,h40,decide_true,cond_true,if_true]
  simp only [show ¬ (40:Int)<(s.Edges.length:Int) by omega,h40,decide_false,cond_false,if_false]
  have:=kP s (by omega) (((s.Edges.length:Int)-0).toNat+1) 0 (by omega) (by omega)
  rw [show ((0:Nat):Int)=0 from rfl] at this
  rw [this,List.drop_zero,V6]
  simp only [hk2,true_and]
 simp [hk1,hk2]
def OkS (s:AP):Prop:=((s.Kind=1\/s.Kind=2)/\(1<=s.Edges.length/\s.Edges.length<=40)/\(s.Kind=2->2<=s.Edges.length))/\(∀ e∈s.Edges,OkE e)/\MS s/\(0<=s.R/\s.R<=4194304)/\(s.Kind=2->s.R=0)
theorem Uk (s:AP):Pg s=0↔OkS s:=by
 unfold Pg OkS
 constructor
 ·intro h
  split at h
  ·cases h
  rename_i h1
  split at h
  ·cases h
  rename_i h2
  split at h
  ·rename_i h3;exact absurd h h3
  rename_i h3
  split at h
  ·cases h
  rename_i h4
  split at h
  ·cases h
  rename_i h5
  have hE:=(OT _).1 (Decidable.not_not.1 h3)
  have hJ:=Classical.not_not.1 h4
  refine ⟨⟨?_,?_,?_⟩,hE,hJ,?_,?_⟩ <;> omega
 rintro ⟨⟨h1,h2,h3⟩,h4,h5,h6,h7⟩
 rw [if_neg (by omega),if_neg (by omega),if_neg (by have:=(OT _).2 h4;omega),if_neg (fun h=>h h5),if_neg (by omega)]
def Ch:AC->List AF->AC->Prop
 | a,[],b=>a=b
 | a,e::l,b=>e.A=a/\Ch e.B l b
theorem aM:∀ {l:List AF} {a b:AC},Ch a l b->l≠[]->(∀ i,i+1<l.length->(l.getD i default).B=(l.getD (i+1) default).A)/\(l.getD 0 default).A=a/\(l.getD (l.length-1) default).B=b
 | [],a,b,h,hn=>absurd rfl hn
 | [e],a,b,h,_=>⟨fun i hi=>absurd hi (by simp),h.1,h.2⟩
 | e::f::l,a,b,h,_=>by
  obtain ⟨h1,h2⟩:=h
  obtain ⟨g1,g2,g3⟩:=aM (l:=f::l) h2 (by simp)
  refine ⟨fun i hi => ?_,h1,?_⟩
  ·cases i with
   | zero=>exact g2.symm
   | succ i=>exact g1 i (by simpa using hi)
  simpa using g3
theorem tY:∀ {l:List AF},l≠[]->(∀ i,i+1<l.length->(l.getD i default).B=(l.getD (i+1) default).A)->Ch (l.getD 0 default).A l (l.getD (l.length-1) default).B
 | [],hn,_=>absurd rfl hn
 | [e],_,_=>⟨rfl,rfl⟩
 | e::f::l,_,h=>by
  have g:=tY (l:=f::l) (by simp) fun i hi=>h (i+1) (by simpa using hi)
  refine ⟨rfl,?_⟩
  have h0:e.B=f.A:=h 0 (by simp)
  have g':Ch f.A (f::l) ((f::l).getD ((f::l).length-1) default).B:=g
  rw [h0]
  simpa using g'
theorem YS {s:AP} (h:s.Edges≠[]):MS s↔∃ a b,Ch a s.Edges b/\(s.Kind=2->a=b):=by
 constructor
 ·rintro ⟨h1,h2⟩
  exact ⟨_,_,tY h h1,fun hk=>(h2 hk).symm⟩
 rintro ⟨a,b,hc,hk⟩
 obtain ⟨g1,g2,g3⟩:=aM hc h
 exact ⟨g1,fun h2=>by rw [g3,g2];exact (hk h2).symm⟩
def Ob (s:AP):Prop:=OkS s/\(∀ e∈s.Edges,NI e)/\s.R<=40/\s.Edges.length<=8
def Kc (p:AC):Prop:=(-300<=p.X/\p.X<=300) /\ -300<=p.Y/\p.Y<=300
theorem gU {k:Int} {a b c:AC} (ha:Kc a) (hb:Kc b) (hc:Kc c):NI ⟨k,a,b,c⟩:=⟨ha,hb,hc⟩
theorem ZZ {p:AC} (h:Kc p):RP p:=by unfold Kc at h;unfold RP C27;omega
theorem US {a b:AC} (ha:Kc a) (hb:Kc b):OkE ⟨1,a,b,⟨0,0⟩⟩/\NI ⟨1,a,b,⟨0,0⟩⟩ :=
 ⟨⟨⟨ZZ ha,ZZ hb,by unfold RP C27;simp only;omega⟩,.inl ⟨rfl,rfl,rfl⟩⟩,gU ha hb (by unfold Kc;simp only;omega)⟩
theorem rW {p:AC} {r:Int} (hp:Kc p) (hr:0<=r/\r<=40):Ob (IC p r):=by
 obtain ⟨h1,h2⟩:=US hp hp
 refine ⟨⟨⟨.inl rfl,⟨Nat.le_refl 1,?_⟩,fun h => ?_⟩,fun e he => ?_,⟨fun i hi => ?_,fun h => ?_⟩,⟨hr.1,?_⟩,fun h => ?_⟩,fun e he => ?_,hr.2,?_⟩
 ·show 1<=40;decide
 ·cases h
 ·rw [List.mem_singleton.1 he];exact h1
 ·have hi:i+1<1:=hi
  omega
 ·cases h
 ·show r<=4194304;omega
 ·cases h
 ·rw [List.mem_singleton.1 he];exact h2
 show 1<=8;decide
def Jq (l:List AC):Nat->Nat->List AF
 | 0,_=>[]
 | n+1,k=>⟨1,l.getD k default,l.getD ((k+1) % l.length) default,⟨0,0⟩⟩::Jq l n (k+1)
theorem Z7 (l:List AC) (hl:l.length<=1000000):∀ (n k:Nat) (s:List AF),k<=l.length->l.length-k<n->HY l n s (k:Int)=⟨2,s++Jq l (l.length-k) k,0⟩
 | 0,k,s,hk,hn=>by omega
 | n+1,k,s,hk,hn=>by
  unfold HY
  by_cases hlt:k<l.length
  ·rw [decide_eq_true (show (k:Int)<(l.length:Int) by omega)]
   simp only [cond_true,Int.toNat_natCast]
   have ih:=fun s=>Z7 l hl n (k+1) s (by omega) (by omega)
   rw [show ((k:Int)+1)=((k+1:Nat):Int) by omega,ih]
   obtain ⟨m,hm⟩:∃ m,l.length-k=m+1:=⟨l.length-k-1,by omega⟩
   rw [hm,show l.length-(k+1)=m by omega]
   have ew:Z1i l (k:Int)=l.getD ((k+1) % l.length) default:=by
    unfold Z1i
    rw [Af (by omega) (by omega),Int.tmod_eq_emod_of_nonneg (by omega)]
    congr 1
   rw [ew]
   simp [Jq]
  rw [decide_eq_false (show ¬ (k:Int)<(l.length:Int) by omega)]
  have:l.length-k=0:=by omega
  simp [this,Jq]
theorem rK (l:List AC) (hl:l.length<=1000000):O8 l=⟨2,Jq l l.length 0,0⟩:=by
 unfold O8
 have:=Z7 l hl (((l.length:Int)-0).toNat+1) 0 [] (by omega) (by omega)
 rw [show ((0:Nat):Int)=0 from rfl] at this
 rw [this]
 simp
theorem SJ (l:List AC):∀ n k,(Jq l n k).length=n
 | 0,k=>rfl
 | n+1,k=>by simp [Jq,SJ l n]
theorem V3 (l:List AC):∀ n k,0<n->k+n=l.length->Ch (l.getD k default) (Jq l n k) (l.getD 0 default)
 | 0,k,h,_=>by omega
 | 1,k,_,hk=>by
  refine ⟨rfl,?_⟩
  show l.getD ((k+1) % l.length) default=l.getD 0 default
  rw [hk,Nat.mod_self]
 | n+2,k,_,hk=>by
  refine ⟨rfl,?_⟩
  show Ch (l.getD ((k+1) % l.length) default) (Jq l (n+1) (k+1)) _
  rw [Nat.mod_eq_of_lt (by omega)]
  exact V3 l (n+1) (k+1) (by omega) (by omega)
theorem lJ {P:AC->Prop} {l:List AC} (h:∀ p∈l,P p) {k:Nat} (hk:k<l.length):P (l.getD k default):=h _ (Fp hk)
theorem Qt (l:List AC) (hp:∀ p∈l,Kc p) (hl:0<l.length):∀ n k,k+n<=l.length->∀ e∈Jq l n k,OkE e/\NI e
 | 0,k,_,e,he=>by cases he
 | n+1,k,hk,e,he=>by
  rcases List.mem_cons.1 he with rfl | he
  ·exact US (lJ hp (by omega)) (lJ hp (Nat.mod_lt _ hl))
  exact Qt l hp hl n (k+1) (by omega) e he
theorem rJ {l:List AC} (h2:2<=l.length/\l.length<=8) (hp:∀ p∈l,Kc p):Ob (O8 l):=by
 rw [rK l (by omega)]
 have hg:=Qt l hp (by omega) l.length 0 (by omega)
 have hlen:=SJ l l.length 0
 refine ⟨⟨⟨.inr rfl,⟨by simp only [hlen];omega,by simp only [hlen];omega⟩,fun _=>by simp only [hlen];omega⟩,fun e he=>(hg e he).1,?_,⟨Int.le_refl 0,(by decide:(0:Int)<=4194304)⟩,fun _=>rfl⟩,fun e he=>(hg e he).2,(by decide:(0:Int)<=40),by simp only [hlen];omega⟩
 refine (YS (fun h => ?_)).2 ⟨_,_,V3 l l.length 0 (by omega) (by omega),fun _=>rfl⟩
 have:(Jq l l.length 0).length=0:=by rw [show Jq l l.length 0=[] from h];rfl
 omega
theorem oS {r:Ak} (h:((-300<=r.X0/\r.X0<=300) /\ -300<=r.Y0/\r.Y0<=300)/\(-300<=r.X1/\r.X1<=300) /\ -300<=r.Y1/\r.Y1<=300):Ob (FT r):=by
 unfold FT Z1l
 refine rJ ⟨by simp,by simp⟩ fun p hp => ?_
 simp only [List.mem_cons,List.not_mem_nil,or_false] at hp
 unfold Kc
 rcases hp with rfl | rfl | rfl | rfl <;> simp only <;> omega
theorem Vr (s:AP) (m:Ae):∀ (n k:Nat) (l:List AF),k<=s.Edges.length->s.Edges.length-k<n->l=(s.Edges.take k).map (fun e=>EC e m)++s.Edges.drop k->F4 s m n l (k:Int)=⟨s.Kind,s.Edges.map (fun e=>EC e m),s.R⟩
 | 0,k,l,hk,hn,_=>by omega
 | n+1,k,l,hk,hn,hl=>by
  unfold F4
  by_cases hlt:k<s.Edges.length
  ·rw [decide_eq_true (show (k:Int)<((s.Edges.length:Nat):Int) by omega)]
   simp only [cond_true,Int.toNat_natCast]
   rw [show ((k:Int)+1)=((k+1:Nat):Int) by omega]
   refine Vr s m n (k+1) _ (by omega) (by omega) ?_
   subst hl
   have hlen:((s.Edges.take k).map (fun e=>EC e m)).length=k:=by simp;omega
   have hd:s.Edges.drop k=s.Edges[k]::s.Edges.drop (k+1):=List.drop_eq_getElem_cons hlt
   rw [hd]
   have h1:((s.Edges.take k).map (fun e=>EC e m)++s.Edges[k]::s.Edges.drop (k+1)).getD k default=s.Edges[k]:=by
    rw [List.getD_eq_getElem?_getD,List.getElem?_append_right (by omega),hlen,Nat.sub_self];rfl
   rw [h1,List.set_append_right _ _ (by omega),hlen,Nat.sub_self,List.set_cons_zero,List.take_succ_eq_append_getElem hlt,List.map_append,List.append_assoc]
   rfl
  rw [decide_eq_false (show ¬ (k:Int)<((s.Edges.length:Nat):Int) by omega)]
  subst hl
  rw [List.drop_of_length_le (by omega),List.take_of_length_le (by omega),List.append_nil]
  rfl
theorem Vs (s:AP) (m:Ae):D1 s m=⟨s.Kind,s.Edges.map (fun e=>EC e m),s.R⟩:=by
 unfold D1
 have:=Vr s m ((((s.Edges.length:Nat):Int)-0).toNat+1) 0 s.Edges (by omega) (by omega) (by simp)
 exact this
theorem cR (s:AP) (m:Ae):(D1 s m).Edges.length=s.Edges.length:=by rw [Vs];simp
theorem sV (t:Int):A64 t 3=t % 4:=by
 unfold A64
 have h3:(BitVec.ofInt 64 3).toNat=2 ^ 2-1:=by decide
 rw [BitVec.toNat_and,h3,Nat.and_two_pow_sub_one_eq_mod,BitVec.toNat_ofInt,IntKind.wrap_i64]
 omega
def MA (m:Bool) (x:Int):Int:=if m=true then -x else x
def mvp (t:Int) (m:Bool) (a p:AC):AC :=
 if t=0 then ⟨MA m p.X+a.X,p.Y+a.Y⟩ else if t=1 then ⟨-p.Y+a.X,MA m p.X+a.Y⟩ else if t=2 then ⟨-MA m p.X+a.X,-p.Y+a.Y⟩ else ⟨p.Y+a.X,-MA m p.X+a.Y⟩
def Sm (p:AC):Prop:=(-100000<=p.X/\p.X<=100000) /\ -100000<=p.Y/\p.Y<=100000
theorem wY (m:Bool) (x:Int) (h : -100000<=x/\x<=100000) : -100000<=MA m x/\MA m x<=100000:=by
 unfold MA
 split <;> omega
theorem wX (m:Bool) (x:Int) (h : -100000<=x/\x<=100000):(bif m then W64 (0-x) else x)=MA m x:=by
 unfold MA
 rw [Af (by omega) (by omega)]
 cases m
 ·rfl
 show 0-x = -x
 omega
theorem Kz (m:Ae) (p:AC) (hp:Sm p) (ha:Sm m.At):AZ m p=mvp (m.Turn % 4) m.Mirror m.At p:=by
 have ht:B3 m=m.Turn % 4:=sV m.Turn
 unfold AZ mvp
 unfold Sm at hp ha
 rw [wX m.Mirror p.X hp.1]
 have hf:=wY m.Mirror p.X hp.1
 generalize MA m.Mirror p.X=x at *
 have h4:m.Turn % 4=0\/m.Turn % 4=1\/m.Turn % 4=2\/m.Turn % 4=3:=by omega
 rcases h4 with h | h | h | h <;> rw [h] at ht ⊢ <;> rw [ht]
 ·show B9 m p 1 ⟨x,p.Y⟩ 0=_
  simp only [B9,ht,Int.reduceLT,decide_false,cond_false,Gu,if_true,AC.mk.injEq,Bx]
  omega
 ·show B9 m p 2 ⟨x,p.Y⟩ 0=_
  simp only [B9,ht,Int.reduceLT,Int.reduceAdd,decide_true,cond_true,decide_false,cond_false,Gu,Int.reduceEq,if_true,if_false,AC.mk.injEq,Bx]
  omega
 ·show B9 m p 3 ⟨x,p.Y⟩ 0=_
  simp only [B9,ht,Int.reduceLT,Int.reduceAdd,decide_true,cond_true,decide_false,cond_false,Gu,Int.reduceEq,if_true,if_false,AC.mk.injEq,Bx]
  omega
 show B9 m p 4 ⟨x,p.Y⟩ 0=_
 simp only [B9,ht,Int.reduceLT,Int.reduceAdd,decide_true,cond_true,decide_false,cond_false,Gu,Int.reduceEq,if_false,AC.mk.injEq,Bx]
 omega
def Hr (e:AF) (t:Int) (m:Bool) (a:AC):AF:=⟨if m=true then (if e.Kind=2 then 3 else if e.Kind=3 then 2 else e.Kind) else e.Kind,mvp t m a e.A,mvp t m a e.B,if e.Kind=1 then e.C else mvp t m a e.C⟩
theorem oC {e:AF} (h:NI e):Sm e.A/\Sm e.B/\Sm e.C:=by
 unfold NI at h
 unfold Sm
 omega
theorem qZ (e:AF) (m:Ae) (h:OkE e) (hs:NI e) (ha:Sm m.At):EC e m=Hr e (m.Turn % 4) m.Mirror m.At:=by
 have hk:=UE h
 obtain ⟨s1,s2,s3⟩:=oC hs
 have e1:=Kz m e.A s1 ha
 have e2:=Kz m e.B s2 ha
 have e3:=Kz m e.C s3 ha
 obtain ⟨k,a0,a1,a2⟩:=e
 simp only at hk e1 e2 e3
 unfold EC Hr
 rcases hk with rfl | rfl | rfl
 ·simp only [if_true,Re,e1,e2]
  cases m.Mirror <;> rfl
 ·simp only [Int.reduceEq,if_false,if_true,Rd,e1,e2,e3]
  cases m.Mirror <;> rfl
 simp only [Int.reduceEq,if_false,if_true,Rc,e1,e2,e3]
 cases m.Mirror <;> rfl
theorem QQ {p:AC} (h:Sm p):RP p:=by
 unfold Sm at h
 unfold RP C27
 omega
theorem YO {t:Int} {m:Bool} {a p:AC} (hp:(-50000<=p.X/\p.X<=50000) /\ -50000<=p.Y/\p.Y<=50000) (ha:(-1000<=a.X/\a.X<=1000) /\ -1000<=a.Y/\a.Y<=1000):Sm (mvp t m a p):=by
 unfold mvp Sm MA
 cases m <;> (repeat' split) <;> simp_all <;> omega
structure Mat where
 a:Int
 b:Int
 c:Int
 d:Int
def Mat.ok (M:Mat) (s:Int):Prop:=(M.a=0/\M.d=0/\(M.b=1\/M.b = -1)/\M.c = -s*M.b)\/(M.b=0/\M.c=0/\(M.a=1\/M.a = -1)/\M.d=s*M.a)
def Mat.ap (M:Mat) (o p:AC):AC:=⟨M.a*p.X+M.b*p.Y+o.X,M.c*p.X+M.d*p.Y+o.Y⟩
theorem qY (t:Int) (m:Bool) (a:AC):∃ M:Mat,M.ok (if m=true then -1 else 1)/\∀ p,mvp t m a p=M.ap a p:=by
 unfold mvp MA
 by_cases h0:t=0
 ·cases m
  ·exact ⟨⟨1,0,0,1⟩,.inr (by simp),fun p=>by simp [h0,Mat.ap]⟩
  exact ⟨⟨-1,0,0,1⟩,.inr (by simp),fun p=>by simp [h0,Mat.ap]⟩
 by_cases h1:t=1
 ·cases m
  ·exact ⟨⟨0,-1,1,0⟩,.inl (by simp),fun p=>by simp [h1,Mat.ap]⟩
  exact ⟨⟨0,-1,-1,0⟩,.inl (by simp),fun p=>by simp [h1,Mat.ap]⟩
 by_cases h2:t=2
 ·cases m
  ·exact ⟨⟨-1,0,0,-1⟩,.inr (by simp),fun p=>by simp [h2,Mat.ap]⟩
  exact ⟨⟨1,0,0,-1⟩,.inr (by simp),fun p=>by simp [h2,Mat.ap]⟩
 cases m
 ·exact ⟨⟨0,1,-1,0⟩,.inl (by simp),fun p=>by simp [h0,h1,h2,Mat.ap]⟩
 exact ⟨⟨0,1,1,0⟩,.inl (by simp),fun p=>by simp [h0,h1,h2,Mat.ap]⟩
theorem wF {e:AF} {t:Int} {m:Bool} {o:AC} (h:OkE e) (hs:NI e) (ha:(-1000<=o.X/\o.X<=1000) /\ -1000<=o.Y/\o.Y<=1000):OkE (Hr e t m o):=by
 have hs':=hs
 unfold NI at hs'
 refine ⟨⟨QQ (YO (by omega) ha),QQ (YO (by omega) ha),?_⟩,?_⟩
 ·show RP (if e.Kind=1 then e.C else mvp t m o e.C)
  split
  ·exact h.1.2.2
  exact QQ (YO (by omega) ha)
 obtain ⟨M,hM,hmv⟩:=qY t m o
 have h2:=h.2
 unfold Y8 Hr at *
 simp only [hmv]
 obtain ⟨a,b,c,d⟩:=M
 obtain ⟨k,a0,a1,a2⟩:=e
 unfold Mat.ok at hM
 rcases h2 with ⟨hk,h3,h4⟩ | ⟨hk,h3,h4,h5⟩ | ⟨hk,h3,h4,h5⟩
 ·simp only at hk
  subst hk
  left
  cases m <;> simp_all
 ·simp only at hk
  subst hk
  have h6:=OC h3
  simp only at h4 h5 h6
  cases m
  ·right;left
   simp only [QL,Odd,Mat.ap] at *
   rcases hM with ⟨rfl,rfl,hb,rfl⟩ | ⟨rfl,rfl,hb,rfl⟩ <;> rcases hb with rfl | rfl <;> simp <;> omega
  right;right
  simp only [QR,Odd,Mat.ap] at *
  rcases hM with ⟨rfl,rfl,hb,rfl⟩ | ⟨rfl,rfl,hb,rfl⟩ <;> rcases hb with rfl | rfl <;> simp <;> omega
 simp only at hk
 subst hk
 have h6:=OC h3
 simp only at h4 h5 h6
 cases m
 ·right;right
  simp only [QR,Odd,Mat.ap] at *
  rcases hM with ⟨rfl,rfl,hb,rfl⟩ | ⟨rfl,rfl,hb,rfl⟩ <;> rcases hb with rfl | rfl <;> simp <;> omega
 right;left
 simp only [QL,Odd,Mat.ap] at *
 rcases hM with ⟨rfl,rfl,hb,rfl⟩ | ⟨rfl,rfl,hb,rfl⟩ <;> rcases hb with rfl | rfl <;> simp <;> omega
theorem Km {α:Type} [Inhabited α] (lt:α->α->Bool) (l:List α) (h:∀ k,k+1<l.length->lt (l.getD (k+1) default) (l.getD k default)=false):Cd lt l=l:=by
 have key:∀ n,n<=l.length->Cd lt (l.take n)=l.take n:=by
  intro n
  induction n with
  | zero=>intro _;rfl
  | succ n ih =>
   intro hn
   have e:l.take (n+1)=l.take n++[l.getD n default]:=by
    rw [List.take_succ_eq_append_getElem (by omega),List.getD_eq_getElem?_getD,List.getElem?_eq_getElem (by omega)];rfl
   rw [e,Ox,ih (by omega)]
   have hl:(l.take n).length=n:=by rw [List.length_take];omega
   have hp:JN (lt (l.getD n default)) (l.take n) (l.take n).length=n:=by
    rw [hl]
    cases n with
    | zero=>rfl
    | succ m =>
     unfold JN
     rw [show (l.take (m+1)).getD m default=l.getD m default by rw [List.getD_eq_getElem?_getD,List.getElem?_take_of_lt (by omega),<- List.getD_eq_getElem?_getD],h m (by omega)]
     rfl
   unfold WA
   rw [hp,List.take_of_length_le (by omega),List.drop_eq_nil_of_le (by omega)]
 have:=key l.length (Nat.le_refl _)
 rwa [List.take_length] at this
theorem Ui {x y:Int} (h:y<=x):decide (CB x y<0)=false:=by
 unfold CB Fy
 by_cases h2:y<x
 ·simp [show ¬ x<y by omega,h2]
 simp [show ¬ x<y by omega,h2]
theorem L7 {B:AH} {T:List AQ} {l:List (List Int)} (h:EO B T l):CI B.Parts=B.Parts:=by
 rw [nV]
 exact Km _ _ fun k hk=>Ui (by rw [(h.par k (by omega)).id,(h.par (k+1) hk).id];omega)
theorem Mv {B:AH} {T:List AQ} {l:List (List Int)} (h:EO B T l) {p:AE} (hp:p∈B.Parts):∃ a,BQ T p.Type'=(A6 a p.Type',true):=by
 obtain ⟨k,_,_,hm⟩:=KS h.par hp
 obtain ⟨a,e,_⟩:=QM l hm.typ
 rw [<- Im,h.types]
 exact ⟨a,e⟩
theorem cT {B:AH} {T:List AQ} {l:List (List Int)} (h:EO B T l) {x:AE×A1} (hx:x∈B.Parts.flatMap (CL T)):x.1∈B.Parts/\∃ k,PM k x.2:=by
 obtain ⟨p,hp,hx⟩:=List.mem_flatMap.1 hx
 obtain ⟨a,e⟩:=Mv h hp
 unfold CL at hx
 rw [e] at hx
 obtain ⟨q,hq,rfl⟩:=List.mem_map.1 hx
 obtain ⟨k,_,_,hm⟩:=KS (GH a p.Type') hq
 exact ⟨hp,k,hm⟩
theorem bO (r:Ak):(FT r).Edges.length=4:=rfl
theorem iZ {k:Nat} {p:A1} (h:PM k p):(p.Shape.Edges.length:Int)<=1000000:=by
 obtain ⟨y,_,_,_,h1 | ⟨r,_,_,h1⟩ | h1⟩:=h.shp <;> rw [h1]
 ·rw [bO];decide
 ·show ((1:Nat):Int)<=1000000;decide
 show ((1:Nat):Int)<=1000000;decide
theorem Wa {p:Prop} [Decidable p] {q:Bool} (h:(bif decide p then q else false)=true):p:=by
 by_cases hp:p
 ·exact hp
 rw [decide_eq_false hp] at h;cases h
theorem Qq (l:List (List Int)):Nf (AL l).1:=by
 have h:=L6 l
 obtain ⟨p,q,r,e,h1,h2,h3⟩:=h.net
 refine ⟨by have:=h.parl;omega,by have:=h.trkl;omega,by have:=h.vial;omega,by have:=h.slotl;omega,?_,?_,?_,?_⟩
 ·rw [e];show ((3:Nat):Int)<=1000000;decide
 ·rw [e]
  intro n hn
  simp only [List.mem_cons,List.not_mem_nil,or_false] at hn
  rcases hn with rfl | rfl | rfl <;> (simp only;omega)
 ·intro t ht
  obtain ⟨k,hk,_,hm⟩:=KS h.trk ht
  obtain ⟨a,c,d,_,_,e2⟩:=hm.edg
  rw [e2]
  have:=Si a c d
  omega
 intro s hs
 obtain ⟨r,p,_,_,_,e2⟩:=h.slot s hs
 rw [e2]
 show ((1:Nat):Int)<=1000000
 decide
def uN (t:Ab):Ad:=Ad.mk t.Id ⟨#[]⟩ 2 t.Net t.Layer t.Layer (Dc t.Shape)
def gP (v:A4):Ad:=Ad.mk v.Id ⟨#[]⟩ 3 v.Net v.From v.To (Bu v.At v.R)
theorem bA (b:AH) (types:List AQ):DB b types=Df b types++(BK b).map uN++(Az b).map gP:=by
 have h1:∀ out v16 K0 ,Ht b types out v16 K0 (((((Az b).length:Nat):Int)-0).toNat+1) out 0=out++(Az b).map gP:=fun out v16 K0=>by
  have:=L9 (Az b) (fun acc v=>acc++[gP v]) (Ht b types out v16 K0) (fun acc _=>acc) (fun m acc v=>by rw [Ht];unfold Z0N;rw [Int.toNat_natCast];rfl) (Az b).length 0 (((((Az b).length:Nat):Int)-0).toNat+1) out rfl (Nat.zero_le _) (by omega)
  rw [List.drop_zero,Gy] at this
  exact this
 have:=L9 (BK b) (fun acc t=>acc++[uN t]) (Gw b types) (fun acc _=>acc++(Az b).map gP) (fun m acc v=>by rw [Gw,h1];unfold Z0O;rw [Int.toNat_natCast];rfl) (BK b).length 0 (((((BK b).length:Nat):Int)-0).toNat+1) (Df b types) rfl (Nat.zero_le _) (by omega)
 rw [List.drop_zero,Gy] at this
 exact this
theorem Vz {B:AH} {T:List AQ} {l:List (List Int)} (h:EO B T l):BK B=B.Tracks:=by
 rw [MV]
 exact Km _ _ fun k hk=>by
  show decide (CB (B.Tracks.getD (k+1) default).Id (B.Tracks.getD k default).Id<0)=false
  exact Ui (by rw [(h.trk k (by omega)).id,(h.trk (k+1) hk).id];omega)
theorem SC {B:AH} {T:List AQ} {l:List (List Int)} (h:EO B T l):Az B=B.Vias:=by
 rw [Wg]
 exact Km _ _ fun k hk=>by
  show decide (CB (B.Vias.getD (k+1) default).Id (B.Vias.getD k default).Id<0)=false
  exact Ui (by rw [(h.via k (by omega)).id,(h.via (k+1) hk).id];omega)
theorem Qr {B:AH} {T:List AQ} {l:List (List Int)} (h:EO B T l):DB B T=(B.Parts.flatMap (CL T)).map (H7 B (R8 B))++B.Tracks.map uN++B.Vias.map gP:=by
 rw [bA,Wp,Vz h,SC h]
 unfold Ai
 rw [L7 h]
theorem rE {B:AH} {T:List AQ} {l:List (List Int)} (h:EO B T l) (hb:Nf B):∀ x∈DB B T,(x.Shape.Edges.length:Int)<=1000000:=by
 intro x hx
 rw [Qr h] at hx
 rcases List.mem_append.1 hx with hx | hx
 ·rcases List.mem_append.1 hx with hx | hx
  ·obtain ⟨y,hy,rfl⟩:=List.mem_map.1 hx
   obtain ⟨_,k,hm⟩:=cT h hy
   show ((D1 y.2.Shape _).Edges.length:Int)<=_
   rw [cR]
   exact iZ hm
  obtain ⟨y,hy,rfl⟩:=List.mem_map.1 hx
  exact hb.ted y hy
 obtain ⟨y,hy,rfl⟩:=List.mem_map.1 hx
 show ((1:Nat):Int)<=1000000;decide
theorem kX (l:List (List Int)):∀ k,(((DB (AL l).1 (AL l).2).getD k default).Shape.Edges.length:Int)<=1000000:=Gq (p:=fun x:Ad=>(x.Shape.Edges.length:Int)<=1000000) (by decide) (rE (L6 l) (Qq l))
theorem sI (l:List (List Int)):((DB (AL l).1 (AL l).2).length:Int)<=100000000:=by
 have h:=Qq l
 have h1:=IW h.parts (JM l)
 have h2:=h.tracks
 have h3:=h.vias
 rw [bA]
 simp only [List.length_append,List.length_map,S5,O5,Od]
 omega
def cF (b:AH) (x:AE×A1):Ao:=Ao.mk (Bu (AZ (Bz x.1) x.2.At) (W64 (Int.tdiv x.2.Drill 2))) 1 b.Layers true
def bG (v:A4):Ao:=Ao.mk (Bu v.At (W64 (Int.tdiv v.Drill 2))) v.From v.To true
def Ok (b:AH) (s:Ar):Ao:=Ao.mk (Dc s.Shape) 1 b.Layers false
def drl (x:AE×A1):Bool := !decide (x.2.Drill=0)
theorem Q2 {α β γ:Type} (p:β->Bool) (f:β->γ) (g:α->β):∀ (xs:List α) (acc:List γ),xs.foldl (fun acc x=>bif p (g x) then acc++[f (g x)] else acc) acc=acc++((xs.map g).filter p).map f
 | [],acc=>(List.append_nil acc).symm
 | x::xs,acc=>by
  rw [List.foldl_cons,Q2 p f g xs,List.map_cons]
  cases hq:p (g x) with
  | true=>rw [List.filter_cons_of_pos hq,List.map_cons];simp
  | false=>rw [List.filter_cons_of_neg (by rw [hq];decide)];rfl
theorem Oz {α γ:Type} (f:α->List γ):∀ (xs:List α) (acc:List γ),xs.foldl (fun acc x=>acc++f x) acc=acc++xs.flatMap f
 | [],acc=>(List.append_nil acc).symm
 | x::xs,acc=>by rw [List.foldl_cons,Oz f xs,List.flatMap_cons,List.append_assoc]
theorem eD (b:AH) (types:List AQ):EJ b types=((((A2 b).flatMap (CL types)).filter drl).map (cF b))++(Az b).map bG++(Bg b).map (Ok b):=by
 have h3:∀ o v o' w K0 K1,FG b types o v o' w K0 K1 (((((Bg b).length:Nat):Int)-0).toNat+1) o' 0=o'++(Bg b).map (Ok b):=fun o v o' w K0 K1=>by
  have:=L9 (Bg b) (fun acc s=>acc++[Ok b s]) (FG b types o v o' w K0 K1) (fun acc _=>acc) (fun m acc v=>by rw [FG,Int.toNat_natCast];rfl) (Bg b).length 0 (((((Bg b).length:Nat):Int)-0).toNat+1) o' rfl (Nat.zero_le _) (by omega)
  rw [List.drop_zero,Gy] at this
  exact this
 have h2:∀ o v K0,EG b types o v K0 (((((Az b).length:Nat):Int)-0).toNat+1) o 0=o++(Az b).map bG++(Bg b).map (Ok b):=fun o v K0=>by
  have:=L9 (Az b) (fun acc v=>acc++[bG v]) (EG b types o v K0) (fun acc _=>acc++(Bg b).map (Ok b)) (fun m acc w=>by rw [EG,h3,Int.toNat_natCast];rfl) (Az b).length 0 (((((Az b).length:Nat):Int)-0).toNat+1) o rfl (Nat.zero_le _) (by omega)
  rw [List.drop_zero,Gy] at this
  exact this
 have h1:∀ (o:List Ao) (k:Nat) K0,FH b types o (k:Int) K0 ((((BQ types ((A2 b).getD (k:Int).toNat default).Type').1.Pads.length:Int)-0).toNat+1) o 0=K0 (o++((CL types ((A2 b).getD k default)).filter drl).map (cF b)) ((k:Int)+1):=fun o k K0=>by
  rw [Int.toNat_natCast]
  have:=L9 (BQ types ((A2 b).getD k default).Type').1.Pads (fun acc q=>bif drl ((A2 b).getD k default,q) then acc++[cF b ((A2 b).getD k default,q)] else acc) (FH b types o (k:Int) K0) (fun acc _=>K0 acc ((k:Int)+1)) (fun m acc w=>by
   rw [FH,Int.toNat_natCast,Int.toNat_natCast]
   rfl) (BQ types ((A2 b).getD k default).Type').1.Pads.length 0 (((((((BQ types ((A2 b).getD k default).Type').1).Pads).length:Int))-0).toNat+1) o rfl (Nat.zero_le _) (by omega)
  rw [List.drop_zero,Q2 drl (cF b) (fun q=>((A2 b).getD k default,q))] at this
  exact this
 have:=L9 (A2 b) (fun acc p=>acc++((CL types p).filter drl).map (cF b)) (DV b types) (fun acc _=>acc++(Az b).map bG++(Bg b).map (Ok b)) (fun m acc v=>by rw [DV,h1,h2]) (A2 b).length 0 (((((A2 b).length:Nat):Int)-0).toNat+1) [] rfl (Nat.zero_le _) (by omega)
 rw [List.drop_zero,Oz,List.nil_append] at this
 refine this.trans ?_
 rw [List.filter_flatMap,List.map_flatMap]
theorem V1 {B:AH} {T:List AQ} {l:List (List Int)} (h:EO B T l):A2 B=B.Parts:=by
 rw [Sq]
 exact Km _ _ fun k hk=>by
  show decide (CB (B.Parts.getD (k+1) default).Id (B.Parts.getD k default).Id<0)=false
  exact Ui (by rw [(h.par k (by omega)).id,(h.par (k+1) hk).id];omega)
theorem Qp {B:AH} {T:List AQ} {l:List (List Int)} (h:EO B T l):EJ B T=(((B.Parts.flatMap (CL T)).filter drl).map (cF B))++B.Vias.map bG++(Bg B).map (Ok B):=by
 rw [eD,V1 h,SC h]
theorem SD {B:AH} {T:List AQ} {l:List (List Int)} (h:EO B T l):(B.Parts.flatMap (CL T)).length<=18:=by
 have h3:=h.parl
 have key:∀ v:List AE,(∀ x∈v,x∈B.Parts)->(v.flatMap (CL T)).length<=6*v.length:=by
  intro v
  induction v with
  | nil=>intro _;exact Nat.le_refl _
  | cons x v ih =>
   intro hx
   have:=ih fun y hy=>hx y (List.mem_cons_of_mem _ hy)
   obtain ⟨i,hi,e,hm⟩:=KS h.par (hx x (List.mem_cons_self ..))
   have:=WL l hm.typ
   rw [<- h.types,Im] at this
   rw [List.flatMap_cons,List.length_append,HN,List.length_cons]
   omega
 have:=key _ fun x hx=>hx
 omega
theorem dB (l:List (List Int)):((EJ (AL l).1 (AL l).2).length:Int)<=100000000:=by
 have h:=L6 l
 have h1:=SD h
 have h2:=h.vial
 have h3:=h.slotl
 have h4:=List.length_filter_le drl ((AL l).1.Parts.flatMap (CL (AL l).2))
 rw [Qp h]
 simp only [List.length_append,List.length_map,MX]
 omega
section
open Go.RowKit
def Z6x:Blk:=.cells [.s (⟨#[]⟩),.i 0,vN,.i 0,.i 0,.i 0,.i 0] 102
variable (b:AH) (t:AQ) (types:List AQ) (p:Ag) (pad:ByteArray)
def Z6y:A1:=t.Pads.getD (Fe t.Pads pad).toNat default
def Z6z:Blk:=.cells [.s (Z6y t pad).Name,.i (Z6y t pad).Shape.Kind,.own 23 7 (Z6y t pad).Shape.Edges.length,.i (Z6y t pad).Shape.R,.i (Z6y t pad).At.X,.i (Z6y t pad).At.Y,.i (Z6y t pad).Drill] 102
def Z6A:Blk:=.row 7 (Z6y t pad).Shape.Edges.length (AO AF.c (Z6y t pad).Shape.Edges) 68
def GT (t:AQ) (pad:ByteArray):(A1×Bool):=bif decide (((Fe t.Pads pad):Int)<0) then (A1.mk (⟨#[]⟩) (AP.mk 0 [] 0) (AC.mk 0 0) 0,false) else (A1.mk (Z6y t pad).Name (AP.mk (Z6y t pad).Shape.Kind (Z6y t pad).Shape.Edges (Z6y t pad).Shape.R) (Z6y t pad).At (Z6y t pad).Drill,true)
def mQ:CT:=(85,[.agg (AQ.c t),.one (.s pad)],.val [] (.tup [.agg (A1.c (GT t pad).1),.one (.b (GT t pad).2)]))
theorem pFind (t:AQ) (pad:ByteArray) (h0:(t.Pads.length:Int)<=1000000) (ha:∀ k,((t.Pads.getD k default).Shape.Edges.length:Int)<=1000000):PuP 85 (mQ t pad).2.1 (.tup [.agg (A1.c (GT t pad).1),.one (.b (GT t pad).2)]):=by
 refine pwf Tryz.func85 fun W0 M0 => ?_
 have ha1:=ha (Fe t.Pads pad).toNat
 refine AB<|rn ⟨Lo,[(2,.cells (AQ.c t) 82),(3,.cells [.s pad] 9),(4,Z6x)]⟩<|AB ?_
 refine rc [(11,(133,[.one (lst 7 A1.c t.Pads),.one (.clo 134 1 (Aw [.ptr 3 0]))],rdI [3] [.cells [.s pad] 9] (tI (Fe t.Pads pad))))] [Ap [.one (lst 7 A1.c t.Pads),.one (.clo 134 1 (Aw [.ptr 3 0]))],RJ [.cells [.s pad] 9]] ⟨[(2,tP 2 0),(4,tP 4 0),(6,tI (Fe t.Pads pad))],[(2,.cells (AQ.c t) 82),(4,Z6x)]⟩ (.cons (Kw (fun _ _=>kr) kr kr (PR (pixPd t.Pads pad au4) (.cons (AvE.refl _) (.cons (.one (.clo 134 1 _ _ (F7 kr))) .nil)))) .nil) (.cons rfl (.cons rfl .nil))<|AG ?_
 refine AB<|AB ?_
 refine rn ⟨[(2,tP 2 0),(4,tP 4 0),(6,tI (Fe t.Pads pad)),(13,tB (decide (((Fe t.Pads pad):Int)<0)))],[(2,.cells (AQ.c t) 82),(4,Z6x)]⟩ ?_
 refine AV _ rfl (fun h1 => ?_) (fun h1 => ?_)
 ·refine AB<|rn ⟨[(4,tP 4 0),(5,tB false)],[(4,Z6x)]⟩ ?_
  refine AW<|A7 ?_
  exact xl (.tup [.agg [.s (⟨#[]⟩),.i 0,vN,.i 0,.i 0,.i 0,.i 0],.one (.b false)]) (Du (y:=.tup [.agg [.s (⟨#[]⟩),.i 0,lst 7 AF.c [],.i 0,.i 0,.i 0,.i 0],.one (.b false)]) (.tup (.cons (.agg (rr2 (.cons (Cf 7 AF.c) (rr (rr (rr (rr .nil))))))) (.cons (AvE.refl _) .nil))) (by simp only [GT,h1,cond_true,cond_false] <;> rfl))
 have g1:=oF h1
 refine AY<|AG<|AB ?_
 refine rc [] [0<=(Fe t.Pads pad:Int)/\(Fe t.Pads pad:Int)<((t.Pads.length:Nat):Int)] ⟨[(4,tP 4 0),(7,tP 7 0)],[(4,Z6x),(7,.cells (A1.c (Z6y t pad)) 102)]⟩ .nil (.cons (by first | exact wR (by assumption) | omega) .nil)<|AG<|AB ?_
 refine rs 23 (ND (Z6y t pad).Shape.Edges) ⟨[(4,tP 4 0),(7,tP 7 0)],[(4,Z6x),(7,Z6z t pad),(23,Z6A t pad)]⟩ (Ms (Z6y t pad).Shape.Edges au4)<|AG<|AB ?_
 refine rn ⟨[(4,tP 4 0),(5,tB true)],[(4,Z6z t pad),(23,Z6A t pad)]⟩<|AW ?_
 exact yl (Cv.trans (vf 23 7 (Z6y t pad).Shape.Edges.length (AO AF.c (Z6y t pad).Shape.Edges) 68 hk0 (.cons ⟨rfl,rfl⟩ .nil)) (Cv.refl _)) (.tup [.agg (A1.c (Z6y t pad)),.one (.b true)]) (Aa (by simp only [GT,h1,cond_true,cond_false] <;> rfl))
theorem wA (t:AQ) (pad:ByteArray) (h0:(t.Pads.length:Int)<=1000000) (ha:∀ k,((t.Pads.getD k default).Shape.Edges.length:Int)<=1000000):OKc (mQ t pad):=cPu<|pFind t pad h0 ha
theorem WJ {types:List AQ} (h:CP types) (name:ByteArray):∀ k,(((BQ types name).1.Pads.getD k default).Shape.Edges.length:Int)<=1000000:=by
 rw [LA]
 unfold Yc
 cases hf:types.find? (fun t=>HV t name) with
 | none=>exact fun k=>(by decide:((0:Nat):Int)<=1000000)
 | some t=>exact fun k=>Qd (h.2 t (List.mem_of_find?_eq_some hf)) k
def Z6B (types:(List AQ)) (b:AH) (p:Ag):AQ:=(BQ types (b.Parts.getD (Dr b.Parts p).toNat default).Type').1
def Z6C:AE:=b.Parts.getD (Dr b.Parts p).toNat default
def Z6D (b:AH) (p:Ag) (types:(List AQ)):AC:=AZ (Bz (Z6C b p)) (GT (Z6B types b p) p.Pad).1.At
def FAt (b:AH) (types:(List AQ)) (p:Ag):(AC×Int×Bool):=bif decide (((Dr b.Parts p):Int)<0) then (AC.mk 0 0,0,false) else (bif !((GT (Z6B types b p) p.Pad).2) then (AC.mk 0 0,0,false) else (Z6D b p types,DM b (Z6C b p),true))
def cAt:CT:=(34,[.agg (Dj b),.one (Gl types),.agg (Ag.c p)],.val [] (.tup [.agg (AC.c (FAt b types p).1),.one (.i (FAt b types p).2.1),.one (.b (FAt b types p).2.2)]))
abbrev eU:Tv:=.tup [.agg [.i 0,.i 0],.one (.i 0),.one (.b false)]
abbrev Nl:Nat×Blk:=(3,.cells (Dj b) 41)
theorem au21 {p:Prop} (h:p:=by first | (exact WJ ht _) | (exact H9 ht _) | with_reducible assumption | omega | decide | (simp only [List.length_cons,List.length_nil,List.length_append];omega) | assumption):p:=h
theorem au23 {p:Prop} (h:p:=by first | exact wQ (by assumption) | omega):p:=h
theorem pAt (b:AH) (types:(List AQ)) (p:Ag) (hp:(b.Parts.length:Int)<=1000000) (ht:CP types):PuP 34 (cAt b types p).2.1 (.tup [.agg (AC.c (FAt b types p).1),.one (.i (FAt b types p).2.1),.one (.b (FAt b types p).2.2)]):=by
 refine pwf Tryz.func34 fun W0 M0 => ?_
 refine AB<|rn ⟨[(Ep types),(3,tP 3 0),(5,tP 5 0),(6,tP 6 0)],[(Nl b),(5,.cells (Ag.c p) 106),FL]⟩<|AB ?_
 refine rc [(17,(83,[.one (lst 7 AE.c b.Parts),.one (.clo 84 1 (Aw [.ptr 5 0]))],rdI [5] [.cells (Ag.c p) 106] (tI (Dr b.Parts p))))] [Ap [.one (lst 7 AE.c b.Parts),.one (.clo 84 1 (Aw [.ptr 5 0]))],RJ [.cells (Ag.c p) 106]] ⟨[(Ep types),(3,tP 3 0),(5,tP 5 0),(6,tP 6 0),(9,tI (Dr b.Parts p))],[(Nl b),(5,.cells (Ag.c p) 106),FL]⟩ (.cons (Kw (fun _ _=>kr) kr kr (PR (pixPl b.Parts p au21) (.cons (AvE.refl _) (.cons (.one (.clo 84 1 _ _ (F7 kr))) .nil)))) .nil) (.cons rfl (.cons rfl .nil))<|AG ?_
 refine AB<|AB ?_
 refine rn ⟨[(Ep types),(3,tP 3 0),(5,tP 5 0),(6,tP 6 0),(9,tI (Dr b.Parts p)),(19,tB (decide (((Dr b.Parts p):Int)<0)))],[(Nl b),(5,.cells (Ag.c p) 106),FL]⟩ ?_
 refine AV _ rfl (fun h1 => ?_) (fun h1 => ?_)
 ·refine AB<|rn ⟨[(6,tP 6 0),(7,tI 0),(8,tB false)],[FL]⟩ ?_
  refine AW<|A7 ?_
  exact xl eU (Aa (by simp only [FAt,h1,cond_true,cond_false] <;> rfl))
 have g1:=oF h1
 refine AY<|AG<|AB ?_
 refine rc [(29,dQ types (b.Parts.getD (Dr b.Parts p).toNat default).Type')] [0<=(Dr b.Parts p:Int)/\(Dr b.Parts p:Int)<((b.Parts.length:Nat):Int),Ap (dQ types (b.Parts.getD (Dr b.Parts p).toNat default).Type').2.1] ⟨[(3,tP 3 0),(5,tP 5 0),(6,tP 6 0),(9,tI (Dr b.Parts p)),(10,tP 10 0)],[(Nl b),(5,.cells (Ag.c p) 106),FL,(10,.cells (AQ.c (Z6B types b p)) 82)]⟩ (.cons (jT types (b.Parts.getD (Dr b.Parts p).toNat default).Type' au21) .nil) (.cons au23 (.cons rfl .nil))<|AG<|AB ?_
 refine rs 36 (mQ (Z6B types b p) p.Pad) ⟨[(3,tP 3 0),(6,tP 6 0),(9,tI (Dr b.Parts p)),(12,tP 12 0),(13,tB (GT (Z6B types b p) p.Pad).2)],[(Nl b),FL,(12,.cells (A1.c (GT (Z6B types b p) p.Pad).1) 102)]⟩ (wA (Z6B types b p) p.Pad au21 au21)<|AG ?_
 refine AB<|AB ?_
 refine rn ⟨[(3,tP 3 0),(6,tP 6 0),(9,tI (Dr b.Parts p)),(12,tP 12 0),(40,tB (!((GT (Z6B types b p) p.Pad).2)))],[(Nl b),FL,(12,.cells (A1.c (GT (Z6B types b p) p.Pad).1) 102)]⟩ ?_
 refine AV _ rfl (fun h2 => ?_) (fun h2 => ?_)
 ·refine AB<|rn ⟨[(6,tP 6 0),(7,tI 0),(8,tB false)],[FL]⟩ ?_
  refine AW<|A7 ?_
  exact xl eU (Aa (by simp only [FAt,h1,h2,cond_true,cond_false] <;> rfl))
 refine AY<|AG<|AB ?_
 refine dw [] [(47,Ho (Z6C b p)),(50,Bs (Bz (Z6C b p)) (GT (Z6B types b p) p.Pad).1.At),(57,O2 b (Z6C b p))] [0<=(Dr b.Parts p:Int)/\(Dr b.Parts p:Int)<((b.Parts.length:Nat):Int),Ap (Ho (Z6C b p)).2.1,Ap (Bs (Bz (Z6C b p)) (GT (Z6B types b p) p.Pad).1.At).2.1,0<=(Dr b.Parts p:Int)/\(Dr b.Parts p:Int)<((b.Parts.length:Nat):Int),Ap (O2 b (Z6C b p)).2.1] ⟨[(6,tP 6 0),(7,tI (DM b (Z6C b p))),(8,tB true)],[(6,.cells (AC.c (Z6D b p types)) 66)]⟩ (.cons (Qh (Z6C b p)) (.cons (DD (Bz (Z6C b p)) (GT (Z6B types b p) p.Pad).1.At) (.cons (YH b (Z6C b p)) .nil))) (.cons au23 (.cons rfl (.cons rfl (.cons au23 (.cons rfl .nil)))))<|AG<|AW ?_
 exact xl (.tup [.agg (AC.c (Z6D b p types)),.one (.i (DM b (Z6C b p))),.one (.b true)]) (Aa (by simp only [FAt,h1,h2,cond_true,cond_false] <;> rfl))
theorem okAt (b:AH) (types:(List AQ)) (p:Ag) (hp:(b.Parts.length:Int)<=1000000) (ht:CP types):OKc (cAt b types p):=cPu<|pAt b types p hp ht
end
section
open Go.RowKit
def Fw (k:IntKind) (a b:Int):Int:=k.wrap (BitVec.ofInt k.bits a &&& BitVec.ofInt k.bits b).toNat
def MU (x0:AC) (x1:AC) (x2:AC):Bool:=decide ((0:Int)<=(min (BP x1 x0) (BP x0 x2)))
def JY (x0:AC) (x1:AC) (x2:AC):CT:=(139,[.agg (AC.c x0),.agg (AC.c x1),.agg (AC.c x2)],.val [] (.av (.one (.b (MU x0 x1 x2)))))
abbrev I8 (x1:AC):Nat×Blk:=(4,.cells (AC.c x1) 66)
theorem Xx (x0:AC) (x1:AC) (x2:AC):PuP 139 (JY x0 x1 x2).2.1 (tO (.b (MU x0 x1 x2))):=by
 refine pwf Tryz.func139 fun W0 M0 => ?_
 refine AB<|rn ⟨[(3,tP 3 0),(4,tP 4 0),(5,tP 5 0)],[(3,.cells (AC.c x0) 66),(I8 x1),(5,.cells (AC.c x2) 66)]⟩<|AB ?_
 refine dw [] [(9,EE x1 x0),(12,EE x0 x2)] [Ap (EE x1 x0).2.1,Ap (EE x0 x2).2.1] ⟨[(6,tB (decide ((0:Int)<=(min (BP x1 x0) (BP x0 x2)))))],[]⟩ (.cons (JI x1 x0) (.cons (JI x0 x2) .nil)) (.cons rfl (.cons rfl .nil))<|AG<|AW ?_
 exact xl (tO (.b (decide ((0:Int)<=(min (BP x1 x0) (BP x0 x2)))))) (Aa (by rfl))
theorem VZ (x0:AC) (x1:AC) (x2:AC):OKc (JY x0 x1 x2):=cPu<|Xx x0 x1 x2
def Ij (x0:AC) (x1:AC):Int:=CG (AM x0 x1) (AM x0 x1)
def WS (x0:AC) (x1:AC):CT:=(136,[.agg (AC.c x0),.agg (AC.c x1)],.val [] (.av (.one (.i (Ij x0 x1)))))
theorem psqS (x0:AC) (x1:AC):PuP 136 (WS x0 x1).2.1 (tO (.i (Ij x0 x1))):=by
 refine pwf Tryz.func136 fun W0 M0 => ?_
 refine AB<|rn ⟨Ga,[(2,.cells (AC.c x0) 66),(3,.cells (AC.c x1) 66)]⟩<|AB ?_
 refine rs 8 (CF x0 x1) ⟨[(5,tP 5 0)],[(5,.cells (AC.c (AM x0 x1)) 66)]⟩ (DX x0 x1)<|AG<|AB ?_
 refine rs 11 (FQ (AM x0 x1) (AM x0 x1)) ⟨[(4,tI (CG (AM x0 x1) (AM x0 x1)))],[]⟩ (KO (AM x0 x1) (AM x0 x1))<|AG<|AW ?_
 exact xl (tO (.i (CG (AM x0 x1) (AM x0 x1)))) (Aa (by rfl))
theorem jM (x0:AC) (x1:AC):OKc (WS x0 x1):=cPu<|psqS x0 x1
abbrev Ld (x0:Int):=Fw .u64 x0 4294967295
def Z6E (x0:Int):Tv:=.av (.one (.val (.int .u64 (Ld x0))))
abbrev Lb (x0:Int):=Int.fdiv x0 4294967296
def Z6F (x0:Int):Tv:=.av (.one (.val (.int .u64 (Lb x0))))
variable (xs:List AF) (v8:Int) (x0:AF) (p:AC) (s:AP) (x1 x2:Int)
abbrev HD:=Fw .u64 x1 4294967295
def Z6G:Tv:=.av (.one (.val (.int .u64 (HD x1))))
def Z6H:Tv:=.av (.one (.val (.int .u64 (Int.fdiv x1 4294967296))))
def Z6I (x0:Int) (x1:Int):Tv:=.av (.one (.val (.int .u64 (IntKind.u64.wrap ((IntKind.u64.wrap ((Lb x0)*(HD x1)))+(Int.fdiv (IntKind.u64.wrap ((Ld x0)*(HD x1))) 4294967296))))))
def Z6J (x0:Int) (x1:Int):Tv:=.av (.one (.val (.int .u64 (Fw .u64 (IntKind.u64.wrap ((IntKind.u64.wrap ((Lb x0)*(HD x1)))+(Int.fdiv (IntKind.u64.wrap ((Ld x0)*(HD x1))) 4294967296))) 4294967295))))
def Z6K (x0:Int) (x1:Int):Tv:=.av (.one (.val (.int .u64 (Int.fdiv (IntKind.u64.wrap ((IntKind.u64.wrap ((Lb x0)*(HD x1)))+(Int.fdiv (IntKind.u64.wrap ((Ld x0)*(HD x1))) 4294967296))) 4294967296))))
def Z6L (x0:Int) (x1:Int):Tv:=.av (.one (.val (.int .u64 (IntKind.u64.wrap ((IntKind.u64.wrap ((IntKind.u64.wrap ((Lb x0)*(Int.fdiv x1 4294967296)))+(Int.fdiv (IntKind.u64.wrap ((IntKind.u64.wrap ((Lb x0)*(HD x1)))+(Int.fdiv (IntKind.u64.wrap ((Ld x0)*(HD x1))) 4294967296))) 4294967296)))+(Int.fdiv (IntKind.u64.wrap ((Fw .u64 (IntKind.u64.wrap ((IntKind.u64.wrap ((Lb x0)*(HD x1)))+(Int.fdiv (IntKind.u64.wrap ((Ld x0)*(HD x1))) 4294967296))) 4294967295)+(IntKind.u64.wrap ((Ld x0)*(Int.fdiv x1 4294967296))))) 4294967296))))))
def Gi (x0:Int) (x1:Int):(Int×Int):=(IntKind.u64.wrap ((IntKind.u64.wrap ((IntKind.u64.wrap ((Int.fdiv x0 4294967296)*(Int.fdiv x1 4294967296)))+(Int.fdiv (IntKind.u64.wrap ((IntKind.u64.wrap ((Int.fdiv x0 4294967296)*(Fw .u64 x1 4294967295)))+(Int.fdiv (IntKind.u64.wrap ((Fw .u64 x0 4294967295)*(Fw .u64 x1 4294967295))) 4294967296))) 4294967296)))+(Int.fdiv (IntKind.u64.wrap ((Fw .u64 (IntKind.u64.wrap ((IntKind.u64.wrap ((Int.fdiv x0 4294967296)*(Fw .u64 x1 4294967295)))+(Int.fdiv (IntKind.u64.wrap ((Fw .u64 x0 4294967295)*(Fw .u64 x1 4294967295))) 4294967296))) 4294967295)+(IntKind.u64.wrap ((Fw .u64 x0 4294967295)*(Int.fdiv x1 4294967296))))) 4294967296)),IntKind.u64.wrap (x0*x1))
def Yr (x0:Int) (x1:Int):CT:=(165,[.one (.val (.int .u64 x0)),.one (.val (.int .u64 x1))],.val [] (.tup [.one (.val (.int .u64 (Gi x0 x1).1)),.one (.val (.int .u64 (Gi x0 x1).2))]))
abbrev QJ (x0:Int):Nat×Tv:=(0,.av (.one (.val (.int .u64 x0))))
abbrev QI:Nat×Tv:=(1,.av (.one (.val (.int .u64 x1))))
abbrev LQ (x0:Int) (x1:Int) (t_:List (Nat×Tv)):List (Nat×Tv):=(QJ x0)::(QI x1)::(6,Z6E x0)::(7,Z6F x0)::t_
theorem vC (x0:Int) (x1:Int):PuP 165 (Yr x0 x1).2.1 (.tup [.one (.val (.int .u64 (Gi x0 x1).1)),.one (.val (.int .u64 (Gi x0 x1).2))]):=by
 refine pwf Tryz.func165 fun W0 M0 => ?_
 refine AB<|rn ⟨[(QJ x0),(QI x1)],[]⟩<|AB ?_
 refine rn ⟨[(QJ x0),(QI x1),(6,Z6E x0)],[]⟩<|AB ?_
 refine rc [] [0<=(32:Int)] ⟨(LQ x0 x1 []),[]⟩ .nil (.cons (by decide) .nil)<|AG<|AB ?_
 refine rn ⟨(LQ x0 x1 [(8,Z6G x1)]),[]⟩<|AB ?_
 refine rc [] [0<=(32:Int)] ⟨(LQ x0 x1 [(8,Z6G x1),(9,Z6H x1)]),[]⟩ .nil (.cons (by decide) .nil)<|AG<|AB ?_
 refine rn ⟨(LQ x0 x1 [(8,Z6G x1),(9,Z6H x1),(10,.av (.one (.val (.int .u64 (IntKind.u64.wrap ((Fw .u64 x0 4294967295)*(Fw .u64 x1 4294967295)))))))]),[]⟩<|AB ?_
 refine rc [] [0<=(32:Int)] ⟨(LQ x0 x1 [(9,Z6H x1),(11,Z6I x0 x1)]),[]⟩ .nil (.cons (by decide) .nil)<|AG<|AB ?_
 refine rn ⟨(LQ x0 x1 [(9,Z6H x1),(11,Z6I x0 x1),(12,Z6J x0 x1)]),[]⟩<|AB ?_
 refine rc [] [0<=(32:Int)] ⟨(LQ x0 x1 [(9,Z6H x1),(12,Z6J x0 x1),(13,Z6K x0 x1)]),[]⟩ .nil (.cons (by decide) .nil)<|AG<|AB ?_
 refine rn ⟨[(QJ x0),(QI x1),(7,Z6F x0),(9,Z6H x1),(12,.av (.one (.val (.int .u64 (IntKind.u64.wrap ((Fw .u64 (IntKind.u64.wrap ((IntKind.u64.wrap ((Int.fdiv x0 4294967296)*(Fw .u64 x1 4294967295)))+(Int.fdiv (IntKind.u64.wrap ((Fw .u64 x0 4294967295)*(Fw .u64 x1 4294967295))) 4294967296))) 4294967295)+(IntKind.u64.wrap ((Fw .u64 x0 4294967295)*(Int.fdiv x1 4294967296))))))))),(13,Z6K x0 x1)],[]⟩<|AB ?_
 refine rc [] [0<=(32:Int)] ⟨[(QJ x0),(QI x1),(4,Z6L x0 x1)],[]⟩ .nil (.cons (by decide) .nil)<|AG<|AB ?_
 refine rn ⟨[(4,Z6L x0 x1),(5,.av (.one (.val (.int .u64 (IntKind.u64.wrap (x0*x1))))))],[]⟩<|AW ?_
 exact xl (.tup [.one (.val (.int .u64 (IntKind.u64.wrap ((IntKind.u64.wrap ((IntKind.u64.wrap ((Int.fdiv x0 4294967296)*(Int.fdiv x1 4294967296)))+(Int.fdiv (IntKind.u64.wrap ((IntKind.u64.wrap ((Int.fdiv x0 4294967296)*(Fw .u64 x1 4294967295)))+(Int.fdiv (IntKind.u64.wrap ((Fw .u64 x0 4294967295)*(Fw .u64 x1 4294967295))) 4294967296))) 4294967296)))+(Int.fdiv (IntKind.u64.wrap ((Fw .u64 (IntKind.u64.wrap ((IntKind.u64.wrap ((Int.fdiv x0 4294967296)*(Fw .u64 x1 4294967295)))+(Int.fdiv (IntKind.u64.wrap ((Fw .u64 x0 4294967295)*(Fw .u64 x1 4294967295))) 4294967296))) 4294967295)+(IntKind.u64.wrap ((Fw .u64 x0 4294967295)*(Int.fdiv x1 4294967296))))) 4294967296))))),.one (.val (.int .u64 (IntKind.u64.wrap (x0*x1))))]) (Aa (by rfl))
theorem qF (x0:Int) (x1:Int):OKc (Yr x0 x1):=cPu<|vC x0 x1
def Z6M:Blk:=.cells [.val (.int .u64 0),.val (.int .u64 0)] 254
def K5 (x0:Int) (x1:Int):D5:=D5.mk (Gi (IntKind.u64.wrap x0) (IntKind.u64.wrap x1)).1 (Gi (IntKind.u64.wrap x0) (IntKind.u64.wrap x1)).2
def Gz (x0:Int) (x1:Int):CT:=(142,[.one (.i x0),.one (.i x1)],.val [] (.av (.agg (D5.c (K5 x0 x1)))))
theorem bY (x0:Int) (x1:Int):PuP 142 (Gz x0 x1).2.1 (.av (.agg (D5.c (K5 x0 x1)))):=by
 refine pwf Tryz.func142 fun W0 M0 => ?_
 refine AB<|rn ⟨[(0,tI x0),(1,tI x1),(4,tP 4 0)],[(4,Z6M)]⟩<|AB ?_
 refine rs 12 (Yr (IntKind.u64.wrap x0) (IntKind.u64.wrap x1)) ⟨[(4,tP 4 0),(5,.av (.one (.val (.int .u64 (Gi (IntKind.u64.wrap x0) (IntKind.u64.wrap x1)).1)))),(6,.av (.one (.val (.int .u64 (Gi (IntKind.u64.wrap x0) (IntKind.u64.wrap x1)).2))))],[(4,Z6M)]⟩ (qF (IntKind.u64.wrap x0) (IntKind.u64.wrap x1))<|AG<|AB ?_
 refine rn ⟨[(4,tP 4 0)],[(4,.cells [.val (.int .u64 (Gi (IntKind.u64.wrap x0) (IntKind.u64.wrap x1)).1),.val (.int .u64 (Gi (IntKind.u64.wrap x0) (IntKind.u64.wrap x1)).2)] 254)]⟩<|AW ?_
 exact xl (.av (.agg [.val (.int .u64 (Gi (IntKind.u64.wrap x0) (IntKind.u64.wrap x1)).1),.val (.int .u64 (Gi (IntKind.u64.wrap x0) (IntKind.u64.wrap x1)).2)])) (Aa (by rfl))
theorem Qf (x0:Int) (x1:Int):OKc (Gz x0 x1):=cPu<|bY x0 x1
def U1 (x0:D5) (x1:D5):Bool:=bif bif (decide (x0.e0=x1.e0)&&(decide (x0.e1=x1.e1)&&true)) then true else decide ((x0.e0:Int)<x1.e0) then true else bif decide ((x0.e0:Int)=x1.e0) then decide ((x0.e1:Int)<x1.e1) else false
def PY (x0:D5) (x1:D5):CT:=(143,[.agg (D5.c x0),.agg (D5.c x1)],.val [] (.av (.one (.b (U1 x0 x1)))))
abbrev J4 (x0:D5) (x1:D5):Bool:=decide (x0.e0=x1.e0)&&(decide (x0.e1=x1.e1)&&true)
abbrev H0 (x0:D5) (x1:D5):=(bif (J4 x0 x1) then true else decide ((x0.e0:Int)<x1.e0))
abbrev KD (x0:D5) (x1:D5):Bool:=(decide ((x0.e0:Int)=x1.e0))
theorem pH (x0:D5) (x1:D5):PuP 143 (PY x0 x1).2.1 (tO (.b (U1 x0 x1))):=by
 refine pwf Tryz.func143 fun W0 M0 => ?_
 refine AB<|rn ⟨Ga,[(2,.cells (D5.c x0) 254),(3,.cells (D5.c x1) 254)]⟩<|AB ?_
 refine rc [] ((gj (J4 x0 x1) (0<=(0:Int)/\(0:Int)<(2:Int)))::(gi (J4 x0 x1))::(gj (J4 x0 x1) (0<=(0:Int)/\(0:Int)<(2:Int)))::(i4 (J4 x0 x1) ((gj (H0 x0 x1) (0<=(0:Int)/\(0:Int)<(2:Int)))::(gi (H0 x0 x1))::(gj (H0 x0 x1) (0<=(0:Int)/\(0:Int)<(2:Int)))::(i4 (H0 x0 x1) [(((bif (J4 x0 x1) then true else decide ((x0.e0:Int)<x1.e0))=false)/\(KD x0 x1)=true)->(0<=(1:Int)/\(1:Int)<(2:Int)),gp (((H0 x0 x1)=false)/\(KD x0 x1)=true),(((bif (J4 x0 x1) then true else decide ((x0.e0:Int)<x1.e0))=false)/\(KD x0 x1)=true)->(0<=(1:Int)/\(1:Int)<(2:Int)),gp (((H0 x0 x1)=false)/\(KD x0 x1)=true),gp (((H0 x0 x1)=false)/\(KD x0 x1)=true),gp (((H0 x0 x1)=false)/\(KD x0 x1)=true),gi (H0 x0 x1),((bif (J4 x0 x1) then true else decide ((x0.e0:Int)<x1.e0))=false)->((KD x0 x1)=true->(((bif (J4 x0 x1) then true else decide ((x0.e0:Int)<x1.e0))=false)/\(KD x0 x1)=true)),gi (H0 x0 x1)])))) ⟨[(4,tB (bif bif (J4 x0 x1) then true else decide ((x0.e0:Int)<x1.e0) then true else bif decide ((x0.e0:Int)=x1.e0) then decide ((x0.e1:Int)<x1.e1) else false))],[]⟩ .nil (.cons (fun _=>(by decide)) (ci (.cons (fun _=>(by decide)) (c4 (.cons (fun _=>(by decide)) (ci (.cons (fun _=>(by decide)) (c4 (.cons (fun _=>(by decide)) (ci (.cons (fun _=>(by decide)) (ci (ci (ci (ci (.cons (by intros;first | assumption | exact ⟨by assumption,by assumption⟩ | simp_all) (ci .nil)))))))))))))))))<|AG<|AW ?_
 exact xl (tO (.b (bif bif (J4 x0 x1) then true else decide ((x0.e0:Int)<x1.e0) then true else bif decide ((x0.e0:Int)=x1.e0) then decide ((x0.e1:Int)<x1.e1) else false))) (Aa (by rfl))
theorem jP (x0:D5) (x1:D5):OKc (PY x0 x1):=cPu<|pH x0 x1
def Z6N:AC:=bif decide ((x0.Kind:Int)=3) then (AM x0.B x0.C) else (AM x0.A x0.C)
def Z6O:AC:=bif decide ((x0.Kind:Int)=3) then (AM x0.A x0.C) else (AM x0.B x0.C)
def Z6P (x1:AC) (x0:AF):Bool:=MU (AM x1 x0.C) (Z6N x0) (Z6O x0)
abbrev FK:=AM x0.B x0.A
def Z6Q:Tv:=tI (CG (FK x0) (FK x0))
def Z6R (x1:AC):D5:=K5 (max (BP (AM x0.B x0.A) (AM x1 x0.A)) (W64 (0-(BP (AM x0.B x0.A) (AM x1 x0.A))))) (max (BP (AM x0.B x0.A) (AM x1 x0.A)) (W64 (0-(BP (AM x0.B x0.A) (AM x1 x0.A)))))
def Z6S (x2:Int) (x0:AF):D5:=K5 (W64 (x2*x2)) (CG (AM x0.B x0.A) (AM x0.B x0.A))
def Z6T (x0:AF) (x1:AC) (x2:Int):Bool:=U1 (Z6R x0 x1) (Z6S x2 x0)
def Gh (x0:AF) (x1:AC) (x2:Int):Bool:=bif bif decide (((Ij x1 x0.A):Int)<=(W64 (x2*x2))) then true else decide (((Ij x1 x0.B):Int)<=(W64 (x2*x2))) then true else (bif !decide ((x0.Kind:Int)=1) then (bif bif Z6P x1 x0 then decide (((Ij x1 x0.C):Int)<=(W64 ((W64 ((CA x0)+x2))*(W64 ((CA x0)+x2))))) else false then decide (((W64 ((max (W64 ((CA x0)-x2)) 0)*(max (W64 ((CA x0)-x2)) 0))):Int)<=(Ij x1 x0.C)) else false) else (bif bif decide (((CG (AM x1 x0.A) (AM x0.B x0.A)):Int)<=0) then true else decide (((CG (AM x0.B x0.A) (AM x0.B x0.A)):Int)<=(CG (AM x1 x0.A) (AM x0.B x0.A))) then false else (Z6T x0 x1 x2)))
def Yo (x0:AF) (x1:AC) (x2:Int):CT:=(89,[.agg (AF.c x0),.agg (AC.c x1),.one (.i x2)],.val [] (.av (.one (.b (Gh x0 x1 x2)))))
abbrev KK:Nat×Blk:=(3,.cells (AF.c x0) 68)
abbrev gE (x1:AC):List (Nat×Blk):=[(KK x0),(I8 x1),(7,.cells (AC.c (bif decide ((x0.Kind:Int)=3) then (AM x0.B x0.C) else (AM x0.A x0.C))) 66),(8,.cells (AC.c (bif decide ((x0.Kind:Int)=3) then (AM x0.A x0.C) else (AM x0.B x0.C))) 66)]
abbrev XQ (x1:AC):List (Nat×Blk):=[(KK x0),(I8 x1),(7,.cells (AC.c (AM x0.A x0.C)) 66),(8,.cells (AC.c (AM x0.B x0.C)) 66)]
abbrev Hv (t_:List (Nat×Tv)):List (Nat×Tv):=(2,tI x2)::(3,tP 3 0)::(4,tP 4 0)::t_
abbrev Td:List (Nat×Tv):=(Hv x2 [(7,tP 7 0),(8,tP 8 0)])
abbrev XJ (x1:AC):=max (BP (FK x0) (AM x1 x0.A)) (W64 (0-(BP (FK x0) (AM x1 x0.A))))
theorem uT (x0:AF) (x1:AC) (x2:Int):PuP 89 (Yo x0 x1 x2).2.1 (tO (.b (Gh x0 x1 x2))):=by
 refine pwf Tryz.func89 fun W0 M0 => ?_
 refine AB<|rn ⟨(Hv x2 []),[(KK x0),(I8 x1)]⟩ ?_
 refine AB<|AB ?_
 refine rc [(19,WS x1 x0.A),(28,WS x1 x0.B)] ((Ap (WS x1 x0.A).2.1)::(i3 (decide (((Ij x1 x0.A):Int)<=(W64 (x2*x2)))) ((gj (decide (((Ij x1 x0.A):Int)<=(W64 (x2*x2)))) (Ap (WS x1 x0.B).2.1))::(i5 (decide (((Ij x1 x0.A):Int)<=(W64 (x2*x2)))) [])))) ⟨(Hv x2 [(33,tB (bif decide (((Ij x1 x0.A):Int)<=(W64 (x2*x2))) then true else decide (((Ij x1 x0.B):Int)<=(W64 (x2*x2)))))]),[(KK x0),(I8 x1)]⟩ (.cons (jM x1 x0.A) (.cons (jM x1 x0.B) .nil)) (.cons rfl (c3 (.cons (fun _=>rfl) (c5 .nil))))<|AG ?_
 refine AV _ rfl (fun h1 => ?_) (fun h1 => ?_)
 ·refine AB<|rn ⟨[(6,tB true)],[]⟩ ?_
  refine AW<|A7 ?_
  exact xl (tO (.b true)) (Aa (by simp only [Gh,h1,cond_true,cond_false] <;> rfl))
 refine AY<|AG ?_
 refine AB<|AB ?_
 refine rn ⟨(Hv x2 [(36,tB (!decide ((x0.Kind:Int)=1)))]),[(KK x0),(I8 x1)]⟩ ?_
 refine AV _ rfl (fun h2 => ?_) (fun h2 => ?_)
 ·have g2:=Bt h2
  refine AB<|dw [] [(41,CF x0.A x0.C),(46,CF x0.B x0.C)] [Ap (CF x0.A x0.C).2.1,Ap (CF x0.B x0.C).2.1] ⟨(Td x2),(XQ x0 x1)⟩ (.cons (DX x0.A x0.C) (.cons (DX x0.B x0.C) .nil)) (.cons rfl (.cons rfl .nil))<|AG ?_
  refine AB<|AB ?_
  refine rn ⟨(Hv x2 [(7,tP 7 0),(8,tP 8 0),(49,tB (decide ((x0.Kind:Int)=3)))]),(XQ x0 x1)⟩ ?_
  refine Bd (⟨(Td x2),[(KK x0),(I8 x1),(7,.cells (AC.c (bif decide ((x0.Kind:Int)=3) then (AM x0.B x0.C) else (AM x0.A x0.C))) 66),(8,.cells (AC.c (bif decide ((x0.Kind:Int)=3) then (AM x0.A x0.C) else (AM x0.B x0.C))) 66)]⟩) ?_ ?_
  ·refine AV _ rfl (fun h3 => ?_) (fun h3 => ?_)
   ·refine rn ⟨(Td x2),[(KK x0),(I8 x1),(7,.cells (AC.c (AM x0.B x0.C)) 66),(8,.cells (AC.c (AM x0.A x0.C)) 66)]⟩ ?_
    refine Ay ?_
    first | rfl | (simp only [h3,cond_true,cond_false] <;> rfl)
   refine AY<|AG ?_
   refine Cv.trans (ck (⟨(Td x2),(XQ x0 x1)⟩)) (Ay ?_)
   first | rfl | (simp only [h3,cond_true,cond_false] <;> rfl)
  refine AB<|dw [] [(55,WS x1 x0.C),(57,Pb x0)] [Ap (WS x1 x0.C).2.1,Ap (Pb x0).2.1] ⟨(Hv x2 [(7,tP 7 0),(8,tP 8 0),(9,tI (Ij x1 x0.C)),(10,tI (CA x0))]),(gE x0 x1)⟩ (.cons (jM x1 x0.C) (.cons (jR x0) .nil)) (.cons rfl (.cons rfl .nil))<|AG<|AB ?_
  refine rn ⟨(Hv x2 [(7,tP 7 0),(8,tP 8 0),(9,tI (Ij x1 x0.C)),(10,tI (CA x0)),(11,tI (max (W64 ((CA x0)-x2)) 0))]),(gE x0 x1)⟩<|AB ?_
  refine dw [] [(65,CF x1 x0.C),(68,JY (AM x1 x0.C) (Z6N x0) (Z6O x0))] ((Ap (CF x1 x0.C).2.1)::(Ap (JY (AM x1 x0.C) (Z6N x0) (Z6O x0)).2.1)::(gp ((Z6P x1 x0)=true))::(gp ((Z6P x1 x0)=true))::(gp ((Z6P x1 x0)=true))::(gp ((Z6P x1 x0)=true))::(gp ((Z6P x1 x0)=true))::(gp ((Z6P x1 x0)=true))::(gp ((Z6P x1 x0)=true))::(gp ((Z6P x1 x0)=true))::(gp ((Z6P x1 x0)=true))::(t5 (bif Z6P x1 x0 then decide (((Ij x1 x0.C):Int)<=(W64 ((W64 ((CA x0)+x2))*(W64 ((CA x0)+x2))))) else false) [])) ⟨[(6,tB (bif bif Z6P x1 x0 then decide (((Ij x1 x0.C):Int)<=(W64 ((W64 ((CA x0)+x2))*(W64 ((CA x0)+x2))))) else false then decide (((W64 ((max (W64 ((CA x0)-x2)) 0)*(max (W64 ((CA x0)-x2)) 0))):Int)<=(Ij x1 x0.C)) else false))],[]⟩ (.cons (DX x1 x0.C) (.cons (VZ (AM x1 x0.C) (Z6N x0) (Z6O x0)) .nil)) (.cons rfl (.cons rfl (ci (ci (ci (ci (ci (ci (ci (ci (ci (c5 .nil))))))))))))<|AG ?_
  refine AW<|A7 ?_
  exact xl (tO (.b (bif bif Z6P x1 x0 then decide (((Ij x1 x0.C):Int)<=(W64 ((W64 ((CA x0)+x2))*(W64 ((CA x0)+x2))))) else false then decide (((W64 ((max (W64 ((CA x0)-x2)) 0)*(max (W64 ((CA x0)-x2)) 0))):Int)<=(Ij x1 x0.C)) else false))) (Aa (by simp only [Gh,h1,h2,cond_true,cond_false] <;> rfl))
 have g2:=Bl h2
 refine AY<|AG<|AB ?_
 refine rs 91 (CF x0.B x0.A) ⟨(Hv x2 [(12,tP 12 0)]),[(KK x0),(I8 x1),(12,.cells (AC.c (FK x0)) 66)]⟩ (DX x0.B x0.A)<|AG<|AB ?_
 refine dw [] [(95,CF x1 x0.A),(97,FQ (AM x1 x0.A) (FK x0)),(100,FQ (FK x0) (FK x0))] [Ap (CF x1 x0.A).2.1,Ap (FQ (AM x1 x0.A) (AM x0.B x0.A)).2.1,Ap (FQ (AM x0.B x0.A) (AM x0.B x0.A)).2.1] ⟨(Hv x2 [(12,tP 12 0),(13,tI (CG (AM x1 x0.A) (FK x0))),(14,Z6Q x0)]),[(KK x0),(I8 x1),(12,.cells (AC.c (FK x0)) 66)]⟩ (.cons (DX x1 x0.A) (.cons (KO (AM x1 x0.A) (AM x0.B x0.A)) (.cons (KO (AM x0.B x0.A) (AM x0.B x0.A)) .nil))) (.cons rfl (.cons rfl (.cons rfl .nil)))<|AG ?_
 refine AB<|AB ?_
 refine rc [] (i3 (decide (((CG (AM x1 x0.A) (FK x0)):Int)<=0)) []) ⟨(Hv x2 [(12,tP 12 0),(14,Z6Q x0),(107,tB (bif decide (((CG (AM x1 x0.A) (AM x0.B x0.A)):Int)<=0) then true else decide (((CG (AM x0.B x0.A) (AM x0.B x0.A)):Int)<=(CG (AM x1 x0.A) (AM x0.B x0.A)))))]),[(KK x0),(I8 x1),(12,.cells (AC.c (FK x0)) 66)]⟩ .nil (c3 .nil)<|AG ?_
 refine AV _ rfl (fun h3 => ?_) (fun h3 => ?_)
 ·refine AB<|rn ⟨[(6,tB false)],[]⟩ ?_
  refine AW<|A7 ?_
  exact xl (tO (.b false)) (Aa (by simp only [Gh,h1,h2,h3,cond_true,cond_false] <;> rfl))
 refine AY<|AG<|AB ?_
 refine dw [] [(112,CF x1 x0.A),(113,EE (FK x0) (AM x1 x0.A))] [Ap (CF x1 x0.A).2.1,Ap (EE (AM x0.B x0.A) (AM x1 x0.A)).2.1] ⟨[(2,tI x2),(14,Z6Q x0),(15,tI (BP (FK x0) (AM x1 x0.A)))],[]⟩ (.cons (DX x1 x0.A) (.cons (JI (AM x0.B x0.A) (AM x1 x0.A)) .nil)) (.cons rfl (.cons rfl .nil))<|AG<|AB ?_
 refine rn ⟨[(2,tI x2),(14,Z6Q x0),(15,tI (XJ x0 x1))],[]⟩<|AB ?_
 refine rc [(120,Gz (XJ x0 x1) (XJ x0 x1)),(125,Gz (W64 (x2*x2)) (CG (FK x0) (FK x0))),(126,PY (Z6R x0 x1) (Z6S x2 x0))] [Ap (Gz (max (BP (AM x0.B x0.A) (AM x1 x0.A)) (W64 (0-(BP (AM x0.B x0.A) (AM x1 x0.A))))) (max (BP (AM x0.B x0.A) (AM x1 x0.A)) (W64 (0-(BP (AM x0.B x0.A) (AM x1 x0.A)))))).2.1,Ap (Gz (W64 (x2*x2)) (CG (AM x0.B x0.A) (AM x0.B x0.A))).2.1,Ap (PY (Z6R x0 x1) (Z6S x2 x0)).2.1] ⟨[(6,tB (Z6T x0 x1 x2))],[]⟩ (.cons (Qf (max (BP (AM x0.B x0.A) (AM x1 x0.A)) (W64 (0-(BP (AM x0.B x0.A) (AM x1 x0.A))))) (max (BP (AM x0.B x0.A) (AM x1 x0.A)) (W64 (0-(BP (AM x0.B x0.A) (AM x1 x0.A)))))) (.cons (Qf (W64 (x2*x2)) (CG (AM x0.B x0.A) (AM x0.B x0.A))) (.cons (jP (Z6R x0 x1) (Z6S x2 x0)) .nil))) (.cons rfl (.cons rfl (.cons rfl .nil)))<|AG<|AW ?_
 exact xl (tO (.b (Z6T x0 x1 x2))) (Aa (by simp only [Gh,h1,h2,h3,cond_true,cond_false] <;> rfl))
theorem qC (x0:AF) (x1:AC) (x2:Int):OKc (Yo x0 x1 x2):=cPu<|uT x0 x1 x2
def aZ (x:AF) (p:AC) (s:AP):Bool:=Gh x p s.R
theorem pin46  (x:AF) (p:AC) (s:AP):E5 Tryz.prog 88 [.agg (AF.c x),.one (.eptr 2 1 (gD (AC.c p)) 0 0),.one (.eptr 3 1 (gD (AP.c s)) 0 0)] (tO (.b (aZ x p s))):=by
 refine pwf Tryz.func88 fun W0 M0 => ?_
 refine AB<|rn ⟨[(1,.av (.one (.eptr 2 1 (gD (AC.c p)) 0 0))),(2,.av (.one (.eptr 3 1 (gD (AP.c s)) 0 0))),(3,tP 3 0)],[(3,.cells (AF.c x) 68)]⟩<|AB ?_
 refine rs 9 (Yo x p s.R) ⟨[(4,tB (Gh x p s.R))],[]⟩ (qC x p s.R)<|AG<|AW ?_
 exact xl (tO (.b (Gh x p s.R))) (Aa (by rfl))
def Z6U:Tv:=.av (.one (.clo 88 2 (Aw [.eptr 2 1 (fun _ j_=>((AC.c p):List Cl).getD j_ default) 0 0,.eptr 3 1 (fun _ j_=>((AP.c s):List Cl).getD j_ default) 0 0])))
def Z6V:CT:=(88,[.agg (AF.c (xs.getD v8.toNat default)),.one (.eptr 2 1 (fun _ j_=>((AC.c p):List Cl).getD j_ default) 0 0),.one (.eptr 3 1 (fun _ j_=>((AP.c s):List Cl).getD j_ default) 0 0)],.val [] (tB (aZ (xs.getD v8.toNat default) p s)))
def K7 (xs:(List AF)) (p:AC) (s:AP):Nat->Int->Int
 | 0,_=>default
 | n0+1,v8=>bif decide ((v8:Int)<(xs.length:Int)) then (bif aZ (xs.getD v8.toNat default) p s then v8 else ((K7 xs p s n0) (v8+1))) else (-1)
def Y9 (xs:(List AF)) (p:AC) (s:AP):Int:=K7 xs p s (((xs.length:Int)-0).toNat+1) 0
abbrev J9:Nat×Tv:=(0,tO (lst 7 AF.c xs))
abbrev Np:Nat×Tv:=(7,tI (xs.length:Int))
theorem pixI  (xs:(List AF)) (p:AC) (s:AP) (hx:(xs.length:Int)<=9223372036854775807):E5 Tryz.prog 135 [.one (lst 7 AF.c xs),.one (.clo 88 2 (Aw [.eptr 2 1 (gD (AC.c p)) 0 0,.eptr 3 1 (gD (AP.c s)) 0 0]))] (tO (.i (Y9 xs p s))):=by
 refine pwf Tryz.func135 fun W0 M0 => ?_
 refine AB<|rn ⟨[(J9 xs),(1,Z6U p s)],[]⟩ ?_
 refine AB<|AB ?_
 refine rn ⟨[(J9 xs),(1,Z6U p s),(Np xs),(8,tI 0)],[]⟩<|AR ?_
 refine BB (ι:=Nat×Int) (fun x=>⟨[(J9 xs),(1,Z6U p s),(Np xs),(8,tI x.2)],[]⟩) (fun x=>((xs.length:Int)-x.2).toNat<x.1/\(0<=x.2/\(x.2<=(xs.length:Int)\/x.2=0))/\K7 xs p s x.1 x.2=Y9 xs p s) (fun x=>x.1) ?_ (((xs.length:Int)-0).toNat+1,0) ⟨Nat.lt_succ_self _,⟨ax0,ax0⟩,(by simp only [Y9,cond_true,cond_false])⟩
 rintro ⟨n0,v8⟩ ⟨hm0,hinv0,hF0⟩
 try dsimp only at hm0 hinv0 hF0
 cases n0 with | zero=>exact nz hm0 | succ n0 => ?_
 refine AB<|rn ⟨[(J9 xs),(1,Z6U p s),(Np xs),(8,tI v8),(9,tB (decide ((v8:Int)<(xs.length:Int))))],[]⟩<|AB ?_
 refine AV _ rfl (fun h1 => ?_) (fun h1 => ?_)
 ·have g1:=oT h1
  refine AY<|AG ?_
  refine AB<|AR<|AB ?_
  refine rn ⟨[(J9 xs),(1,Z6U p s),(5,tI v8),(Np xs),(8,tI v8)],[]⟩<|AB ?_
  refine rc [(16,(Z6V xs v8 p s))] [0<=(v8:Int)/\(v8:Int)<((xs.length:Nat):Int),Ap (Z6V xs v8 p s).2.1] ⟨[(J9 xs),(1,Z6U p s),(5,tI v8),(Np xs),(8,tI v8),(16,tB (aZ (xs.getD v8.toNat default) p s))],[]⟩ (.cons (cPu<|pin46 (xs.getD v8.toNat default) p s) .nil) (.cons au0 (.cons rfl .nil))<|AG ?_
  refine AV _ rfl (fun h2 => ?_) (fun h2 => ?_)
  ·refine AB<|rn ⟨[(4,tI v8)],[]⟩ ?_
   refine AW<|Bo ?_
   refine A7<|A7 ?_
   refine Bo<|A7 ?_
   exact xl (tO (.i v8)) (Aa (by rw [<- hF0];first | (simp only [K7,h1,h2,cond_true,cond_false] <;> rfl)))
  refine AY<|BN<|AG ?_
  refine rg ⟨[(J9 xs),(1,Z6U p s),(Np xs),(8,tI (W64 (v8+1)))],[]⟩ ?_
  (try rw [(show W64 (v8+1)=v8+1 from Af oM au5)])
  refine AG ?_
  refine ⟨(n0,v8+1),⟨?_,?_,(by rw [<- hF0];simp only [K7,h1,h2,cond_true,cond_false])⟩,Nat.lt_succ_self _,Ay kr⟩
  ·show ((xs.length:Int)-(v8+1)).toNat<n0;omega
  exact ⟨ax0,ax0⟩
 refine BF<|A3 ?_
 refine A3<|BG ?_
 refine AG<|AB ?_
 refine rn ⟨[(4,tI (-1))],[]⟩<|AW ?_
 exact xl (tO (.i (-1))) (Aa (by rw [<- hF0];first | (simp only [K7,h1,cond_true,cond_false] <;> rfl)))
def Z6W:CT:=(135,[.one (lst 7 AF.c xs),.one (.clo 88 2 (Aw [.eptr 2 1 (fun _ j_=>((AC.c p):List Cl).getD j_ default) 0 0,.eptr 3 1 (fun _ j_=>((AP.c s):List Cl).getD j_ default) 0 0]))],.val [] (tI (Y9 xs p s)))
def dX (xs:(List AF)) (p:AC) (s:AP):Bool:=decide ((0:Int)<=(Y9 xs p s))
theorem pcoI  (xs:(List AF)) (p:AC) (s:AP) (hx:(xs.length:Int)<=9223372036854775807):E5 Tryz.prog 87 [.one (lst 7 AF.c xs),.one (.clo 88 2 (Aw [.eptr 2 1 (gD (AC.c p)) 0 0,.eptr 3 1 (gD (AP.c s)) 0 0]))] (tO (.b (dX xs p s))):=by
 refine pwf Tryz.func87 fun W0 M0 => ?_
 refine AB<|rn ⟨[(J9 xs),(1,.av (.one (.clo 88 2 (Aw [.eptr 2 1 (gD (AC.c p)) 0 0,.eptr 3 1 (gD (AP.c s)) 0 0]))))],[]⟩<|AB ?_
 refine rs 7 (Z6W xs p s) ⟨[(4,tB (decide ((0:Int)<=(Y9 xs p s))))],[]⟩ (cPu<|pixI xs p s au10)<|AG<|AW ?_
 exact xl (tO (.b (decide ((0:Int)<=(Y9 xs p s))))) (Aa (by rfl))
def Z6X (s:AP) (p:AC):CT:=(87,[.one (E3 s),.one (.clo 88 2 (Aw [.ptr 3 0,.ptr 2 0]))],rdI [3,2] [.cells (AC.c p) 66,.cells (AP.c s) 28] (tB (dX s.Edges p s)))
def EY (s:AP) (p:AC):Nat->Int->Int->Bool
 | 0,_,_=>default
 | n0+1,v6,v49=>bif decide ((v49:Int)<(s.Edges.length:Int)) then ((EY s p n0) (W64 (v6+(Ik (s.Edges.getD v49.toNat default) p))) (v49+1)) else (bif decide ((s.Kind:Int)=2) then !decide ((v6:Int)=0) else false)
def DP (s:AP) (p:AC):Bool:=bif bif bif bif bif !decide (((Cx s):Int)=0) then true else decide ((p.X:Int)<(Hb s).X0) then true else decide (((Hb s).X1:Int)<p.X) then true else decide ((p.Y:Int)<(Hb s).Y0) then true else decide (((Hb s).Y1:Int)<p.Y) then false else (bif dX s.Edges p s then true else (EY s p (((s.Edges.length:Int)-0).toNat+1) 0 0))
def NE (s:AP) (p:AC):CT:=(35,[.agg (AP.c s),.agg (AC.c p)],.val [] (.av (.one (.b (DP s p)))))
abbrev JA (s:AP) (p:AC):List (Nat×Blk):=[(2,.cells (AP.c s) 28),(3,.cells (AC.c p) 66)]
abbrev N2:Nat×Tv:=(48,tI (s.Edges.length:Int))
theorem jE (s:AP) (p:AC) (hl:(s.Edges.length:Int)<=1000000):PuP 35 (NE s p).2.1 (tO (.b (DP s p))):=by
 refine pwf Tryz.func35 fun W0 M0 => ?_
 refine AB<|rn ⟨Ga,(JA s p)⟩<|AB ?_
 refine rs 10 (xP s) ⟨[(2,tP 2 0),(3,tP 3 0),(5,tP 5 0)],[(2,.cells (AP.c s) 28),(3,.cells (AC.c p) 66),(5,.cells (Ak.c (Hb s)) 90)]⟩ (okBox s au10)<|AG ?_
 refine AB<|AB ?_
 refine rc [(12,Pc s)] ((Ap (Pc s).2.1)::(i5 (!decide (((Cx s):Int)=0)) (i5 (bif !decide (((Cx s):Int)=0) then true else decide ((p.X:Int)<(Hb s).X0)) (i5 (bif bif !decide (((Cx s):Int)=0) then true else decide ((p.X:Int)<(Hb s).X0) then true else decide (((Hb s).X1:Int)<p.X)) (i5 (bif bif bif !decide (((Cx s):Int)=0) then true else decide ((p.X:Int)<(Hb s).X0) then true else decide (((Hb s).X1:Int)<p.X) then true else decide ((p.Y:Int)<(Hb s).Y0)) []))))) ⟨[(2,tP 2 0),(3,tP 3 0),(41,tB (bif bif bif bif !decide (((Cx s):Int)=0) then true else decide ((p.X:Int)<(Hb s).X0) then true else decide (((Hb s).X1:Int)<p.X) then true else decide ((p.Y:Int)<(Hb s).Y0) then true else decide (((Hb s).Y1:Int)<p.Y)))],(JA s p)⟩ (.cons (jU s au10) .nil) (.cons rfl (c5 (c5 (c5 (c5 .nil)))))<|AG ?_
 refine AV _ rfl (fun h1 => ?_) (fun h1 => ?_)
 ·refine AB<|rn ⟨[(4,tB false)],[]⟩ ?_
  refine AW<|A7 ?_
  exact xl (tO (.b false)) (Aa (by simp only [DP,h1,cond_true,cond_false] <;> rfl))
 refine AY<|AG ?_
 refine AB<|AB ?_
 refine rc [(45,(Z6X s p))] [Ap (Z6X s p).2.1,RJ [.cells (AC.c p) 66,.cells (AP.c s) 28]] ⟨[(2,tP 2 0),(3,tP 3 0),(45,tB (dX s.Edges p s))],(JA s p)⟩ (.cons (Kw (fun _ _=>kr) kr kr (PR (pcoI s.Edges p s au10) (.cons (AvE.refl _) (.cons (.one (.clo 88 2 _ _ (F7 kr))) .nil)))) .nil) (.cons rfl (.cons rfl .nil))<|AG ?_
 refine AV _ rfl (fun h2 => ?_) (fun h2 => ?_)
 ·refine AB<|rn ⟨[(4,tB true)],[]⟩ ?_
  refine AW<|A7 ?_
  exact xl (tO (.b true)) (Aa (by simp only [DP,h1,h2,cond_true,cond_false] <;> rfl))
 refine AY<|AG<|AB ?_
 refine rn ⟨[(2,tP 2 0),(3,tP 3 0),(6,tI 0)],(JA s p)⟩ ?_
 refine AB<|AB ?_
 refine rn ⟨[(2,tP 2 0),(3,tP 3 0),(6,tI 0),(47,tO (E3 s)),(N2 s),(49,tI 0)],(JA s p)⟩<|AR ?_
 refine BB (ι:=Nat×Int×Int) (fun x=>⟨[(2,tP 2 0),(3,tP 3 0),(6,tI x.2.1),(47,tO (E3 s)),(N2 s),(49,tI x.2.2)],(JA s p)⟩) (fun x=>((s.Edges.length:Int)-x.2.2).toNat<x.1/\(0<=x.2.2/\(x.2.2<=(s.Edges.length:Int)\/x.2.2=0))/\EY s p x.1 x.2.1 x.2.2=DP s p) (fun x=>x.1) ?_ (((s.Edges.length:Int)-0).toNat+1,0,0) ⟨Nat.lt_succ_self _,⟨ax0,ax0⟩,(by simp only [DP,h1,h2,cond_true,cond_false])⟩
 rintro ⟨n0,v6,v49⟩ ⟨hm0,hinv0,hF0⟩
 try dsimp only at hm0 hinv0 hF0
 cases n0 with | zero=>exact nz hm0 | succ n0 => ?_
 refine AB<|rn ⟨[(2,tP 2 0),(3,tP 3 0),(6,tI v6),(47,tO (E3 s)),(N2 s),(49,tI v49),(50,tB (decide ((v49:Int)<(s.Edges.length:Int))))],(JA s p)⟩<|AB ?_
 refine AV _ rfl (fun h3 => ?_) (fun h3 => ?_)
 ·have g3:=oT h3
  refine AY<|AG ?_
  refine AB<|AR<|AB ?_
  refine rc [] [0<=(v49:Int)/\(v49:Int)<((s.Edges.length:Nat):Int)] ⟨[(2,tP 2 0),(3,tP 3 0),(6,tI v6),(8,tP 8 0),(47,tO (E3 s)),(N2 s),(49,tI v49)],[(2,.cells (AP.c s) 28),(3,.cells (AC.c p) 66),(8,.cells (AF.c (s.Edges.getD v49.toNat default)) 68)]⟩ .nil (.cons au0 .nil)<|AG ?_
  refine rs 56 (xK (s.Edges.getD v49.toNat default) p) ⟨[(2,tP 2 0),(3,tP 3 0),(6,tI (W64 (v6+(Ik (s.Edges.getD v49.toNat default) p)))),(47,tO (E3 s)),(N2 s),(49,tI v49)],(JA s p)⟩ (okRay (s.Edges.getD v49.toNat default) p)<|BN<|AG ?_
  refine rg ⟨[(2,tP 2 0),(3,tP 3 0),(6,tI (W64 (v6+(Ik (s.Edges.getD v49.toNat default) p)))),(47,tO (E3 s)),(N2 s),(49,tI (W64 (v49+1)))],(JA s p)⟩ ?_
  (try rw [(show W64 (v49+1)=v49+1 from Af oM au5)])
  refine AG ?_
  refine ⟨(n0,W64 (v6+(Ik (s.Edges.getD v49.toNat default) p)),v49+1),⟨?_,?_,(by rw [<- hF0];simp only [EY,h3,cond_true,cond_false])⟩,Nat.lt_succ_self _,Ay kr⟩
  ·show ((s.Edges.length:Int)-(v49+1)).toNat<n0;omega
  exact ⟨ax0,ax0⟩
 refine BF<|A3 ?_
 refine A3<|BG ?_
 refine AG<|AB ?_
 refine rc [] (t2 (D9 s) []) ⟨[(4,tB (bif decide ((s.Kind:Int)=2) then !decide ((v6:Int)=0) else false))],[]⟩ .nil (c2 .nil)<|AG<|AW ?_
 exact xl (tO (.b (bif decide ((s.Kind:Int)=2) then !decide ((v6:Int)=0) else false))) (Aa (by rw [<- hF0];first | (simp only [EY,h3,cond_true,cond_false] <;> rfl)))
theorem cL (s:AP) (p:AC) (hl:(s.Edges.length:Int)<=1000000):OKc (NE s p):=cPu<|jE s p hl
end
section
open Go.RowKit
variable (c:DS) (v40 v72 v54:Int) (v18:Bool) (v8:Int)
def Z6Y:(List Ad):=DB (AL c.Board).1 (AL c.Board).2
def Z6Z:(List Ao):=EJ (AL c.Board).1 (AL c.Board).2
def Z70:AP:=((Z6Y c).getD v72.toNat default).Shape
def Z71:AE:=(AL c.Board).1.Parts.getD v40.toNat default
def Z72:AQ:=(Ba (AL c.Board).2 (Z71 c v40).Type').1
def Z73:A1:=(Z72 c v40).Pads.getD v54.toNat default
def Z74:AC:=(FAt (AL c.Board).1 (AL c.Board).2 (Ag.mk (Z71 c v40).Ref (Z73 c v40 v54).Name)).1
def Z75:Bool:=(FAt (AL c.Board).1 (AL c.Board).2 (Ag.mk (Z71 c v40).Ref (Z73 c v40 v54).Name)).2.2
def Z76 (c:DS) (v72:Int) (v40:Int) (v54:Int):Bool:=DP (Z70 c v72) (Z74 c v40 v54)
def Z77:Bool:=bif !(Z75 c v40 v54) then true else !v18
def CO (c:DS) (v8:Int) (v40:Int) (v8':Int) (v54:Int) (K0:Int->Int->Bool) (K1:Int->Int->Bool):Nat->Bool->Int->Bool
 | 0,_,_=>default
 | n2+1,v18,v72=>bif decide ((v72:Int)<((Z6Y c).length:Int)) then ((CO c v8 v40 v8' v54 K0 K1 n2) (bif bif decide ((((Z6Y c).getD v72.toNat default).Id:Int)=(Z71 c v40).Id) then (((Z6Y c).getD v72.toNat default).Pad.toList==(Z73 c v40 v54).Name.toList) else false then (bif bif bif Z76 c v72 v40 v54 then decide ((((Z6Y c).getD v72.toNat default).From:Int)<=(FAt (AL c.Board).1 (AL c.Board).2 (Ag.mk (Z71 c v40).Ref (Z73 c v40 v54).Name)).2.1) else false then decide (((FAt (AL c.Board).1 (AL c.Board).2 (Ag.mk (Z71 c v40).Ref (Z73 c v40 v54).Name)).2.1:Int)<=((Z6Y c).getD v72.toNat default).To) else false then bif bif decide (((Z73 c v40 v54).Drill:Int)=0) then decide ((((Z6Y c).getD v72.toNat default).From:Int)=((Z6Y c).getD v72.toNat default).To) else false then true else bif bif decide ((0:Int)<(Z73 c v40 v54).Drill) then decide ((((Z6Y c).getD v72.toNat default).From:Int)=1) else false then decide ((((Z6Y c).getD v72.toNat default).To:Int)=(AL c.Board).1.Layers) else false else false) else v18) (v72+1)) else (bif Z77 c v40 v54 v18 then false else (bif decide ((0:Int)<(Z73 c v40 v54).Drill) then (bif decide ((((Z6Z c).length:Int):Int)<=v8') then false else (K1 (W64 (v8'+1)) (v54+1))) else (K1 v8' (v54+1))))
def Cp (c:DS) (v8:Int) (v40:Int) (K0:Int->Int->Bool):Nat->Int->Int->Bool
 | 0,_,_=>default
 | n1+1,v8',v54=>bif decide ((v54:Int)<((Z72 c v40).Pads.length:Int)) then (CO c v8 v40 v8' v54 K0 (Cp c v8 v40 K0 n1) ((((Z6Y c).length:Int)-0).toNat+1) false 0) else (K0 v8' (v40+1))
def Dn (c:DS) (v8:Int) (v40:Int) (K0:Int->Int->Bool):Nat->Int->Int->Bool
 | 0,_,_=>default
 | n3+1,v21,v153=>bif decide ((v153:Int)<((Z6Z c).length:Int)) then ((Dn c v8 v40 K0 n3) (bif ((Z6Z c).getD v153.toNat default).Plated then (W64 (v21+1)) else v21) (v153+1)) else (bif bif Bk then decide ((v21:Int)=(W64 (v8+((AL c.Board).1.Vias.length:Int)))) else false then decide ((((Z6Z c).length:Int):Int)=(W64 (v21+((AL c.Board).1.Slots.length:Int)))) else false)
def Br (c:DS):Nat->Int->Int->Bool
 | 0,_,_=>default
 | n0+1,v8,v40=>bif decide ((v40:Int)<((AL c.Board).1.Parts.length:Int)) then (Cp c v8 v40 (Br c n0) ((((Z72 c v40).Pads.length:Int)-0).toNat+1) v8 0) else (Dn c v8 v40 (Br c n0) ((((Z6Z c).length:Int)-0).toNat+1) 0 0)
def D7 (c:DS):Bool:=Br c ((((AL c.Board).1.Parts.length:Int)-0).toNat+1) 0 0
def Ys:CT:=(8,[.agg (DS.c c)],.val [] (.av (.one (.b (D7 c)))))
abbrev bD:=FAt (AL c.Board).1 (AL c.Board).2 (Ag.mk (Z71 c v40).Ref (Z73 c v40 v54).Name)
abbrev H4 (c:DS) (v72:Int) (v40:Int) (v54:Int):=(bif bif Z76 c v72 v40 v54 then decide ((((Z6Y c).getD v72.toNat default).From:Int)<=(bD c v40 v54).2.1) else false then decide (((bD c v40 v54).2.1:Int)<=((Z6Y c).getD v72.toNat default).To) else false)
abbrev Jp (c:DS) (v40:Int) (v54:Int) (v72:Int):=(bif decide (((Z73 c v40 v54).Drill:Int)=0) then decide ((((Z6Y c).getD v72.toNat default).From:Int)=((Z6Y c).getD v72.toNat default).To) else false)
abbrev Dq:Nat×Blk:=(4,.cells (AH.c (AL c.Board).1) 41)
abbrev EL:Nat×Tv:=(39,tI ((AL c.Board).1.Parts.length:Int))
abbrev EK:Nat×Tv:=(38,tO (lst 7 AE.c (AL c.Board).1.Parts))
abbrev ZH:Nat×Tv:=(5,tO (lst 3 AQ.c (AL c.Board).2))
abbrev yB:=lst 6 Ao.c (Z6Z c)
abbrev ZG:Nat×Tv:=(7,tO (yB c))
abbrev Md:=lst 9 Ad.c (Z6Y c)
abbrev eK:Nat×Tv:=(6,tO (Md c))
abbrev Fb:Nat×Tv:=(53,tI ((Z72 c v40).Pads.length:Int))
abbrev Fa:Nat×Tv:=(52,tO (lst 7 A1.c (Z72 c v40).Pads))
abbrev J0:Nat×Blk:=(10,.cells (AE.c (Z71 c v40)) 78)
abbrev gN (c:DS) (v72:Int) (v40:Int) (v54:Int):=(bif bif bif Z76 c v72 v40 v54 then decide ((((Z6Y c).getD v72.toNat default).From:Int)<=(bD c v40 v54).2.1) else false then decide (((bD c v40 v54).2.1:Int)<=((Z6Y c).getD v72.toNat default).To) else false then bif bif decide (((Z73 c v40 v54).Drill:Int)=0) then decide ((((Z6Y c).getD v72.toNat default).From:Int)=((Z6Y c).getD v72.toNat default).To) else false then true else bif bif decide ((0:Int)<(Z73 c v40 v54).Drill) then decide ((((Z6Y c).getD v72.toNat default).From:Int)=1) else false then decide ((((Z6Y c).getD v72.toNat default).To:Int)=(AL c.Board).1.Layers) else false else false)
abbrev Tj (c:DS) (v40:Int) (v54:Int) (v72:Int):=(bif decide ((0:Int)<(Z73 c v40 v54).Drill) then decide ((((Z6Y c).getD v72.toNat default).From:Int)=1) else false)
abbrev uI:Nat×Blk:=(14,.cells (A1.c (Z73 c v40 v54)) 102)
abbrev I7:Nat×Tv:=(152,tI ((Z6Z c).length:Int))
abbrev HC:Nat×Blk:=(15,.cells (AC.c (Z74 c v40 v54)) 66)
abbrev I6:Nat×Tv:=(71,tI ((Z6Y c).length:Int))
abbrev N0:Bool:=(decide (((Z73 c v40 v54).Drill:Int)=0))
abbrev uH:Nat×Tv:=(16,tI (bD c v40 v54).2.1)
abbrev Iv:Nat×Tv:=(151,tO (yB c))
abbrev G6 (c:DS) (v8':Int) (v40:Int) (v54:Int) (t_:List (Nat×Tv)):List (Nat×Tv):=(3,tB Bk)::(4,tP 4 0)::(ZH c)::(eK c)::(ZG c)::(8,tI v8')::(10,tP 10 0)::(14,tP 14 0)::(15,tP 15 0)::(uH c v40 v54)::(17,tB (Z75 c v40 v54))::t_
abbrev TF (c:DS) (v8':Int) (v40:Int) (t_:List (Nat×Tv)):List (Nat×Tv):=(3,tB Bk)::(4,tP 4 0)::(ZH c)::(eK c)::(ZG c)::(8,tI v8')::(10,tP 10 0)::(EK c)::(EL c)::(40,tI v40)::(Fa c v40)::(Fb c v40)::t_
abbrev Hw (t_:List (Nat×Tv)):List (Nat×Tv):=(3,tB Bk)::(4,tP 4 0)::(ZG c)::(8,tI v8)::t_
abbrev Ff (t_:List (Nat×Blk)):List (Nat×Blk):=(Dq c)::(J0 c v40)::(uI c v40 v54)::t_
abbrev FJ (t_:List (Nat×Tv)):List (Nat×Tv):=(3,tB Bk)::(4,tP 4 0)::(ZH c)::(eK c)::(ZG c)::t_
theorem au16 {p:Prop} (h:p:=by first | (with_reducible exact JM _) | (with_reducible exact Qq _) | (with_reducible exact hed1 _) | (with_reducible exact hAl) | (with_reducible exact hHl) | (with_reducible exact hTl) | (with_reducible exact hPl) | with_reducible assumption | omega | decide | (simp only [List.length_cons,List.length_nil,List.length_append];omega) | assumption):p:=h
set_option maxHeartbeats 4000000 in
theorem YD (c:DS) (hcb:(c.Board.length:Int)<=9223372036854775807) (hll:∀ x∈c.Board,(x.length:Int)<=9223372036854775807):PuP 8 (Ys c).2.1 (tO (.b (D7 c))):=by
 refine pwf Tryz.func8 fun W0 M0 => ?_
 have hM:=wH c.Board
 have hP:=hM.par
 have hPl:(((AL c.Board).1.Parts.length:Nat):Int)<=1000000:=by omega
 have hTl:(((AL c.Board).2.length:Nat):Int)<=1000000:=(JM c.Board).1
 have hAl:(((Z6Y c).length:Nat):Int)<=100000000:=sI c.Board
 have hHl:(((Z6Z c).length:Nat):Int)<=100000000:=dB c.Board
 have hed1:∀ k,(((Z70 c k).Edges.length:Nat):Int)<=1000000:=fun k=>kX c.Board k.toNat
 have hpd:∀ k,(((Z72 c k).Pads.length:Nat):Int)<=1000000:=fun k=>by show ((Ba _ _).1.Pads.length:Int)<=_;rw [Im];exact H9 (JM _) _
 refine AB<|rn ⟨[(1,tP 1 0)],[(1,.cells (DS.c c) 25)]⟩<|AB ?_
 refine rs 24 OR ⟨[(1,tP 1 0),(3,tB Bk)],[(1,.cells (DS.c c) 25)]⟩ YI<|AG<|AB ?_
 refine rs 28 (Uo c.Board) ⟨[(3,tB Bk),(4,tP 4 0),(ZH c)],[(Dq c)]⟩ (jS c.Board au16 au16)<|AG<|AB ?_
 refine dw [] [(33,aR (AL c.Board).1 (AL c.Board).2),(36,NF (AL c.Board).1 (AL c.Board).2)] [Ap (aR (AL c.Board).1 (AL c.Board).2).2.1,Ap (NF (AL c.Board).1 (AL c.Board).2).2.1] ⟨(FJ c []),[(Dq c)]⟩ (.cons (jV (AL c.Board).1 (AL c.Board).2 au16 au16) (.cons (Vj (AL c.Board).1 (AL c.Board).2 au16 au16) .nil)) (.cons rfl (.cons rfl .nil))<|AG<|AB ?_
 refine rn ⟨(FJ c [(8,tI 0)]),[(Dq c)]⟩ ?_
 refine AB<|AB ?_
 refine rn ⟨(FJ c [(8,tI 0),(EK c),(EL c),(40,tI 0)]),[(Dq c)]⟩<|AR ?_
 refine BB (ι:=Nat×Int×Int) (fun x=>⟨(FJ c [(8,tI x.2.1),(EK c),(EL c),(40,tI x.2.2)]),[(Dq c)]⟩) (fun x=>(((AL c.Board).1.Parts.length:Int)-x.2.2).toNat<x.1/\(0<=x.2.2/\(x.2.2<=((AL c.Board).1.Parts.length:Int)\/x.2.2=0))/\Br c x.1 x.2.1 x.2.2=D7 c) (fun x=>x.1) ?_ ((((AL c.Board).1.Parts.length:Int)-0).toNat+1,0,0) ⟨Nat.lt_succ_self _,⟨ax0,ax0⟩,(by simp only [D7,cond_true,cond_false])⟩
 rintro ⟨n0,v8,v40⟩ ⟨hm0,hinv0,hF0⟩
 try dsimp only at hm0 hinv0 hF0
 cases n0 with | zero=>exact nz hm0 | succ n0 => ?_
 refine AB<|rn ⟨(FJ c [(8,tI v8),(EK c),(EL c),(40,tI v40),(41,tB (decide ((v40:Int)<((AL c.Board).1.Parts.length:Int))))]),[(Dq c)]⟩<|AB ?_
 refine AV _ rfl (fun h1 => ?_) (fun h1 => ?_)
 ·have g1:=oT h1
  refine AY<|AG ?_
  refine AB<|AR<|AB ?_
  refine rc [] [0<=(v40:Int)/\(v40:Int)<(((AL c.Board).1.Parts.length:Nat):Int)] ⟨(FJ c [(8,tI v8),(10,tP 10 0),(EK c),(EL c),(40,tI v40)]),[(Dq c),(J0 c v40)]⟩ .nil (.cons au0 .nil)<|AG<|AB ?_
  refine rs 48 (OY (AL c.Board).2 (Z71 c v40).Type') ⟨(FJ c [(8,tI v8),(10,tP 10 0),(11,tP 11 0),(EK c),(EL c),(40,tI v40)]),[(Dq c),(J0 c v40),(11,.cells (AQ.c (Z72 c v40)) 82)]⟩ (UG (AL c.Board).2 (Z71 c v40).Type' au16)<|AG<|AB ?_
  refine rn ⟨(FJ c [(8,tI v8),(10,tP 10 0),(EK c),(EL c),(40,tI v40),(Fa c v40),(Fb c v40),(54,tI 0)]),[(Dq c),(J0 c v40)]⟩<|AR ?_
  refine BB (ι:=Nat×Int×Int) (fun x=>⟨(FJ c [(8,tI x.2.1),(10,tP 10 0),(EK c),(EL c),(40,tI v40),(Fa c v40),(Fb c v40),(54,tI x.2.2)]),[(Dq c),(J0 c v40)]⟩) (fun x=>(((Z72 c v40).Pads.length:Int)-x.2.2).toNat<x.1/\(0<=x.2.2/\(x.2.2<=((Z72 c v40).Pads.length:Int)\/x.2.2=0))/\Cp c v8 v40 (Br c n0) x.1 x.2.1 x.2.2=D7 c) (fun x=>x.1) ?_ ((((Z72 c v40).Pads.length:Int)-0).toNat+1,v8,0) ⟨Nat.lt_succ_self _,⟨ax0,ax0⟩,(by rw [<- hF0];simp only [Br,h1,cond_true,cond_false])⟩
  rintro ⟨n1,v8',v54⟩ ⟨hm1,hinv1,hF1⟩
  try dsimp only at hm1 hinv1 hF1
  cases n1 with | zero=>exact nz hm1 | succ n1 => ?_
  have hb1:=hpd v40
  refine AB<|rn ⟨(TF c v8' v40 [(54,tI v54),(55,tB (decide ((v54:Int)<((Z72 c v40).Pads.length:Int))))]),[(Dq c),(J0 c v40)]⟩<|AB ?_
  refine AV _ rfl (fun h2 => ?_) (fun h2 => ?_)
  ·have g2:=oT h2
   refine AY<|AG ?_
   refine AB<|AR<|AB ?_
   refine rc [] [0<=(v54:Int)/\(v54:Int)<(((Z72 c v40).Pads.length:Nat):Int)] ⟨(FJ c [(8,tI v8'),(10,tP 10 0),(14,tP 14 0),(EK c),(EL c),(40,tI v40),(Fa c v40),(Fb c v40),(54,tI v54)]),(Ff c v40 v54 [])⟩ .nil (.cons au0 .nil)<|AG<|AB ?_
   refine rs 66 (ceI [.agg (AH.c (AL c.Board).1),.one (lst 3 AQ.c (AL c.Board).2),.agg [.s (Z71 c v40).Ref,.s (Z73 c v40 v54).Name]] (cAt (AL c.Board).1 (AL c.Board).2 (Ag.mk (Z71 c v40).Ref (Z73 c v40 v54).Name))) ⟨(G6 c v8' v40 v54 [(EK c),(EL c),(40,tI v40),(Fa c v40),(Fb c v40),(54,tI v54)]),(Ff c v40 v54 [(HC c v40 v54)])⟩ (Ct (okAt (AL c.Board).1 (AL c.Board).2 (Ag.mk (Z71 c v40).Ref (Z73 c v40 v54).Name) au16 au16) (.cons (.agg (rr9 (rr3 (.cons (.any _) (rr (rr .nil)))))) (.cons (AvE.refl _) (.cons (AvE.refl _) .nil))))<|AG<|AB ?_
   refine rn ⟨(G6 c v8' v40 v54 [(18,tB false),(EK c),(EL c),(40,tI v40),(Fa c v40),(Fb c v40),(54,tI v54)]),(Ff c v40 v54 [(HC c v40 v54)])⟩ ?_
   refine AB<|AB ?_
   refine rn ⟨(G6 c v8' v40 v54 [(18,tB false),(EK c),(EL c),(40,tI v40),(Fa c v40),(Fb c v40),(54,tI v54),(70,tO (Md c)),(I6 c),(72,tI 0)]),(Ff c v40 v54 [(HC c v40 v54)])⟩<|AR ?_
   refine BB (ι:=Nat×Bool×Int) (fun x=>⟨(G6 c v8' v40 v54 [(18,tB x.2.1),(EK c),(EL c),(40,tI v40),(Fa c v40),(Fb c v40),(54,tI v54),(70,tO (Md c)),(I6 c),(72,tI x.2.2)]),(Ff c v40 v54 [(HC c v40 v54)])⟩) (fun x=>(((Z6Y c).length:Int)-x.2.2).toNat<x.1/\(0<=x.2.2/\(x.2.2<=((Z6Y c).length:Int)\/x.2.2=0))/\CO c v8 v40 v8' v54 (Br c n0) (Cp c v8 v40 (Br c n0) n1) x.1 x.2.1 x.2.2=D7 c) (fun x=>x.1) ?_ ((((Z6Y c).length:Int)-0).toNat+1,false,0) ⟨Nat.lt_succ_self _,⟨ax0,ax0⟩,(by rw [<- hF1];simp only [Cp,h2,cond_true,cond_false])⟩
   rintro ⟨n2,v18,v72⟩ ⟨hm2,hinv2,hF2⟩
   try dsimp only at hm2 hinv2 hF2
   cases n2 with | zero=>exact nz hm2 | succ n2 => ?_
   refine AB<|rn ⟨(G6 c v8' v40 v54 [(18,tB v18),(EK c),(EL c),(40,tI v40),(Fa c v40),(Fb c v40),(54,tI v54),(70,tO (Md c)),(I6 c),(72,tI v72),(73,tB (decide ((v72:Int)<((Z6Y c).length:Int))))]),(Ff c v40 v54 [(HC c v40 v54)])⟩<|AB ?_
   refine AV _ rfl (fun h3 => ?_) (fun h3 => ?_)
   ·have g3:=oT h3
    refine AY<|AG<|AB ?_
    refine Bd (⟨(G6 c v8' v40 v54 [(18,tB (bif bif decide ((((Z6Y c).getD v72.toNat default).Id:Int)=(Z71 c v40).Id) then (((Z6Y c).getD v72.toNat default).Pad.toList==(Z73 c v40 v54).Name.toList) else false then (bif bif bif Z76 c v72 v40 v54 then decide ((((Z6Y c).getD v72.toNat default).From:Int)<=(bD c v40 v54).2.1) else false then decide (((bD c v40 v54).2.1:Int)<=((Z6Y c).getD v72.toNat default).To) else false then bif bif decide (((Z73 c v40 v54).Drill:Int)=0) then decide ((((Z6Y c).getD v72.toNat default).From:Int)=((Z6Y c).getD v72.toNat default).To) else false then true else bif bif decide ((0:Int)<(Z73 c v40 v54).Drill) then decide ((((Z6Y c).getD v72.toNat default).From:Int)=1) else false then decide ((((Z6Y c).getD v72.toNat default).To:Int)=(AL c.Board).1.Layers) else false else false) else v18)),(EK c),(EL c),(40,tI v40),(Fa c v40),(Fb c v40),(54,tI v54),(70,tO (Md c)),(I6 c),(72,tI v72)]),(Ff c v40 v54 [(HC c v40 v54)])⟩) ?_ ?_
    ·refine AR<|AB ?_
     refine rc [] [0<=(v72:Int)/\(v72:Int)<(((Z6Y c).length:Nat):Int)] ⟨(G6 c v8' v40 v54 [(18,tB v18),(20,tP 20 0),(EK c),(EL c),(40,tI v40),(Fa c v40),(Fb c v40),(54,tI v54),(70,tO (Md c)),(I6 c),(72,tI v72)]),(Ff c v40 v54 [(HC c v40 v54),(20,.cells (Ad.c ((Z6Y c).getD v72.toNat default)) 61)])⟩ .nil (.cons au0 .nil)<|AG<|AB ?_
     refine rc [] (t5 (decide ((((Z6Y c).getD v72.toNat default).Id:Int)=(Z71 c v40).Id)) []) ⟨(G6 c v8' v40 v54 [(18,tB v18),(20,tP 20 0),(EK c),(EL c),(40,tI v40),(Fa c v40),(Fb c v40),(54,tI v54),(70,tO (Md c)),(I6 c),(72,tI v72),(87,tB (bif decide ((((Z6Y c).getD v72.toNat default).Id:Int)=(Z71 c v40).Id) then (((Z6Y c).getD v72.toNat default).Pad.toList==(Z73 c v40 v54).Name.toList) else false))]),(Ff c v40 v54 [(HC c v40 v54),(20,.cells (Ad.c ((Z6Y c).getD v72.toNat default)) 61)])⟩ .nil (c5 .nil)<|AG ?_
     refine AV _ rfl (fun h4 => ?_) (fun h4 => ?_)
     ·have g4:=Wa h4
      refine rc [(91,NE (Z70 c v72) (Z74 c v40 v54))] ((Ap (NE (Z70 c v72) (Z74 c v40 v54)).2.1)::(t4 (Z76 c v72 v40 v54) (t4 (bif Z76 c v72 v40 v54 then decide ((((Z6Y c).getD v72.toNat default).From:Int)<=(bD c v40 v54).2.1) else false) (t3 (H4 c v72 v40 v54) [gp (((H4 c v72 v40 v54)=true)/\(N0 c v40 v54)=true),gp (((H4 c v72 v40 v54)=true)/\(N0 c v40 v54)=true),gp (((H4 c v72 v40 v54)=true)/\(N0 c v40 v54)=true),gp (((H4 c v72 v40 v54)=true)/\(N0 c v40 v54)=true),gt (H4 c v72 v40 v54),((bif bif Z76 c v72 v40 v54 then decide ((((Z6Y c).getD v72.toNat default).From:Int)<=(FAt (AL c.Board).1 (AL c.Board).2 (Ag.mk (Z71 c v40).Ref (Z73 c v40 v54).Name)).2.1) else false then decide (((FAt (AL c.Board).1 (AL c.Board).2 (Ag.mk (Z71 c v40).Ref (Z73 c v40 v54).Name)).2.1:Int)<=((Z6Y c).getD v72.toNat default).To) else false)=true)->((N0 c v40 v54)=true->(((bif bif Z76 c v72 v40 v54 then decide ((((Z6Y c).getD v72.toNat default).From:Int)<=(FAt (AL c.Board).1 (AL c.Board).2 (Ag.mk (Z71 c v40).Ref (Z73 c v40 v54).Name)).2.1) else false then decide (((FAt (AL c.Board).1 (AL c.Board).2 (Ag.mk (Z71 c v40).Ref (Z73 c v40 v54).Name)).2.1:Int)<=((Z6Y c).getD v72.toNat default).To) else false)=true)/\(N0 c v40 v54)=true)),gt (H4 c v72 v40 v54),gp (((H4 c v72 v40 v54)=true)/\(Jp c v40 v54 v72)=false),gp (((H4 c v72 v40 v54)=true)/\(Jp c v40 v54 v72)=false),gp (((H4 c v72 v40 v54)=true)/\(Jp c v40 v54 v72)=false),gp ((((H4 c v72 v40 v54)=true)/\(Jp c v40 v54 v72)=false)/\(decide ((0:Int)<(Z73 c v40 v54).Drill))=true),gp ((((H4 c v72 v40 v54)=true)/\(Jp c v40 v54 v72)=false)/\(decide ((0:Int)<(Z73 c v40 v54).Drill))=true),gp (((H4 c v72 v40 v54)=true)/\(Jp c v40 v54 v72)=false),(((bif bif Z76 c v72 v40 v54 then decide ((((Z6Y c).getD v72.toNat default).From:Int)<=(FAt (AL c.Board).1 (AL c.Board).2 (Ag.mk (Z71 c v40).Ref (Z73 c v40 v54).Name)).2.1) else false then decide (((FAt (AL c.Board).1 (AL c.Board).2 (Ag.mk (Z71 c v40).Ref (Z73 c v40 v54).Name)).2.1:Int)<=((Z6Y c).getD v72.toNat default).To) else false)=true)/\(bif decide (((Z73 c v40 v54).Drill:Int)=0) then decide ((((Z6Y c).getD v72.toNat default).From:Int)=((Z6Y c).getD v72.toNat default).To) else false)=false)->((decide ((0:Int)<(Z73 c v40 v54).Drill))=true->((((bif bif Z76 c v72 v40 v54 then decide ((((Z6Y c).getD v72.toNat default).From:Int)<=(FAt (AL c.Board).1 (AL c.Board).2 (Ag.mk (Z71 c v40).Ref (Z73 c v40 v54).Name)).2.1) else false then decide (((FAt (AL c.Board).1 (AL c.Board).2 (Ag.mk (Z71 c v40).Ref (Z73 c v40 v54).Name)).2.1:Int)<=((Z6Y c).getD v72.toNat default).To) else false)=true)/\(bif decide (((Z73 c v40 v54).Drill:Int)=0) then decide ((((Z6Y c).getD v72.toNat default).From:Int)=((Z6Y c).getD v72.toNat default).To) else false)=false)/\(decide ((0:Int)<(Z73 c v40 v54).Drill))=true)),gp (((H4 c v72 v40 v54)=true)/\(Jp c v40 v54 v72)=false),gp ((((H4 c v72 v40 v54)=true)/\(Jp c v40 v54 v72)=false)/\(Tj c v40 v54 v72)=true),gp ((((H4 c v72 v40 v54)=true)/\(Jp c v40 v54 v72)=false)/\(Tj c v40 v54 v72)=true),gp ((((H4 c v72 v40 v54)=true)/\(Jp c v40 v54 v72)=false)/\(Tj c v40 v54 v72)=true),gp ((((H4 c v72 v40 v54)=true)/\(Jp c v40 v54 v72)=false)/\(Tj c v40 v54 v72)=true),gp (((H4 c v72 v40 v54)=true)/\(Jp c v40 v54 v72)=false),(((bif bif Z76 c v72 v40 v54 then decide ((((Z6Y c).getD v72.toNat default).From:Int)<=(FAt (AL c.Board).1 (AL c.Board).2 (Ag.mk (Z71 c v40).Ref (Z73 c v40 v54).Name)).2.1) else false then decide (((FAt (AL c.Board).1 (AL c.Board).2 (Ag.mk (Z71 c v40).Ref (Z73 c v40 v54).Name)).2.1:Int)<=((Z6Y c).getD v72.toNat default).To) else false)=true)/\(bif decide (((Z73 c v40 v54).Drill:Int)=0) then decide ((((Z6Y c).getD v72.toNat default).From:Int)=((Z6Y c).getD v72.toNat default).To) else false)=false)->((bif decide ((0:Int)<(Z73 c v40 v54).Drill) then decide ((((Z6Y c).getD v72.toNat default).From:Int)=1) else false)=true->((((bif bif Z76 c v72 v40 v54 then decide ((((Z6Y c).getD v72.toNat default).From:Int)<=(FAt (AL c.Board).1 (AL c.Board).2 (Ag.mk (Z71 c v40).Ref (Z73 c v40 v54).Name)).2.1) else false then decide (((FAt (AL c.Board).1 (AL c.Board).2 (Ag.mk (Z71 c v40).Ref (Z73 c v40 v54).Name)).2.1:Int)<=((Z6Y c).getD v72.toNat default).To) else false)=true)/\(bif decide (((Z73 c v40 v54).Drill:Int)=0) then decide ((((Z6Y c).getD v72.toNat default).From:Int)=((Z6Y c).getD v72.toNat default).To) else false)=false)/\(bif decide ((0:Int)<(Z73 c v40 v54).Drill) then decide ((((Z6Y c).getD v72.toNat default).From:Int)=1) else false)=true)),gt (H4 c v72 v40 v54),((bif bif Z76 c v72 v40 v54 then decide ((((Z6Y c).getD v72.toNat default).From:Int)<=(FAt (AL c.Board).1 (AL c.Board).2 (Ag.mk (Z71 c v40).Ref (Z73 c v40 v54).Name)).2.1) else false then decide (((FAt (AL c.Board).1 (AL c.Board).2 (Ag.mk (Z71 c v40).Ref (Z73 c v40 v54).Name)).2.1:Int)<=((Z6Y c).getD v72.toNat default).To) else false)=true)->((bif decide (((Z73 c v40 v54).Drill:Int)=0) then decide ((((Z6Y c).getD v72.toNat default).From:Int)=((Z6Y c).getD v72.toNat default).To) else false)=false->(((bif bif Z76 c v72 v40 v54 then decide ((((Z6Y c).getD v72.toNat default).From:Int)<=(FAt (AL c.Board).1 (AL c.Board).2 (Ag.mk (Z71 c v40).Ref (Z73 c v40 v54).Name)).2.1) else false then decide (((FAt (AL c.Board).1 (AL c.Board).2 (Ag.mk (Z71 c v40).Ref (Z73 c v40 v54).Name)).2.1:Int)<=((Z6Y c).getD v72.toNat default).To) else false)=true)/\(bif decide (((Z73 c v40 v54).Drill:Int)=0) then decide ((((Z6Y c).getD v72.toNat default).From:Int)=((Z6Y c).getD v72.toNat default).To) else false)=false)),gt (H4 c v72 v40 v54)])))) ⟨(G6 c v8' v40 v54 [(18,tB (gN c v72 v40 v54)),(EK c),(EL c),(40,tI v40),(Fa c v40),(Fb c v40),(54,tI v54),(70,tO (Md c)),(I6 c),(72,tI v72)]),(Ff c v40 v54 [(HC c v40 v54)])⟩ (.cons (cL (Z70 c v72) (Z74 c v40 v54) au16) .nil) (.cons rfl (c4 (c4 (c3 (ci (ci (ci (ci (ci (.cons (by intros;first | assumption | exact ⟨by assumption,by assumption⟩ | simp_all) (ci (ci (ci (ci (ci (ci (ci (.cons (by intros;first | assumption | exact ⟨by assumption,by assumption⟩ | simp_all) (ci (ci (ci (ci (ci (ci (.cons (by intros;first | assumption | exact ⟨by assumption,by assumption⟩ | simp_all) (ci (.cons (by intros;first | assumption | exact ⟨by assumption,by assumption⟩ | simp_all) (ci .nil))))))))))))))))))))))))))))<|BN<|AG ?_
      refine Ay ?_
      first | rfl | (simp only [h4,cond_true,cond_false] <;> rfl)
     refine AY<|BN<|AG ?_
     refine Cv.trans (ck (⟨(G6 c v8' v40 v54 [(18,tB v18),(EK c),(EL c),(40,tI v40),(Fa c v40),(Fb c v40),(54,tI v54),(70,tO (Md c)),(I6 c),(72,tI v72)]),(Ff c v40 v54 [(HC c v40 v54)])⟩)) (Ay ?_)
     first | rfl | (simp only [h4,cond_true,cond_false] <;> rfl)
    refine rg ⟨(G6 c v8' v40 v54 [(18,tB (bif bif decide ((((Z6Y c).getD v72.toNat default).Id:Int)=(Z71 c v40).Id) then (((Z6Y c).getD v72.toNat default).Pad.toList==(Z73 c v40 v54).Name.toList) else false then (gN c v72 v40 v54) else v18)),(EK c),(EL c),(40,tI v40),(Fa c v40),(Fb c v40),(54,tI v54),(70,tO (Md c)),(I6 c),(72,tI (W64 (v72+1)))]),(Ff c v40 v54 [(HC c v40 v54)])⟩ ?_
    (try rw [(show W64 (v72+1)=v72+1 from Af oM au5)])
    refine AG ?_
    refine ⟨(n2,bif bif decide ((((Z6Y c).getD v72.toNat default).Id:Int)=(Z71 c v40).Id) then (((Z6Y c).getD v72.toNat default).Pad.toList==(Z73 c v40 v54).Name.toList) else false then (bif bif bif Z76 c v72 v40 v54 then decide ((((Z6Y c).getD v72.toNat default).From:Int)<=(FAt (AL c.Board).1 (AL c.Board).2 (Ag.mk (Z71 c v40).Ref (Z73 c v40 v54).Name)).2.1) else false then decide (((FAt (AL c.Board).1 (AL c.Board).2 (Ag.mk (Z71 c v40).Ref (Z73 c v40 v54).Name)).2.1:Int)<=((Z6Y c).getD v72.toNat default).To) else false then bif bif decide (((Z73 c v40 v54).Drill:Int)=0) then decide ((((Z6Y c).getD v72.toNat default).From:Int)=((Z6Y c).getD v72.toNat default).To) else false then true else bif bif decide ((0:Int)<(Z73 c v40 v54).Drill) then decide ((((Z6Y c).getD v72.toNat default).From:Int)=1) else false then decide ((((Z6Y c).getD v72.toNat default).To:Int)=(AL c.Board).1.Layers) else false else false) else v18,v72+1),⟨?_,?_,(by rw [<- hF2];simp only [CO,h3,cond_true,cond_false])⟩,Nat.lt_succ_self _,Ay kr⟩
    ·show (((Z6Y c).length:Int)-(v72+1)).toNat<n2;omega
    exact ⟨ax0,ax0⟩
   have g3:=oF h3
   refine BF<|A3 ?_
   refine A3<|BG ?_
   refine AG<|AB<|AB ?_
   refine rc [] [gi (!(Z75 c v40 v54)),gi (!(Z75 c v40 v54))] ⟨(FJ c [(8,tI v8'),(10,tP 10 0),(14,tP 14 0),(EK c),(EL c),(40,tI v40),(Fa c v40),(Fb c v40),(54,tI v54),(139,tB (Z77 c v40 v54 v18))]),(Ff c v40 v54 [])⟩ .nil (ci (ci .nil))<|AG ?_
   refine AV _ rfl (fun h4 => ?_) (fun h4 => ?_)
   ·refine AB<|rn ⟨[(2,tB false)],[]⟩ ?_
    refine AW<|A7 ?_
    refine Bo<|A7 ?_
    refine A7<|Bo ?_
    refine Bo<|A7 ?_
    refine A7<|Bo<|A7 ?_
    exact xl (tO (.b false)) (Aa (by rw [<- hF2];first | (simp only [CO,h3,h4,cond_true,cond_false] <;> rfl)))
   refine AY<|AG<|AB ?_
   refine rn ⟨(TF c v8' v40 [(54,tI v54),(142,tB (decide ((0:Int)<(Z73 c v40 v54).Drill)))]),[(Dq c),(J0 c v40)]⟩ ?_
   refine AV _ rfl (fun h5 => ?_) (fun h5 => ?_)
   ·have g5:=oT h5
    refine AB<|AB ?_
    refine rn ⟨(TF c v8' v40 [(54,tI v54),(146,tB (decide ((((Z6Z c).length:Int):Int)<=v8')))]),[(Dq c),(J0 c v40)]⟩ ?_
    refine AV _ rfl (fun h6 => ?_) (fun h6 => ?_)
    ·refine AB<|rn ⟨[(2,tB false)],[]⟩ ?_
     refine AW<|A7 ?_
     refine Bo<|A7 ?_
     refine A7<|Bo ?_
     refine Bo<|A7 ?_
     refine A7<|Bo<|A7 ?_
     exact xl (tO (.b false)) (Aa (by rw [<- hF2];first | (simp only [CO,h3,h4,h5,h6,cond_true,cond_false] <;> rfl)))
    have g6:=oF h6
    refine AY<|AG ?_
    refine rg ⟨(FJ c [(8,tI (W64 (v8'+1))),(10,tP 10 0),(EK c),(EL c),(40,tI v40),(Fa c v40),(Fb c v40),(54,tI v54)]),[(Dq c),(J0 c v40)]⟩<|BN<|AG ?_
    refine rg ⟨(FJ c [(8,tI (W64 (v8'+1))),(10,tP 10 0),(EK c),(EL c),(40,tI v40),(Fa c v40),(Fb c v40),(54,tI (W64 (v54+1)))]),[(Dq c),(J0 c v40)]⟩ ?_
    (try rw [(show W64 (v54+1)=v54+1 from Af oM au5)])
    refine AG ?_
    refine ⟨(n1,W64 (v8'+1),v54+1),⟨?_,?_,(by rw [<- hF2];simp only [CO,h3,h4,h5,h6,cond_true,cond_false])⟩,Nat.lt_succ_self _,Ay kr⟩
    ·show (((Z72 c v40).Pads.length:Int)-(v54+1)).toNat<n1;omega
    exact ⟨ax0,ax0⟩
   have g5:=oF h5
   refine AY<|BN<|AG ?_
   refine rg ⟨(TF c v8' v40 [(54,tI (W64 (v54+1)))]),[(Dq c),(J0 c v40)]⟩ ?_
   (try rw [(show W64 (v54+1)=v54+1 from Af oM au5)])
   refine AG ?_
   refine ⟨(n1,v8',v54+1),⟨?_,?_,(by rw [<- hF2];simp only [CO,h3,h4,h5,cond_true,cond_false])⟩,Nat.lt_succ_self _,Ay kr⟩
   ·show (((Z72 c v40).Pads.length:Int)-(v54+1)).toNat<n1;omega
   exact ⟨ax0,ax0⟩
  have g2:=oF h2
  refine BF<|A3 ?_
  refine A3<|BG ?_
  refine BN<|AG ?_
  refine rg ⟨(FJ c [(8,tI v8'),(EK c),(EL c),(40,tI (W64 (v40+1)))]),[(Dq c)]⟩ ?_
  (try rw [(show W64 (v40+1)=v40+1 from Af oM au5)])
  refine AG ?_
  refine ⟨(n0,v8',v40+1),⟨?_,?_,(by rw [<- hF1];simp only [Cp,h2,cond_true,cond_false])⟩,Nat.lt_succ_self _,Ay kr⟩
  ·show (((AL c.Board).1.Parts.length:Int)-(v40+1)).toNat<n0;omega
  exact ⟨ax0,ax0⟩
 have g1:=oF h1
 refine BF<|A3 ?_
 refine A3<|BG ?_
 refine AG<|AB ?_
 refine rn ⟨(Hw c v8 [(21,tI 0)]),[(Dq c)]⟩ ?_
 refine AB<|AB ?_
 refine rn ⟨(Hw c v8 [(21,tI 0),(Iv c),(I7 c),(153,tI 0)]),[(Dq c)]⟩<|AR ?_
 refine BB (ι:=Nat×Int×Int) (fun x=>⟨(Hw c v8 [(21,tI x.2.1),(Iv c),(I7 c),(153,tI x.2.2)]),[(Dq c)]⟩) (fun x=>(((Z6Z c).length:Int)-x.2.2).toNat<x.1/\(0<=x.2.2/\(x.2.2<=((Z6Z c).length:Int)\/x.2.2=0))/\Dn c v8 v40 (Br c n0) x.1 x.2.1 x.2.2=D7 c) (fun x=>x.1) ?_ ((((Z6Z c).length:Int)-0).toNat+1,0,0) ⟨Nat.lt_succ_self _,⟨ax0,ax0⟩,(by rw [<- hF0];simp only [Br,h1,cond_true,cond_false])⟩
 rintro ⟨n3,v21,v153⟩ ⟨hm3,hinv3,hF3⟩
 try dsimp only at hm3 hinv3 hF3
 cases n3 with | zero=>exact nz hm3 | succ n3 => ?_
 refine AB<|rn ⟨(Hw c v8 [(21,tI v21),(Iv c),(I7 c),(153,tI v153),(154,tB (decide ((v153:Int)<((Z6Z c).length:Int))))]),[(Dq c)]⟩<|AB ?_
 refine AV _ rfl (fun h2 => ?_) (fun h2 => ?_)
 ·have g2:=oT h2
  refine AY<|AG<|AB ?_
  refine Bd (⟨(Hw c v8 [(21,tI (bif ((Z6Z c).getD v153.toNat default).Plated then (W64 (v21+1)) else v21)),(Iv c),(I7 c),(153,tI v153)]),[(Dq c)]⟩) ?_ ?_
  ·refine AR<|AB ?_
   refine rc [] [0<=(v153:Int)/\(v153:Int)<(((Z6Z c).length:Nat):Int)] ⟨(Hw c v8 [(21,tI v21),(23,tP 23 0),(Iv c),(I7 c),(153,tI v153)]),[(Dq c),(23,.cells (Ao.c ((Z6Z c).getD v153.toNat default)) 70)]⟩ .nil (.cons au0 .nil)<|AG<|AB ?_
   refine rn ⟨(Hw c v8 [(21,tI v21),(Iv c),(I7 c),(153,tI v153),(158,tB ((Z6Z c).getD v153.toNat default).Plated)]),[(Dq c)]⟩ ?_
   refine AV ((Z6Z c).getD v153.toNat default).Plated kr (fun h3 => ?_) (fun h3 => ?_)
   ·refine rg ⟨(Hw c v8 [(21,tI (W64 (v21+1))),(Iv c),(I7 c),(153,tI v153)]),[(Dq c)]⟩<|BN<|AG ?_
    refine Ay ?_
    first | rfl | (simp only [h3,cond_true,cond_false] <;> rfl)
   refine AY<|BN<|AG ?_
   refine Cv.trans (ck (⟨(Hw c v8 [(21,tI v21),(Iv c),(I7 c),(153,tI v153)]),[(Dq c)]⟩)) (Ay ?_)
   first | rfl | (simp only [h3,cond_true,cond_false] <;> rfl)
  refine rg ⟨(Hw c v8 [(21,tI (bif ((Z6Z c).getD v153.toNat default).Plated then (W64 (v21+1)) else v21)),(Iv c),(I7 c),(153,tI (W64 (v153+1)))]),[(Dq c)]⟩ ?_
  (try rw [(show W64 (v153+1)=v153+1 from Af oM au5)])
  refine AG ?_
  refine ⟨(n3,bif ((Z6Z c).getD v153.toNat default).Plated then (W64 (v21+1)) else v21,v153+1),⟨?_,?_,(by rw [<- hF3];simp only [Dn,h2,cond_true,cond_false])⟩,Nat.lt_succ_self _,Ay kr⟩
  ·show (((Z6Z c).length:Int)-(v153+1)).toNat<n3;omega
  exact ⟨ax0,ax0⟩
 refine BF<|A3 ?_
 refine A3<|BG ?_
 refine AG<|AB ?_
 refine rc [] ((gp (Bk=true))::(gp (Bk=true))::(gp (Bk=true))::(gp (Bk=true))::(gp (Bk=true))::(gp (Bk=true))::(gp (Bk=true))::(t3 (bif Bk then decide ((v21:Int)=(W64 (v8+((AL c.Board).1.Vias.length:Int)))) else false) (t5 (bif Bk then decide ((v21:Int)=(W64 (v8+((AL c.Board).1.Vias.length:Int)))) else false) []))) ⟨[(2,tB (bif bif Bk then decide ((v21:Int)=(W64 (v8+((AL c.Board).1.Vias.length:Int)))) else false then decide ((((Z6Z c).length:Int):Int)=(W64 (v21+((AL c.Board).1.Slots.length:Int)))) else false))],[]⟩ .nil (ci (ci (ci (ci (ci (ci (ci (c3 (c5 .nil)))))))))<|AG<|AW ?_
 exact xl (tO (.b (bif bif Bk then decide ((v21:Int)=(W64 (v8+((AL c.Board).1.Vias.length:Int)))) else false then decide ((((Z6Z c).length:Int):Int)=(W64 (v21+((AL c.Board).1.Slots.length:Int)))) else false))) (Aa (by rw [<- hF3];first | (simp only [Dn,h2,cond_true,cond_false] <;> rfl)))
end
theorem pZ {e:AF} {r:Int} (he:OkE e) (hr:0<=r/\r<=4194304):OkS ⟨1,[e],r⟩:=by
 refine ⟨⟨.inl rfl,⟨Nat.le_refl 1,(by decide:1<=40)⟩,fun h=>by cases h⟩,fun x hx=>by rw [List.mem_singleton.1 hx];exact he,⟨fun i hi => ?_,fun h=>by cases h⟩,hr,fun h=>by cases h⟩
 have hi:i+1<1:=hi
 omega
theorem YR {a b:AC} {r:Int} (ha:Kc a) (hb:Kc b) (hr:0<=r/\r<=40):Ob ⟨1,[⟨1,a,b,⟨0,0⟩⟩],r⟩:=by
 obtain ⟨h1,h2⟩:=US ha hb
 exact ⟨pZ h1 ⟨hr.1,by omega⟩,fun e he=>by rw [List.mem_singleton.1 he];exact h2,hr.2,(by decide:1<=8)⟩
theorem YB {k:Nat} {p:A1} (h:PM k p):Ob p.Shape:=by
 have hk:=h.lt
 obtain ⟨y,h0,h1,_,e | ⟨r,r0,r1,e⟩ | e⟩:=h.shp <;> rw [e]
 ·exact oS (by simp only;omega)
 ·exact rW (by unfold Kc;simp only;omega) (by omega)
 exact YR (by unfold Kc;simp only;omega) (by unfold Kc;simp only;omega) (by omega)
theorem Ks {l:List AF} {f:AF->AF} {i:Nat} (h:i<l.length):(l.map f).getD i default=f (l.getD i default):=by
 rw [List.getD_eq_getElem?_getD,List.getElem?_map,List.getElem?_eq_getElem h,List.getD_eq_getElem?_getD,List.getElem?_eq_getElem h];rfl
theorem kH {s:AP} {m:Ae} (h:Ob s) (ha:(-1000<=m.At.X/\m.At.X<=1000) /\ -1000<=m.At.Y/\m.At.Y<=1000):D1 s m=⟨s.Kind,s.Edges.map (fun e=>Hr e (m.Turn % 4) m.Mirror m.At),s.R⟩/\OkS (D1 s m):=by
 have e1:D1 s m=⟨s.Kind,s.Edges.map (fun e=>Hr e (m.Turn % 4) m.Mirror m.At),s.R⟩:=by
  rw [Vs]
  congr 1
  exact List.map_congr_left fun e he=>qZ e m (h.1.2.1 e he) (h.2.1 e he) (by unfold Sm;omega)
 refine ⟨e1,?_⟩
 rw [e1]
 obtain ⟨⟨⟨h1,h2,h3⟩,h4,⟨h5,h6⟩,h7,h8⟩,hs,_⟩:=h
 refine ⟨⟨h1,by simp only [List.length_map];exact h2,fun hk=>by simp only [List.length_map];exact h3 hk⟩,fun e he => ?_,⟨fun i hi => ?_,fun hk => ?_⟩,h7,h8⟩
 ·obtain ⟨f,hf,rfl⟩:=List.mem_map.1 he
  exact wF (h4 f hf) (hs f hf) ha
 ·simp only [List.length_map] at hi
  simp only
  rw [Ks (by omega),Ks hi]
  show mvp _ _ _ _=mvp _ _ _ _
  rw [h5 i hi]
 simp only [List.length_map]
 rw [Ks (by omega),Ks (by omega)]
 show mvp _ _ _ _=mvp _ _ _ _
 rw [h6 hk]
theorem WV {s:AP} (h:OkS s):Cx s=0:=by rw [dO];exact (Uk s).2 h
theorem pI {k:Nat} {p:AE} (h:RR k p):((-1000<=p.At.X/\p.At.X<=1000) /\ -1000<=p.At.Y/\p.At.Y<=1000):=by
 have:=h.x
 have:=h.y
 omega
theorem Qo:∀ k:Nat,k<6->((Ah (k:Int)).toList.getD 1 0).toNat=49+k:=by
 intro k hk
 have:k=0\/k=1\/k=2\/k=3\/k=4\/k=5:=by omega
 rcases this with rfl | rfl | rfl | rfl | rfl | rfl <;> decide +kernel
theorem R9 {k j:Nat} (hk:k<6) (hj:j<6) (h:Ah (k:Int)=Ah (j:Int)):k=j:=by
 have h1:=Qo k hk
 have h2:=Qo j hj
 rw [h] at h1
 omega
theorem Vo {k : Nat} (hk : k < 6) : Ah (k : Int) ≠ ⟨#[]⟩ := by
  intro h
  have h1 := Qo k hk
  rw [h] at h1
  exact absurd h1 (by have : ((ByteArray.toList ⟨#[]⟩).getD 1 0).toNat = 0 := by decide +kernel
                      omega)
theorem qW {e:AF} {p:AC} {r:Int} (hp:RP p) (hA:RP e.A) (hr:0<=r/\r<=1000) (hd:(p.X-e.A.X)*(p.X-e.A.X)+(p.Y-e.A.Y)*(p.Y-e.A.Y)<=r*r):Gh e p r=true:=by
 have h1:Ij p e.A=(p.X-e.A.X)*(p.X-e.A.X)+(p.Y-e.A.Y)*(p.Y-e.A.Y):=by
  unfold Ij
  rw [JD hp hA,Yl (LG hp hA) (LG hp hA)]
 have h2:=kG r r 1000 1000 (by omega) (by omega)
 unfold Gh
 rw [h1,Af (x:=r*r) (by omega) (by omega),decide_eq_true hd]
 rfl
theorem aC {e:AF} {r:Int} {p:AC} (hk:OkS ⟨1,[e],r⟩) (hr:0<=r/\r<=1000) (hp:RP p) (hA:RP e.A) (hB:RP e.B) (hd:(p.X-e.A.X)*(p.X-e.A.X)+(p.Y-e.A.Y)*(p.Y-e.A.Y)<=r*r)
  (hb:(min e.A.X e.B.X<=p.X/\p.X<=max e.A.X e.B.X)/\min e.A.Y e.B.Y<=p.Y/\p.Y<=max e.A.Y e.B.Y):DP ⟨1,[e],r⟩ p=true:=by
 have hbx:Hb ⟨1,[e],r⟩=⟨W64 (min e.A.X e.B.X-r),W64 (min e.A.Y e.B.Y-r),W64 (max e.A.X e.B.X+r),W64 (max e.A.Y e.B.Y+r)⟩:=rfl
 unfold RP C27 at hp hA hB
 have hn:=qW (e:=e) (p:=p) (r:=r) hp hA hr hd
 have hc:dX [e] p ⟨1,[e],r⟩=true:=by
  show decide ((0:Int)<=(bif Gh e p r then 0 else _))=true
  rw [hn];rfl
 unfold DP
 rw [WV hk,hbx]
 simp only
 rw [hc,Af (x:=min e.A.X e.B.X-r) (by omega) (by omega),Af (x:=min e.A.Y e.B.Y-r) (by omega) (by omega),Af (x:=max e.A.X e.B.X+r) (by omega) (by omega),Af (x:=max e.A.Y e.B.Y+r) (by omega) (by omega)]
 rw [decide_eq_false (show ¬ p.X<min e.A.X e.B.X-r by omega),decide_eq_false (show ¬ max e.A.X e.B.X+r<p.X by omega),decide_eq_false (show ¬ p.Y<min e.A.Y e.B.Y-r by omega),decide_eq_false (show ¬ max e.A.Y e.B.Y+r<p.Y by omega)]
 rfl
abbrev lnE (a b:AC):AF:=⟨1,a,b,⟨0,0⟩⟩
abbrev HP (a b c d:AC):AP:=⟨2,[lnE a b,lnE b c,lnE c d,lnE d a],0⟩
theorem min4 {a b c d p:Int} (ha:C27 a) (hb:C27 b) (hc:C27 c) (hd:C27 d) (h:a<=p\/b<=p\/c<=p\/d<=p):decide (p<W64 (min (min (min (min a b) (min b c)) (min c d)) (min d a)-0))=false:=by
 unfold C27 at ha hb hc hd
 have h0 : -67108864<=min (min (min (min a b) (min b c)) (min c d)) (min d a):=by simp only [Int.le_min];omega
 have h1:min (min (min (min a b) (min b c)) (min c d)) (min d a)<=a:=Int.le_trans (Int.min_le_left _ _) (Int.le_trans (Int.min_le_left _ _) (Int.le_trans (Int.min_le_left _ _) (Int.min_le_left _ _)))
 have h2:min (min (min (min a b) (min b c)) (min c d)) (min d a)<=b:=Int.le_trans (Int.min_le_left _ _) (Int.le_trans (Int.min_le_left _ _) (Int.le_trans (Int.min_le_left _ _) (Int.min_le_right _ _)))
 have h3:min (min (min (min a b) (min b c)) (min c d)) (min d a)<=c:=Int.le_trans (Int.min_le_left _ _) (Int.le_trans (Int.min_le_right _ _) (Int.min_le_left _ _))
 have h4:min (min (min (min a b) (min b c)) (min c d)) (min d a)<=d:=Int.le_trans (Int.min_le_right _ _) (Int.min_le_left _ _)
 generalize min (min (min (min a b) (min b c)) (min c d)) (min d a)=m at *
 rw [Af (by omega) (by omega)]
 exact decide_eq_false (by omega)
theorem max4 {a b c d p:Int} (ha:C27 a) (hb:C27 b) (hc:C27 c) (hd:C27 d) (h:p<=a\/p<=b\/p<=c\/p<=d):decide (W64 (max (max (max (max a b) (max b c)) (max c d)) (max d a)+0)<p)=false:=by
 unfold C27 at ha hb hc hd
 have h0:max (max (max (max a b) (max b c)) (max c d)) (max d a)<=67108864:=by simp only [Int.max_le];omega
 have h1:a<=max (max (max (max a b) (max b c)) (max c d)) (max d a):=Int.le_trans (Int.le_trans (Int.le_trans (Int.le_max_left _ _) (Int.le_max_left _ _)) (Int.le_max_left _ _)) (Int.le_max_left _ _)
 have h2:b<=max (max (max (max a b) (max b c)) (max c d)) (max d a):=Int.le_trans (Int.le_trans (Int.le_trans (Int.le_max_right _ _) (Int.le_max_left _ _)) (Int.le_max_left _ _)) (Int.le_max_left _ _)
 have h3:c<=max (max (max (max a b) (max b c)) (max c d)) (max d a):=Int.le_trans (Int.le_trans (Int.le_max_left _ _) (Int.le_max_right _ _)) (Int.le_max_left _ _)
 have h4:d<=max (max (max (max a b) (max b c)) (max c d)) (max d a):=Int.le_trans (Int.le_max_left _ _) (Int.le_max_right _ _)
 generalize max (max (max (max a b) (max b c)) (max c d)) (max d a)=m at *
 rw [Af (by omega) (by omega)]
 exact decide_eq_false (by omega)
theorem V9 {a b c d p:AC} (hk:OkS (HP a b c d)) (ha:RP a) (hb:RP b) (hc:RP c) (hd:RP d) (hx:(a.X<=p.X\/b.X<=p.X\/c.X<=p.X\/d.X<=p.X)/\(p.X<=a.X\/p.X<=b.X\/p.X<=c.X\/p.X<=d.X)) (hy:(a.Y<=p.Y\/b.Y<=p.Y\/c.Y<=p.Y\/d.Y<=p.Y)/\(p.Y<=a.Y\/p.Y<=b.Y\/p.Y<=c.Y\/p.Y<=d.Y))
  (hs:Gt (lnE a b) p+Gt (lnE b c) p+Gt (lnE c d) p+Gt (lnE d a) p≠0) (hz:∀ x y,-1<=Gt (lnE x y) p/\Gt (lnE x y) p<=1):DP (HP a b c d) p=true:=by
 have hbx:Hb (HP a b c d)=⟨W64 (min (min (min (min a.X b.X) (min b.X c.X)) (min c.X d.X)) (min d.X a.X)-0),W64 (min (min (min (min a.Y b.Y) (min b.Y c.Y)) (min c.Y d.Y)) (min d.Y a.Y)-0),W64 (max (max (max (max a.X b.X) (max b.X c.X)) (max c.X d.X)) (max d.X a.X)+0),W64 (max (max (max (max a.Y b.Y) (max b.Y c.Y)) (max c.Y d.Y)) (max d.Y a.Y)+0)⟩:=rfl
 have h1:=hz a b
 have h2:=hz b c
 have h3:=hz c d
 have h4:=hz d a
 have hl:EY (HP a b c d) p 5 0 0 = !decide (W64 (W64 (W64 (W64 (0+Ik (lnE a b) p)+Ik (lnE b c) p)+Ik (lnE c d) p)+Ik (lnE d a) p)=0):=rfl
 have hl2:EY (HP a b c d) p ((((HP a b c d).Edges.length:Int)-0).toNat+1) 0 0=true:=by
  refine hl.trans ?_
  rw [T0,T0,T0,T0]
  generalize Gt (lnE a b) p=r1 at *
  generalize Gt (lnE b c) p=r2 at *
  generalize Gt (lnE c d) p=r3 at *
  generalize Gt (lnE d a) p=r4 at *
  clear hx hy hbx hl hz
  rw [Af (x:=0+r1) (by omega) (by omega),Af (x:=0+r1+r2) (by omega) (by omega),Af (x:=0+r1+r2+r3) (by omega) (by omega),Af (by omega) (by omega),decide_eq_false (by omega)]
  rfl
 unfold DP
 rw [WV hk,hbx]
 simp only
 rw [hl2,min4 ha.1 hb.1 hc.1 hd.1 hx.1,min4 ha.2 hb.2 hc.2 hd.2 hy.1,max4 ha.1 hb.1 hc.1 hd.1 hx.2,max4 ha.2 hb.2 hc.2 hd.2 hy.2]
 cases dX (HP a b c d).Edges p (HP a b c d) <;> rfl
theorem iE (p x y:AC) : -1<=Gt (lnE x y) p/\Gt (lnE x y) p<=1:=by
 unfold Gt up
 split
 ·split
  ·decide
  split <;> decide
 decide
theorem ZQ {a b p:AC} (h:a.Y=b.Y):Gt (lnE a b) p=0:=by
 unfold Gt up
 rw [if_neg (show ¬ (lnE a b).A.Y<(lnE a b).B.Y by show ¬ a.Y<b.Y;omega),if_neg (show ¬ (lnE a b).B.Y<(lnE a b).A.Y by show ¬ b.Y<a.Y;omega),ite_self]
theorem ZP {a b p:AC} (h:a.X<=p.X/\b.X<=p.X):Gt (lnE a b) p=0:=by
 unfold Gt InR
 exact if_neg fun q=>by
  have:=q.2.1.2
  simp only at this
  omega
theorem ZO {a b p:AC} (ho:OkE (lnE a b)) (h:p.X<a.X/\p.X<b.X) (hy:(a.Y<=p.Y/\p.Y<b.Y)\/(b.Y<=p.Y/\p.Y<a.Y)):Gt (lnE a b) p=1\/Gt (lnE a b) p = -1:=by
 unfold Gt InR
 rw [if_pos ⟨ho,⟨by simp only;omega,by simp only;omega⟩,.inl (by simp only;omega)⟩]
 unfold up
 rcases hy with hy | hy
 ·exact .inl (if_pos (by simp only;omega))
 exact .inr (by rw [if_neg (by simp only;omega),if_pos (by simp only;omega)])
theorem wS {P Q s u:Int} (hs:s=1\/s = -1) (hu:u=1\/u = -1)
  {b d:AC} (hbd:(b=⟨P+6*s,Q-6*u⟩/\d=⟨P-6*s,Q+6*u⟩)\/(b=⟨P-6*s,Q+6*u⟩/\d=⟨P+6*s,Q-6*u⟩)) (hk:OkS (HP ⟨P-6*s,Q-6*u⟩ b ⟨P+6*s,Q+6*u⟩ d)):DP (HP ⟨P-6*s,Q-6*u⟩ b ⟨P+6*s,Q+6*u⟩ d) ⟨P,Q⟩=true:=by
 have ho:=hk.2.1
 have o1:=ho _ (List.mem_cons_self ..)
 have o2:=ho _ (List.mem_cons_of_mem _ (List.mem_cons_self ..))
 have o3:=ho _ (List.mem_cons_of_mem _ (List.mem_cons_of_mem _ (List.mem_cons_self ..)))
 have o4:=ho _ (List.mem_cons_of_mem _ (List.mem_cons_of_mem _ (List.mem_cons_of_mem _ (List.mem_cons_self ..))))
 rcases hbd with ⟨rfl,rfl⟩ | ⟨rfl,rfl⟩
 ·refine V9 hk o1.1.1 o2.1.1 o3.1.1 o4.1.1 ⟨by simp only;omega,by simp only;omega⟩ ⟨by simp only;omega,by simp only;omega⟩ ?_ fun x y=>iE _ _ _
  rw [ZQ (a:=⟨P-6*s,Q-6*u⟩) (b:=⟨P+6*s,Q-6*u⟩) rfl,ZQ (a:=⟨P+6*s,Q+6*u⟩) (b:=⟨P-6*s,Q+6*u⟩) rfl]
  rcases hs with rfl | rfl
  ·have e1:=ZO (p:=⟨P,Q⟩) o2 (by simp only;omega) (by simp only;omega)
   rw [ZP (p:=⟨P,Q⟩) (a:=⟨P-6*1,Q+6*u⟩) (b:=⟨P-6*1,Q-6*u⟩) (by simp only;omega)]
   omega
  have e1:=ZO (p:=⟨P,Q⟩) o4 (by simp only;omega) (by simp only;omega)
  rw [ZP (p:=⟨P,Q⟩) (a:=⟨P+6 * -1,Q-6*u⟩) (b:=⟨P+6 * -1,Q+6*u⟩) (by simp only;omega)]
  omega
 refine V9 hk o1.1.1 o2.1.1 o3.1.1 o4.1.1 ⟨by simp only;omega,by simp only;omega⟩ ⟨by simp only;omega,by simp only;omega⟩ ?_ fun x y=>iE _ _ _
 rw [ZQ (a:=⟨P-6*s,Q+6*u⟩) (b:=⟨P+6*s,Q+6*u⟩) rfl,ZQ (a:=⟨P+6*s,Q-6*u⟩) (b:=⟨P-6*s,Q-6*u⟩) rfl]
 rcases hs with rfl | rfl
 ·have e1:=ZO (p:=⟨P,Q⟩) o3 (by simp only;omega) (by simp only;omega)
  rw [ZP (p:=⟨P,Q⟩) (a:=⟨P-6*1,Q-6*u⟩) (b:=⟨P-6*1,Q+6*u⟩) (by simp only;omega)]
  omega
 have e1:=ZO (p:=⟨P,Q⟩) o1 (by simp only;omega) (by simp only;omega)
 rw [ZP (p:=⟨P,Q⟩) (a:=⟨P+6 * -1,Q+6*u⟩) (b:=⟨P+6 * -1,Q-6*u⟩) (by simp only;omega)]
 omega
theorem VT {k:Nat} {p:A1} (h:PM k p) {m:Ae} (ha:(-1000<=m.At.X/\m.At.X<=1000) /\ -1000<=m.At.Y/\m.At.Y<=1000):DP (D1 p.Shape m) (AZ m p.At)=true:=by
 obtain ⟨hm,hok⟩:=kH (YB h) ha
 have hk6:=h.lt
 obtain ⟨y,y0,y1,hat,hs⟩:=h.shp
 have ht:m.Turn % 4=0\/m.Turn % 4=1\/m.Turn % 4=2\/m.Turn % 4=3:=by omega
 have hap:AZ m p.At=mvp (m.Turn % 4) m.Mirror m.At p.At:=Kz m p.At (by rw [hat];unfold Sm;simp only;omega) (by unfold Sm;omega)
 rw [hm] at hok ⊢
 rw [hap,hat]
 generalize m.Turn % 4=t at *
 generalize m.Mirror=mi at *
 generalize m.At=o at *
 have hr:∀ q:AC,(-1000<=q.X/\q.X<=1000) /\ -1000<=q.Y/\q.Y<=1000->RP (mvp t mi o q):=fun q hq=>by
  unfold mvp MA RP C27
  rcases ht with rfl | rfl | rfl | rfl <;> cases mi <;> simp <;> omega
 rcases hs with hs | ⟨r,r0,r1,hs⟩ | hs
 ·rw [hs] at hok ⊢
  have hf:FT (Ak.mk (30*(k:Int)-6) (y-6) (30*(k:Int)+6) (y+6))=HP ⟨30*(k:Int)-6,y-6⟩ ⟨30*(k:Int)+6,y-6⟩ ⟨30*(k:Int)+6,y+6⟩ ⟨30*(k:Int)-6,y+6⟩:=by kernel_rfl
  rw [hf] at hok ⊢
  have hg:∀ a b c d:AC,(AP.mk (HP a b c d).Kind ((HP a b c d).Edges.map (fun e=>Hr e t mi o)) (HP a b c d).R)=HP (mvp t mi o a) (mvp t mi o b) (mvp t mi o c) (mvp t mi o d):=fun a b c d=>by
   simp [Hr]
  rw [hg] at hok ⊢
  obtain ⟨P,Q,s,u,hs,hu,e0,e1,e2,e3⟩:∃ P Q s u:Int,(s=1\/s = -1)/\(u=1\/u = -1)/\mvp t mi o ⟨30*(k:Int),y⟩=⟨P,Q⟩/\mvp t mi o ⟨30*(k:Int)-6,y-6⟩=⟨P-6*s,Q-6*u⟩/\mvp t mi o ⟨30*(k:Int)+6,y+6⟩=⟨P+6*s,Q+6*u⟩ /\
    ((mvp t mi o ⟨30*(k:Int)+6,y-6⟩=⟨P+6*s,Q-6*u⟩/\mvp t mi o ⟨30*(k:Int)-6,y+6⟩=⟨P-6*s,Q+6*u⟩)\/(mvp t mi o ⟨30*(k:Int)+6,y-6⟩=⟨P-6*s,Q+6*u⟩/\mvp t mi o ⟨30*(k:Int)-6,y+6⟩=⟨P+6*s,Q-6*u⟩)):=by
   unfold mvp MA
   rcases ht with rfl | rfl | rfl | rfl <;> cases mi <;> simp only [if_true,if_false,Bool.false_eq_true,Int.reduceEq,AC.mk.injEq]
   ·exact ⟨_,_,1,1,.inl rfl,.inl rfl,⟨rfl,rfl⟩,by omega,by omega,.inl (by omega)⟩
   ·exact ⟨_,_,-1,1,.inr rfl,.inl rfl,⟨rfl,rfl⟩,by omega,by omega,.inl (by omega)⟩
   ·exact ⟨_,_,-1,1,.inr rfl,.inl rfl,⟨rfl,rfl⟩,by omega,by omega,.inr (by omega)⟩
   ·exact ⟨_,_,-1,-1,.inr rfl,.inr rfl,⟨rfl,rfl⟩,by omega,by omega,.inr (by omega)⟩
   ·exact ⟨_,_,-1,-1,.inr rfl,.inr rfl,⟨rfl,rfl⟩,by omega,by omega,.inl (by omega)⟩
   ·exact ⟨_,_,1,-1,.inl rfl,.inr rfl,⟨rfl,rfl⟩,by omega,by omega,.inl (by omega)⟩
   ·exact ⟨_,_,1,-1,.inl rfl,.inr rfl,⟨rfl,rfl⟩,by omega,by omega,.inr (by omega)⟩
   exact ⟨_,_,1,1,.inl rfl,.inl rfl,⟨rfl,rfl⟩,by omega,by omega,.inr (by omega)⟩
  rw [e1,e2] at hok ⊢
  rw [e0]
  exact wS hs hu e3 hok
 ·rw [hs] at hok ⊢
  have hg:(AP.mk (IC (AC.mk (30*(k:Int)) y) r).Kind ((IC (AC.mk (30*(k:Int)) y) r).Edges.map (fun e=>Hr e t mi o)) (IC (AC.mk (30*(k:Int)) y) r).R)=⟨1,[lnE (mvp t mi o ⟨30*(k:Int),y⟩) (mvp t mi o ⟨30*(k:Int),y⟩)],r⟩:=by
   simp [IC,Hr]
  rw [hg] at hok ⊢
  have hq:=hr ⟨30*(k:Int),y⟩ (by simp only;omega)
  have:=kG r r 1000 1000 (by omega) (by omega)
  have h0:=sq_nn r
  refine aC hok (by omega) hq hq hq ?_ ⟨⟨?_,?_⟩,?_,?_⟩ <;> simp only [Int.sub_self,Int.mul_zero,Int.add_zero] <;> omega
 rw [hs] at hok ⊢
 have hg:(AP.mk (1:Int) ([lnE (AC.mk (30*(k:Int)-2) y) (AC.mk (30*(k:Int)+2) y)].map (fun e=>Hr e t mi o)) 4)=⟨1,[lnE (mvp t mi o ⟨30*(k:Int)-2,y⟩) (mvp t mi o ⟨30*(k:Int)+2,y⟩)],4⟩:=by
  simp [Hr]
 change OkS (AP.mk (1:Int) ([lnE (AC.mk (30*(k:Int)-2) y) (AC.mk (30*(k:Int)+2) y)].map (fun e=>Hr e t mi o)) 4) at hok
 show DP (AP.mk (1:Int) ([lnE (AC.mk (30*(k:Int)-2) y) (AC.mk (30*(k:Int)+2) y)].map (fun e=>Hr e t mi o)) 4) _=true
 rw [hg] at hok ⊢
 have q1:=hr ⟨30*(k:Int),y⟩ (by simp only;omega)
 have q2:=hr ⟨30*(k:Int)-2,y⟩ (by simp only;omega)
 have q3:=hr ⟨30*(k:Int)+2,y⟩ (by simp only;omega)
 refine aC hok (by omega) q1 q2 q3 ?_ ?_ <;> unfold mvp MA <;> rcases ht with rfl | rfl | rfl | rfl <;> cases mi <;> simp only [if_true,if_false,Bool.false_eq_true,Int.reduceEq]
 all_goals first | omega | (simp;omega)
theorem lR {α:Type} [Inhabited α] {f:α->Bool} {l:List α} {i:Nat} (hi:i<l.length) (ht:f (l.getD i default)=true) (hf:∀ k,k<i->f (l.getD k default)=false):l.findIdx? f=some i:=by
 rw [List.findIdx?_eq_some_iff_getElem]
 refine ⟨hi,?_,fun j hj => ?_⟩
 ·rw [List.getD_eq_getElem?_getD,List.getElem?_eq_getElem hi] at ht;exact ht
 have:=hf j hj
 rw [List.getD_eq_getElem?_getD,List.getElem?_eq_getElem (by omega)] at this
 have:f l[j]=false:=this
 rw [this];decide
theorem kU {α:Type} [Inhabited α] {f:α->Bool} {l:List α} {i:Nat} (hi:i<l.length) (ht:f (l.getD i default)=true) (hf:∀ k,k<i->f (l.getD k default)=false):ixI f l=(i:Int):=by
 unfold ixI
 rw [lR hi ht hf]
theorem oR (i j:Nat) (hi:i<3) (hj:j<3) (h:i≠j):((VK.getD i ⟨#[]⟩).toList==(VK.getD j ⟨#[]⟩).toList)=false:=by
 have key:∀ i:Fin 3,∀ j:Fin 3,i≠j->((VK.getD i.val ⟨#[]⟩).toList==(VK.getD j.val ⟨#[]⟩).toList)=false:=by decide +kernel
 exact key ⟨i,hi⟩ ⟨j,hj⟩ fun e=>h (Fin.mk.inj e)
theorem Uu (a:ByteArray):(a.toList==a.toList)=true:=by simp
theorem xS {a c:ByteArray} (h:a≠c):(a.toList==c.toList)=false:=by
 cases hq:(a.toList==c.toList) with
 | false=>rfl
 | true=>exact absurd (mY hq) h
theorem rC {B:AH} {T:List AQ} {l:List (List Int)} (h:EO B T l) {i:Nat} (hi:i<B.Parts.length) (s:ByteArray):Dr B.Parts ⟨(B.Parts.getD i default).Ref,s⟩=(i:Int):=by
 have h3:=h.parl
 rw [Wm]
 refine kU hi (Uu _) fun k hk => ?_
 show ((B.Parts.getD k default).Ref.toList==(B.Parts.getD i default).Ref.toList)=false
 rw [(h.par k (by omega)).ref,(h.par i hi).ref]
 exact oR k i (by omega) (by omega) (by omega)
theorem rD {t:AQ} (h:Ix PM t.Pads) {j:Nat} (hj:j<t.Pads.length):GT t (t.Pads.getD j default).Name=(t.Pads.getD j default,true):=by
 have e:Fe t.Pads (t.Pads.getD j default).Name=(j:Int):=by
  rw [Wn]
  refine kU hj (Uu _) fun k hk => ?_
  show ((t.Pads.getD k default).Name.toList==(t.Pads.getD j default).Name.toList)=false
  have hk':=h k (by omega)
  have hj':=h j hj
  rw [hk'.name,hj'.name]
  exact xS fun q=>absurd (R9 hk'.lt hj'.lt q) (by omega)
 unfold GT Z6y
 rw [e,decide_eq_false (by omega),cond_false,Int.toNat_natCast]
theorem Z2 {B:AH} {T:List AQ} {l:List (List Int)} (h:EO B T l) {i:Nat} (hi:i<B.Parts.length) {q:A1} (hq:q∈(BQ T (B.Parts.getD i default).Type').1.Pads) :
  FAt B T ⟨(B.Parts.getD i default).Ref,q.Name⟩=(AZ (Bz (B.Parts.getD i default)) q.At,DM B (B.Parts.getD i default),true):=by
 obtain ⟨a,e⟩:=Mv h (p:=B.Parts.getD i default) (by rw [List.getD_eq_getElem?_getD,List.getElem?_eq_getElem hi];exact List.getElem_mem hi)
 have hx:Ix PM (BQ T (B.Parts.getD i default).Type').1.Pads:=by rw [e];exact GH _ _
 obtain ⟨j,hj,ej,_⟩:=KS hx hq
 subst ej
 have e0:=rC h hi ((BQ T (B.Parts.getD i default).Type').1.Pads.getD j default).Name
 have e1:Z6C B ⟨(B.Parts.getD i default).Ref,((BQ T (B.Parts.getD i default).Type').1.Pads.getD j default).Name⟩=B.Parts.getD i default:=by unfold Z6C;rw [e0,Int.toNat_natCast]
 have e2:Z6B T B ⟨(B.Parts.getD i default).Ref,((BQ T (B.Parts.getD i default).Type').1.Pads.getD j default).Name⟩=(BQ T (B.Parts.getD i default).Type').1:=by unfold Z6B;rw [e0,Int.toNat_natCast]
 unfold FAt Z6D
 rw [e0,e1,e2,rD hx hj,decide_eq_false (by omega),cond_false]
 rfl
theorem cE {B:AH} {T:List AQ} {l:List (List Int)} (h:EO B T l) {x:AE×A1} (hx:x∈Ai B T):∃ i,i<B.Parts.length/\B.Parts.getD i default=x.1/\x.2∈(BQ T x.1.Type').1.Pads:=by
 unfold Ai at hx
 rw [L7 h] at hx
 obtain ⟨p,hp,hx⟩:=List.mem_flatMap.1 hx
 unfold CL at hx
 obtain ⟨q,hq,rfl⟩:=List.mem_map.1 hx
 obtain ⟨i,hi,e,_⟩:=KS h.par hp
 exact ⟨i,hi,e,hq⟩
theorem SE {B:AH} {T:List AQ} {l:List (List Int)} (h:EO B T l) {i:Nat} (hi:i<B.Parts.length) {q:A1} (hq:q∈(BQ T (B.Parts.getD i default).Type').1.Pads):∃ k,PM k q:=by
 obtain ⟨a,e⟩:=Mv h (p:=B.Parts.getD i default) (by rw [List.getD_eq_getElem?_getD,List.getElem?_eq_getElem hi];exact List.getElem_mem hi)
 rw [e] at hq
 obtain ⟨k,_,_,hm⟩:=KS (GH a _) hq
 exact ⟨k,hm⟩
abbrev mtc (p:AE) (q:A1) (x:Ad):Bool:=bif decide (x.Id=p.Id) then (x.Pad.toList==q.Name.toList) else false
abbrev fine (B:AH) (at_:AC) (lay:Int) (q:A1) (x:Ad):Bool:=bif bif bif DP x.Shape at_ then decide (x.From<=lay) else false then decide (lay<=x.To) else false then bif bif decide (q.Drill=0) then decide (x.From=x.To) else false then true else bif bif decide (0<q.Drill) then decide (x.From=1) else false then decide (x.To=B.Layers) else false else false
theorem dC {α β:Type} [Inhabited α] [Inhabited β] {l:List α} {f:α->β} {i:Nat} (h:i<l.length):(l.map f).getD i default=f (l.getD i default):=by
 rw [List.getD_eq_getElem?_getD,List.getElem?_map,List.getElem?_eq_getElem h,List.getD_eq_getElem?_getD,List.getElem?_eq_getElem h];rfl
theorem cB {B:AH} {T:List AQ} {l:List (List Int)} (h:EO B T l) {i:Nat} (hi:i<B.Parts.length) {j:Nat} (hj:j<(BQ T (B.Parts.getD i default).Type').1.Pads.length) {x:Ad} (hx:x∈DB B T) (hm:mtc (B.Parts.getD i default) ((BQ T (B.Parts.getD i default).Type').1.Pads.getD j default) x=true) :
  x=H7 B (R8 B) (B.Parts.getD i default,(BQ T (B.Parts.getD i default).Type').1.Pads.getD j default):=by
 have hid:=Wa hm
 unfold mtc at hm
 rw [decide_eq_true hid,cond_true] at hm
 have hpad:x.Pad=_:=mY hm
 have hq:(BQ T (B.Parts.getD i default).Type').1.Pads.getD j default∈(BQ T (B.Parts.getD i default).Type').1.Pads:=Fp hj
 obtain ⟨a,e⟩:=Mv h (p:=B.Parts.getD i default) (Fp hi)
 have hX:Ix PM (BQ T (B.Parts.getD i default).Type').1.Pads:=by rw [e];exact GH _ _
 have hjm:=hX j hj
 rw [Qr h] at hx
 rcases List.mem_append.1 hx with hx | hx
 ·rcases List.mem_append.1 hx with hx | hx
  ·obtain ⟨y,hy,rfl⟩:=List.mem_map.1 hx
   obtain ⟨i2,hi2,e2,hq2⟩:=cE h (x:=y) (by unfold Ai;rw [L7 h];exact hy)
   have hid:y.1.Id=(B.Parts.getD i default).Id:=hid
   rw [<- e2,(h.par i2 hi2).id,(h.par i hi).id] at hid
   have hii:i2=i:=by omega
   subst hii
   rw [<- e2] at hq2
   obtain ⟨j2,hj2,ej,hm2⟩:=KS hX hq2
   have hpad:y.2.Name=_:=hpad
   have hjj:j2=j:=by
    rw [<- ej,(hX j2 hj2).name,hjm.name] at hpad
    exact R9 (hX j2 hj2).lt hjm.lt hpad
   subst hjj
   rw [ej,e2]
  obtain ⟨y,hy,rfl⟩:=List.mem_map.1 hx
  have hpad:(⟨#[]⟩:ByteArray)=_:=hpad
  rw [hjm.name] at hpad
  exact absurd hpad.symm (Vo hjm.lt)
 obtain ⟨y,hy,rfl⟩:=List.mem_map.1 hx
 have hpad:(⟨#[]⟩:ByteArray)=_:=hpad
 rw [hjm.name] at hpad
 exact absurd hpad.symm (Vo hjm.lt)
theorem cY {B:AH} {T:List AQ} {l:List (List Int)} (h:EO B T l) {i:Nat} (hi:i<B.Parts.length) {q:A1} (hq:q∈(BQ T (B.Parts.getD i default).Type').1.Pads) :
  fine B (FAt B T ⟨(B.Parts.getD i default).Ref,q.Name⟩).1 (FAt B T ⟨(B.Parts.getD i default).Ref,q.Name⟩).2.1 q (H7 B (R8 B) (B.Parts.getD i default,q))=true:=by
 obtain ⟨k,hk⟩:=SE h hi hq
 have hin:=VT hk (pI (h.par i hi)) (m:=Bz (B.Parts.getD i default))
 have hside:1<=DM B (B.Parts.getD i default)/\DM B (B.Parts.getD i default)<=B.Layers:=by
  unfold DM
  rw [h.lay]
  cases (B.Parts.getD i default).Under <;> decide
 rw [Z2 h hi hq]
 have hd:=hk.drill
 unfold fine H7
 simp only
 rw [hin]
 by_cases hz:q.Drill=0
 ·simp only [decide_eq_true hz,cond_true,decide_eq_true (Int.le_refl _),decide_true]
 rw [decide_eq_false hz]
 simp only [cond_true,cond_false]
 rw [decide_eq_true hside.1,decide_eq_true hside.2,decide_eq_true (show 0<q.Drill by omega)]
 simp
theorem pJ (c:DS) (v8:Int) (i:Nat) (v8':Int) (j:Nat) (K0 K1:Int->Int->Bool) (hi:i<(AL c.Board).1.Parts.length) (hj:j<(Z72 c (i:Int)).Pads.length) (hc0:v8'+1<=1000000/\0<=v8') (hc:0<(Z73 c (i:Int) (j:Int)).Drill->v8'<((Z6Z c).length:Int)) :
  CO c v8 (i:Int) v8' (j:Int) K0 K1 ((((Z6Y c).length:Int)-0).toNat+1) false 0=K1 (v8'+(if 0<(Z73 c (i:Int) (j:Int)).Drill then 1 else 0)) ((j:Int)+1):=by
 have hQ:=L6 c.Board
 have e18:Z71 c (i:Int)=(AL c.Board).1.Parts.getD i default:=by unfold Z71;rw [Int.toNat_natCast]
 have e19:Z72 c (i:Int)=(BQ (AL c.Board).2 ((AL c.Board).1.Parts.getD i default).Type').1:=by unfold Z72;rw [e18,Im]
 rw [e19] at hj
 have e27:Z73 c (i:Int) (j:Int)=(BQ (AL c.Board).2 ((AL c.Board).1.Parts.getD i default).Type').1.Pads.getD j default:=by unfold Z73;rw [e19,Int.toNat_natCast]
 have hq:(BQ (AL c.Board).2 ((AL c.Board).1.Parts.getD i default).Type').1.Pads.getD j default∈(BQ (AL c.Board).2 ((AL c.Board).1.Parts.getD i default).Type').1.Pads:=Fp hj
 have hf:=cY hQ hi hq
 have hat:=Z2 hQ hi hq
 have key:∀ (n k:Nat) (v:Bool),(Z6Y c).length-k<n->CO c v8 (i:Int) v8' (j:Int) K0 K1 n v (k:Int) =
   (bif Z77 c (i:Int) (j:Int) (v||((Z6Y c).drop k).any (mtc ((AL c.Board).1.Parts.getD i default) ((BQ (AL c.Board).2 ((AL c.Board).1.Parts.getD i default).Type').1.Pads.getD j default))) then false else (bif decide ((0:Int)<(Z73 c (i:Int) (j:Int)).Drill) then (bif decide (((Z6Z c).length:Int)<=v8') then false else K1 (W64 (v8'+1)) ((j:Int)+1)) else K1 v8' ((j:Int)+1))):=by
  intro n
  induction n with
  | zero=>intro k v h;exact absurd h (Nat.not_lt_zero _)
  | succ n ih =>
   intro k v h
   unfold CO
   by_cases hk:k<(Z6Y c).length
   ·rw [decide_eq_true (show (k:Int)<((Z6Y c).length:Int) by omega),cond_true]
    have:=fun w=>ih (k+1) w (by omega)
    rw [show ((k+1:Nat):Int)=(k:Int)+1 by omega] at this
    rw [this,Fs hk,List.any_cons]
    congr 1
    congr 1
    rw [<- Bool.or_assoc]
    congr 1
    unfold Z76 Z74 Z70
    rw [e18,e27,Int.toNat_natCast]
    cases hm:mtc ((AL c.Board).1.Parts.getD i default) ((BQ (AL c.Board).2 ((AL c.Board).1.Parts.getD i default).Type').1.Pads.getD j default) ((Z6Y c).getD k default) with
    | false =>
     rw [Bool.or_false]
     unfold mtc at hm
     rw [hm];rfl
    | true =>
     have hx:=cB hQ hi hj (x:=(Z6Y c).getD k default) (by
      show (DB (AL c.Board).1 (AL c.Board).2).getD k default∈_
      have hk2:k<(DB (AL c.Board).1 (AL c.Board).2).length:=hk
      exact Fp hk2) hm
     unfold mtc at hm
     rw [hm,Bool.or_true,cond_true,hx]
     exact hf
   rw [decide_eq_false (show ¬ (k:Int)<((Z6Y c).length:Int) by omega),cond_false,List.drop_eq_nil_of_le (by omega),List.any_nil,Bool.or_false]
 have:=key ((((Z6Y c).length:Int)-0).toNat+1) 0 false (by omega)
 rw [show ((0:Nat):Int)=0 from rfl,List.drop_zero,Bool.false_or] at this
 rw [this]
 have hany:(Z6Y c).any (mtc ((AL c.Board).1.Parts.getD i default) ((BQ (AL c.Board).2 ((AL c.Board).1.Parts.getD i default).Type').1.Pads.getD j default))=true:=by
  refine List.any_eq_true.2 ⟨H7 (AL c.Board).1 (R8 (AL c.Board).1) ((AL c.Board).1.Parts.getD i default,(BQ (AL c.Board).2 ((AL c.Board).1.Parts.getD i default).Type').1.Pads.getD j default),?_,?_⟩
  ·show _∈DB (AL c.Board).1 (AL c.Board).2
   rw [Qr hQ]
   refine List.mem_append_left _ (List.mem_append_left _ (List.mem_map_of_mem (List.mem_flatMap.2 ⟨_,?_,List.mem_map_of_mem hq⟩)))
   exact Fp hi
  unfold mtc
  rw [show decide ((H7 (AL c.Board).1 (R8 (AL c.Board).1) ((AL c.Board).1.Parts.getD i default,(BQ (AL c.Board).2 ((AL c.Board).1.Parts.getD i default).Type').1.Pads.getD j default)).Id=((AL c.Board).1.Parts.getD i default).Id)=true from decide_eq_true rfl]
  exact Uu _
 have h33:Z77 c (i:Int) (j:Int) true=false:=by
  unfold Z77 Z75
  rw [e18,e27,hat];rfl
 rw [hany,h33,cond_false]
 by_cases hd:0<(Z73 c (i:Int) (j:Int)).Drill
 ·rw [decide_eq_true hd,cond_true,decide_eq_false (Int.not_le.2 (hc hd)),cond_false,if_pos hd,Af (by omega) (by omega)]
 rw [decide_eq_false hd,cond_false,if_neg hd,Int.add_zero]
abbrev Eh (c:DS) (i:Nat):Nat:=((((AL c.Board).1.Parts.drop i).flatMap (CL (AL c.Board).2)).filter drl).length
theorem ZX (c:DS) (v8:Int) (i:Nat) (K0:Int->Int->Bool) (hi:i<(AL c.Board).1.Parts.length) (hD:(Eh c 0:Int)<=((Z6Z c).length:Int)/\(Eh c 0:Int)<=18) :
  ∀ (n j:Nat) (v8':Int),(Z72 c (i:Int)).Pads.length-j<n->0<=v8'->v8'+((((CL (AL c.Board).2 ((AL c.Board).1.Parts.getD i default)).drop j).filter drl).length:Int)+(Eh c (i+1):Int)=(Eh c 0:Int)->Cp c v8 (i:Int) K0 n v8' (j:Int)=K0 ((Eh c 0:Int)-(Eh c (i+1):Int)) ((i:Int)+1)
 | 0,j,v8',h,_,_=>absurd h (Nat.not_lt_zero _)
 | n+1,j,v8',h,h0,hv=>by
  have hQ:=L6 c.Board
  have e18:Z71 c (i:Int)=(AL c.Board).1.Parts.getD i default:=by unfold Z71;rw [Int.toNat_natCast]
  have e19:Z72 c (i:Int)=(BQ (AL c.Board).2 ((AL c.Board).1.Parts.getD i default).Type').1:=by unfold Z72;rw [e18,Im]
  have hlen:(CL (AL c.Board).2 ((AL c.Board).1.Parts.getD i default)).length=(Z72 c (i:Int)).Pads.length:=by rw [HN,e19]
  unfold Cp
  by_cases hc:j<(Z72 c (i:Int)).Pads.length
  ·rw [decide_eq_true (show (j:Int)<((Z72 c (i:Int)).Pads.length:Int) by omega),cond_true]
   have hcp:j<(CL (AL c.Board).2 ((AL c.Board).1.Parts.getD i default)).length:=by rw [hlen];exact hc
   have e27:Z73 c (i:Int) (j:Int)=((CL (AL c.Board).2 ((AL c.Board).1.Parts.getD i default)).getD j default).2:=by
    unfold Z73 CL
    rw [Int.toNat_natCast,dC (by rw [<- e19];exact hc),e19]
   obtain ⟨k,hk⟩:∃ k,PM k (Z73 c (i:Int) (j:Int)):=by
    refine SE hQ hi (q:=Z73 c (i:Int) (j:Int)) ?_
    unfold Z73
    rw [Int.toNat_natCast,<- e19]
    exact Fp hc
   have hdr:=hk.drill
   rw [Fs hcp] at hv
   have hcnt:((((CL (AL c.Board).2 ((AL c.Board).1.Parts.getD i default)).getD j default::(CL (AL c.Board).2 ((AL c.Board).1.Parts.getD i default)).drop (j+1)).filter drl).length:Int)=(if 0<(Z73 c (i:Int) (j:Int)).Drill then 1 else 0)+((((CL (AL c.Board).2 ((AL c.Board).1.Parts.getD i default)).drop (j+1)).filter drl).length:Int):=by
    by_cases hd:0<(Z73 c (i:Int) (j:Int)).Drill
    ·rw [if_pos hd,List.filter_cons_of_pos (by unfold drl;rw [<- e27,decide_eq_false (by omega)];rfl),List.length_cons];omega
    rw [if_neg hd,List.filter_cons_of_neg (by unfold drl;rw [<- e27,decide_eq_true (by omega)];decide)];omega
   rw [hcnt] at hv
   rw [pJ c v8 i v8' j K0 (Cp c v8 (i:Int) K0 n) hi hc (by split at hv <;> omega) (fun hd=>by rw [if_pos hd] at hv;omega)]
   have:=ZX c v8 i K0 hi hD n (j+1) (v8'+(if 0<(Z73 c (i:Int) (j:Int)).Drill then 1 else 0)) (by omega) (by split <;> omega) (by omega)
   rw [show ((j+1:Nat):Int)=(j:Int)+1 by omega] at this
   exact this
  rw [decide_eq_false (show ¬ (j:Int)<((Z72 c (i:Int)).Pads.length:Int) by omega),cond_false]
  rw [List.drop_eq_nil_of_le (by omega)] at hv
  congr 1
  simp only [List.filter_nil,List.length_nil] at hv
  omega
theorem ZW (c:DS) (v8 v40:Int) (K0:Int->Int->Bool):∀ (n k:Nat) (v21:Int),(Z6Z c).length-k<n->0<=v21->v21+(((Z6Z c).drop k).length:Int)<=1000->Dn c v8 v40 K0 n v21 (k:Int)=(bif bif Bk then decide (v21+((((Z6Z c).drop k).filter (fun h=>h.Plated)).length:Int)=W64 (v8+((AL c.Board).1.Vias.length:Int))) else false then decide (((Z6Z c).length:Int)=W64 (v21+((((Z6Z c).drop k).filter (fun h=>h.Plated)).length:Int)+((AL c.Board).1.Slots.length:Int))) else false)
 | 0,k,v21,h,_,_=>absurd h (Nat.not_lt_zero _)
 | n+1,k,v21,h,h0,hb=>by
  unfold Dn
  by_cases hc:k<(Z6Z c).length
  ·rw [decide_eq_true (show (k:Int)<((Z6Z c).length:Int) by omega),cond_true]
   rw [Fs hc,List.length_cons] at hb
   have:=fun w=>ZW c v8 v40 K0 n (k+1) w (by omega)
   rw [show ((k+1:Nat):Int)=(k:Int)+1 by omega] at this
   rw [Fs hc,Int.toNat_natCast]
   cases hp:((Z6Z c).getD k default).Plated with
   | true =>
    rw [cond_true,Af (by omega) (by omega),this _ (by omega) (by omega),List.filter_cons_of_pos hp,List.length_cons,show v21+1+(((List.drop (k+1) (Z6Z c)).filter (fun h=>h.Plated)).length:Int)=v21+((((List.drop (k+1) (Z6Z c)).filter (fun h=>h.Plated)).length+1:Nat):Int) by omega]
   | false =>
    rw [cond_false,this _ (by omega) (by omega),List.filter_cons_of_neg (by rw [hp];decide)]
  rw [decide_eq_false (show ¬ (k:Int)<((Z6Z c).length:Int) by omega),cond_false,List.drop_eq_nil_of_le (by omega)]
  simp only [List.filter_nil,List.length_nil,Int.add_zero,Int.natCast_zero]
theorem RH {α:Type} {p:α->Bool}:∀ {l:List α},(∀ x∈l,p x=true)->l.filter p=l
 | [],_=>rfl
 | x::l,h=>by rw [List.filter_cons_of_pos (h x (List.mem_cons_self ..)),RH fun y hy=>h y (List.mem_cons_of_mem _ hy)]
theorem Zl {α:Type} {p:α->Bool}:∀ {l:List α},(∀ x∈l,p x=false)->l.filter p=[]
 | [],_=>rfl
 | x::l,h=>by rw [List.filter_cons_of_neg (by rw [h x (List.mem_cons_self ..)];decide),Zl fun y hy=>h y (List.mem_cons_of_mem _ hy)]
theorem rS (c:DS):(Z6Z c).length=Eh c 0+(AL c.Board).1.Vias.length+(AL c.Board).1.Slots.length/\((Z6Z c).filter (fun h=>h.Plated)).length=Eh c 0+(AL c.Board).1.Vias.length:=by
 have hQ:=L6 c.Board
 have e:Z6Z c=_:=Qp hQ
 rw [e]
 constructor
 ·simp only [List.length_append,List.length_map,MX,Eh,List.drop_zero]
 rw [List.filter_append,List.filter_append,RH (p:=fun h:Ao=>h.Plated) (fun x hx=>by obtain ⟨y,_,rfl⟩:=List.mem_map.1 hx;rfl),RH (p:=fun h:Ao=>h.Plated) (l:=List.map bG _) (fun x hx=>by obtain ⟨y,_,rfl⟩:=List.mem_map.1 hx;rfl),Zl (p:=fun h:Ao=>h.Plated) (l:=List.map (Ok _) _) (fun x hx=>by obtain ⟨y,_,rfl⟩:=List.mem_map.1 hx;rfl)]
 simp only [List.length_append,List.length_map,List.length_nil,Nat.add_zero,Eh,List.drop_zero]
theorem ZY (c:DS) (hD:(Eh c 0:Int)<=18) (hV:(AL c.Board).1.Vias.length<=2) (hS:(AL c.Board).1.Slots.length<=1):∀ (n i:Nat) (v8:Int),(AL c.Board).1.Parts.length-i<n->0<=v8->v8+(Eh c i:Int)=(Eh c 0:Int)->Br c n v8 (i:Int)=true
 | 0,i,v8,h,_,_=>absurd h (Nat.not_lt_zero _)
 | n+1,i,v8,h,h0,hv=>by
  obtain ⟨g1,g2⟩:=rS c
  unfold Br
  by_cases hc:i<(AL c.Board).1.Parts.length
  ·rw [decide_eq_true (show (i:Int)<((AL c.Board).1.Parts.length:Int) by omega),cond_true]
   have hsp:(Eh c i:Int)=(((CL (AL c.Board).2 ((AL c.Board).1.Parts.getD i default)).filter drl).length:Int)+(Eh c (i+1):Int):=by
    unfold Eh
    rw [Fs hc,List.flatMap_cons,List.filter_append,List.length_append];omega
   have h1:=ZX c v8 i (Br c n) hc ⟨by omega,hD⟩ ((((Z72 c (i:Int)).Pads.length:Int)-0).toNat+1) 0 v8 (by omega) h0 (by rw [List.drop_zero];omega)
   rw [show ((0:Nat):Int)=0 from rfl] at h1
   rw [h1]
   have:=ZY c hD hV hS n (i+1) ((Eh c 0:Int)-(Eh c (i+1):Int)) (by omega) (by omega) (by omega)
   rw [show ((i+1:Nat):Int)=(i:Int)+1 by omega] at this
   exact this
  rw [decide_eq_false (show ¬ (i:Int)<((AL c.Board).1.Parts.length:Int) by omega),cond_false]
  have hz:Eh c i=0:=by unfold Eh;rw [List.drop_eq_nil_of_le (by omega)];rfl
  have h3:=ZW c v8 (i:Int) (Br c n) ((((Z6Z c).length:Int)-0).toNat+1) 0 0 (by omega) (by omega) (by rw [List.drop_zero];omega)
  rw [show ((0:Nat):Int)=0 from rfl,List.drop_zero] at h3
  rw [h3,uP,cond_true,g2,g1,Af (x:=v8+_) (by omega) (by omega),Af (by omega) (by omega),decide_eq_true (by omega),cond_true]
  exact decide_eq_true (by omega)
theorem Qw (c:DS):D7 c=true:=by
 have hQ:=L6 c.Board
 have h1:=SD hQ
 have h4:=List.length_filter_le drl ((AL c.Board).1.Parts.flatMap (CL (AL c.Board).2))
 have hz:Eh c 0=(((AL c.Board).1.Parts.flatMap (CL (AL c.Board).2)).filter drl).length:=by unfold Eh;rw [List.drop_zero]
 unfold D7
 exact ZY c (by omega) hQ.vial hQ.slotl _ 0 0 (by omega) (by omega) (by omega)
section
open Go.ChangeShapes Go.WideShapes Go.ChangeAt Go.RowKit
theorem OJ (os:Os) (started:os.Started) (H:Type) (enc:TypeId×Value->H) :
  ReturnsInHanded {} Tryz.checked os 8 .any (Rows.itemsPadsSpec.pre6 enc Tryz.prog Tryz.f8 Rows.itemsPadsRow.domain false) (Rows.itemsPadsSpec.post enc Tryz.prog Tryz.f8 false true false false):=by
 refine returnsInHanded_of_change (C:=Tryz.checked) own started kr Tryz.func8
  (ChangeSpec.witness6 (enc:=enc) (C:=Tryz.checked) false ⟨#[],#[.agg #[.slice none 0 0,.int .i64 0,.int .i64 0,.int .i64 0]],[]⟩ 8 kr kr kr kr) ?_
 intro W base args ds gs before hval0 hW hcnd _
 have hval:∀ (j:Nat) t v,Tryz.f8.params[j]? = some t->args[j]? = some v->Value.okWide Tryz.prog W .any base t v:=hval0
 have hW':=hW
 obtain ⟨p,q,hA0,hV,rfl,hfz,hnd⟩:=hW
 have hA:DataW.TrodAll enc Tryz.prog W 0 (fun _=>true) true Tryz.f8.params.toList args.toList ds p:=hA0
 rw [Tryz.params8] at hA hval
 obtain ⟨v0,vs0,d0,ds0,p0,q0,hargs,rfl,rfl,h0,r0⟩:=trodAll_cons hA
 obtain ⟨rfl,rfl,rfl⟩:=trodAll_nil r0
 obtain rfl:args = #[v0]:=by cases args;simp_all
 obtain ⟨c,kc,x0⟩:=jI opT25 (.inl ⟨_,Tryz.underlying25⟩) (hval 0 25 v0 rfl rfl) h0
 clear hA0 hval0
 refine (V5 (YD c (Vv kc.1.1) (fun x hx=>Vv (kc.1.2 x hx).1)) (Qw c) (.cons x0 .nil)).mono fun e W' ⟨he,hb⟩ => ?_
 subst he
 exact ⟨_,rfl,kO hW' rfl rfl rP (by rw [Tryz.params8];exact List.forall_mem_cons.2 ⟨⟨by kernel_rfl,oT (by kernel_rfl)⟩,List.forall_mem_nil _⟩) rfl Tryz.underlying4 hb⟩
theorem itemsPads_holds:Rows.ItemsPadsSaid :=
 OpenClaim.holds_of_wide 8 Tryz.f8 rfl rfl rfl rfl rfl rfl rfl ⟨rfl,rfl,rfl,rfl,rfl⟩ rfl rfl rfl rfl rfl kr Tryz.func8 kr
  (oT (by kernel_rfl)) (by unfold Func.isWrapper;first | (rw [if_pos (by decide +kernel)];kernel_rfl) | (rw [if_neg (by decide +kernel)];exact ⟨rfl,rfl⟩))
  (fun os started H enc _=>OJ os started H enc)
#print axioms itemsPads_holds
end
end Go.Proofs.YtheobjkgllmnmaaGreat
