/-
  Proved: the statement of PlaceTurns; the parts before it hold what its proof needs.
-/
import Derived.Test.YtdbampcfmjbgmaaPlaceTurnsQe
namespace Go.Proofs.Ytdbampcfmjbgmaa
set_option maxRecDepth 100000
set_option linter.unusedVariables false
set_option linter.unusedSimpArgs false
open Go.RowKit
theorem Ux (r:Al):(DB r).Edges.length=4:=rfl
theorem VX (p:AD) (r:Int):(Dv p r).Edges.length=1:=rfl
def Ky (n:Nat) (l:List Az):Prop:=l.length<=n/\∀ g∈l,JT g
theorem TA {n:Nat} {c:Bool} {a b:List Az} (ha:Ky n a) (hb:Ky n b):Ky n (bif c then a else b):=by cases c <;> assumption
theorem S9 {n:Nat}:Ky n []:=⟨Nat.zero_le _,fun g hg=>by cases hg⟩
theorem QK {n:Nat} {g:Az} {l:List Az} (hg:JT g) (h:Ky n l):Ky (n+1) (g::l):=⟨Nat.succ_le_succ h.1,fun x hx=>(List.mem_cons.1 hx).elim (fun e=>e▸hg) (h.2 x)⟩
theorem cN {n:Nat} {g:Az} {l:List Az} (hg:JT g) (h:Ky n l):Ky (n+1) (l++[g]):=⟨by rw [List.length_append];exact Nat.succ_le_succ h.1,fun x hx=>(List.mem_append.1 hx).elim (h.2 x) (fun e=>by rw [List.mem_singleton.1 e];exact hg)⟩
theorem UQ {k:Int} {a c:Bm}:JT (Az.mk k [a,c]):=(by decide:((2:Nat):Int)<=1000000)
theorem gs_up {n m:Nat} {l:List Az} (h:Ky n l) (k:n<=m):Ky m l:=⟨Nat.le_trans h.1 k,h.2⟩
theorem VO (l:List Int) (d:AC):Ky 3 (Z4F l d):=by
 have h1:Ky 2 (Z4r l d):=TA (QK UQ S9) S9
 have h2:Ky 2 (Z4z l d):=TA (QK UQ (QK UQ S9)) h1
 exact TA (cN UQ h2) (gs_up h2 (by decide))
theorem P9 (d:AC) (k:Int):((Z4h d k).length:Int)<=1000000:=by
 unfold Z4h Z4c Z4f
 cases decide ((AA (AA d 2).2 3).1=0) with
 | true=>rw [cond_true,Ux];decide
 | false =>
  rw [cond_false]
  cases decide ((AA (AA d 2).2 3).1=1) with
  | true=>rw [cond_true,VX];decide
  | false=>exact (by decide:((1:Nat):Int)<=1000000)
theorem OH (l:List Int) (name:ByteArray):∀ (n:Nat) (v:List A1) (d:AC) (k:Int),(∀ p∈v,R2 p)->(v.length:Int)<=1000000->((v.length:Int)+(W64 (2+(AA (AC.mk l 0) 5).1)-k)<=1000000)->((W64 (2+(AA (AC.mk l 0) 5).1))-k).toNat<n ->
  JR (Ct l name n v d k)
 | 0,v,d,k,_,_,_,h=>absurd h (Nat.not_lt_zero _)
 | n+1,v,d,k,hv,h0,h1,h2=>by
  unfold Ct
  by_cases h:k<W64 (2+(AA (AC.mk l 0) 5).1)
  ·rw [decide_eq_true h,cond_true]
   refine OH l name n _ _ (k+1) (fun p hp => ?_) (by simp only [List.length_append,List.length_cons,List.length_nil];omega) (by simp only [List.length_append,List.length_cons,List.length_nil];omega) (by omega)
   rcases List.mem_append.1 hp with hp | hp
   ·exact hv p hp
   rw [List.mem_singleton.1 hp]
   exact P9 d k
  rw [decide_eq_false h,cond_false]
  have hg:=VO l d
  exact ⟨h0,by have:=hg.1;show ((Z4F l d).length:Int)<=1000000;omega,hv,hg.2⟩
theorem RY (l:List Int) (name:ByteArray):JR (A0 l name):=by
 have hn:=Cy (AC.mk l 0) 5 (by decide) (by decide)
 have hw:W64 (2+(AA (AC.mk l 0) 5).1)=2+(AA (AC.mk l 0) 5).1:=Ao (by omega) (by omega)
 unfold A0
 exact OH l name _ [] _ 0 (fun p hp=>by cases hp) (by decide) (by simp only [List.length_nil];omega) (by omega)
theorem UC (l:List (List Int)) (v6_4:List AF) (v5:AC) (v8:Int) (a1 a3 a5:List Ab) (d1:AC) (v10:Int) (K0:List AF->AC->Int->(AG×(List AQ))) (K1:List Ab->List Ab->List Ab->AC->Int->(AG×(List AQ))) (hK:∀ a b c d,CP (K1 a b c d (v10+1)).2):∀ (n:Nat) (x y z:List Ab) (d:AC) (k:Int),0<=k->(((Bi [A0 (AR l 0) ({ data := #[82] }:ByteArray),A0 (AR l 1) ({ data := #[81] }:ByteArray)] (v6_4.getD v10.toNat default).Type').1.Pads.length:Int)-k).toNat<n->CP (C7 l v6_4 v5 v8 a1 a3 a5 d1 v10 K0 K1 n x y z d k).2
 | 0,x,y,z,d,k,_,h=>absurd h (Nat.not_lt_zero _)
 | n+1,x,y,z,d,k,k0,h=>by
  unfold C7
  show CP (bif decide ((k:Int)<((Bi [A0 (AR l 0) ({ data := #[82] }:ByteArray),A0 (AR l 1) ({ data := #[81] }:ByteArray)] (v6_4.getD v10.toNat default).Type').1.Pads.length:Int)) then (_:AG×List AQ) else _).2
  by_cases hc:(k:Int)<((Bi [A0 (AR l 0) ({ data := #[82] }:ByteArray),A0 (AR l 1) ({ data := #[81] }:ByteArray)] (v6_4.getD v10.toNat default).Type').1.Pads.length:Int)
  ·rw [decide_eq_true hc]
   exact UC l v6_4 v5 v8 a1 a3 a5 d1 v10 K0 K1 hK n _ _ _ _ _ (by omega) (by omega)
  rw [decide_eq_false hc]
  exact hK _ _ _ _
theorem aT (a c:List Int) (x y:ByteArray):CP [A0 a x,A0 c y]:=by
 refine ⟨(by decide:((2:Nat):Int)<=1000000),fun t ht => ?_⟩
 simp only [List.mem_cons,List.not_mem_nil,or_false] at ht
 rcases ht with rfl | rfl <;> exact RY _ _
theorem UD (l:List (List Int)) (v6_4:List AF) (v5:AC) (v8:Int) (K0:List AF->AC->Int->(AG×(List AQ))):∀ (n:Nat) (x y z:List Ab) (d:AC) (k:Int),0<=k->(W64 (1+(AA (AA (AC.mk (AR l 2) 0) 3).2 3).1)-k).toNat<n->CP (Cs l v6_4 v5 v8 K0 n x y z d k).2
 | 0,x,y,z,d,k,_,h=>absurd h (Nat.not_lt_zero _)
 | n+1,x,y,z,d,k,k0,h=>by
  unfold Cs
  by_cases hc:k<W64 (1+(AA (AA (AC.mk (AR l 2) 0) 3).2 3).1)
  ·simp only [hc,decide_true,cond_true]
   exact UC l v6_4 v5 v8 x y z d k K0 _ (fun a b c e=>UD l v6_4 v5 v8 K0 n a b c e (k+1) (by omega) (by omega)) _ _ _ _ _ 0 (by omega) (Nat.lt_succ_self _)
  simp only [hc,decide_false,cond_false]
  exact aT _ _ _ _
theorem UE (l:List (List Int)):∀ (n:Nat) (v:List AF) (d:AC) (k:Int),0<=k->(W64 (1+(AA (AA (AC.mk (AR l 2) 0) 3).2 3).1)-k).toNat<n->CP (CL l n v d k).2
 | 0,v,d,k,_,h=>absurd h (Nat.not_lt_zero _)
 | n+1,v,d,k,k0,h=>by
  unfold CL
  by_cases hc:k<W64 (1+(AA (AA (AC.mk (AR l 2) 0) 3).2 3).1)
  ·simp only [hc,decide_true,cond_true]
   exact UE l n _ _ _ (by omega) (by omega)
  simp only [hc,decide_false,cond_false]
  exact UD l v d k _ _ _ _ _ _ 0 (by omega) (Nat.lt_succ_self _)
theorem S2 (l:List (List Int)):CP (CY l).2:=by
 unfold CY
 exact UE l _ _ _ 0 (by omega) (Nat.lt_succ_self _)
def Ix {α:Type} [Inhabited α] (P:Nat->α->Prop) (v:List α):Prop:=∀ k,k<v.length->P k (v.getD k default)
theorem QC {α:Type} [Inhabited α] {P:Nat->α->Prop}:Ix P ([]:List α):=fun k h=>absurd h (Nat.not_lt_zero _)
theorem QD {α:Type} [Inhabited α] {P:Nat->α->Prop} {v:List α} {x:α} (h:Ix P v) (hx:P v.length x):Ix P (v++[x]):=by
 intro k hk
 by_cases h1:k<v.length
 ·rw [List.getD_eq_getElem?_getD,List.getElem?_append_left h1,<- List.getD_eq_getElem?_getD];exact h k h1
 have e:k=v.length:=by simp only [List.length_append,List.length_cons,List.length_nil] at hk;omega
 subst e
 rw [List.getD_eq_getElem?_getD,List.getElem?_append_right (Nat.le_refl _),Nat.sub_self];exact hx
theorem cF {α:Type} [Inhabited α] {P:Nat->α->Prop} {v:List α} {x:α} (h:Ix P v) (hx:x∈v):∃ k,k<v.length/\v.getD k default=x/\P k x:=by
 obtain ⟨k,hk,e⟩:=List.getElem_of_mem hx
 have e2:v.getD k default=x:=by rw [List.getD_eq_getElem?_getD,List.getElem?_eq_getElem hk];exact e
 exact ⟨k,hk,e2,e2▸h k hk⟩
structure dG (k:Nat) (p:A1):Prop where
 lt:k<6
 name:p.Name=Af k
 drill:0<=p.Drill/\p.Drill<=6
 shp:∃ y:Int,0<=y/\y<=10/\p.At=AD.mk (30*(k:Int)) y/\(p.Shape=DB (Al.mk (30*(k:Int)-6) (y-6) (30*(k:Int)+6) (y+6))\/(∃ r:Int,4<=r/\r<=6/\p.Shape=Dv (AD.mk (30*(k:Int)) y) r)\/p.Shape=Ah.mk 1 [AO.mk 1 (AD.mk (30*(k:Int)-2) y) (AD.mk (30*(k:Int)+2) y) (AD.mk 0 0)] 4)
theorem CF {d:AC} {n:Int} (h0:0<n) (h1:n<=1000000):0<=(AA d n).1/\(AA d n).1<n:=Cy d n h0 (by omega)
theorem OJ (l:List Int) (name:ByteArray):∀ (n:Nat) (v:List A1) (d:AC) (k:Int),Ix dG v->(v.length:Int)=k->k<=W64 (2+(AA (AC.mk l 0) 5).1)->(W64 (2+(AA (AC.mk l 0) 5).1)-k).toNat<n->Ix dG (Ct l name n v d k).Pads
 | 0,v,d,k,_,_,_,h=>absurd h (Nat.not_lt_zero _)
 | n+1,v,d,k,hv,hl,hk,h=>by
  have hn:=CF (d:=AC.mk l 0) (n:=5) (by decide) (by decide)
  have hw:W64 (2+(AA (AC.mk l 0) 5).1)=2+(AA (AC.mk l 0) 5).1:=Ao (by omega) (by omega)
  unfold Ct
  by_cases hc:k<W64 (2+(AA (AC.mk l 0) 5).1)
  ·rw [decide_eq_true hc,cond_true]
   refine OJ l name n _ _ _ (QD hv ?_) (by simp only [List.length_append,List.length_cons,List.length_nil];omega) (by omega) (by omega)
   have hk6:v.length<6:=by omega
   have hy:=CF (d:=d) (n:=2) (by decide) (by decide)
   have hr:=CF (d:=(AA (AA d 2).2 3).2) (n:=3) (by decide) (by decide)
   have h4:=CF (d:=Z4g d) (n:=4) (by decide) (by decide)
   have h2:=CF (d:=(AA (Z4g d) 4).2) (n:=2) (by decide) (by decide)
   have e1:W64 (30*k)=30*(v.length:Int):=by rw [Ao (by omega) (by omega)];omega
   have e2:W64 (10*(AA d 2).1)=10*(AA d 2).1:=Ao (by omega) (by omega)
   refine ⟨hk6,by rw [<- hl],?_,10*(AA d 2).1,by omega,by omega,by show AD.mk _ _=_;rw [e1,e2],?_⟩
   ·show 0<=W64 (W64 (2*(AA (Z4g d) 4).1)*(AA (AA (Z4g d) 4).2 2).1)/\W64 (W64 (2*(AA (Z4g d) 4).1)*(AA (AA (Z4g d) 4).2 2).1)<=6
    rw [Ao (x:=2*(AA (Z4g d) 4).1) (by omega) (by omega)]
    have h01:(AA (AA (Z4g d) 4).2 2).1=0\/(AA (AA (Z4g d) 4).2 2).1=1:=by omega
    rcases h01 with h01 | h01 <;> rw [h01] <;> rw [Ao (by omega) (by omega)] <;> omega
   show (Ah.mk _ (Z4h d k) _=_)\/_
   unfold Z4h Z4c Z4f
   rw [e1,e2]
   cases decide ((AA (AA d 2).2 3).1=0) with
   | true =>
    simp only [cond_true]
    left
    rw [Ao (x:=30*(v.length:Int)-6) (by omega) (by omega),Ao (x:=10*(AA d 2).1-6) (by omega) (by omega),Ao (x:=30*(v.length:Int)+6) (by omega) (by omega),Ao (x:=10*(AA d 2).1+6) (by omega) (by omega)]
   | false =>
    simp only [cond_false]
    right
    cases decide ((AA (AA d 2).2 3).1=1) with
    | true =>
     simp only [cond_true]
     left
     exact ⟨W64 (4+(AA (AA (AA d 2).2 3).2 3).1),by rw [Ao (by omega) (by omega)];omega,by rw [Ao (by omega) (by omega)];omega,rfl⟩
    | false =>
     simp only [cond_false]
     right
     rw [Ao (x:=30*(v.length:Int)-2) (by omega) (by omega),Ao (x:=30*(v.length:Int)+2) (by omega) (by omega)]
  rw [decide_eq_false hc,cond_false]
  exact hv
theorem RZ (l:List Int) (name:ByteArray):Ix dG (A0 l name).Pads:=by
 have hn:=CF (d:=AC.mk l 0) (n:=5) (by decide) (by decide)
 have hw:W64 (2+(AA (AC.mk l 0) 5).1)=2+(AA (AC.mk l 0) 5).1:=Ao (by omega) (by omega)
 unfold A0
 exact OJ l name _ [] _ 0 QC rfl (by omega) (by omega)
abbrev nR:ByteArray:={ data := #[82] }
abbrev nQ:ByteArray:={ data := #[81] }
abbrev refs3:List ByteArray:=[({ data := #[82,49] }:ByteArray),({ data := #[82,50] }:ByteArray),({ data := #[120,47,82,49] }:ByteArray)]
structure On (k:Nat) (p:AF):Prop where
 id:p.Id=1+(k:Int)
 ref:p.Ref=refs3.getD k ⟨#[]⟩
 typ:p.Type'=nR\/p.Type'=nQ
 turn:0<=p.Turn/\p.Turn<4
 x:80<=p.At.X/\p.At.X<=300
 y:100<=p.At.Y/\p.At.Y<=270
abbrev I4 (l:List (List Int)):List AQ:=[Z5g l,Z5h l]
theorem Ur (l:List (List Int)) {i:Int} (hi:0<=i/\i<2):((I4 l).getD i.toNat default).Name=nR\/((I4 l).getD i.toNat default).Name=nQ:=by
 have h01:i=0\/i=1:=by omega
 rcases h01 with rfl | rfl
 ·exact .inl (Ew _ _).1
 exact .inr (Ew _ _).1
theorem Qo (l:List (List Int)) {x:ByteArray} (h:x=nR\/x=nQ):∃ a,Bi (I4 l) x=(A0 a x,true)/\A0 a x∈I4 l:=by
 have h0:=(Ew (AR l 0) nR).1
 have h1:=(Ew (AR l 1) nQ).1
 rcases h with rfl | rfl
 ·refine ⟨AR l 0,?_,List.mem_cons_self ..⟩
  have:=OT (a:=Z5g l) (c:=Z5h l)
  rw [show (Z5g l).Name=nR from h0] at this
  exact this
 refine ⟨AR l 1,?_,List.mem_cons_of_mem _ (List.mem_cons_self ..)⟩
 have:=OR (a:=Z5g l) (c:=Z5h l) (by rw [show (Z5g l).Name=nR from h0,show (Z5h l).Name=nQ from h1];decide +kernel)
 rw [show (Z5h l).Name=nQ from h1] at this
 exact this
theorem Xq (l:List (List Int)) {x:ByteArray} (h:x=nR\/x=nQ):((Bi (I4 l) x).1.Pads.length:Int)<=6:=by
 obtain ⟨a,e,_⟩:=Qo l h
 rw [e]
 exact (Ew a x).2.2
theorem Mm (v5'':AC) (v:List Ab) (v6_4:List AF) (v10:Int) (l:List (List Int)) (v13:Int):(Z5Y v5'' v v6_4 v10 l v13).length<=v.length+1/\(Z5Z v5'' v v6_4 v10 l v13).length<=v.length+1/\(Z60 v5'' v v6_4 v10 l v13).length<=v.length+1:=by
 unfold Z5Y Z5Z Z60
 cases decide ((AA v5'' 5).1<3) <;> cases decide ((AA v5'' 5).1=0) <;> cases decide ((AA v5'' 5).1=1) <;> simp
theorem UI (l:List (List Int)) (v6_4:List AF) (v5:AC) (v8:Int) (a1 a3 a5:List Ab) (d1:AC) (v10:Int) (K0:List AF->AC->Int->(AG×(List AQ))) (K1:List Ab->List Ab->List Ab->AC->Int->(AG×(List AQ))) (Q:AG×List AQ->Prop) (M:Nat) (hK:∀ a b c d,a.length<=M->b.length<=M->c.length<=M->Q (K1 a b c d (v10+1))) :
  ∀ (n:Nat) (x y z:List Ab) (d:AC) (k:Int),0<=k->(x.length:Int)+((Z5P l v6_4 v10).Pads.length-k)<=M->(y.length:Int)+((Z5P l v6_4 v10).Pads.length-k)<=M->(z.length:Int)+((Z5P l v6_4 v10).Pads.length-k)<=M->k<=(Z5P l v6_4 v10).Pads.length->(((Z5P l v6_4 v10).Pads.length:Int)-k).toNat<n->Q (C7 l v6_4 v5 v8 a1 a3 a5 d1 v10 K0 K1 n x y z d k)
 | 0,x,y,z,d,k,_,_,_,_,_,h=>absurd h (Nat.not_lt_zero _)
 | n+1,x,y,z,d,k,k0,hx,hy,hz,hk,h=>by
  unfold C7
  by_cases hc:(k:Int)<((Z5P l v6_4 v10).Pads.length:Int)
  ·rw [decide_eq_true hc,cond_true]
   have p1:=(Mm d x v6_4 v10 l k).1
   have p2:=(Mm d y v6_4 v10 l k).2.1
   have p3:=(Mm d z v6_4 v10 l k).2.2
   exact UI l v6_4 v5 v8 a1 a3 a5 d1 v10 K0 K1 Q M hK n _ _ _ _ _ (by omega) (by omega) (by omega) (by omega) (by omega) (by omega)
  rw [decide_eq_false hc,cond_false]
  exact hK _ _ _ _ (by omega) (by omega) (by omega)
theorem UJ (l:List (List Int)) (v6_4:List AF) (v5:AC) (v8:Int) (K0:List AF->AC->Int->(AG×(List AQ))) (Q:AG×List AQ->Prop) (hp:Ix On v6_4) (hm:(v6_4.length:Int)=W64 (1+(AA (AA (AC.mk (AR l 2) 0) 3).2 3).1)) (h3:v6_4.length<=3) (hQ:∀ x y z:List Ab,x.length<=18->y.length<=18->z.length<=18->Q ((Z66 l v6_4 x y z).1,I4 l)) :
  ∀ (n:Nat) (x y z:List Ab) (d:AC) (k:Int),0<=k->(x.length:Int)<=6*k->(y.length:Int)<=6*k->(z.length:Int)<=6*k->k<=(v6_4.length:Int)->((v6_4.length:Int)-k).toNat<n->Q (Cs l v6_4 v5 v8 K0 n x y z d k)
 | 0,x,y,z,d,k,_,_,_,_,_,h=>absurd h (Nat.not_lt_zero _)
 | n+1,x,y,z,d,k,k0,hx,hy,hz,hk,h=>by
  unfold Cs
  rw [<- hm]
  by_cases hc:k<(v6_4.length:Int)
  ·rw [decide_eq_true hc,cond_true]
   have hg:=Xq l (hp k.toNat (by omega)).typ
   have hg:((Z5P l v6_4 k).Pads.length:Int)<=6:=hg
   exact UI l v6_4 v5 v8 x y z d k K0 _ Q (6*(k+1)).toNat (fun a b c e ha hb hc'=>UJ l v6_4 v5 v8 K0 Q hp hm h3 hQ n a b c e (k+1) (by omega) (by omega) (by omega) (by omega) (by omega) (by omega)) _ _ _ _ _ 0 (by omega) (by omega) (by omega) (by omega) (by omega) (by omega)
  rw [decide_eq_false hc,cond_false]
  exact hQ _ _ _ (by omega) (by omega) (by omega)
theorem UK (l:List (List Int)) (Q:AG×List AQ->Prop) (hQ:∀ (v:List AF) (x y z:List Ab),Ix On v->1<=v.length->v.length<=3->x.length<=18->y.length<=18->z.length<=18->Q ((Z66 l v x y z).1,I4 l)) :
  ∀ (n:Nat) (v:List AF) (d:AC) (k:Int),Ix On v->(v.length:Int)=k->k<=W64 (1+(AA (AA (AC.mk (AR l 2) 0) 3).2 3).1)->(W64 (1+(AA (AA (AC.mk (AR l 2) 0) 3).2 3).1)-k).toNat<n->Q (CL l n v d k)
 | 0,v,d,k,_,_,_,h=>absurd h (Nat.not_lt_zero _)
 | n+1,v,d,k,hv,hl,hk,h=>by
  have hn:=CF (d:=(AA (AC.mk (AR l 2) 0) 3).2) (n:=3) (by decide) (by decide)
  have hw:W64 (1+(AA (AA (AC.mk (AR l 2) 0) 3).2 3).1)=1+(AA (AA (AC.mk (AR l 2) 0) 3).2 3).1:=Ao (by omega) (by omega)
  unfold CL
  by_cases hc:k<W64 (1+(AA (AA (AC.mk (AR l 2) 0) 3).2 3).1)
  ·rw [decide_eq_true hc,cond_true]
   refine UK l Q hQ n _ _ _ (QD hv ?_) (by simp only [List.length_append,List.length_cons,List.length_nil];omega) (by omega) (by omega)
   have h2:=CF (d:=d) (n:=2) (by decide) (by decide)
   have h4:=CF (d:=(AA d 2).2) (n:=4) (by decide) (by decide)
   have h5:=CF (d:=Z5B d) (n:=5) (by decide) (by decide)
   have h6:=CF (d:=(AA (Z5B d) 5).2) (n:=3) (by decide) (by decide)
   have h7:=CF (d:=Z5E d) (n:=3) (by decide) (by decide)
   refine ⟨?_,by rw [<- hl];rfl,Ur l h2,h4,?_,?_⟩
   ·show W64 (1+k)=_
    rw [Ao (by omega) (by omega)];omega
   ·show 80<=W64 (W64 (80+W64 (100*k))+W64 (5*(AA (Z5B d) 5).1))/\W64 (W64 (80+W64 (100*k))+W64 (5*(AA (Z5B d) 5).1))<=300
    rw [Ao (x:=100*k) (by omega) (by omega),Ao (x:=80+100*k) (by omega) (by omega),Ao (x:=5*(AA (Z5B d) 5).1) (by omega) (by omega),Ao (by omega) (by omega)]
    omega
   show 100<=W64 (W64 (100+W64 (80*(AA (AA (Z5B d) 5).2 3).1))+W64 (5*(AA (Z5E d) 3).1))/\W64 (W64 (100+W64 (80*(AA (AA (Z5B d) 5).2 3).1))+W64 (5*(AA (Z5E d) 3).1))<=270
   rw [Ao (x:=80*(AA (AA (Z5B d) 5).2 3).1) (by omega) (by omega),Ao (x:=100+80*(AA (AA (Z5B d) 5).2 3).1) (by omega) (by omega),Ao (x:=5*(AA (Z5E d) 3).1) (by omega) (by omega),Ao (by omega) (by omega)]
   omega
  rw [decide_eq_false hc,cond_false]
  exact UJ l v d k _ Q hv (by omega) (by omega) (fun x y z hx hy hz=>hQ v x y z hv (by omega) (by omega) hx hy hz) _ [] [] [] _ 0 (by omega) (by simp) (by simp) (by simp) (by omega) (by omega)
theorem M5 (l:List (List Int)) (Q:AG×List AQ->Prop) (hQ:∀ (v:List AF) (x y z:List Ab),Ix On v->1<=v.length->v.length<=3->x.length<=18->y.length<=18->z.length<=18->Q ((Z66 l v x y z).1,I4 l)):Q (CY l):=by
 have hn:=CF (d:=(AA (AC.mk (AR l 2) 0) 3).2) (n:=3) (by decide) (by decide)
 have hw:W64 (1+(AA (AA (AC.mk (AR l 2) 0) 3).2 3).1)=1+(AA (AA (AC.mk (AR l 2) 0) 3).2 3).1:=Ao (by omega) (by omega)
 unfold CY
 exact UK l Q hQ _ [] _ 0 QC rfl (by omega) (by omega)
def PtB (p:AD):Prop:=(-900<=p.X/\p.X<=900) /\ -900<=p.Y/\p.Y<=900
theorem My {x:Int} (h : -500<=x/\x<=500) : -500<=W64 (0-x)/\W64 (0-x)<=500:=by rw [Ao (by omega) (by omega)];omega
theorem Yb {x y:Int} (h : -500<=x/\x<=500) (k : -400<=y/\y<=400) : -900<=W64 (x+y)/\W64 (x+y)<=900:=by rw [Ao (by omega) (by omega)];omega
theorem YX {m:AV} {p:AD} (hp:(-500<=p.X/\p.X<=500) /\ -500<=p.Y/\p.Y<=500) (ha:(-400<=m.At.X/\m.At.X<=400) /\ -400<=m.At.Y/\m.At.Y<=400):PtB (BZ m p):=by
 have h1:(-500<=(Be p m.Mirror).X/\(Be p m.Mirror).X<=500) /\ -500<=(Be p m.Mirror).Y/\(Be p m.Mirror).Y<=500:=by
  unfold Be
  cases m.Mirror with
  | true=>exact ⟨My hp.1,hp.2⟩
  | false=>exact hp
 have h2:∀ q:AD,((-500<=q.X/\q.X<=500) /\ -500<=q.Y/\q.Y<=500)->(-500<=(B5 q m.Turn).X/\(B5 q m.Turn).X<=500) /\ -500<=(B5 q m.Turn).Y/\(B5 q m.Turn).Y<=500:=fun q hq=>by
  unfold B5
  cases decide (B4 m.Turn=1) with
  | true=>exact ⟨My hq.2,hq.1⟩
  | false =>
   cases decide (B4 m.Turn=2) with
   | true=>exact ⟨My hq.1,My hq.2⟩
   | false =>
    cases decide (B4 m.Turn=3) with
    | true=>exact ⟨hq.2,My hq.1⟩
    | false=>exact hq
 have h3:=h2 _ h1
 exact ⟨Yb h3.1 ha.1,Yb h3.2 ha.2⟩
theorem Ym (b:AG) (l:List (List Int)) (d:AC) (hP:Ix On b.Parts):PtB (Bn b (I4 l) d).1:=by
 have h12:=CF (d:=d) (n:=12) (by decide) (by decide)
 have h6:=CF (d:=(AA d 12).2) (n:=6) (by decide) (by decide)
 unfold Bn
 cases hq:(bif decide ((AA d 12).1<8) then decide ((0:Int)<(b.Parts.length:Int)) else false) with
 | true =>
  have hi:=Qv hq
  rw [cond_true]
  show PtB (Z1e b d (I4 l))
  have hp:=hP (Int.tmod (AA d 12).1 (b.Parts.length:Int)).toNat (by omega)
  obtain ⟨a,e,_⟩:=Qo l hp.typ
  have hx:=hp.x
  have hy:=hp.y
  unfold Z1e
  refine YX ?_ (by show (-400<=(Z1c b d).At.X/\(Z1c b d).At.X<=400) /\ -400<=(Z1c b d).At.Y/\(Z1c b d).At.Y<=400;unfold Z1c;omega)
  unfold Z1d Z1c
  rw [e]
  generalize (Int.tmod (AA (AA d 12).2 6).1 _).toNat=k
  by_cases hk:k<(A0 a (b.Parts.getD (Int.tmod (AA d 12).1 (b.Parts.length:Int)).toNat default).Type').Pads.length
  ·obtain ⟨h1,_,_,y,hy0,hy1,hat,_⟩:=RZ a _ k hk
   show (-500<=((A0 a (b.Parts.getD (Int.tmod (AA d 12).1 (b.Parts.length:Int)).toNat default).Type').Pads.getD k default).At.X/\_)/\_
   rw [hat]
   simp only
   omega
  rw [List.getD_eq_getElem?_getD,List.getElem?_eq_none (by show (A0 a (b.Parts.getD (Int.tmod (AA d 12).1 (b.Parts.length:Int)).toNat default).Type').Pads.length<=k;omega)]
  exact (by decide:(-500<=(0:Int)/\(0:Int)<=500) /\ -500<=(0:Int)/\(0:Int)<=500)
 | false =>
  rw [cond_false]
  show (-900<=W64 (30+Int.tmod (W64 (40*(AA d 12).1)) 360)/\W64 (30+Int.tmod (W64 (40*(AA d 12).1)) 360)<=900) /\ -900<=W64 (30+W64 (60*(AA (AA d 12).2 6).1))/\W64 (30+W64 (60*(AA (AA d 12).2 6).1))<=900
  rw [Ao (x:=40*(AA d 12).1) (by omega) (by omega),Int.tmod_eq_emod_of_nonneg (by omega),Ao (x:=60*(AA (AA d 12).2 6).1) (by omega) (by omega),Ao (by omega) (by omega),Ao (by omega) (by omega)]
  omega
structure NY (k:Nat) (t:Aj):Prop where
 id:t.Id=11+(k:Int)
 lay:1<=t.Layer/\t.Layer<=2
 kind:t.Shape.Kind=1
 r:3<=t.Shape.R/\t.Shape.R<=6
 edg:∃ a c d,PtB a/\PtB c/\t.Shape.Edges=(CO a c d).1
structure Zs (k:Nat) (v:Br):Prop where
 id:v.Id=21+(k:Int)
 lay:v.From=1/\v.To=2
 r:6<=v.R/\v.R<=10
 at_:PtB v.At
 drill:4<=v.Drill/\v.Drill<=8
def aO (s:BX):Prop:=∃ r p,3<=r/\r<=6/\PtB p/\s.Shape=Ah.mk 1 [EP p (AD.mk (W64 (p.X+25)) (W64 (p.Y+10)))] r
def Ul (p:BB):Prop:=p.Rects.length<=2
def Um (p:BQ):Prop:=p.Shape.Edges.length=4
abbrev Ui (b:AG) (types:List AQ):Prop:=∀ d,PtB (Bn (AG.mk b.Layers b.Outline b.Parts [] [] [] [] [] [] [] [] [] []) types d).1
abbrev Zu (b:AG) (Q:AG->Prop):Prop:=∀ (v1:List Aj) (v2:List Br) (v3:List BB) (v4:List BQ) (v5:List BX),Ix NY v1->v1.length<=5->Ix Zs v2->v2.length<=2->v3.length<=2->v4.length<=1->v5.length<=1->(∀ s∈v5,aO s)->(∀ p∈v3,Ul p)->(∀ p∈v4,Um p)->Q (AG.mk b.Layers b.Outline b.Parts b.Nets v1 v2 v3 v4 v5 [] [] [] [])
theorem XF (b:AG) (types:List AQ) (l:List (List Int)) (v1:List Aj) (v6:AC) (v7:ByteArray) (v9:Int) (v2:List Br) (v6':AC) (v11:Int) (K0:List Aj->AC->ByteArray->Int->AG) (K1:List Br->AC->Int->AG) (Q:AG->Prop) (hs:Ui b types) (hQ:Zu b Q) (h1:Ix NY v1) (h1l:v1.length<=5) (h2:Ix Zs v2) (h2l:v2.length<=2) :
  ∀ (n:Nat) (v:List BB) (d:AC) (k:Int),(∀ p∈v,Ul p)->0<=k->(v.length:Int)<=k->k<=(AA v6' 3).1->((AA v6' 3).1-k).toNat<n->Q (B9 b types l v1 v6 v7 v9 v2 v6' v11 K0 K1 n v d k)
 | 0,v,d,k,_,_,_,_,h=>absurd h (Nat.not_lt_zero _)
 | n+1,v,d,k,hv,k0,kv,kk,h=>by
  have hb:=CF (d:=v6') (n:=3) (by decide) (by decide)
  unfold B9
  by_cases hc:k<(AA v6' 3).1
  ·rw [decide_eq_true hc,cond_true]
   exact XF b types l v1 v6 v7 v9 v2 v6' v11 K0 K1 Q hs hQ h1 h1l h2 h2l n _ _ _ (fun p hp=>by
    rcases List.mem_append.1 hp with hp | hp
    ·exact hv p hp
    rw [List.mem_singleton.1 hp]
    show (Z2D b d).length<=2
    unfold Z2D
    cases decide ((AA (AA (Z2v b d) 6).2 3).1=0) <;> simp) (by omega) (by simp only [List.length_append,List.length_cons,List.length_nil];omega) (by omega) (by omega)
  rw [decide_eq_false hc,cond_false]
  have h4:(Z1A l b types).length<=1:=by
   unfold Z1A
   cases decide ((AA (AC.mk (AR l 6) 0) 3).1=0) <;> simp
  have h4k:∀ p∈Z1A l b types,Um p:=by
   unfold Z1A
   cases decide ((AA (AC.mk (AR l 6) 0) 3).1=0) with
   | true=>intro p hp;rw [cond_true] at hp;rw [List.mem_singleton.1 hp];rfl
   | false=>intro p hp;cases hp
  cases decide ((AA (Z1z l b types) 3).1=0) with
  | true =>
   rw [cond_true]
   refine hQ _ _ _ _ _ h1 h1l h2 h2l (by omega) h4 (by simp) (fun s hm => ?_) hv h4k
   rw [List.mem_singleton.1 hm]
   have hr:=CF (d:=Z1F b types l) (n:=4) (by decide) (by decide)
   exact ⟨W64 (3+(AA (Z1F b types l) 4).1),Z1G b types l,by rw [Ao (by omega) (by omega)];omega,by rw [Ao (by omega) (by omega)];omega,hs _,rfl⟩
  | false =>
   rw [cond_false]
   exact hQ _ _ _ _ _ h1 h1l h2 h2l (by omega) h4 (by simp) (fun s hm=>by cases hm) hv h4k
theorem XG (b:AG) (types:List AQ) (l:List (List Int)) (v1:List Aj) (v6:AC) (v7:ByteArray) (v9:Int) (K0:List Aj->AC->ByteArray->Int->AG) (Q:AG->Prop) (hs:Ui b types) (hQ:Zu b Q) (h1:Ix NY v1) (h1l:v1.length<=5) :
  ∀ (n:Nat) (v:List Br) (d:AC) (k:Int),Ix Zs v->(v.length:Int)=k->k<=(AA (AC.mk (AR l 5) 0) 3).1->((AA (AC.mk (AR l 5) 0) 3).1-k).toNat<n->Q (CI b types l v1 v6 v7 v9 K0 n v d k)
 | 0,v,d,k,_,_,_,h=>absurd h (Nat.not_lt_zero _)
 | n+1,v,d,k,hv,kv,kk,h=>by
  have hb:=CF (d:=AC.mk (AR l 5) 0) (n:=3) (by decide) (by decide)
  unfold CI
  by_cases hc:k<(AA (AC.mk (AR l 5) 0) 3).1
  ·rw [decide_eq_true hc,cond_true]
   refine XG b types l v1 v6 v7 v9 K0 Q hs hQ h1 h1l n _ _ _ (QD hv ?_) (by simp only [List.length_append,List.length_cons,List.length_nil];omega) (by omega) (by omega)
   have h5:=CF (d:=Z2a b types d) (n:=5) (by decide) (by decide)
   have h3:=CF (d:=(AA (Z2a b types d) 5).2) (n:=3) (by decide) (by decide)
   refine ⟨?_,⟨rfl,rfl⟩,?_,hs _,?_⟩
   ·show W64 (21+k)=_
    rw [Ao (by omega) (by omega)];omega
   ·show 6<=W64 (6+_)/\W64 (6+_)<=10
    rw [Ao (by omega) (by omega)];omega
   show 4<=W64 (4+W64 (2*_))/\W64 (4+W64 (2*_))<=8
   rw [Ao (x:=2*_) (by omega) (by omega),Ao (by omega) (by omega)];omega
  rw [decide_eq_false hc,cond_false]
  have hd:=CF (d:=d) (n:=3) (by decide) (by decide)
  exact XF b types l v1 v6 v7 v9 v d k K0 _ Q hs hQ h1 h1l hv (by omega) _ [] _ 0 (fun p hp=>by cases hp) (by omega) (by simp) (by omega) (by omega)
theorem XH (b:AG) (types:List AQ) (l:List (List Int)) (Q:AG->Prop) (hs:Ui b types) (hQ:Zu b Q) :
  ∀ (n:Nat) (v:List Aj) (d:AC) (s:ByteArray) (k:Int),Ix NY v->(v.length:Int)=k->k<=(AA (Z1l b l) 6).1->((AA (Z1l b l) 6).1-k).toNat<n->Q (B3 b types l n v d s k)
 | 0,v,d,s,k,_,_,_,h=>absurd h (Nat.not_lt_zero _)
 | n+1,v,d,s,k,hv,kv,kk,h=>by
  have hb:=CF (d:=Z1l b l) (n:=6) (by decide) (by decide)
  unfold B3
  by_cases hc:k<(AA (Z1l b l) 6).1
  ·rw [decide_eq_true hc,cond_true]
   refine XH b types l Q hs hQ n _ _ _ _ (QD hv ?_) (by simp only [List.length_append,List.length_cons,List.length_nil];omega) (by omega) (by omega)
   have h2:=CF (d:=d) (n:=2) (by decide) (by decide)
   have h4:=CF (d:=(AA d 2).2) (n:=4) (by decide) (by decide)
   refine ⟨?_,?_,rfl,?_,_,_,_,?_,?_,rfl⟩
   ·show W64 (11+k)=_
    rw [Ao (by omega) (by omega)];omega
   ·show 1<=W64 (1+_)/\W64 (1+_)<=2
    rw [Ao (by omega) (by omega)];omega
   ·show 3<=W64 (3+_)/\W64 (3+_)<=6
    rw [Ao (by omega) (by omega)];omega
   ·exact hs _
   exact hs _
  rw [decide_eq_false hc,cond_false]
  exact XG b types l v d s k _ Q hs hQ hv (by omega) _ [] _ 0 QC rfl (by have:=CF (d:=AC.mk (AR l 5) 0) (n:=3) (by decide) (by decide);omega) (by omega)
theorem ZR (b:AG) (types:List AQ) (l:List (List Int)) (Q:AG->Prop) (hs:Ui b types) (hQ:Zu b Q):Q (BG b types l):=by
 have hb:=CF (d:=Z1l b l) (n:=6) (by decide) (by decide)
 unfold BG
 exact XH b types l Q hs hQ _ [] _ _ 0 QC rfl (by omega) (by omega)
structure GH (B:AG) (T:List AQ) (l:List (List Int)):Prop where
 lay:B.Layers=2
 types:T=I4 l
 par:Ix On B.Parts
 parl:1<=B.Parts.length/\B.Parts.length<=3
 net:∃ p q r,B.Nets=[A3.mk nN1 p,A3.mk nN2 q,A3.mk ZX r]/\p.length<=18/\q.length<=18/\r.length<=18
 trk:Ix NY B.Tracks
 trkl:B.Tracks.length<=5
 via:Ix Zs B.Vias
 vial:B.Vias.length<=2
 slot:∀ s∈B.Slots,aO s
 slotl:B.Slots.length<=1
 poul:B.Pours.length<=2
 keel:B.Keeps.length<=1
 pour:∀ p∈B.Pours,Ul p
 keep:∀ p∈B.Keeps,Um p
theorem bX {α:Type} {c:Bool} {a b:AG×α} {T:List AQ} {l:List (List Int)} (h:GH a.1 T l) (k:GH b.1 T l):GH (bif c then a else b).1 T l:=by cases c <;> assumption
theorem XW (l:List (List Int)):GH (CY l).1 (CY l).2 l:=by
 refine M5 l (fun x=>GH x.1 x.2 l) fun v x y z hv h1 h3 hx hy hz => ?_
 show GH (Z66 l v x y z).1 (I4 l) l
 unfold Z66
 have ho:=ZR (AG.mk 2 (Z5o l) v [A3.mk nN1 x,A3.mk nN2 y,A3.mk ZX z] [] [] [] [] [] [] [] [] []) (I4 l) l
  (fun B=>GH B (I4 l) l) (fun d=>Ym _ l d hv) (fun v1 v2 v3 v4 v5 a b c e f g h i j k=>⟨rfl,rfl,hv,⟨h1,h3⟩,⟨x,y,z,rfl,hx,hy,hz⟩,a,b,c,e,i,h,f,g,j,k⟩)
 have ho:GH (Z64 l v x y z) (I4 l) l:=ho
 obtain ⟨a1,a2,a3,a4,a5,a6,a7,a8,a9,a10,a11,a12,a13,a14,a15⟩:=ho
 unfold Cb
 exact bX ⟨a1,a2,a3,a4,a5,a6,a7,a8,a9,a10,a11,a12,a13,a14,a15⟩ ⟨a1,a2,a3,a4,a5,a6,a7,a8,a9,a10,a11,a12,a13,a14,a15⟩
def Z7h (l:(List (List Int))):AG:=(CY (l.take (min (l.length:Int) 8:Int).toNat)).1
def AE (l:(List (List Int))):(AG×(List AQ)):=(Z7h l,(CY (l.take (min (l.length:Int) 8:Int).toNat)).2)
abbrev SB (l:List (List Int)):List Av:=[.agg (AG.c (AE l).1),.one (lst 3 AQ.c (AE l).2)]
def QR (l:(List (List Int))):CT:=(8,[.one (lst 1 (fun x=>[lst 1 eIn x]) l)],.val [] (.tup (SB l)))
theorem Y8 (l:(List (List Int))) (hl:(l.length:Int)<=9223372036854775807) (hll:∀ x∈l,(x.length:Int)<=9223372036854775807):PuP 8 (QR l).2.1 (.tup [.agg (AG.c (AE l).1),.one (lst 3 AQ.c (AE l).2)]):=by
 refine pwf Try.func8 fun W0 M0 => ?_
 refine AB<|rn ⟨[(0,.av (oL l)),(2,tP 2 0)],[(2,.cells Nv 42)]⟩<|AB ?_
 refine rc [(9,ceI [.one (.list false 1 ((min (l.length:Int) 8:Int).toNat-(0:Int).toNat) (fun i_ j_=>(AU (fun x=>[lst 1 eIn x]) l) (i_+(0:Int).toNat) j_))] (Lo (l.take (min (l.length:Int) 8:Int).toNat)))] [0<=(0:Int)/\(0:Int)<=(min (l.length:Int) 8:Int)/\(min (l.length:Int) 8:Int)<=((l.length:Nat):Int),Aw (ceI [.one (.list false 1 ((min (l.length:Int) 8:Int).toNat-(0:Int).toNat) (fun i_ j_=>(AU (fun x=>[lst 1 eIn x]) l) (i_+(0:Int).toNat) j_))] (Lo (l.take (min (l.length:Int) 8:Int).toNat))).2.1] ⟨[(2,tP 2 0),(3,tO (lst 3 AQ.c (CY (l.take (min (l.length:Int) 8:Int).toNat)).2))],[(2,.cells (AG.c (Z7h l)) 42)]⟩ (.cons (Cd (XD (l.take (min (l.length:Int) 8:Int).toNat) (by first | (exact fun x hx=>hll x (List.mem_of_mem_take hx)) | (simp only [List.length_take];omega) | with_reducible assumption | omega | decide | (simp only [List.length_cons,List.length_nil,List.length_append];omega) | assumption) (by first | (exact fun x hx=>hll x (List.mem_of_mem_take hx)) | (simp only [List.length_take];omega) | with_reducible assumption | omega | decide | (simp only [List.length_cons,List.length_nil,List.length_append];omega) | assumption)) (.cons (.one (Bk false (Us (b:=min (l.length:Int) 8) (BA 1 (fun x=>[lst 1 eIn x]) l) (by have hc:=(show 0<=(0:Int)/\(0:Int)<=(min (l.length:Int) 8:Int)/\(min (l.length:Int) 8:Int)<=((l.length:Nat):Int) from au1);exact hc.2.1) (by have hc:=(show 0<=(0:Int)/\(0:Int)<=(min (l.length:Int) 8:Int)/\(min (l.length:Int) 8:Int)<=((l.length:Nat):Int) from au1);exact hc.2.2)))) .nil)) .nil) (.cons au1 (.cons rfl .nil))<|AH<|Ae ?_
 exact xl (.tup [.agg (AG.c (Z7h l)),.one (lst 3 AQ.c (CY (l.take (min (l.length:Int) 8:Int).toNat)).2)]) (An (by rfl))
theorem W8 (l:(List (List Int))) (hl:(l.length:Int)<=9223372036854775807) (hll:∀ x∈l,(x.length:Int)<=9223372036854775807):OKc (QR l):=cPu<|Y8 l hl hll
theorem Dz (l:List (List Int)):CP (AE l).2:=S2 _
theorem M7 (l:List (List Int)):Gq (AE l).1:=cB _
theorem M6 (l:List (List Int)):∃ k,GH (AE l).1 (AE l).2 k:=⟨_,XW _⟩
theorem LJ (l:List (List Int)):((AE l).1.Nets.length:Int)<=1000000:=by
 obtain ⟨k,h⟩:=M6 l
 obtain ⟨p,q,r,e,_⟩:=h.net
 rw [e];show ((3:Nat):Int)<=1000000;decide
theorem LI (l:List (List Int)):∀ n∈(AE l).1.Nets,(n.Pins.length:Int)<=1000000:=by
 obtain ⟨k,h⟩:=M6 l
 obtain ⟨p,q,r,e,h1,h2,h3⟩:=h.net
 rw [e]
 intro n hn
 simp only [List.mem_cons,List.not_mem_nil,or_false] at hn
 rcases hn with rfl | rfl | rfl <;> (simp only;omega)
theorem LH (l:List (List Int)):((Ad (AE l).1 (AE l).2).length:Int)<=20000000:=by
 have h:=(M7 l).par
 exact OA (by omega) (Dz l)
theorem TQ {α:Type} {c:Bool} {a b:BL×α} (h:Bt a.1) (k:Bt b.1):Bt (bif c then a else b).1:=by cases c <;> assumption
theorem Hw:Bt AJ:=.inl ⟨_,rfl⟩
theorem Ua (d:AC):Bt (BE d).1:=by
 unfold BE
 repeat (first | exact .inl ⟨_,rfl⟩ | exact .inr (.inl ⟨_,_,_,⟨_,_,_,_⟩,rfl⟩) | exact .inr (.inr ⟨_,_,_,⟨_,_,_,_⟩,_,_,_,⟨_,_,_,_⟩,rfl⟩) | refine TQ ?_ ?_)
theorem N8 {l m:List Ap} (h:∀ r∈l,Bt r.A/\Bt r.B) (k:∀ r∈m,Bt r.A/\Bt r.B):∀ r∈l++m,Bt r.A/\Bt r.B:=fun r hr=>(List.mem_append.1 hr).elim (h r) (k r)
theorem N4 {a b:Ap} (h:Bt a.A/\Bt a.B) (k:Bt b.A/\Bt b.B):∀ r∈[a,b],Bt r.A/\Bt r.B:=fun r hr=>by
 simp only [List.mem_cons,List.not_mem_nil,or_false] at hr
 rcases hr with rfl | rfl <;> assumption
theorem Uv {a:Ap} (h:Bt a.A/\Bt a.B):∀ r∈[a],Bt r.A/\Bt r.B:=fun r hr=>by
 rw [List.mem_singleton.1 hr];exact h
theorem N7 {c:Bool} {l m:List Ap} (h:∀ r∈l,Bt r.A/\Bt r.B) (k:∀ r∈m,Bt r.A/\Bt r.B):∀ r∈(bif c then l else m),Bt r.A/\Bt r.B:=by cases c <;> assumption
theorem Q0 (d:AC):∀ r∈Z3m d,Bt r.A/\Bt r.B:=by
 unfold Z3m
 have h2:=fun x y=>N4 (a:=Ap.mk ({ data := #[99,49] }:ByteArray) 1 1 AJ AJ x) (b:=Ap.mk ({ data := #[101,49] }:ByteArray) 1 3 AJ AJ y) ⟨Hw,Hw⟩ ⟨Hw,Hw⟩
 exact N7 (N8 (h2 _ _) (N4 ⟨Hw,Hw⟩ ⟨Hw,Hw⟩)) (h2 _ _)
theorem N5 (d:AC):∀ r∈Z3B d,Bt r.A/\Bt r.B:=by
 unfold Z3B
 exact N7 (N8 (Q0 d) (Uv ⟨Ua _,Ua _⟩)) (Q0 d)
theorem N6 (d:AC):(Z3B d).length<=5:=by
 unfold Z3B Z3m
 cases decide ((AA (Z3l d) 2).1=1) <;> cases decide ((AA (AA (AA d 10).2 8).2 2).1=1) <;> simp
structure Vd (b:AG):Prop where
 rul:QZ b
 rull:b.Rules.length<=5
 cla:b.Classes.length<=1
 clan:∀ c∈b.Classes,c.Nets.length<=1
 wai:b.Waivers.length<=1
 mat:b.Matches.length<=1
 matn:∀ c∈b.Matches,c.Nets.length<=2
theorem cX (d:AC):(Z3G d).length<=1/\∀ c∈Z3G d,c.Nets.length<=1:=by
 unfold Z3G
 cases decide ((AA (Z3A d) 3).1=0) with
 | true=>exact ⟨by simp,fun c hc=>by rw [cond_true] at hc;rw [List.mem_singleton.1 hc];exact Nat.le_refl 1⟩
 | false=>exact ⟨by simp,fun c hc=>by cases hc⟩
theorem WV (d:AC) (b:AG):(Z3Q d b).length<=1:=by
 unfold Z3Q
 cases decide ((AA (AA (Z3A d) 3).2 4).1=0) <;> simp
theorem Wf {α:Type} {c:Bool} {a b:AG×α} (h:Vd a.1) (k:Vd b.1):Vd (bif c then a else b).1:=by cases c <;> assumption
theorem Yr (b:AG) (d:AC):Vd (Cb b d).1:=by
 unfold Cb
 have hc:=cX d
 refine Wf ⟨N5 d,N6 d,hc.1,hc.2,WV d b,?_,fun c h => ?_⟩ ⟨N5 d,N6 d,hc.1,hc.2,WV d b,?_,fun c h => ?_⟩
 ·exact Nat.le_refl 1
 ·rw [List.mem_singleton.1 h];exact Nat.le_refl 2
 ·exact Nat.zero_le 1
 cases h
theorem XV (l:List (List Int)):Vd (CY l).1:=M5 l (fun x=>Vd x.1) fun v x y z _ _ _ _ _ _=>Yr _ _
theorem G6 {α:Type} [Inhabited α] {l:List α} {f:α->Nat} (hd:f default<=1000000) (h:∀ x∈l,f x<=1000000) (k:Nat):((f (l.getD k default):Nat):Int)<=1000000:=by
 have:=E5 (p:=fun x=>f x<=1000000) hd h k
 omega
theorem Ys (b:AG) (d:AC):(Cb b d).1.Outline=b.Outline:=by
 unfold Cb
 cases decide ((AA (Z3P d b) 4).1=0) <;> rfl
theorem ZN (l:List (List Int)):((CY l).1.Outline.Edges.length:Int)<=1000000:=by
 refine M5 l (fun x=>(x.1.Outline.Edges.length:Int)<=1000000) fun v x y z _ _ _ _ _ _ => ?_
 show ((Z66 l v x y z).1.Outline.Edges.length:Int)<=1000000
 unfold Z66
 rw [Ys]
 show ((Z64 l v x y z).Outline.Edges.length:Int)<=1000000
 unfold Z64
 rw [(FZ _ _ _).out]
 show ((Z5o l).Edges.length:Int)<=1000000
 unfold Z5o
 cases decide ((AA (AC.mk (AR l 2) 0) 3).1=0) with
 | true=>exact (by decide:((8:Nat):Int)<=1000000)
 | false=>exact (by decide:((4:Nat):Int)<=1000000)
theorem VN (l:List (List Int)):Qi (CY l).1:=by
 have h:=XW l
 have hr:=XV l
 have h1:=h.parl
 have h2:=h.trkl
 have h3:=h.vial
 have h4:=h.slotl
 have h5:=h.poul
 have h6:=h.keel
 have r1:=hr.rull
 have r2:=hr.cla
 have r3:=hr.wai
 have r4:=hr.mat
 obtain ⟨p,q,r,e,n1,n2,n3⟩:=h.net
 refine ⟨by omega,by rw [e];show ((3:Nat):Int)<=1000000;decide,by omega,by omega,by omega,by omega,by omega,by omega,by omega,by omega,by omega,ZN l,?_,?_,?_,?_,?_,?_,?_,hr.rul⟩
 ·refine G6 (f:=fun n:A3=>n.Pins.length) (by decide) fun n hn => ?_
  rw [e] at hn
  simp only [List.mem_cons,List.not_mem_nil,or_false] at hn
  rcases hn with rfl | rfl | rfl <;> (simp only;omega)
 ·refine G6 (f:=fun t:Aj=>t.Shape.Edges.length) (by decide) fun t ht => ?_
  obtain ⟨k,hk,_,hm⟩:=cF h.trk ht
  obtain ⟨a,c,d,_,_,e2⟩:=hm.edg
  rw [e2]
  have:=Oj a c d
  omega
 ·refine G6 (f:=fun t:BB=>t.Rects.length) (by decide) fun t ht => ?_
  have:=h.pour t ht
  unfold Ul at this
  omega
 ·refine G6 (f:=fun t:BQ=>t.Shape.Edges.length) (by decide) fun t ht => ?_
  have:=h.keep t ht
  unfold Um at this
  omega
 ·refine G6 (f:=fun t:BX=>t.Shape.Edges.length) (by decide) fun t ht => ?_
  obtain ⟨r,p,_,_,_,e2⟩:=h.slot t ht
  rw [e2]
  show 1<=1000000;decide
 ·refine G6 (f:=fun t:BI=>t.Nets.length) (by decide) fun t ht => ?_
  have:=hr.clan t ht
  omega
 refine G6 (f:=fun t:BT=>t.Nets.length) (by decide) fun t ht => ?_
 have:=hr.matn t ht
 omega
theorem Z2 (t:Int):A64 t 3=t % 4:=by
 unfold A64
 have h3:(BitVec.ofInt 64 3).toNat=2 ^ 2-1:=by decide
 rw [BitVec.toNat_and,h3,Nat.and_two_pow_sub_one_eq_mod,BitVec.toNat_ofInt,IntKind.wrap_i64]
 omega
theorem MT (t:Int):B4 t=t % 4:=by
 unfold B4
 rcases Int.lt_or_le t 0 with h | h
 ·have b1:=Int.emod_nonneg (-t) (show (4:Int)≠0 by omega)
  rw [show t.tmod 4 = -((-t) % 4) by rw [<- Int.tmod_eq_emod_of_nonneg (by omega),Int.neg_tmod,Int.neg_neg]]
  rw [Ao (by omega) (by omega),Int.tmod_eq_emod_of_nonneg (by omega)]
  omega
 rw [Int.tmod_eq_emod_of_nonneg h,Ao (by omega) (by omega),Int.tmod_eq_emod_of_nonneg (by omega)]
 omega
theorem JG {α:Type} [Inhabited α] {l:List α} {k:Nat} (h:k<l.length):l.drop k=l.getD k default::l.drop (k+1):=by
 rw [List.drop_eq_getElem_cons h,List.getD_eq_getElem?_getD,List.getElem?_eq_getElem h]
 rfl
theorem RR (s:Ah) (m:AV):∀ (n k:Nat) (l:List AO),k<=s.Edges.length->s.Edges.length-k<n->l=(s.Edges.take k).map (fun e=>CV e m)++s.Edges.drop k->E0 s m n l (k:Int)=⟨s.Kind,s.Edges.map (fun e=>CV e m),s.R⟩
 | 0,k,l,hk,hn,_=>by omega
 | n+1,k,l,hk,hn,hl=>by
  unfold E0
  by_cases hlt:k<s.Edges.length
  ·rw [decide_eq_true (show (k:Int)<((s.Edges.length:Nat):Int) by omega)]
   simp only [cond_true,Int.toNat_natCast]
   rw [show ((k:Int)+1)=((k+1:Nat):Int) by omega]
   refine RR s m n (k+1) _ (by omega) (by omega) ?_
   subst hl
   have hlen:((s.Edges.take k).map (fun e=>CV e m)).length=k:=by simp;omega
   have hd:s.Edges.drop k=s.Edges[k]::s.Edges.drop (k+1):=List.drop_eq_getElem_cons hlt
   rw [hd]
   have h1:((s.Edges.take k).map (fun e=>CV e m)++s.Edges[k]::s.Edges.drop (k+1)).getD k default=s.Edges[k]:=by
    rw [List.getD_eq_getElem?_getD,List.getElem?_append_right (by omega),hlen,Nat.sub_self];rfl
   rw [h1,List.set_append_right _ _ (by omega),hlen,Nat.sub_self,List.set_cons_zero,List.take_succ_eq_append_getElem hlt,List.map_append,List.append_assoc]
   rfl
  rw [decide_eq_false (show ¬ (k:Int)<((s.Edges.length:Nat):Int) by omega)]
  subst hl
  rw [List.drop_of_length_le (by omega),List.take_of_length_le (by omega),List.append_nil]
  rfl
theorem Jo (s:Ah) (m:AV):Cn s m=⟨s.Kind,s.Edges.map (fun e=>CV e m),s.R⟩:=by
 unfold Cn
 have:=RR s m ((((s.Edges.length:Nat):Int)-0).toNat+1) 0 s.Edges (by omega) (by omega) (by simp)
 exact this
theorem OD (s:Ah) (m:AV):(Cn s m).Edges.length=s.Edges.length:=by rw [Jo];simp
theorem IJ (m:AV) (p:AD):AY m p=BZ m p:=by
 have ht:CH m=m.Turn % 4:=Z2 m.Turn
 unfold BZ Z09 Be B5 AY
 rw [MT]
 generalize (bif m.Mirror then (W64 (0-p.X)) else p.X)=x at *
 have h4:m.Turn % 4=0\/m.Turn % 4=1\/m.Turn % 4=2\/m.Turn % 4=3:=by omega
 rcases h4 with h | h | h | h <;> rw [h] at ht ⊢ <;> rw [ht]
 ·show CC m p 1 ⟨x,p.Y⟩ 0=_
  simp only [CC,ht,Int.reduceLT,decide_false,cond_false,Fd,B7,Int.reduceEq,if_true]
 ·show CC m p 2 ⟨x,p.Y⟩ 0=_
  simp only [CC,ht,Int.reduceLT,Int.reduceAdd,decide_true,cond_true,decide_false,cond_false,Fd,B7,Int.reduceEq,if_true,if_false]
 ·show CC m p 3 ⟨x,p.Y⟩ 0=_
  simp only [CC,ht,Int.reduceLT,Int.reduceAdd,decide_true,cond_true,decide_false,cond_false,Fd,B7,Int.reduceEq,if_true,if_false]
 show CC m p 4 ⟨x,p.Y⟩ 0=_
 have e:∀ u v:Int,W64 (W64 (0-W64 (0-u))+v)=W64 (u+v):=fun u v=>by simp only [C9];omega
 simp only [CC,ht,Int.reduceLT,Int.reduceAdd,decide_true,cond_true,decide_false,cond_false,Fd,B7,Int.reduceEq,if_false,e]
theorem Pv {types:List AQ} (h:CP types) (b:AG) (k:Nat):(((BC b types).getD k default).Shape.Edges.length:Int)<=1000000:=by
 refine E5 (p:=fun s:A5=>(s.Shape.Edges.length:Int)<=1000000) (by decide) (fun x hx => ?_) k
 rw [KC] at hx
 obtain ⟨r,hr,rfl⟩:=List.mem_map.1 hx
 show ((Cn r.2.Shape (Bo r.1)).Edges.length:Int)<=1000000
 rw [OD]
 unfold Ad at hr
 obtain ⟨p,_,hp⟩:=List.mem_flatMap.1 hr
 unfold Es at hp
 obtain ⟨q,hq,rfl⟩:=List.mem_map.1 hp
 show (q.Shape.Edges.length:Int)<=1000000
 rw [IR] at hq
 unfold TC at hq
 cases hf:types.find? (fun t=>Gr t p.Type') with
 | none=>rw [hf] at hq;cases hq
 | some t=>rw [hf] at hq;exact (h.2 t (List.mem_of_find?_eq_some hf)).2.2.1 q hq
theorem LP {γ:Type} {P:AG->Prop} (len:Nat) (g:Nat->γ->Int->AG) (step:γ->Int->γ) (K:Nat->γ->Int->AG) (h:∀ m acc (v:Int),g (m+1) acc v=bif decide (v<(len:Int)) then g m (step acc v) (v+1) else K m acc v) (hK:∀ m acc v,P (K m acc v)):∀ (n:Nat) (acc:γ) (v:Int),((len:Int)-v).toNat<n->P (g n acc v)
 | 0,acc,v,hn=>absurd hn (Nat.not_lt_zero _)
 | n+1,acc,v,hn=>by
  rw [h]
  by_cases hc:v<(len:Int)
  ·rw [decide_eq_true hc,cond_true];exact LP len g step K h hK n _ _ (by omega)
  rw [decide_eq_false hc,cond_false];exact hK _ _ _
structure CpP (b:AG) (nets:List A3) (B:AG):Prop where
 lay:B.Layers=b.Layers
 par:B.Parts=b.Parts
 net:B.Nets=nets
theorem HC (b:AG):CpP b b.Nets (AL b):=by
 have h7:∀ x0 k0 x1 k1 x2 k2 x3 k3 x4 k4 x5 k5 x6 k6 K0 K1 K2 K3 K4 K5 K6,CpP b x0 (EQ b x0 k0 x1 k1 x2 k2 x3 k3 x4 k4 x5 k5 x6 k6 K0 K1 K2 K3 K4 K5 K6 (((b.Rules.length:Int)-0).toNat+1) [] 0):=fun x0 k0 x1 k1 x2 k2 x3 k3 x4 k4 x5 k5 x6 k6 K0 K1 K2 K3 K4 K5 K6 =>
  LP b.Rules.length (EQ b x0 k0 x1 k1 x2 k2 x3 k3 x4 k4 x5 k5 x6 k6 K0 K1 K2 K3 K4 K5 K6) _ _ (fun _ _ _=>rfl) (fun _ _ _=>⟨rfl,rfl,rfl⟩) _ _ _ (Nat.lt_succ_self _)
 have h6:∀ x0 k0 x1 k1 x2 k2 x3 k3 x4 k4 x5 k5 K0 K1 K2 K3 K4 K5,CpP b x0 (Dh b x0 k0 x1 k1 x2 k2 x3 k3 x4 k4 x5 k5 K0 K1 K2 K3 K4 K5 (((b.Matches.length:Int)-0).toNat+1) [] 0):=fun x0 k0 x1 k1 x2 k2 x3 k3 x4 k4 x5 k5 K0 K1 K2 K3 K4 K5 =>
  LP b.Matches.length (Dh b x0 k0 x1 k1 x2 k2 x3 k3 x4 k4 x5 k5 K0 K1 K2 K3 K4 K5) _ _ (fun _ _ _=>rfl) (fun _ _ _=>h7 x0 k0 x1 k1 x2 k2 x3 k3 x4 k4 x5 k5 _ _ K0 K1 K2 K3 K4 K5 _) _ _ _ (Nat.lt_succ_self _)
 have h5:∀ x0 k0 x1 k1 x2 k2 x3 k3 x4 k4 K0 K1 K2 K3 K4,CpP b x0 (C8 b x0 k0 x1 k1 x2 k2 x3 k3 x4 k4 K0 K1 K2 K3 K4 (((b.Classes.length:Int)-0).toNat+1) [] 0):=fun x0 k0 x1 k1 x2 k2 x3 k3 x4 k4 K0 K1 K2 K3 K4 =>
  LP b.Classes.length (C8 b x0 k0 x1 k1 x2 k2 x3 k3 x4 k4 K0 K1 K2 K3 K4) _ _ (fun _ _ _=>rfl) (fun _ _ _=>h6 x0 k0 x1 k1 x2 k2 x3 k3 x4 k4 _ _ K0 K1 K2 K3 K4 _) _ _ _ (Nat.lt_succ_self _)
 have h4:∀ x0 k0 x1 k1 x2 k2 x3 k3 K0 K1 K2 K3,CpP b x0 (CM b x0 k0 x1 k1 x2 k2 x3 k3 K0 K1 K2 K3 (((b.Slots.length:Int)-0).toNat+1) [] 0):=fun x0 k0 x1 k1 x2 k2 x3 k3 K0 K1 K2 K3 =>
  LP b.Slots.length (CM b x0 k0 x1 k1 x2 k2 x3 k3 K0 K1 K2 K3) _ _ (fun _ _ _=>rfl) (fun _ _ _=>h5 x0 k0 x1 k1 x2 k2 x3 k3 _ _ K0 K1 K2 K3 _) _ _ _ (Nat.lt_succ_self _)
 have h3:∀ x0 k0 x1 k1 x2 k2 K0 K1 K2,CpP b x0 (Ba b x0 k0 x1 k1 x2 k2 K0 K1 K2 (((b.Keeps.length:Int)-0).toNat+1) [] 0):=fun x0 k0 x1 k1 x2 k2 K0 K1 K2 =>
  LP b.Keeps.length (Ba b x0 k0 x1 k1 x2 k2 K0 K1 K2) _ _ (fun _ _ _=>rfl) (fun _ _ _=>h4 x0 k0 x1 k1 x2 k2 _ _ K0 K1 K2 _) _ _ _ (Nat.lt_succ_self _)
 have h2:∀ x0 k0 x1 k1 K0 K1,CpP b x0 (Ay b x0 k0 x1 k1 K0 K1 (((b.Pours.length:Int)-0).toNat+1) [] 0):=fun x0 k0 x1 k1 K0 K1 =>
  LP b.Pours.length (Ay b x0 k0 x1 k1 K0 K1) _ _ (fun _ _ _=>rfl) (fun _ _ _=>h3 x0 k0 x1 k1 _ _ K0 K1 _) _ _ _ (Nat.lt_succ_self _)
 have h1:∀ x0 k0 K0,CpP b x0 (AZ b x0 k0 K0 (((b.Tracks.length:Int)-0).toNat+1) [] 0):=fun x0 k0 K0 =>
  LP b.Tracks.length (AZ b x0 k0 K0) _ _ (fun _ _ _=>rfl) (fun _ _ _=>h2 x0 k0 _ _ K0 _) _ _ _ (Nat.lt_succ_self _)
 have key:∀ (n v:Nat) (acc:List A3),b.Nets.length-v<n->acc++b.Nets.drop v=b.Nets->CpP b b.Nets (AK b n acc (v:Int)):=by
  intro n
  induction n with
  | zero=>intro v acc h;exact absurd h (Nat.not_lt_zero _)
  | succ n ih =>
   intro v acc hn he
   unfold AK
   by_cases hc:v<b.Nets.length
   ·rw [decide_eq_true (show (v:Int)<(b.Nets.length:Int) by omega),cond_true]
    refine ih (v+1) _ (by omega) ?_
    rw [JG hc] at he
    rw [List.append_assoc,Int.toNat_natCast]
    exact he
   rw [decide_eq_false (show ¬ (v:Int)<(b.Nets.length:Int) by omega),cond_false]
   rw [List.drop_eq_nil_of_le (by omega),List.append_nil] at he
   subst he
   exact h1 _ _ _
 exact key _ 0 [] (by omega) (by rw [List.drop_zero];rfl)
theorem RX (l:List (List Int)):Qi (AE l).1:=VN _
theorem Zk (l:List (List Int)):((AL (AE l).1).Nets.length:Int)<=1000000:=by rw [(HC _).net];exact LJ l
theorem Zj (l:List (List Int)):∀ n∈(AL (AE l).1).Nets,(n.Pins.length:Int)<=1000000:=by rw [(HC _).net];exact LI l
theorem YH (l:List (List Int)):(AL (AE l).1).Parts.length<20:=by
 rw [(HC _).par]
 have:=(M7 l).par
 omega
theorem TN (l:List (List Int)) (k:Nat) (x:AF):((AL (AE l).1).Parts.set k x).length<20:=by rw [List.length_set];exact YH l
theorem Zi (l:List (List Int)) (k:Nat) (x:AF):(((AL (AE l).1).Parts.set k x).length:Int)<=1000000:=by have:=TN l k x;omega
theorem UZ (l:List (List Int)) {B:AG} (h:B.Parts.length<20):((Ad B (AE l).2).length:Int)<=20000000:=OA h (Dz l)
theorem cS (l:List (List Int)):(AL (AE l).1).Parts.length=(AE l).1.Parts.length:=by rw [(HC _).par]
theorem UV {v:List A5} (h:∀ x∈v,(x.Shape.Edges.length:Int)<=1000000) (k:Nat):((v.getD k default).Shape.Edges.length:Int)<=1000000:=E5 (p:=fun x:A5=>(x.Shape.Edges.length:Int)<=1000000) (by decide) h k
theorem Wx {types:List AQ} (h:CP types) (b:AG):∀ x∈BC b types,(x.Shape.Edges.length:Int)<=1000000:=fun x hx=>by
 obtain ⟨k,hk,rfl⟩:=List.mem_iff_getElem.1 hx
 have:=Pv h b k
 rwa [List.getD_eq_getElem?_getD,List.getElem?_eq_getElem hk] at this
theorem X9 {x:A5} (h:(x.Shape.Edges.length:Int)<=1000000):∀ k,((([x]:List A5).getD k default).Shape.Edges.length:Int)<=1000000:=UV fun y hy=>by rw [List.mem_singleton.1 hy];exact h
theorem UU (l:List (List Int)) (b:AG) (a c:Nat):∀ k,(((((BC b (AE l).2).take a).drop c).getD k default).Shape.Edges.length:Int)<=1000000:=UV fun y hy=>Wx (Dz l) b y (List.mem_of_mem_take (List.mem_of_mem_drop hy))
theorem cP {s:Ah} (m:AV) (h:(s.Edges.length:Int)<=1000000):((Cn s m).Edges.length:Int)<=1000000:=by rw [OD];exact h
section
open Go.RowKit
variable (l:List (List Int)) (v11_4:List AF) (v116 v49:Int) (by_:AD) (v93 turn v123:Int)
def Z7i:AD:=((AE l).1.Parts.getD v49.toNat default).At
def Z7j (by_:AD) (turn:Int) (l:(List (List Int))) (v49:Int):AD:=BZ (AV.mk (AD.mk (Int.tmod by_.X 100) (Int.tmod by_.Y 100)) (W64 (Int.tmod turn 4)) false) (Z7i l v49)
def Z7k:(List A5):=BC (AG.mk (AL (AE l).1).Layers (AL (AE l).1).Outline v11_4 (AL (AE l).1).Nets (AL (AE l).1).Tracks (AL (AE l).1).Vias (AL (AE l).1).Pours (AL (AE l).1).Keeps (AL (AE l).1).Slots (AL (AE l).1).Classes (AL (AE l).1).Rules (AL (AE l).1).Waivers (AL (AE l).1).Matches) (AE l).2
def Z7l:A5:=(BC (AE l).1 (AE l).2).getD v93.toNat default
def Z7m (l:(List (List Int))) (v93:Int) (by_:AD) (turn:Int):Ah:=Cn (Z7l l v93).Shape (AV.mk (AD.mk (Int.tmod by_.X 100) (Int.tmod by_.Y 100)) (W64 (Int.tmod turn 4)) false)
def Z7n (l:(List (List Int))) (v93:Int) (by_:AD) (turn:Int) (v11_4:List AF):Bool:=Fe [A5.mk (Z7l l v93).Id (Z7l l v93).Pad (Z7l l v93).Kind (Z7l l v93).Net (Z7l l v93).From (Z7l l v93).To (Z7m l v93 by_ turn)] (((Z7k l v11_4).take (W64 (v93+1):Int).toNat).drop (v93:Int).toNat)
def Z7o:A3:=(AE l).1.Nets.getD v116.toNat default
def Z7p:Ab:=(Z7o l v116).Pins.getD v123.toNat default
def Z7q:AD:=(FAt (AE l).1 (AE l).2 (Z7p l v116 v123)).1
def Z7r:Bool:=(FAt (AE l).1 (AE l).2 (Z7p l v116 v123)).2.2
def Z7s:AD:=(FAt (AG.mk (AL (AE l).1).Layers (AL (AE l).1).Outline v11_4 (AL (AE l).1).Nets (AL (AE l).1).Tracks (AL (AE l).1).Vias (AL (AE l).1).Pours (AL (AE l).1).Keeps (AL (AE l).1).Slots (AL (AE l).1).Classes (AL (AE l).1).Rules (AL (AE l).1).Waivers (AL (AE l).1).Matches) (AE l).2 (Z7p l v116 v123)).1
def Z7t:Bool:=(FAt (AG.mk (AL (AE l).1).Layers (AL (AE l).1).Outline v11_4 (AL (AE l).1).Nets (AL (AE l).1).Tracks (AL (AE l).1).Vias (AL (AE l).1).Pours (AL (AE l).1).Keeps (AL (AE l).1).Slots (AL (AE l).1).Classes (AL (AE l).1).Rules (AL (AE l).1).Waivers (AL (AE l).1).Matches) (AE l).2 (Z7p l v116 v123)).2.2
def Z7u (l:(List (List Int))) (v116:Int) (v123:Int) (v11_4:List AF):Bool := !((Z7r l v116 v123)==(Z7t l v11_4 v116 v123))
def Ck (l:(List (List Int))) (by_:AD) (turn:Int) (v11_4:List AF) (v49:Int) (v93:Int) (v116:Int) (K0:List AF->Int->Bool) (K1:Int->Bool) (K2:Int->Bool):Nat->Int->Bool
 | 0,_=>default
 | n3+1,v123=>bif decide ((v123:Int)<((Z7o l v116).Pins.length:Int)) then (bif bif bif Z7u l v116 v123 v11_4 then true else !decide (((FAt (AE l).1 (AE l).2 (Z7p l v116 v123)).2.1:Int)=(FAt (AG.mk (AL (AE l).1).Layers (AL (AE l).1).Outline v11_4 (AL (AE l).1).Nets (AL (AE l).1).Tracks (AL (AE l).1).Vias (AL (AE l).1).Pours (AL (AE l).1).Keeps (AL (AE l).1).Slots (AL (AE l).1).Classes (AL (AE l).1).Rules (AL (AE l).1).Waivers (AL (AE l).1).Matches) (AE l).2 (Z7p l v116 v123)).2.1) then true else bif Z7r l v116 v123 then !(decide ((Z7s l v11_4 v116 v123).X=(BZ (AV.mk (AD.mk (Int.tmod by_.X 100) (Int.tmod by_.Y 100)) (W64 (Int.tmod turn 4)) false) (Z7q l v116 v123)).X)&&(decide ((Z7s l v11_4 v116 v123).Y=(BZ (AV.mk (AD.mk (Int.tmod by_.X 100) (Int.tmod by_.Y 100)) (W64 (Int.tmod turn 4)) false) (Z7q l v116 v123)).Y)&&true)) else false then false else ((Ck l by_ turn v11_4 v49 v93 v116 K0 K1 K2 n3) (v123+1))) else (K2 (v116+1))
def Cm (l:(List (List Int))) (by_:AD) (turn:Int) (v11_4:List AF) (v49:Int) (v93:Int) (K0:List AF->Int->Bool) (K1:Int->Bool):Nat->Int->Bool
 | 0,_=>default
 | n2+1,v116=>bif decide ((v116:Int)<((AE l).1.Nets.length:Int)) then (Ck l by_ turn v11_4 v49 v93 v116 K0 K1 (Cm l by_ turn v11_4 v49 v93 K0 K1 n2) ((((Z7o l v116).Pins.length:Int)-0).toNat+1) 0) else DC
def B1 (l:(List (List Int))) (by_:AD) (turn:Int) (v11_4:List AF) (v49:Int) (K0:List AF->Int->Bool):Nat->Int->Bool
 | 0,_=>default
 | n1+1,v93=>bif decide ((v93:Int)<((BC (AE l).1 (AE l).2).length:Int)) then (bif !(Z7n l v93 by_ turn v11_4) then false else ((B1 l by_ turn v11_4 v49 K0 n1) (v93+1))) else (Cm l by_ turn v11_4 v49 v93 K0 (B1 l by_ turn v11_4 v49 K0 n1) ((((AE l).1.Nets.length:Int)-0).toNat+1) 0)
def BW (l:(List (List Int))) (by_:AD) (turn:Int):Nat->List AF->Int->Bool
 | 0,_,_=>default
 | n0+1,v11_4,v49=>bif decide ((v49:Int)<(((AL (AE l).1).Parts.length:Nat):Int)) then ((BW l by_ turn n0) ((v11_4.set v49.toNat (AF.mk (v11_4.getD v49.toNat default).Id (v11_4.getD v49.toNat default).Ref (v11_4.getD v49.toNat default).Type' (Z7j by_ turn l v49) (v11_4.getD v49.toNat default).Turn (v11_4.getD v49.toNat default).Under)).set v49.toNat (AF.mk ((v11_4.set v49.toNat (AF.mk (v11_4.getD v49.toNat default).Id (v11_4.getD v49.toNat default).Ref (v11_4.getD v49.toNat default).Type' (Z7j by_ turn l v49) (v11_4.getD v49.toNat default).Turn (v11_4.getD v49.toNat default).Under)).getD v49.toNat default).Id ((v11_4.set v49.toNat (AF.mk (v11_4.getD v49.toNat default).Id (v11_4.getD v49.toNat default).Ref (v11_4.getD v49.toNat default).Type' (Z7j by_ turn l v49) (v11_4.getD v49.toNat default).Turn (v11_4.getD v49.toNat default).Under)).getD v49.toNat default).Ref ((v11_4.set v49.toNat (AF.mk (v11_4.getD v49.toNat default).Id (v11_4.getD v49.toNat default).Ref (v11_4.getD v49.toNat default).Type' (Z7j by_ turn l v49) (v11_4.getD v49.toNat default).Turn (v11_4.getD v49.toNat default).Under)).getD v49.toNat default).Type' ((v11_4.set v49.toNat (AF.mk (v11_4.getD v49.toNat default).Id (v11_4.getD v49.toNat default).Ref (v11_4.getD v49.toNat default).Type' (Z7j by_ turn l v49) (v11_4.getD v49.toNat default).Turn (v11_4.getD v49.toNat default).Under)).getD v49.toNat default).At (W64 (((AE l).1.Parts.getD v49.toNat default).Turn+(W64 (Int.tmod turn 4)))) ((v11_4.set v49.toNat (AF.mk (v11_4.getD v49.toNat default).Id (v11_4.getD v49.toNat default).Ref (v11_4.getD v49.toNat default).Type' (Z7j by_ turn l v49) (v11_4.getD v49.toNat default).Turn (v11_4.getD v49.toNat default).Under)).getD v49.toNat default).Under)) (v49+1)) else (bif !decide ((((BC (AE l).1 (AE l).2).length:Int):Int)=((Z7k l v11_4).length:Int)) then false else (B1 l by_ turn v11_4 v49 (BW l by_ turn n0) ((((BC (AE l).1 (AE l).2).length:Int)-0).toNat+1) 0))
def Db (l:(List (List Int))) (by_:AD) (turn:Int):Bool:=BW l by_ turn (((((AL (AE l).1).Parts.length:Nat):Int)-0).toNat+1) (AL (AE l).1).Parts 0
def Rx:CT:=(5,[.one (lst 1 (fun x=>[lst 1 eIn x]) l),.agg (AD.c by_),.one (.val (.int .u8 turn))],.val [] (.av (.one (.b (Db l by_ turn)))))
abbrev Ea:=AL (AE l).1
abbrev Yj:List Cl:=[.i (Ea l).Layers,.i (Ea l).Outline.Kind,lst 7 AO.c (Ea l).Outline.Edges,.i (Ea l).Outline.R,lst 7 AF.c v11_4,lst 2 A3.c (Ea l).Nets,lst 6 Aj.c (Ea l).Tracks,lst 8 Br.c (Ea l).Vias,lst 8 BB.c (Ea l).Pours,lst 5 BQ.c (Ea l).Keeps,lst 4 BX.c (Ea l).Slots,lst 2 BI.c (Ea l).Classes,lst 20 Ap.c (Ea l).Rules,lst 3 Am.c (Ea l).Waivers,lst 3 BT.c (Ea l).Matches]
abbrev I2 (v11_4:List AF) (v49:Int) (by_:AD) (turn:Int) (l:List (List Int)):=v11_4.set v49.toNat (AF.mk (v11_4.getD v49.toNat default).Id (v11_4.getD v49.toNat default).Ref (v11_4.getD v49.toNat default).Type' (Z7j by_ turn l v49) (v11_4.getD v49.toNat default).Turn (v11_4.getD v49.toNat default).Under)
abbrev Bl:=AL (AE l).1
abbrev Dw:Nat×Blk:=(10,.cells [.i (Int.tmod by_.X 100),.i (Int.tmod by_.Y 100),.i (W64 (Int.tmod turn 4)),.b false] 66)
abbrev Ch:Nat×Blk:=(8,.cells (AG.c (AE l).1) 42)
abbrev Vq:Nat×Tv:=(9,tO (lst 3 AQ.c (AE l).2))
abbrev JY:Nat×Tv:=(115,tI ((AE l).1.Nets.length:Int))
abbrev JW:Nat×Tv:=(114,tO (lst 2 A3.c (AE l).1.Nets))
abbrev Vm (l:List (List Int)) (v93:Int) (by_:AD) (turn:Int):List Cl:=[.i (Z7l l v93).Id,.s (Z7l l v93).Pad,.i (Z7l l v93).Kind,.s (Z7l l v93).Net,.i (Z7l l v93).From,.i (Z7l l v93).To,.i (Z7m l v93 by_ turn).Kind,lst 7 AO.c (Z7m l v93 by_ turn).Edges,.i (Z7m l v93 by_ turn).R]
abbrev Pg:=BC (AE l).1 (AE l).2
abbrev I0 (l:List (List Int)) (v116:Int) (v123:Int) (v11_4:List AF):=(bif Z7u l v116 v123 v11_4 then true else !decide (((FAt (AE l).1 (AE l).2 (Z7p l v116 v123)).2.1:Int)=(FAt (AG.mk (Bl l).Layers (Bl l).Outline v11_4 (Bl l).Nets (Bl l).Tracks (Bl l).Vias (Bl l).Pours (Bl l).Keeps (Bl l).Slots (Bl l).Classes (Bl l).Rules (Bl l).Waivers (Bl l).Matches) (AE l).2 (Z7p l v116 v123)).2.1))
abbrev MP (v11_4:List AF) (v49:Int) (by_:AD) (turn:Int) (l:List (List Int)):=AF.mk ((I2 v11_4 v49 by_ turn l).getD v49.toNat default).Id ((I2 v11_4 v49 by_ turn l).getD v49.toNat default).Ref ((I2 v11_4 v49 by_ turn l).getD v49.toNat default).Type' ((I2 v11_4 v49 by_ turn l).getD v49.toNat default).At (W64 (((AE l).1.Parts.getD v49.toNat default).Turn+(W64 (Int.tmod turn 4)))) ((I2 v11_4 v49 by_ turn l).getD v49.toNat default).Under
abbrev WS:=AG.mk (Bl l).Layers (Bl l).Outline v11_4 (Bl l).Nets (Bl l).Tracks (Bl l).Vias (Bl l).Pours (Bl l).Keeps (Bl l).Slots (Bl l).Classes (Bl l).Rules (Bl l).Waivers (Bl l).Matches
abbrev L4 (t_:List Cl):List Cl:=(.i (Bl l).Layers)::(.i (Bl l).Outline.Kind)::(lst 7 AO.c (Bl l).Outline.Edges)::(.i (Bl l).Outline.R)::t_
abbrev SP:Nat×Blk:=(11,.cells (L4 l [.own 45 7 v11_4.length,lst 2 A3.c (Bl l).Nets,lst 6 Aj.c (Bl l).Tracks,lst 8 Br.c (Bl l).Vias,lst 8 BB.c (Bl l).Pours,lst 5 BQ.c (Bl l).Keeps,lst 4 BX.c (Bl l).Slots,lst 2 BI.c (Bl l).Classes,lst 20 Ap.c (Bl l).Rules,lst 3 Am.c (Bl l).Waivers,lst 3 BT.c (Bl l).Matches]) 42)
abbrev WQ:Nat×Blk:=(11,.cells (L4 l [.own 45 7 (Bl l).Parts.length,lst 2 A3.c (Bl l).Nets,lst 6 Aj.c (Bl l).Tracks,lst 8 Br.c (Bl l).Vias,lst 8 BB.c (Bl l).Pours,lst 5 BQ.c (Bl l).Keeps,lst 4 BX.c (Bl l).Slots,lst 2 BI.c (Bl l).Classes,lst 20 Ap.c (Bl l).Rules,lst 3 Am.c (Bl l).Waivers,lst 3 BT.c (Bl l).Matches]) 42)
abbrev Hi:Nat×Tv:=(48,tI (((Bl l).Parts.length:Nat):Int))
abbrev WP:Nat×Blk:=(11,.cells (L4 l [.own 45 7 (I2 v11_4 v49 by_ turn l).length,lst 2 A3.c (Bl l).Nets,lst 6 Aj.c (Bl l).Tracks,lst 8 Br.c (Bl l).Vias,lst 8 BB.c (Bl l).Pours,lst 5 BQ.c (Bl l).Keeps,lst 4 BX.c (Bl l).Slots,lst 2 BI.c (Bl l).Classes,lst 20 Ap.c (Bl l).Rules,lst 3 Am.c (Bl l).Waivers,lst 3 BT.c (Bl l).Matches]) 42)
abbrev C3:Nat×Blk:=(11,.cells (Yj l v11_4) 42)
abbrev PV:Nat×Tv:=(122,tI ((Z7o l v116).Pins.length:Int))
abbrev PT:Nat×Tv:=(121,tO (lst 2 Ab.c (Z7o l v116).Pins))
abbrev Gt:Nat×Tv:=(14,tO (lst 9 A5.c (Z7k l v11_4)))
abbrev Iu:Nat×Tv:=(92,tI ((Pg l).length:Int))
abbrev Iq:Nat×Tv:=(91,tO (lst 9 A5.c (Pg l)))
abbrev Vt:Nat×Blk:=(11,.cells (L4 l [.own 45 7 ((I2 v11_4 v49 by_ turn l).set v49.toNat (MP v11_4 v49 by_ turn l)).length,lst 2 A3.c (Bl l).Nets,lst 6 Aj.c (Bl l).Tracks,lst 8 Br.c (Bl l).Vias,lst 8 BB.c (Bl l).Pours,lst 5 BQ.c (Bl l).Keeps,lst 4 BX.c (Bl l).Slots,lst 2 BI.c (Bl l).Classes,lst 20 Ap.c (Bl l).Rules,lst 3 Am.c (Bl l).Waivers,lst 3 BT.c (Bl l).Matches]) 42)
abbrev CK (t_:List (Nat×Tv)):List (Nat×Tv):=(7,tB DC)::(8,tP 8 0)::(Vq l)::(10,tP 10 0)::(11,tP 11 0)::t_
abbrev SA:List (Nat×Tv):=(CK l [(12,tI v49),(Hi l),(49,tI v49)])
abbrev Ly (t_:List (Nat×Tv)):List (Nat×Tv):=(JW l)::(JY l)::(116,tI v116)::(PT l v116)::(PV l v116)::t_
theorem au11 {p:Prop} (h:p:=by first | (with_reducible exact Dz l) | (with_reducible exact Pv (Dz l) _) | (with_reducible exact RX l) | (with_reducible exact hNp) | (with_reducible exact hNl) | (with_reducible exact hpl) | (with_reducible exact Zk l) | (with_reducible exact Zj l) | (with_reducible exact TN l _ _) | (with_reducible exact Zi l _ _) | (with_reducible exact UZ l (TN l _ _)) | (with_reducible exact hPl9) | (with_reducible exact hed _) | (with_reducible exact hE1 _) | (with_reducible exact hE2 _ _ _) | (with_reducible exact UU l _ _ _) | (with_reducible exact X9 (hed _)) | with_reducible assumption | omega | decide | (simp only [List.length_cons,List.length_nil,List.length_append];omega) | (simp only;omega) | (exact UZ l (by simp only;omega)) | assumption):p:=h
theorem au14 {p:Prop} (h:p:=by first | omega | (simp only [List.length_set];omega) | (simp only [C9];omega) | decide):p:=h
set_option maxHeartbeats 4000000 in
theorem RB (l:(List (List Int))) (by_:AD) (turn:Int) (hl:(l.length:Int)<=9223372036854775807) (hll:∀ x∈l,(x.length:Int)<=9223372036854775807):PuP 5 (Rx l by_ turn).2.1 (tO (.b (Db l by_ turn))):=by
 refine pwf Try.func5 fun W0 M0 => ?_
 have hM:=M7 l
 have hP:=hM.par
 have hNl:(((AE l).1.Nets.length:Nat):Int)<=1000000:=LJ l
 have hNp:=LI l
 have hpl:=LH l
 have hPl:(((BC (AE l).1 (AE l).2).length:Nat):Int)<=20000000:=by rw [Ot];exact hpl
 have hcl:=cS l
 have hed:∀ k,(((Z7l l k).Shape.Edges.length:Nat):Int)<=1000000:=fun k=>Pv (Dz l) _ k.toNat
 have hE1:∀ v k,((([A5.mk (Z7l l v).Id (Z7l l v).Pad (Z7l l v).Kind (Z7l l v).Net (Z7l l v).From (Z7l l v).To (Z7m l v by_ turn)].getD k default).Shape.Edges.length:Nat):Int)<=1000000:=fun v=>X9 (cP _ (hed v))
 have hE2:∀ v a c k,((((((Z7k l v).take a).drop c).getD k default).Shape.Edges.length:Nat):Int)<=1000000:=fun v a c=>UU l _ a c
 refine AB<|rn ⟨[(0,.av (oL l)),(2,.av (.one (.val (.int .u8 turn)))),(4,tP 4 0)],[(4,.cells (AD.c by_) 52)]⟩<|AB ?_
 refine rs 27 Kn ⟨[(0,.av (oL l)),(2,.av (.one (.val (.int .u8 turn)))),(4,tP 4 0),(7,tB DC)],[(4,.cells (AD.c by_) 52)]⟩ Sv<|AH<|AB ?_
 refine rs 30 (QR l) ⟨[(2,.av (.one (.val (.int .u8 turn)))),(4,tP 4 0),(7,tB DC),(8,tP 8 0),(Vq l)],[(4,.cells (AD.c by_) 52),(Ch l)]⟩ (W8 l au11 au11)<|AH<|AB ?_
 refine rc [] [(100:Int)≠0,(100:Int)≠0,(4:Int)≠0] ⟨[(7,tB DC),(8,tP 8 0),(Vq l),(10,tP 10 0)],[(Ch l),(Dw by_ turn)]⟩ .nil (.cons au15 (.cons au15 (.cons au15 .nil)))<|AH<|AB ?_
 refine rs 45 (Uf (AE l).1) ⟨(CK l []),[(Ch l),(Dw by_ turn),(WQ l),(45,.row 7 (Bl l).Parts.length (AU AF.c (Bl l).Parts) 59)]⟩ (XE (AE l).1 au11)<|AH ?_
 refine AB<|AB ?_
 refine rn ⟨(CK l [(Hi l),(49,tI 0)]),[(Ch l),(Dw by_ turn),(WQ l),(45,.row 7 (Bl l).Parts.length (AU AF.c (Bl l).Parts) 59)]⟩<|AX ?_
 refine BH (ι:=Nat×List AF×Int) (fun x=>⟨(CK l [(Hi l),(49,tI x.2.2)]),[(Ch l),(Dw by_ turn),(11,.cells (L4 l [.own 45 7 x.2.1.length,lst 2 A3.c (Bl l).Nets,lst 6 Aj.c (Bl l).Tracks,lst 8 Br.c (Bl l).Vias,lst 8 BB.c (Bl l).Pours,lst 5 BQ.c (Bl l).Keeps,lst 4 BX.c (Bl l).Slots,lst 2 BI.c (Bl l).Classes,lst 20 Ap.c (Bl l).Rules,lst 3 Am.c (Bl l).Waivers,lst 3 BT.c (Bl l).Matches]) 42),(45,.row 7 x.2.1.length (AU AF.c x.2.1) 59)]⟩) (fun x=>((((AL (AE l).1).Parts.length:Nat):Int)-x.2.2).toNat<x.1/\(x.2.1.length=(AE l).1.Parts.length/\0<=x.2.2/\(x.2.2<=(((AL (AE l).1).Parts.length:Nat):Int)\/x.2.2=0))/\BW l by_ turn x.1 x.2.1 x.2.2=Db l by_ turn) (fun x=>x.1) ?_ (((((AL (AE l).1).Parts.length:Nat):Int)-0).toNat+1,(AL (AE l).1).Parts,0) ⟨Nat.lt_succ_self _,⟨ax0,ax0,ax0⟩,(by simp only [Db,cond_true,cond_false])⟩
 rintro ⟨n0,v11_4,v49⟩ ⟨hm0,hinv0,hF0⟩
 try dsimp only at hm0 hinv0 hF0
 cases n0 with | zero=>exact nz hm0 | succ n0 => ?_
 refine AB<|rn ⟨(CK l [(Hi l),(49,tI v49),(50,tB (decide ((v49:Int)<(((AL (AE l).1).Parts.length:Nat):Int))))]),[(Ch l),(Dw by_ turn),(SP l v11_4),(45,.row 7 v11_4.length (AU AF.c v11_4) 59)]⟩<|AB ?_
 refine Aa _ rfl (fun h1 => ?_) (fun h1 => ?_)
 ·have g1:=oT h1
  refine Ac<|AH ?_
  refine AB<|AX<|AB ?_
  refine rn ⟨(SA l v49),[(Ch l),(Dw by_ turn),(SP l v11_4),(45,.row 7 v11_4.length (AU AF.c v11_4) 59)]⟩<|AB ?_
  refine dw [] [(62,C0 (AV.mk (AD.mk (Int.tmod by_.X 100) (Int.tmod by_.Y 100)) (W64 (Int.tmod turn 4)) false) (Z7i l v49))] [0<=(v49:Int)/\(v49:Int)<(((AE l).1.Parts.length:Nat):Int),Aw (C0 (AV.mk (AD.mk (Int.tmod by_.X 100) (Int.tmod by_.Y 100)) (W64 (Int.tmod turn 4)) false) (Z7i l v49)).2.1,0<=(v49:Int)/\(v49:Int)<((v11_4.length:Nat):Int),v49.toNat<v11_4.length] ⟨(SA l v49),[(Ch l),(Dw by_ turn),(SP l v11_4),(45,.row 7 v11_4.length (fun i_ j_=>if i_=v49.toNat/\3<=j_/\j_<3+2 then ((AD.c (Z7j by_ turn l v49)):List Cl).getD (j_-3) default else (AU AF.c v11_4) i_ j_) 59)]⟩ (.cons (Ec (AV.mk (AD.mk (Int.tmod by_.X 100) (Int.tmod by_.Y 100)) (W64 (Int.tmod turn 4)) false) (Z7i l v49)) .nil) (.cons au14 (.cons rfl (.cons au14 (.cons au14 .nil))))<|AH ?_
  refine BN (Cv.trans (BF (⟨(SA l v49),[(Ch l),(Dw by_ turn),(WP l v11_4 v49 by_ turn),(45,.row 7 (I2 v11_4 v49 by_ turn l).length (AU AF.c (I2 v11_4 v49 by_ turn l)) 59)]⟩) lr (.cons ⟨rfl,.refl _⟩ (.cons ⟨rfl,.refl _⟩ (.cons ⟨rfl,.cells _ (rr4 (.cons (.own _ _ au0) (rr (rr (rr (rr (rr (rr (rr (rr (rr (rr .nil))))))))))))⟩ (.cons ⟨rfl,Ai 59 (Hj (l:=(AD.c (Z7j by_ turn l v49))) (off:=3) (q:=2) (k:=v49.toNat) (BA 7 AF.c v11_4) au14 (AF.mk (v11_4.getD v49.toNat default).Id (v11_4.getD v49.toNat default).Ref (v11_4.getD v49.toNat default).Type' (Z7j by_ turn l v49) (v11_4.getD v49.toNat default).Turn (v11_4.getD v49.toNat default).Under) (FY kr))⟩ .nil))))) (Cv.refl _)) ?_
  refine dw [] [] [0<=(v49:Int)/\(v49:Int)<(((AE l).1.Parts.length:Nat):Int),0<=(v49:Int)/\(v49:Int)<(((v11_4.set v49.toNat (AF.mk (v11_4.getD v49.toNat default).Id (v11_4.getD v49.toNat default).Ref (v11_4.getD v49.toNat default).Type' (Z7j by_ turn l v49) (v11_4.getD v49.toNat default).Turn (v11_4.getD v49.toNat default).Under)).length:Nat):Int),v49.toNat<(v11_4.set v49.toNat (AF.mk (v11_4.getD v49.toNat default).Id (v11_4.getD v49.toNat default).Ref (v11_4.getD v49.toNat default).Type' (Z7j by_ turn l v49) (v11_4.getD v49.toNat default).Turn (v11_4.getD v49.toNat default).Under)).length] ⟨(CK l [(Hi l),(49,tI v49)]),[(Ch l),(Dw by_ turn),(WP l v11_4 v49 by_ turn),(45,.row 7 (I2 v11_4 v49 by_ turn l).length (fun i_ j_=>if i_=v49.toNat/\5<=j_/\j_<5+1 then ([.i (W64 (((AE l).1.Parts.getD v49.toNat default).Turn+(W64 (Int.tmod turn 4))))]:List Cl).getD (j_-5) default else (AU AF.c (I2 v11_4 v49 by_ turn l)) i_ j_) 59)]⟩ .nil (.cons au14 (.cons au14 (.cons au14 .nil)))<|Bd<|AH ?_
  refine BN (Cv.trans (BF (⟨(CK l [(Hi l),(49,tI v49)]),[(Ch l),(Dw by_ turn),(Vt l v11_4 v49 by_ turn),(45,.row 7 ((I2 v11_4 v49 by_ turn l).set v49.toNat (MP v11_4 v49 by_ turn l)).length (AU AF.c ((I2 v11_4 v49 by_ turn l).set v49.toNat (MP v11_4 v49 by_ turn l))) 59)]⟩) lr (.cons ⟨rfl,.refl _⟩ (.cons ⟨rfl,.refl _⟩ (.cons ⟨rfl,.cells _ (rr4 (.cons (.own _ _ au0) (rr (rr (rr (rr (rr (rr (rr (rr (rr (rr .nil))))))))))))⟩ (.cons ⟨rfl,Ai 59 (Hj (l:=[.i (W64 (((AE l).1.Parts.getD v49.toNat default).Turn+(W64 (Int.tmod turn 4))))]) (off:=5) (q:=1) (k:=v49.toNat) (BA 7 AF.c (v11_4.set v49.toNat (AF.mk (v11_4.getD v49.toNat default).Id (v11_4.getD v49.toNat default).Ref (v11_4.getD v49.toNat default).Type' (Z7j by_ turn l v49) (v11_4.getD v49.toNat default).Turn (v11_4.getD v49.toNat default).Under))) au14 (AF.mk ((v11_4.set v49.toNat (AF.mk (v11_4.getD v49.toNat default).Id (v11_4.getD v49.toNat default).Ref (v11_4.getD v49.toNat default).Type' (Z7j by_ turn l v49) (v11_4.getD v49.toNat default).Turn (v11_4.getD v49.toNat default).Under)).getD v49.toNat default).Id ((v11_4.set v49.toNat (AF.mk (v11_4.getD v49.toNat default).Id (v11_4.getD v49.toNat default).Ref (v11_4.getD v49.toNat default).Type' (Z7j by_ turn l v49) (v11_4.getD v49.toNat default).Turn (v11_4.getD v49.toNat default).Under)).getD v49.toNat default).Ref ((v11_4.set v49.toNat (AF.mk (v11_4.getD v49.toNat default).Id (v11_4.getD v49.toNat default).Ref (v11_4.getD v49.toNat default).Type' (Z7j by_ turn l v49) (v11_4.getD v49.toNat default).Turn (v11_4.getD v49.toNat default).Under)).getD v49.toNat default).Type' ((v11_4.set v49.toNat (AF.mk (v11_4.getD v49.toNat default).Id (v11_4.getD v49.toNat default).Ref (v11_4.getD v49.toNat default).Type' (Z7j by_ turn l v49) (v11_4.getD v49.toNat default).Turn (v11_4.getD v49.toNat default).Under)).getD v49.toNat default).At (W64 (((AE l).1.Parts.getD v49.toNat default).Turn+(W64 (Int.tmod turn 4)))) ((v11_4.set v49.toNat (AF.mk (v11_4.getD v49.toNat default).Id (v11_4.getD v49.toNat default).Ref (v11_4.getD v49.toNat default).Type' (Z7j by_ turn l v49) (v11_4.getD v49.toNat default).Turn (v11_4.getD v49.toNat default).Under)).getD v49.toNat default).Under) (FY kr))⟩ .nil))))) (Cv.refl _)) ?_
  refine rg ⟨(CK l [(Hi l),(49,tI (W64 (v49+1)))]),[(Ch l),(Dw by_ turn),(Vt l v11_4 v49 by_ turn),(45,.row 7 ((I2 v11_4 v49 by_ turn l).set v49.toNat (MP v11_4 v49 by_ turn l)).length (AU AF.c ((I2 v11_4 v49 by_ turn l).set v49.toNat (MP v11_4 v49 by_ turn l))) 59)]⟩ ?_
  (try rw [(show W64 (v49+1)=v49+1 from Ao oM au6)])
  refine AH ?_
  refine ⟨(n0,(v11_4.set v49.toNat (AF.mk (v11_4.getD v49.toNat default).Id (v11_4.getD v49.toNat default).Ref (v11_4.getD v49.toNat default).Type' (Z7j by_ turn l v49) (v11_4.getD v49.toNat default).Turn (v11_4.getD v49.toNat default).Under)).set v49.toNat (AF.mk ((v11_4.set v49.toNat (AF.mk (v11_4.getD v49.toNat default).Id (v11_4.getD v49.toNat default).Ref (v11_4.getD v49.toNat default).Type' (Z7j by_ turn l v49) (v11_4.getD v49.toNat default).Turn (v11_4.getD v49.toNat default).Under)).getD v49.toNat default).Id ((v11_4.set v49.toNat (AF.mk (v11_4.getD v49.toNat default).Id (v11_4.getD v49.toNat default).Ref (v11_4.getD v49.toNat default).Type' (Z7j by_ turn l v49) (v11_4.getD v49.toNat default).Turn (v11_4.getD v49.toNat default).Under)).getD v49.toNat default).Ref ((v11_4.set v49.toNat (AF.mk (v11_4.getD v49.toNat default).Id (v11_4.getD v49.toNat default).Ref (v11_4.getD v49.toNat default).Type' (Z7j by_ turn l v49) (v11_4.getD v49.toNat default).Turn (v11_4.getD v49.toNat default).Under)).getD v49.toNat default).Type' ((v11_4.set v49.toNat (AF.mk (v11_4.getD v49.toNat default).Id (v11_4.getD v49.toNat default).Ref (v11_4.getD v49.toNat default).Type' (Z7j by_ turn l v49) (v11_4.getD v49.toNat default).Turn (v11_4.getD v49.toNat default).Under)).getD v49.toNat default).At (W64 (((AE l).1.Parts.getD v49.toNat default).Turn+(W64 (Int.tmod turn 4)))) ((v11_4.set v49.toNat (AF.mk (v11_4.getD v49.toNat default).Id (v11_4.getD v49.toNat default).Ref (v11_4.getD v49.toNat default).Type' (Z7j by_ turn l v49) (v11_4.getD v49.toNat default).Turn (v11_4.getD v49.toNat default).Under)).getD v49.toNat default).Under),v49+1),⟨?_,?_,(by rw [<- hF0];simp only [BW,h1,cond_true,cond_false])⟩,Nat.lt_succ_self _,A6 kr⟩
  ·show ((((AL (AE l).1).Parts.length:Nat):Int)-(v49+1)).toNat<n0;omega
  exact ⟨ax0,ax0,ax0⟩
 have g1:=oF h1
 refine BJ<|A4 ?_
 refine A4<|BK ?_
 refine AH<|AB ?_
 refine BN (Cv.trans (wf (⟨(CK l [(Hi l),(49,tI v49),(50,tB (decide ((v49:Int)<(((Bl l).Parts.length:Nat):Int))))]),[(Ch l),(Dw by_ turn),(C3 l v11_4)]⟩) 45 7 v11_4.length (AU AF.c v11_4) 59 hk0 (.cons ⟨rfl,rfl⟩ .nil)) (Cv.refl _)) ?_
 refine dw [] [(82,ceI (SB l) (Ku (AE l).1 (AE l).2)),(85,ceI [.agg (Yj l v11_4),.one (lst 3 AQ.c (AE l).2)] (Ku (WS l v11_4) (AE l).2))] [Aw (ceI (SB l) (Ku (AE l).1 (AE l).2)).2.1,Aw (ceI [.agg (Yj l v11_4),.one (lst 3 AQ.c (AE l).2)] (Ku (AG.mk (AL (AE l).1).Layers (AL (AE l).1).Outline v11_4 (AL (AE l).1).Nets (AL (AE l).1).Tracks (AL (AE l).1).Vias (AL (AE l).1).Pours (AL (AE l).1).Keeps (AL (AE l).1).Slots (AL (AE l).1).Classes (AL (AE l).1).Rules (AL (AE l).1).Waivers (AL (AE l).1).Matches) (AE l).2)).2.1] ⟨(CK l [(13,tO (lst 9 A5.c (Pg l))),(Gt l v11_4)]),[(Ch l),(Dw by_ turn),(C3 l v11_4)]⟩ (.cons (Cd (P3 (AE l).1 (AE l).2 au11 au11 au11 au11 au11) (.cons (.agg (rr9 (rr3 (.cons (.any _) (rr (rr .nil)))))) (.cons (AvE.refl _) .nil))) (.cons (Cd (P3 (AG.mk (AL (AE l).1).Layers (AL (AE l).1).Outline v11_4 (AL (AE l).1).Nets (AL (AE l).1).Tracks (AL (AE l).1).Vias (AL (AE l).1).Pours (AL (AE l).1).Keeps (AL (AE l).1).Slots (AL (AE l).1).Classes (AL (AE l).1).Rules (AL (AE l).1).Waivers (AL (AE l).1).Matches) (AE l).2 au11 au11 au11 au11 au11) (.cons (.agg (rr9 (rr3 (.cons (.any _) (rr (rr .nil)))))) (.cons (AvE.refl _) .nil))) .nil)) (.cons rfl (.cons rfl .nil))<|AH ?_
 refine AB<|AB ?_
 refine rn ⟨(CK l [(13,tO (lst 9 A5.c (Pg l))),(Gt l v11_4),(90,tB (!decide ((((BC (AE l).1 (AE l).2).length:Int):Int)=((Z7k l v11_4).length:Int))))]),[(Ch l),(Dw by_ turn),(C3 l v11_4)]⟩ ?_
 refine Aa _ rfl (fun h2 => ?_) (fun h2 => ?_)
 ·have g2:=Dd h2
  refine AB<|rn ⟨[(6,tB false)],[]⟩ ?_
  refine Ae<|Bb ?_
  exact xl (tO (.b false)) (An (by rw [<- hF0];first | (simp only [BW,h1,h2,cond_true,cond_false] <;> rfl)))
 have g2:=DR h2
 refine Ac<|AH ?_
 refine AB<|AB ?_
 refine rn ⟨(CK l [(Gt l v11_4),(Iq l),(Iu l),(93,tI 0)]),[(Ch l),(Dw by_ turn),(C3 l v11_4)]⟩<|AX ?_
 refine BH (ι:=Nat×Int) (fun x=>⟨(CK l [(Gt l v11_4),(Iq l),(Iu l),(93,tI x.2)]),[(Ch l),(Dw by_ turn),(C3 l v11_4)]⟩) (fun x=>(((BC (AE l).1 (AE l).2).length:Int)-x.2).toNat<x.1/\(0<=x.2/\(x.2<=((BC (AE l).1 (AE l).2).length:Int)\/x.2=0))/\B1 l by_ turn v11_4 v49 (BW l by_ turn n0) x.1 x.2=Db l by_ turn) (fun x=>x.1) ?_ ((((BC (AE l).1 (AE l).2).length:Int)-0).toNat+1,0) ⟨Nat.lt_succ_self _,⟨ax0,ax0⟩,(by rw [<- hF0];simp only [BW,h1,h2,cond_true,cond_false])⟩
 rintro ⟨n1,v93⟩ ⟨hm1,hinv1,hF1⟩
 try dsimp only at hm1 hinv1 hF1
 cases n1 with | zero=>exact nz hm1 | succ n1 => ?_
 refine AB<|rn ⟨(CK l [(Gt l v11_4),(Iq l),(Iu l),(93,tI v93),(94,tB (decide ((v93:Int)<((BC (AE l).1 (AE l).2).length:Int))))]),[(Ch l),(Dw by_ turn),(C3 l v11_4)]⟩<|AB ?_
 refine Aa _ rfl (fun h3 => ?_) (fun h3 => ?_)
 ·have g3:=oT h3
  refine Ac<|AH ?_
  refine AB<|AX<|AB ?_
  refine rc [] [0<=(v93:Int)/\(v93:Int)<(((BC (AE l).1 (AE l).2).length:Nat):Int)] ⟨(CK l [(Gt l v11_4),(15,tI v93),(16,tP 16 0),(Iq l),(Iu l),(93,tI v93)]),[(Ch l),(Dw by_ turn),(C3 l v11_4),(16,.cells (A5.c (Z7l l v93)) 63)]⟩ .nil (.cons au14 .nil)<|AH<|AB ?_
  refine rs 101 (NS (Z7l l v93).Shape (AV.mk (AD.mk (Int.tmod by_.X 100) (Int.tmod by_.Y 100)) (W64 (Int.tmod turn 4)) false)) ⟨(CK l [(Gt l v11_4),(15,tI v93),(16,tP 16 0),(Iq l),(Iu l),(93,tI v93)]),[(Ch l),(Dw by_ turn),(C3 l v11_4),(16,.cells (Vm l v93 by_ turn) 63)]⟩ (T0 (Z7l l v93).Shape (AV.mk (AD.mk (Int.tmod by_.X 100) (Int.tmod by_.Y 100)) (W64 (Int.tmod turn 4)) false) au11)<|AH<|AB ?_
  refine dw [] [(110,ceI [.one (.list true 9 1 (As 9 1 (Vm l v93 by_ turn))),.one (.list false 9 ((W64 (v93+1):Int).toNat-(v93:Int).toNat) (fun i_ j_=>(AU A5.c (Z7k l v11_4)) (i_+(v93:Int).toNat) j_))] (Ln [A5.mk (Z7l l v93).Id (Z7l l v93).Pad (Z7l l v93).Kind (Z7l l v93).Net (Z7l l v93).From (Z7l l v93).To (Z7m l v93 by_ turn)] (((Z7k l v11_4).take (W64 (v93+1):Int).toNat).drop (v93:Int).toNat)))] [0<=(v93:Int)/\(v93:Int)<=(W64 (v93+1):Int)/\(W64 (v93+1):Int)<=(((Z7k l v11_4).length:Nat):Int),Aw (ceI [.one (.list true 9 1 (As 9 1 (Vm l v93 by_ turn))),.one (.list false 9 ((W64 (v93+1):Int).toNat-(v93:Int).toNat) (fun i_ j_=>(AU A5.c (Z7k l v11_4)) (i_+(v93:Int).toNat) j_))] (Ln [A5.mk (Z7l l v93).Id (Z7l l v93).Pad (Z7l l v93).Kind (Z7l l v93).Net (Z7l l v93).From (Z7l l v93).To (Z7m l v93 by_ turn)] (((Z7k l v11_4).take (W64 (v93+1):Int).toNat).drop (v93:Int).toNat))).2.1] ⟨(CK l [(Gt l v11_4),(Iq l),(Iu l),(93,tI v93),(111,tB (!(Z7n l v93 by_ turn v11_4)))]),[(Ch l),(Dw by_ turn),(C3 l v11_4)]⟩ (.cons (Cd (XC [A5.mk (Z7l l v93).Id (Z7l l v93).Pad (Z7l l v93).Kind (Z7l l v93).Net (Z7l l v93).From (Z7l l v93).To (Z7m l v93 by_ turn)] (((Z7k l v11_4).take (W64 (v93+1):Int).toNat).drop (v93:Int).toNat) au11 au11 au11) (.cons (.one (Bk true (Ar (c:=A5.c) (xs:=([A5.mk (Z7l l v93).Id (Z7l l v93).Pad (Z7l l v93).Kind (Z7l l v93).Net (Z7l l v93).From (Z7l l v93).To (Z7m l v93 by_ turn)]:List A5)) rfl kr))) (.cons (.one (Bk false (I5 (a:=v93) (b:=W64 (v93+1)) (BA 9 A5.c (Z7k l v11_4)) (by have hc:=(show 0<=(v93:Int)/\(v93:Int)<=(W64 (v93+1):Int)/\(W64 (v93+1):Int)<=(((Z7k l v11_4).length:Nat):Int) from au14);exact hc.1) (by have hc:=(show 0<=(v93:Int)/\(v93:Int)<=(W64 (v93+1):Int)/\(W64 (v93+1):Int)<=(((Z7k l v11_4).length:Nat):Int) from au14);exact hc.2.1) (by have hc:=(show 0<=(v93:Int)/\(v93:Int)<=(W64 (v93+1):Int)/\(W64 (v93+1):Int)<=(((Z7k l v11_4).length:Nat):Int) from au14);exact hc.2.2)))) .nil))) .nil) (.cons au14 (.cons rfl .nil))<|AH ?_
  refine Aa _ rfl (fun h4 => ?_) (fun h4 => ?_)
  ·refine AB<|rn ⟨[(6,tB false)],[]⟩ ?_
   refine Ae<|Cq ?_
   refine Bb<|Bb ?_
   refine Cq<|Bb ?_
   exact xl (tO (.b false)) (An (by rw [<- hF1];first | (simp only [B1,h3,h4,cond_true,cond_false] <;> rfl)))
  refine Ac<|Bd<|AH ?_
  refine rg ⟨(CK l [(Gt l v11_4),(Iq l),(Iu l),(93,tI (W64 (v93+1)))]),[(Ch l),(Dw by_ turn),(C3 l v11_4)]⟩ ?_
  (try rw [(show W64 (v93+1)=v93+1 from Ao oM au6)])
  refine AH ?_
  refine ⟨(n1,v93+1),⟨?_,?_,(by rw [<- hF1];simp only [B1,h3,h4,cond_true,cond_false])⟩,Nat.lt_succ_self _,A6 kr⟩
  ·show (((BC (AE l).1 (AE l).2).length:Int)-(v93+1)).toNat<n1;omega
  exact ⟨ax0,ax0⟩
 have g3:=oF h3
 refine BJ<|A4 ?_
 refine A4<|BK ?_
 refine AH<|AB<|AB ?_
 refine rn ⟨(CK l [(JW l),(JY l),(116,tI 0)]),[(Ch l),(Dw by_ turn),(C3 l v11_4)]⟩<|AX ?_
 refine BH (ι:=Nat×Int) (fun x=>⟨(CK l [(JW l),(JY l),(116,tI x.2)]),[(Ch l),(Dw by_ turn),(C3 l v11_4)]⟩) (fun x=>(((AE l).1.Nets.length:Int)-x.2).toNat<x.1/\(0<=x.2/\(x.2<=((AE l).1.Nets.length:Int)\/x.2=0))/\Cm l by_ turn v11_4 v49 v93 (BW l by_ turn n0) (B1 l by_ turn v11_4 v49 (BW l by_ turn n0) n1) x.1 x.2=Db l by_ turn) (fun x=>x.1) ?_ ((((AE l).1.Nets.length:Int)-0).toNat+1,0) ⟨Nat.lt_succ_self _,⟨ax0,ax0⟩,(by rw [<- hF1];simp only [B1,h3,cond_true,cond_false])⟩
 rintro ⟨n2,v116⟩ ⟨hm2,hinv2,hF2⟩
 try dsimp only at hm2 hinv2 hF2
 cases n2 with | zero=>exact nz hm2 | succ n2 => ?_
 have hpn:((Z7o l v116).Pins.length:Int)<=1000000:=ZA hNp v116.toNat
 refine AB<|rn ⟨(CK l [(JW l),(JY l),(116,tI v116),(117,tB (decide ((v116:Int)<((AE l).1.Nets.length:Int))))]),[(Ch l),(Dw by_ turn),(C3 l v11_4)]⟩<|AB ?_
 refine Aa _ rfl (fun h4 => ?_) (fun h4 => ?_)
 ·have g4:=oT h4
  refine Ac<|AH ?_
  refine AB<|AX<|AB ?_
  refine rc [] [0<=(v116:Int)/\(v116:Int)<(((AE l).1.Nets.length:Nat):Int)] ⟨(CK l [(18,tP 18 0),(JW l),(JY l),(116,tI v116)]),[(Ch l),(Dw by_ turn),(C3 l v11_4),(18,.cells (A3.c (Z7o l v116)) 48)]⟩ .nil (.cons au14 .nil)<|AH<|AB ?_
  refine rn ⟨(CK l (Ly l v116 [(123,tI 0)])),[(Ch l),(Dw by_ turn),(C3 l v11_4)]⟩<|AX ?_
  refine BH (ι:=Nat×Int) (fun x=>⟨(CK l (Ly l v116 [(123,tI x.2)])),[(Ch l),(Dw by_ turn),(C3 l v11_4)]⟩) (fun x=>(((Z7o l v116).Pins.length:Int)-x.2).toNat<x.1/\(0<=x.2/\(x.2<=((Z7o l v116).Pins.length:Int)\/x.2=0))/\Ck l by_ turn v11_4 v49 v93 v116 (BW l by_ turn n0) (B1 l by_ turn v11_4 v49 (BW l by_ turn n0) n1) (Cm l by_ turn v11_4 v49 v93 (BW l by_ turn n0) (B1 l by_ turn v11_4 v49 (BW l by_ turn n0) n1) n2) x.1 x.2=Db l by_ turn) (fun x=>x.1) ?_ ((((Z7o l v116).Pins.length:Int)-0).toNat+1,0) ⟨Nat.lt_succ_self _,⟨ax0,ax0⟩,(by rw [<- hF2];simp only [Cm,h4,cond_true,cond_false])⟩
  rintro ⟨n3,v123⟩ ⟨hm3,hinv3,hF3⟩
  try dsimp only at hm3 hinv3 hF3
  cases n3 with | zero=>exact nz hm3 | succ n3 => ?_
  refine AB<|rn ⟨(CK l (Ly l v116 [(123,tI v123),(124,tB (decide ((v123:Int)<((Z7o l v116).Pins.length:Int))))])),[(Ch l),(Dw by_ turn),(C3 l v11_4)]⟩<|AB ?_
  refine Aa _ rfl (fun h5 => ?_) (fun h5 => ?_)
  ·have g5:=oT h5
   refine Ac<|AH ?_
   refine AB<|AX<|AB ?_
   refine rc [] [0<=(v123:Int)/\(v123:Int)<(((Z7o l v116).Pins.length:Nat):Int)] ⟨(CK l [(20,tP 20 0),(JW l),(JY l),(116,tI v116),(PT l v116),(PV l v116),(123,tI v123)]),[(Ch l),(Dw by_ turn),(C3 l v11_4),(20,.cells (Ab.c (Z7p l v116 v123)) 25)]⟩ .nil (.cons au14 .nil)<|AH<|AB ?_
   refine rs 131 (ceI [.agg (AG.c (AE l).1),.one (lst 3 AQ.c (AE l).2),.agg (Ab.c (Z7p l v116 v123))] (cAt (AE l).1 (AE l).2 (Z7p l v116 v123))) ⟨(CK l [(20,tP 20 0),(21,tP 21 0),(22,tI (FAt (AE l).1 (AE l).2 (Z7p l v116 v123)).2.1),(23,tB (Z7r l v116 v123)),(JW l),(JY l),(116,tI v116),(PT l v116),(PV l v116),(123,tI v123)]),[(Ch l),(Dw by_ turn),(C3 l v11_4),(20,.cells (Ab.c (Z7p l v116 v123)) 25),(21,.cells (AD.c (Z7q l v116 v123)) 52)]⟩ (Cd (bV (AE l).1 (AE l).2 (Z7p l v116 v123) au11 au11) (.cons (.agg (rr9 (rr3 (.cons (.any _) (rr (rr .nil)))))) (.cons (AvE.refl _) (.cons (AvE.refl _) .nil))))<|AH<|AB ?_
   refine rs 139 (ceI [.agg (Yj l v11_4),.one (lst 3 AQ.c (AE l).2),.agg (Ab.c (Z7p l v116 v123))] (cAt (AG.mk (AL (AE l).1).Layers (AL (AE l).1).Outline v11_4 (AL (AE l).1).Nets (AL (AE l).1).Tracks (AL (AE l).1).Vias (AL (AE l).1).Pours (AL (AE l).1).Keeps (AL (AE l).1).Slots (AL (AE l).1).Classes (AL (AE l).1).Rules (AL (AE l).1).Waivers (AL (AE l).1).Matches) (AE l).2 (Z7p l v116 v123))) ⟨(CK l [(21,tP 21 0),(22,tI (FAt (AE l).1 (AE l).2 (Z7p l v116 v123)).2.1),(23,tB (Z7r l v116 v123)),(24,tP 24 0),(25,tI (FAt (WS l v11_4) (AE l).2 (Z7p l v116 v123)).2.1),(26,tB (Z7t l v11_4 v116 v123)),(JW l),(JY l),(116,tI v116),(PT l v116),(PV l v116),(123,tI v123)]),[(Ch l),(Dw by_ turn),(C3 l v11_4),(21,.cells (AD.c (Z7q l v116 v123)) 52),(24,.cells (AD.c (Z7s l v11_4 v116 v123)) 52)]⟩ (Cd (bV (AG.mk (AL (AE l).1).Layers (AL (AE l).1).Outline v11_4 (AL (AE l).1).Nets (AL (AE l).1).Tracks (AL (AE l).1).Vias (AL (AE l).1).Pours (AL (AE l).1).Keeps (AL (AE l).1).Slots (AL (AE l).1).Classes (AL (AE l).1).Rules (AL (AE l).1).Waivers (AL (AE l).1).Matches) (AE l).2 (Z7p l v116 v123) au11 au11) (.cons (.agg (rr9 (rr3 (.cons (.any _) (rr (rr .nil)))))) (.cons (AvE.refl _) (.cons (AvE.refl _) .nil))))<|AH<|AB ?_
   refine dw [] [(157,C0 (AV.mk (AD.mk (Int.tmod by_.X 100) (Int.tmod by_.Y 100)) (W64 (Int.tmod turn 4)) false) (Z7q l v116 v123))] (i3 (Z7u l v116 v123 v11_4) [gi (I0 l v116 v123 v11_4),gp (((I0 l v116 v123 v11_4)=false)/\(Z7r l v116 v123)=true),gp (((I0 l v116 v123 v11_4)=false)/\(Z7r l v116 v123)=true),(((bif Z7u l v116 v123 v11_4 then true else !decide (((FAt (AE l).1 (AE l).2 (Z7p l v116 v123)).2.1:Int)=(FAt (AG.mk (AL (AE l).1).Layers (AL (AE l).1).Outline v11_4 (AL (AE l).1).Nets (AL (AE l).1).Tracks (AL (AE l).1).Vias (AL (AE l).1).Pours (AL (AE l).1).Keeps (AL (AE l).1).Slots (AL (AE l).1).Classes (AL (AE l).1).Rules (AL (AE l).1).Waivers (AL (AE l).1).Matches) (AE l).2 (Z7p l v116 v123)).2.1))=false)/\(Z7r l v116 v123)=true)->(Aw (C0 (AV.mk (AD.mk (Int.tmod by_.X 100) (Int.tmod by_.Y 100)) (W64 (Int.tmod turn 4)) false) (Z7q l v116 v123)).2.1),gp (((I0 l v116 v123 v11_4)=false)/\(Z7r l v116 v123)=true),gp (((I0 l v116 v123 v11_4)=false)/\(Z7r l v116 v123)=true),gi (I0 l v116 v123 v11_4),((bif Z7u l v116 v123 v11_4 then true else !decide (((FAt (AE l).1 (AE l).2 (Z7p l v116 v123)).2.1:Int)=(FAt (AG.mk (AL (AE l).1).Layers (AL (AE l).1).Outline v11_4 (AL (AE l).1).Nets (AL (AE l).1).Tracks (AL (AE l).1).Vias (AL (AE l).1).Pours (AL (AE l).1).Keeps (AL (AE l).1).Slots (AL (AE l).1).Classes (AL (AE l).1).Rules (AL (AE l).1).Waivers (AL (AE l).1).Matches) (AE l).2 (Z7p l v116 v123)).2.1))=false)->((Z7r l v116 v123)=true->(((bif Z7u l v116 v123 v11_4 then true else !decide (((FAt (AE l).1 (AE l).2 (Z7p l v116 v123)).2.1:Int)=(FAt (AG.mk (AL (AE l).1).Layers (AL (AE l).1).Outline v11_4 (AL (AE l).1).Nets (AL (AE l).1).Tracks (AL (AE l).1).Vias (AL (AE l).1).Pours (AL (AE l).1).Keeps (AL (AE l).1).Slots (AL (AE l).1).Classes (AL (AE l).1).Rules (AL (AE l).1).Waivers (AL (AE l).1).Matches) (AE l).2 (Z7p l v116 v123)).2.1))=false)/\(Z7r l v116 v123)=true)),gi (I0 l v116 v123 v11_4)]) ⟨(CK l (Ly l v116 [(123,tI v123),(160,tB (bif bif Z7u l v116 v123 v11_4 then true else !decide (((FAt (AE l).1 (AE l).2 (Z7p l v116 v123)).2.1:Int)=(FAt (AG.mk (AL (AE l).1).Layers (AL (AE l).1).Outline v11_4 (AL (AE l).1).Nets (AL (AE l).1).Tracks (AL (AE l).1).Vias (AL (AE l).1).Pours (AL (AE l).1).Keeps (AL (AE l).1).Slots (AL (AE l).1).Classes (AL (AE l).1).Rules (AL (AE l).1).Waivers (AL (AE l).1).Matches) (AE l).2 (Z7p l v116 v123)).2.1) then true else bif Z7r l v116 v123 then !(decide ((Z7s l v11_4 v116 v123).X=(BZ (AV.mk (AD.mk (Int.tmod by_.X 100) (Int.tmod by_.Y 100)) (W64 (Int.tmod turn 4)) false) (Z7q l v116 v123)).X)&&(decide ((Z7s l v11_4 v116 v123).Y=(BZ (AV.mk (AD.mk (Int.tmod by_.X 100) (Int.tmod by_.Y 100)) (W64 (Int.tmod turn 4)) false) (Z7q l v116 v123)).Y)&&true)) else false))])),[(Ch l),(Dw by_ turn),(C3 l v11_4)]⟩ (.cons (Ec (AV.mk (AD.mk (Int.tmod by_.X 100) (Int.tmod by_.Y 100)) (W64 (Int.tmod turn 4)) false) (Z7q l v116 v123)) .nil) (c3 (ci (ci (ci (.cons (fun _=>rfl) (ci (ci (ci (.cons (by intros;first | assumption | exact ⟨by assumption,by assumption⟩ | simp_all) (ci .nil))))))))))<|AH ?_
   refine Aa (bif bif Z7u l v116 v123 v11_4 then true else !decide (((FAt (AE l).1 (AE l).2 (Z7p l v116 v123)).2.1:Int)=(FAt (AG.mk (AL (AE l).1).Layers (AL (AE l).1).Outline v11_4 (AL (AE l).1).Nets (AL (AE l).1).Tracks (AL (AE l).1).Vias (AL (AE l).1).Pours (AL (AE l).1).Keeps (AL (AE l).1).Slots (AL (AE l).1).Classes (AL (AE l).1).Rules (AL (AE l).1).Waivers (AL (AE l).1).Matches) (AE l).2 (Z7p l v116 v123)).2.1) then true else bif Z7r l v116 v123 then !(decide ((Z7s l v11_4 v116 v123).X=(BZ (AV.mk (AD.mk (Int.tmod by_.X 100) (Int.tmod by_.Y 100)) (W64 (Int.tmod turn 4)) false) (Z7q l v116 v123)).X)&&(decide ((Z7s l v11_4 v116 v123).Y=(BZ (AV.mk (AD.mk (Int.tmod by_.X 100) (Int.tmod by_.Y 100)) (W64 (Int.tmod turn 4)) false) (Z7q l v116 v123)).Y)&&true)) else false) kr (fun h6 => ?_) (fun h6 => ?_)
   ·refine AB<|rn ⟨[(6,tB false)],[]⟩ ?_
    refine Ae<|Cq ?_
    refine Bb<|Bb ?_
    refine Cq<|Cq ?_
    refine Bb<|Bb ?_
    refine Cq<|Bb ?_
    exact xl (tO (.b false)) (An (by rw [<- hF3];first | (simp only [Ck,h5,h6,cond_true,cond_false] <;> rfl)))
   refine Ac<|Bd<|AH ?_
   refine rg ⟨(CK l (Ly l v116 [(123,tI (W64 (v123+1)))])),[(Ch l),(Dw by_ turn),(C3 l v11_4)]⟩ ?_
   (try rw [(show W64 (v123+1)=v123+1 from Ao oM au6)])
   refine AH ?_
   refine ⟨(n3,v123+1),⟨?_,?_,(by rw [<- hF3];simp only [Ck,h5,h6,cond_true,cond_false])⟩,Nat.lt_succ_self _,A6 kr⟩
   ·show (((Z7o l v116).Pins.length:Int)-(v123+1)).toNat<n3;omega
   exact ⟨ax0,ax0⟩
  have g5:=oF h5
  refine BJ<|A4 ?_
  refine A4<|BK ?_
  refine Bd<|AH ?_
  refine rg ⟨(CK l [(JW l),(JY l),(116,tI (W64 (v116+1)))]),[(Ch l),(Dw by_ turn),(C3 l v11_4)]⟩ ?_
  (try rw [(show W64 (v116+1)=v116+1 from Ao oM au6)])
  refine AH ?_
  refine ⟨(n2,v116+1),⟨?_,?_,(by rw [<- hF3];simp only [Ck,h5,cond_true,cond_false])⟩,Nat.lt_succ_self _,A6 kr⟩
  ·show (((AE l).1.Nets.length:Int)-(v116+1)).toNat<n2;omega
  exact ⟨ax0,ax0⟩
 refine BJ<|A4 ?_
 refine A4<|BK ?_
 refine AH<|AB ?_
 refine rn ⟨[(6,tB DC)],[]⟩<|Ae ?_
 exact xl (tO (.b DC)) (An (by rw [<- hF2];first | (simp only [Cm,h4,cond_true,cond_false] <;> rfl)))
end
theorem ON {α:Type} [Inhabited α] (lt:α->α->Bool) (l:List α) (h:∀ k,k+1<l.length->lt (l.getD (k+1) default) (l.getD k default)=false):Fv lt l=l:=by
 have key:∀ n,n<=l.length->Fv lt (l.take n)=l.take n:=by
  intro n
  induction n with
  | zero=>intro _;rfl
  | succ n ih =>
   intro hn
   have e:l.take (n+1)=l.take n++[l.getD n default]:=by
    rw [List.take_succ_eq_append_getElem (by omega),List.getD_eq_getElem?_getD,List.getElem?_eq_getElem (by omega)];rfl
   rw [e,LO,ih (by omega)]
   have hl:(l.take n).length=n:=by rw [List.length_take];omega
   have hp:G0 (lt (l.getD n default)) (l.take n) (l.take n).length=n:=by
    rw [hl]
    cases n with
    | zero=>rfl
    | succ m =>
     unfold G0
     rw [show (l.take (m+1)).getD m default=l.getD m default by rw [List.getD_eq_getElem?_getD,List.getElem?_take_of_lt (by omega),<- List.getD_eq_getElem?_getD],h m (by omega)]
     rfl
   unfold Rf
   rw [hp,List.take_of_length_le (by omega),List.drop_eq_nil_of_le (by omega)]
 have:=key l.length (Nat.le_refl _)
 rwa [List.take_length] at this
theorem YK {x y:Int} (h:y<=x):decide (DZ x y<0)=false:=by
 unfold DZ Ez
 by_cases h2:y<x
 ·simp [show ¬ x<y by omega,h2]
 simp [show ¬ x<y by omega,h2]
theorem S3 {B:AG} {T:List AQ} {l:List (List Int)} (h:GH B T l):CD B.Parts=B.Parts:=by
 rw [R4]
 exact ON _ _ fun k hk=>YK (by rw [(h.par k (by omega)).id,(h.par (k+1) hk).id];omega)
theorem Sa (a:Ah):H0 a a=true:=by
 have key:∀ n k:Nat,a.Edges.length-k<n->EW a a n (k:Int)=true:=by
  intro n
  induction n with
  | zero=>intro k h;omega
  | succ n ih =>
   intro k h
   rw [EW]
   by_cases hc:(k:Int)<(a.Edges.length:Int)
   ·rw [decide_eq_true hc,cond_true]
    have:=ih (k+1) (by omega)
    rw [show ((k+1:Nat):Int)=(k:Int)+1 by omega] at this
    simp only [decide_true,Bool.and_true,Bool.not_true,cond_false]
    exact this
   rw [decide_eq_false hc,cond_false]
 unfold H0
 simp only [decide_true,Bool.not_true,cond_false]
 exact key _ 0 (by omega)
theorem Qz (a:List A5):Fe a a=true:=by
 have key:∀ n k:Nat,a.length-k<n->Dt a a n (k:Int)=true:=by
  intro n
  induction n with
  | zero=>intro k h;omega
  | succ n ih =>
   intro k h
   rw [Dt]
   by_cases hc:(k:Int)<(a.length:Int)
   ·rw [decide_eq_true hc,cond_true]
    have:=ih (k+1) (by omega)
    rw [show ((k+1:Nat):Int)=(k:Int)+1 by omega] at this
    unfold Z0v
    simp only [Sa,decide_true,Bool.not_true,cond_false,beq_self_eq_true]
    exact this
   rw [decide_eq_false hc,cond_false]
 unfold Fe
 simp only [decide_true,Bool.not_true,cond_false]
 exact key _ 0 (by omega)
structure Chg (g:AF->AF):Prop where
 id:∀ p,(g p).Id=p.Id
 ref:∀ p,(g p).Ref=p.Ref
 typ:∀ p,(g p).Type'=p.Type'
 und:∀ p,(g p).Under=p.Under
theorem IB {α:Type} [Inhabited α] (g:α->α) {l:List α} {i:Nat} (h:i<l.length):(l.map g).getD i default=g (l.getD i default):=by
 rw [List.getD_eq_getElem?_getD,List.getElem?_map,List.getElem?_eq_getElem h,List.getD_eq_getElem?_getD,List.getElem?_eq_getElem h];rfl
theorem Sn (t:List AQ) {g:AF->AF} (hg:Chg g) (p:AF):Es t (g p)=(Es t p).map fun x=>(g x.1,x.2):=by
 unfold Es
 rw [hg.typ,List.map_map]
 rfl
theorem VA {B B2:AG} {T:List AQ} {l:List (List Int)} (h:GH B T l) {g:AF->AF} (hg:Chg g) (hB:B2.Parts=B.Parts.map g):Ad B2 T=(Ad B T).map fun x=>(g x.1,x.2):=by
 have e2:CD B2.Parts=B2.Parts:=by
  rw [R4,hB]
  refine ON _ _ fun k hk => ?_
  rw [List.length_map] at hk
  refine YK ?_
  rw [IB g (show k<B.Parts.length by omega),IB g hk,hg.id,hg.id,(h.par k (by omega)).id,(h.par (k+1) hk).id]
  omega
 unfold Ad
 rw [e2,S3 h,hB]
 generalize B.Parts=v
 induction v with
 | nil=>rfl
 | cons p v ih=>rw [List.map_cons,List.flatMap_cons,List.flatMap_cons,List.map_append,ih,Sn T hg]
theorem Xg {B B2:AG} {g:AF->AF} (hg:Chg g) (hl:B2.Layers=B.Layers) (v:List (Ab×ByteArray)) (x:AF×A1):D8 B2 v (g x.1,x.2)=A5.mk (D8 B v x).Id (D8 B v x).Pad (D8 B v x).Kind (D8 B v x).Net (D8 B v x).From (D8 B v x).To (Cn x.2.Shape (Bo (g x.1))):=by
 have hs:Cj B2 (g x.1)=Cj B x.1:=by unfold Cj;rw [hg.und,hl]
 unfold D8
 simp only
 rw [hs,hg.id,hg.ref,hl]
theorem XT {B B2:AG} (hn:B2.Nets=B.Nets):LF B2=LF B:=by unfold LF;rw [hn]
theorem Q9 {B B2:AG} {T:List AQ} {l:List (List Int)} (h:GH B T l) {g:AF->AF} (hg:Chg g) (hB:B2.Parts=B.Parts.map g) (hl:B2.Layers=B.Layers) (hn:B2.Nets=B.Nets) :
  (BC B2 T).length=(BC B T).length/\∀ j,j<(BC B T).length->∃ x:AF×A1,(x∈Ad B T)/\(BC B T).getD j default=D8 B (LF B) x /\
   ∀ s,Cn x.2.Shape (Bo (g x.1))=s->(((BC B2 T).take (j+1)).drop j)=[A5.mk ((BC B T).getD j default).Id ((BC B T).getD j default).Pad ((BC B T).getD j default).Kind ((BC B T).getD j default).Net ((BC B T).getD j default).From ((BC B T).getD j default).To s]:=by
 have e2:BC B2 T=(Ad B T).map fun x=>D8 B2 (LF B) (g x.1,x.2):=by
  rw [KC,VA h hg hB,XT hn,List.map_map]
  rfl
 have e1:=KC B T
 have hlen:(BC B2 T).length=(BC B T).length:=by rw [e1,e2,List.length_map,List.length_map]
 refine ⟨hlen,fun j hj => ?_⟩
 have hj2:j<(Ad B T).length:=by rw [e1,List.length_map] at hj;exact hj
 have g1:(BC B T).getD j default=D8 B (LF B) ((Ad B T)[j]):=by
  rw [e1,List.getD_eq_getElem?_getD,List.getElem?_map,List.getElem?_eq_getElem hj2];rfl
 refine ⟨(Ad B T)[j],List.getElem_mem hj2,g1,fun s hs => ?_⟩
 have h2:j<(BC B2 T).length:=by omega
 rw [List.drop_take,Nat.add_sub_cancel_left,JG h2,List.take_succ_cons,List.take_zero,g1]
 have e3:(BC B2 T)[j]? = some (D8 B2 (LF B) (g ((Ad B T)[j]).1,((Ad B T)[j]).2)):=by
  rw [e2,List.getElem?_map,List.getElem?_eq_getElem hj2];rfl
 rw [List.getD_eq_getElem?_getD,e3,Option.getD_some,Xg hg hl,hs]
theorem Ze {α:Type} {f:α->Bool} {g:α->α} (hf:∀ x,f (g x)=f x) (l:List α):ixI f (l.map g)=ixI f l:=by
 unfold ixI
 rw [List.findIdx?_map,show f ∘ g=f from funext hf]
theorem YV {B B2:AG} (T:List AQ) {g:AF->AF} (hg:Chg g) (hB:B2.Parts=B.Parts.map g) (hl:B2.Layers=B.Layers) (q:Ab) :
  (FAt B2 T q=(⟨0,0⟩,0,false)/\FAt B T q=(⟨0,0⟩,0,false))\/(∃ a,FAt B T q=(AY (Bo (Z0q B q)) a,Cj B (Z0q B q),true)/\FAt B2 T q=(AY (Bo (g (Z0q B q))) a,Cj B (Z0q B q),true)/\Z0q B q∈B.Parts):=by
 have hx:Cu B2.Parts q=Cu B.Parts q:=by rw [KB,KB,hB];exact Ze (fun x=>by show ((g x).Ref.toList==_)=(x.Ref.toList==_);rw [hg.ref]) _
 by_cases h0:Cu B.Parts q<0
 ·refine .inl ?_
  unfold FAt
  rw [hx,decide_eq_true h0,cond_true,cond_true]
  exact ⟨rfl,rfl⟩
 have hb:0<=Cu B.Parts q/\Cu B.Parts q<(B.Parts.length:Int):=by rw [KB] at h0 ⊢;exact UM h0
 have hi:(Cu B.Parts q).toNat<B.Parts.length:=by omega
 have e1:Z0q B2 q=g (Z0q B q):=by unfold Z0q;rw [hx,hB,IB g hi]
 have e0:Z0p T B2 q=Z0p T B q:=by unfold Z0p;rw [hx,hB,IB g hi,hg.typ]
 have es:Cj B2 (g (Z0q B q))=Cj B (Z0q B q):=by unfold Cj;rw [hg.und,hl]
 have hm:Z0q B q∈B.Parts:=by unfold Z0q;rw [List.getD_eq_getElem?_getD,List.getElem?_eq_getElem hi];exact List.getElem_mem hi
 unfold FAt Z0r
 rw [hx,decide_eq_false h0,cond_false,cond_false,e0,e1,es]
 cases hf:(FU (Z0p T B q) q.Pad).2 with
 | false=>exact .inl ⟨rfl,rfl⟩
 | true=>exact .inr ⟨_,rfl,rfl,hm⟩
structure Cmp (m a c:AV):Prop where
 mi:c.Mirror=a.Mirror
 no:m.Mirror=false
 pt:∀ p,AY m (AY a p)=AY c p
theorem XU {m a c:AV} (h:Cmp m a c) (e:AO):CV (CV e a) m=CV e c:=by
 by_cases h1:e.Kind=1
 ·have k1:∀ m,CV e m=K8 e.A e.B e.C m:=fun m=>by unfold CV;rw [if_pos h1]
  rw [k1,k1]
  show CV (AO.mk 1 _ _ _) m=_
  unfold CV K8
  simp only [if_true,h.pt]
 by_cases h2:e.Kind=2
 ·have k1:∀ m,CV e m=JV e.A e.B e.C m:=fun m=>by unfold CV;rw [if_neg h1,if_pos h2]
  rw [k1,k1]
  unfold CV JV JU
  simp only [h.no,h.mi]
  cases a.Mirror <;> simp [h.pt]
 by_cases h3:e.Kind=3
 ·have k1:∀ m,CV e m=JU e.A e.B e.C m:=fun m=>by unfold CV;rw [if_neg h1,if_neg h2,if_pos h3]
  rw [k1,k1]
  unfold CV JV JU
  simp only [h.no,h.mi]
  cases a.Mirror <;> simp [h.pt]
 have k1:∀ m,CV e m=H1 e m:=fun m=>by unfold CV;rw [if_neg h1,if_neg h2,if_neg h3]
 have k2:∀ e',e'.Kind=e.Kind->CV e' m=H1 e' m:=fun e' q=>by unfold CV;rw [if_neg (q▸h1),if_neg (q▸h2),if_neg (q▸h3)]
 rw [k1,k1,k2 (H1 e a) rfl]
 unfold H1
 simp [h.pt,h1]
theorem VL {m a c:AV} (h:Cmp m a c) (s:Ah):Cn (Cn s a) m=Cn s c:=by
 rw [Jo,Jo,Jo,List.map_map]
 congr 1
 exact List.map_congr_left fun e _=>XU h e
section
open Go.RowKit
abbrev mT (by_:AD) (turn:Int):AV:=⟨⟨Int.tmod by_.X 100,Int.tmod by_.Y 100⟩,W64 (Int.tmod turn 4),false⟩
def gT (m:AV) (p:AF):AF:=⟨p.Id,p.Ref,p.Type',BZ m p.At,W64 (p.Turn+m.Turn),p.Under⟩
theorem TD (m:AV):Chg (gT m):=⟨fun _=>rfl,fun _=>rfl,fun _=>rfl,fun _=>rfl⟩
theorem bZ (q:AD):Be q false=q:=rfl
theorem Rv (m a:AV) (hm:m.Mirror=false):Cmp m a ⟨BZ m a.At,W64 (a.Turn+m.Turn),a.Mirror⟩:=by
 refine ⟨rfl,hm,fun p => ?_⟩
 rw [IJ,IJ,IJ]
 have ht:W64 (a.Turn+m.Turn) % 4=(a.Turn % 4+m.Turn % 4) % 4:=by simp only [C9];omega
 unfold BZ Z09
 simp only [hm,bZ]
 generalize Be p a.Mirror=q
 obtain ⟨x,y⟩:=q
 obtain ⟨ax,ay⟩:=a.At
 obtain ⟨bx,by'⟩:=m.At
 unfold B5
 simp only [MT,ht]
 have h1:a.Turn % 4=0\/a.Turn % 4=1\/a.Turn % 4=2\/a.Turn % 4=3:=by omega
 have h2:m.Turn % 4=0\/m.Turn % 4=1\/m.Turn % 4=2\/m.Turn % 4=3:=by omega
 clear ht
 rcases h1 with e1 | e1 | e1 | e1 <;> rcases h2 with e2 | e2 | e2 | e2 <;> rw [e1,e2] <;> simp only [Int.reduceAdd,Int.reduceMod,Int.reduceEq,decide_true,decide_false,cond_true,cond_false,B7,AD.mk.injEq,C9] <;> omega
def bT (l:List (List Int)) (v:List AF):AG:=AG.mk (AL (AE l).1).Layers (AL (AE l).1).Outline v (AL (AE l).1).Nets (AL (AE l).1).Tracks (AL (AE l).1).Vias (AL (AE l).1).Pours (AL (AE l).1).Keeps (AL (AE l).1).Slots (AL (AE l).1).Classes (AL (AE l).1).Rules (AL (AE l).1).Waivers (AL (AE l).1).Matches
section
variable {l:List (List Int)} {by_:AD} {turn:Int} {v:List AF}
theorem Qp (hv:v=(AE l).1.Parts.map (gT (mT by_ turn))) (i v49 v93:Int) (K0:List AF->Int->Bool) (K1 K2:Int->Bool) (hK:K2 (i+1)=true):∀ (n j:Nat),(Z7o l i).Pins.length-j<n->Ck l by_ turn v v49 v93 i K0 K1 K2 n (j:Int)=true
 | 0,j,hn=>absurd hn (Nat.not_lt_zero _)
 | n+1,j,hn=>by
  have hcp:=HC (AE l).1
  unfold Ck
  by_cases hc:j<(Z7o l i).Pins.length
  ·rw [decide_eq_true (show (j:Int)<((Z7o l i).Pins.length:Int) by omega),cond_true]
   have ih:=Qp hv i v49 v93 K0 K1 K2 hK n (j+1) (by omega)
   rw [show ((j+1:Nat):Int)=(j:Int)+1 by omega] at ih
   rw [ih]
   unfold Z7u Z7t Z7s Z7r Z7q
   change (bif bif bif !((FAt (AE l).1 (AE l).2 (Z7p l i j)).2.2==(FAt (bT l v) (AE l).2 (Z7p l i j)).2.2) then true else !decide ((FAt (AE l).1 (AE l).2 (Z7p l i j)).2.1=(FAt (bT l v) (AE l).2 (Z7p l i j)).2.1) then true else bif (FAt (AE l).1 (AE l).2 (Z7p l i j)).2.2 then !(decide ((FAt (bT l v) (AE l).2 (Z7p l i j)).1.X=(BZ (mT by_ turn) (FAt (AE l).1 (AE l).2 (Z7p l i j)).1).X)&&(decide ((FAt (bT l v) (AE l).2 (Z7p l i j)).1.Y=(BZ (mT by_ turn) (FAt (AE l).1 (AE l).2 (Z7p l i j)).1).Y)&&true)) else false then false else true)=true
   rcases YV (B:=(AE l).1) (B2:=bT l v) (AE l).2 (TD (mT by_ turn)) hv hcp.lay (Z7p l i j) with ⟨c1,c2⟩ | ⟨a,c1,c2,_⟩
   ·rw [c1,c2]
    rfl
   rw [c1,c2,<- IJ,(Rv (mT by_ turn) (Bo (Z0q (AE l).1 (Z7p l i j))) rfl).pt a]
   have e:Bo (gT (mT by_ turn) (Z0q (AE l).1 (Z7p l i j)))=⟨BZ (mT by_ turn) (Bo (Z0q (AE l).1 (Z7p l i j))).At,W64 ((Bo (Z0q (AE l).1 (Z7p l i j))).Turn+(mT by_ turn).Turn),(Bo (Z0q (AE l).1 (Z7p l i j))).Mirror⟩:=rfl
   rw [e]
   simp
  rw [decide_eq_false (show ¬ (j:Int)<((Z7o l i).Pins.length:Int) by omega),cond_false]
  exact hK
theorem Qq (hv:v=(AE l).1.Parts.map (gT (mT by_ turn))) (v49 v93:Int) (K0:List AF->Int->Bool) (K1:Int->Bool):∀ (n i:Nat),(AE l).1.Nets.length-i<n->Cm l by_ turn v v49 v93 K0 K1 n (i:Int)=true
 | 0,i,hn=>absurd hn (Nat.not_lt_zero _)
 | n+1,i,hn=>by
  unfold Cm
  by_cases hc:i<(AE l).1.Nets.length
  ·rw [decide_eq_true (show (i:Int)<((AE l).1.Nets.length:Int) by omega),cond_true]
   have ih:=Qq hv v49 v93 K0 K1 n (i+1) (by omega)
   rw [show ((i+1:Nat):Int)=(i:Int)+1 by omega] at ih
   exact Qp hv (i:Int) v49 v93 K0 K1 _ ih _ 0 (by omega)
  rw [decide_eq_false (show ¬ (i:Int)<((AE l).1.Nets.length:Int) by omega),cond_false]
  exact aX
theorem Qr {q:List (List Int)} (h:GH (AE l).1 (AE l).2 q) (hv:v=(AE l).1.Parts.map (gT (mT by_ turn))) (v49:Int) (K0:List AF->Int->Bool):∀ (n j:Nat),(BC (AE l).1 (AE l).2).length-j<n->B1 l by_ turn v v49 K0 n (j:Int)=true
 | 0,j,hn=>absurd hn (Nat.not_lt_zero _)
 | n+1,j,hn=>by
  have hcp:=HC (AE l).1
  obtain ⟨hlen,hp⟩:=Q9 (B2:=bT l v) h (TD (mT by_ turn)) hv hcp.lay hcp.net
  unfold B1
  by_cases hc:j<(BC (AE l).1 (AE l).2).length
  ·rw [decide_eq_true (show (j:Int)<((BC (AE l).1 (AE l).2).length:Int) by omega),cond_true]
   have hb:((BC (AE l).1 (AE l).2).length:Int)<=20000000:=by rw [Ot];exact LH l
   have ew:(W64 ((j:Int)+1)).toNat=j+1:=by rw [Ao (by omega) (by omega)];omega
   have ih:=Qr h hv v49 K0 n (j+1) (by omega)
   rw [show ((j+1:Nat):Int)=(j:Int)+1 by omega] at ih
   rw [ih]
   obtain ⟨x,hx,ex,hs⟩:=hp j hc
   have hsh:((BC (AE l).1 (AE l).2).getD j default).Shape=Cn x.2.Shape (Bo x.1):=by rw [ex];rfl
   unfold Z7n Z7m Z7l Z7k
   change (bif !(Fe [A5.mk ((BC (AE l).1 (AE l).2).getD (Int.toNat (j:Int)) default).Id ((BC (AE l).1 (AE l).2).getD (Int.toNat (j:Int)) default).Pad ((BC (AE l).1 (AE l).2).getD (Int.toNat (j:Int)) default).Kind ((BC (AE l).1 (AE l).2).getD (Int.toNat (j:Int)) default).Net ((BC (AE l).1 (AE l).2).getD (Int.toNat (j:Int)) default).From ((BC (AE l).1 (AE l).2).getD (Int.toNat (j:Int)) default).To (Cn ((BC (AE l).1 (AE l).2).getD (Int.toNat (j:Int)) default).Shape (mT by_ turn))] (((BC (bT l v) (AE l).2).take (W64 ((j:Int)+1)).toNat).drop (Int.toNat (j:Int)))) then false else true)=true
   rw [Int.toNat_natCast,ew,hs (Cn ((BC (AE l).1 (AE l).2).getD j default).Shape (mT by_ turn)) (by rw [hsh,VL (Rv (mT by_ turn) (Bo x.1) rfl)];rfl),Qz]
   rfl
  rw [decide_eq_false (show ¬ (j:Int)<((BC (AE l).1 (AE l).2).length:Int) by omega),cond_false]
  exact Qq hv v49 (j:Int) K0 _ _ 0 (by omega)
theorem Qs {q:List (List Int)} (h:GH (AE l).1 (AE l).2 q):∀ (n j:Nat) (v:List AF),(AE l).1.Parts.length-j<n->j<=(AE l).1.Parts.length->v=((AE l).1.Parts.take j).map (gT (mT by_ turn))++(AE l).1.Parts.drop j->BW l by_ turn n v (j:Int)=true
 | 0,j,v,hn,_,_=>absurd hn (Nat.not_lt_zero _)
 | n+1,j,v,hn,hj,he=>by
  have hcp:=HC (AE l).1
  unfold BW
  rw [hcp.par]
  by_cases hc:j<(AE l).1.Parts.length
  ·rw [decide_eq_true (show (j:Int)<((AE l).1.Parts.length:Int) by omega),cond_true]
   refine Qs h n (j+1) _ (by omega) hc ?_
   have hvl:v.length=(AE l).1.Parts.length:=by rw [he];simp;omega
   have hget:v.getD j default=(AE l).1.Parts.getD j default:=by
    rw [he,List.getD_eq_getElem?_getD,List.getElem?_append_right (by simp;omega),List.getD_eq_getElem?_getD]
    simp only [List.length_map,List.length_take,List.getElem?_drop]
    rw [show j+(j-min j (AE l).1.Parts.length)=j by omega]
   have hset:∀ a c:AF,(v.set j a).set j c=v.set j c:=fun a c=>List.set_set _
   have hgs:∀ a:AF,(v.set j a).getD j default=a:=fun a=>by
    rw [List.getD_eq_getElem?_getD,List.getElem?_set_self (by omega)];rfl
   simp only [Int.toNat_natCast,hset,hgs,hget]
   unfold Z7j Z7i
   rw [Int.toNat_natCast,he]
   have hlt:((AE l).1.Parts.take j).length=j:=by rw [List.length_take];omega
   rw [List.set_append_right _ _ (by rw [List.length_map,hlt];exact Nat.le_refl _),List.length_map,hlt,Nat.sub_self,List.take_succ_eq_append_getElem hc,List.map_append,JG hc]
   simp only [List.set_cons_zero,List.append_assoc,List.map_cons,List.map_nil,List.cons_append,List.nil_append]
   have e:(AE l).1.Parts[j]=(AE l).1.Parts.getD j default:=by rw [List.getD_eq_getElem?_getD,List.getElem?_eq_getElem hc];rfl
   rw [e]
   rfl
  rw [decide_eq_false (show ¬ (j:Int)<((AE l).1.Parts.length:Int) by omega),cond_false]
  rw [List.drop_eq_nil_of_le (by omega),List.append_nil,List.take_of_length_le (by omega)] at he
  obtain ⟨hlen,_⟩:=Q9 (B2:=bT l v) h (TD (mT by_ turn)) he hcp.lay hcp.net
  have e4:Z7k l v=BC (bT l v) (AE l).2:=rfl
  rw [e4,hlen,decide_eq_true rfl]
  exact Qr h he (j:Int) _ _ 0 (by omega)
end
theorem Lc (l:List (List Int)) (by_:AD) (turn:Int):Db l by_ turn=true:=by
 obtain ⟨q,h⟩:=M6 l
 exact Qs h _ 0 _ (by rw [(HC (AE l).1).par];omega) (Nat.zero_le _) (by rw [(HC (AE l).1).par];rfl)
end
section
open Go.ChangeShapes Go.WideShapes Go.ChangeAt Go.RowKit
theorem Jh (os:Os) (started:os.Started) (H:Type) (enc:TypeId×Value->H) :
  ReturnsInHanded {} Try.checked os 5 .any (Rows.placeTurnsSpec.pre6 enc Try.prog Try.f5 Rows.placeTurnsRow.domain false) (Rows.placeTurnsSpec.post enc Try.prog Try.f5 false true false false):=by
 refine returnsInHanded_of_change (C:=Try.checked) own started kr Try.func5
  (ChangeSpec.witness6 (enc:=enc) (C:=Try.checked) false ⟨#[],#[.slice none 0 0,.agg #[.int .i64 0,.int .i64 0],.int .u8 0],[]⟩ 8 kr kr kr kr) ?_
 intro W base args ds gs before hval0 hW hcnd _
 have hval:∀ (j:Nat) t v,Try.f5.params[j]? = some t->args[j]? = some v->Value.okWide Try.prog W .any base t v:=hval0
 have hW':=hW
 obtain ⟨p,q,hA0,hV,rfl,hfz,hnd⟩:=hW
 have hA:DataW.TrodAll enc Try.prog W 0 (fun _=>true) true Try.f5.params.toList args.toList ds p:=hA0
 rw [Try.params5] at hA hval
 obtain ⟨v0,vs0,d0,ds0,p0,q0,hargs,rfl,rfl,h0,r0⟩:=trodAll_cons hA
 obtain ⟨v1,vs1,d1,ds1,p1,q1,rfl,rfl,rfl,h1,r1⟩:=trodAll_cons r0
 obtain ⟨v2,vs2,d2,ds2,p2,q2,rfl,rfl,rfl,h2,r2⟩:=trodAll_cons r1
 obtain ⟨rfl,rfl,rfl⟩:=trodAll_nil r2
 obtain rfl:args = #[v0,v1,v2]:=by cases args;simp_all
 obtain ⟨l,kl,x0⟩:=RH opT22 (.inl ⟨_,Try.underlying22⟩) (hval 0 22 v0 rfl rfl) h0
 obtain ⟨by_,kby_,x1⟩:=W6 opT52 (.inl ⟨_,Try.underlying52⟩) (hval 1 52 v1 rfl rfl) h1
 obtain ⟨turn,kturn,x2⟩:=RH (H5 Try.underlying5) (.inr (.inl ⟨_,Try.underlying5⟩)) (hval 2 5 v2 rfl rfl) h2
 clear hA0 hval0
 refine (Rb (RB l by_ turn (RU kl.1) (fun x hx=>RU (kl.2 x hx).1)) (Lc l by_ turn) (.cons x0 (.cons x1 (.cons x2 .nil)))).mono fun e W' ⟨he,hb⟩ => ?_
 subst he
 exact ⟨_,rfl,XZ hW' rfl rfl Zc (by rw [Try.params5];exact List.forall_mem_cons.2 ⟨⟨by kernel_rfl,oT (by kernel_rfl)⟩,List.forall_mem_cons.2 ⟨⟨by kernel_rfl,oT (by kernel_rfl)⟩,List.forall_mem_cons.2 ⟨⟨by kernel_rfl,oT (by kernel_rfl)⟩,List.forall_mem_nil _⟩⟩⟩) rfl Try.underlying4 hb⟩
theorem placeTurns_holds:Rows.PlaceTurnsSaid :=
 OpenClaim.holds_of_wide 5 Try.f5 rfl rfl rfl rfl rfl rfl rfl ⟨rfl,rfl,rfl,rfl,rfl⟩ rfl rfl rfl rfl rfl kr Try.func5 kr
  (oT (by kernel_rfl)) (by unfold Func.isWrapper;first | (rw [if_pos (by decide +kernel)];kernel_rfl) | (rw [if_neg (by decide +kernel)];exact ⟨rfl,rfl⟩))
  (fun os started H enc _=>Jh os started H enc)
#print axioms placeTurns_holds
end
end Go.Proofs.Ytdbampcfmjbgmaa
